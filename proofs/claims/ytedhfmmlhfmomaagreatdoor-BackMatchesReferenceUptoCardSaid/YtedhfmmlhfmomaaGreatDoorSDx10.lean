/- Texts of ours, part 10: contracts and facts for this claim. -/
import Derived.Test.YtedhfmmlhfmomaaGreatDoorB10
import Derived.Test.YtedhfmmlhfmomaaGreatDoorSDx09
set_option linter.unusedSimpArgs false
set_option linter.unusedVariables false
set_option maxRecDepth 100000
set_option maxHeartbeats 40000000
section
open Go Go.Proofs
namespace Go.Av
theorem zni (g : zae) (hg : GOk g) (p : zah) (hp : POk g p) (q : zah) (hq : zaU q) : zaL Tryz.prog 85 [.agg (zac g), .agg (zad p), .agg (zad q)] (.v (.bool (decide (q ∈ zaK g p)))) := by
 refine pF Tryz.func85 ?_
 have hM := zhY g hg p hp
 have hml := zhG hg hp
 have hmf := fun m hm => ((zdn hg hp) m hm).1.fits hg
 generalize zaK g p = l at *
 repeat first|refine wV fun _=>?_|simp [go_sem]
 refine zAs hM (by simp [go_sem]) ?_
 repeat first|refine wV fun _=>?_|simp [go_sem]
 refine zAr (zAv (α := Nat) (fun i => ⟨[(5, .ref 2 0 5 0 0), (7, zaN l), (8, .v (.int .i64 i))], [(2, .rows true 0 5 [zad q])], 3⟩)
  (fun d i => i + d = l.length ∧ ∀ j, j < i → nth l j ≠ q) ?_ l.length 0 ?_) ?_ ?_
 ·rintro d i ⟨i1, i2⟩ hrec
  repeat first|refine wV fun _=>?_|simp [go_sem]
  refine zAt (fun hi => ?_) (fun hi => ?_) <;> simp at hi
  ·have hS := zgj (nth l i) q (hmf _ (zaj hi)) hq
   have hmi := zaj hi
   rw [show decide (zbx (nth l i) q = 0) = decide (nth l i = q) by rw [decide_eq_decide]; exact za7.eq _ _] at hS
   repeat first|refine wV fun _=>?_|simp [go_sem, hi]
   refine zAu hS (by simp [go_sem]) ?_
   by_cases h : nth l i = q
   ·have e : decide (q ∈ l) = true := decide_eq_true (h ▸ hmi)
    rw [e]
    repeat first|refine wV fun _=>?_|simp [go_sem, h]
   ·repeat first|refine wV fun _=>?_|simp [go_sem, h]
    refine zAr (hrec (d - 1) (by omega) (i + 1) ⟨by omega, fun j hj => ?_⟩) ?_ (by simp)
    ·rcases Nat.lt_or_ge j i with h' | h'
     ·exact i2 j h'
     ·obtain rfl : j = i := by omega
      exact h
    ·simp [go_sem, zaf]
  ·have e : decide (q ∈ l) = false := decide_eq_false fun hm => by
    obtain ⟨j, hj, rfl⟩ := List.getElem_of_mem hm
    exact i2 j (by omega) (zaC _ _ hj)
   rw [e]
   repeat first|refine wV fun _=>?_|simp [go_sem]
 ·exact ⟨by simp, fun j hj => by omega⟩
 ·simp [go_sem, zaf]
 ·simp
theorem zh4 (p : zah) (ha : zaU p) : zgi Tryz.prog 94 [.agg (zad p)] (fun n => zv7 n p) (fun n => zqw n p) 9 := by
 refine ⟨zAw (by kernel_rfl) Tryz.func94 rfl rfl (Nat.le_of_ble_eq_true rfl) (by kernel_rfl) ?_, fun n => ⟨by simp [go_sem], by simp [go_sem]⟩⟩
 obtain ⟨a1, a2, a3⟩ := ha
 unfold ze5 at a1 a2 a3
 repeat first|refine wV fun _=>?_|simp [go_sem]
 simp [go_sem, zaf]
def zjY (n : Nat) (p : zah) : AV := .agg [.sl (n + 4) 1 1 0 p.at_.length, .sl (n + 5) 1 1 0 p.h0.length, .sl (n + 10) 1 1 0 p.h1.length, .v (.int .i64 p.rights), .v (.int .i64 p.side)]
def zgz (n : Nat) (p : zah) : List (Nat × zbq) := [(n + 4, .rows true 1 1 (p.at_.map zb5)), (n + 5, .rows true 1 1 (p.h0.map zb5)), (n + 10, .rows true 1 1 (p.h1.map zb5))]
theorem zrD (p : zah) (hf : zaU p) (c v : Int) (h0 : 0 ≤ c) (hc : c.toNat < p.at_.length) : zgi Tryz.prog 143 [.agg (zad p), .v (.int .i64 c), .v (.int .i64 v)] (fun n => zjY n { p with at_ := p.at_.set c.toNat v }) (fun n => zgz n { p with at_ := p.at_.set c.toNat v }) 11 := by
 refine ⟨?_, fun n => ⟨by simp [go_sem, zjY], by simp [go_sem, zgz]⟩⟩
 refine zAw (by kernel_rfl) Tryz.func143 rfl rfl (Nat.le_of_ble_eq_true rfl) (by kernel_rfl) ?_
 have hC := zh4 p hf
 repeat first|refine wV fun _=>?_|simp [go_sem]
 refine zAx hC (by simp [go_sem]) ?_
 repeat first|refine wV fun _=>?_|simp [go_sem, hc]
 simp [go_sem, zaf, zjY, zgz]
theorem ziT (p : zah) (hf : zaU p) (c v : Int) (h0 : 0 ≤ c) (hc : c.toNat < p.at_.length) : zaL Tryz.prog 143 [.agg (zad p), .v (.int .i64 c), .v (.int .i64 v)] (.agg (zad { p with at_ := p.at_.set c.toNat v })) := by
 refine pF Tryz.func143 ?_
 have hC := zh4 p hf
 repeat first|refine wV fun _=>?_|simp [go_sem]
 refine zAx hC (by simp [go_sem]) ?_
 repeat first|refine wV fun _=>?_|simp [go_sem, hc]
 (repeat' (first | (with_reducible apply And.intro) | ((refine LeV.frz rfl ?_ ?_ (zAB ?_)) <;> first | (simp [noH]; done) | (rw [List.drop_zero, List.take_of_length_le (by simp)]))))
theorem ztP (g : zae) (hg : GOk g) (p : zah) (hp : POk g p) (a : Int) (hx1 : 0 ≤ a) (hx2 : a.toNat < p.at_.length) : zaL Tryz.prog 248 [.agg (zac g), .agg (zad p), .v (.int .i64 a)] (zaN (tkI g p.side p a.toNat g.kinds.length)) := by
 refine pF Tryz.func248 ?_
 have hf := hp.fits hg
 have hal := hp.al
 have hk6 := hg.k6
 have hs := hp.s
 have hts := fun i => zyn g p.side p a.toNat i
 have htl := fun i => zAf g p.side p a.toNat i
 have ht0 : tkI g p.side p a.toNat 0 = [] := rfl
 have hCo := fun (k : Nat) => zc4 k (1 - p.side)
 have hP : ∀ v : Int, zgi Tryz.prog 143 [.agg (zad p), .v (.int .i64 a), .v (.int .i64 v)] (fun n => zjY n { p with at_ := p.at_.set a.toNat v }) (fun n => zgz n { p with at_ := p.at_.set a.toNat v }) 11 := fun v => zrD p hf a v hx1 hx2
 simp only [zjY, zgz] at hP
 have hegl : (zac g).length = 9 := rfl
 have hgb : ∀ n, (∀ c ∈ zac g, Bel n c) = True := fun n => by simp [go_sem]
 obtain ⟨R, hR⟩ : ∃ R, R = tkI g p.side p a.toNat g.kinds.length := ⟨_, rfl⟩
 rw [← hR]
 by_cases hz : nth p.at_ a.toNat = 0
 ·repeat first|refine wV fun _=>?_|simp [go_sem, hx1, hx2, hz]
  refine zAr (zAv (α := Nat) (fun k => ⟨[(2, .v (.int .i64 a)), (3, .ref 0 0 9 0 0), (4, .ref 1 0 5 0 0), (7, .sl 2 (tkI g p.side p a.toNat k).length 5 0 (tkI g p.side p a.toNat k).length), (8, .v (.int .i64 k))], [(0, .rows true 0 9 [zac g]), (1, .rows true 0 5 [zad p]), (2, .rows true (tkI g p.side p a.toNat k).length 5 ((tkI g p.side p a.toNat k).map zad))], 3⟩)
   (fun d k => k + d = g.kinds.length) ?_ g.kinds.length 0 ?_) ?_ ?_
  ·rintro d k k1 hrec
   have htlk := htl k
   repeat first|refine wV fun _=>?_|simp [go_sem]
   refine zAt (fun hk => ?_) (fun hk => ?_) <;> simp at hk
   ·have hts := hts k
    have hCo := hCo k
    have hP := hP (zaF k (1 - p.side))
    have hgk : nth (g.kinds.map zaS) k = zaS (nth g.kinds k) := zbl _ _ _ hk
    have hkh : k < (p.hand p.side).length := by have := (hp.hand p.side).len; omega
    have hv := (hp.hand p.side).v k hkh
    unfold tkL tkP at hts
    rw [hz] at hts
    have hlA : (p.at_.set a.toNat (zaF k (1 - p.side))).length = p.at_.length := by simp
    generalize zaF k (1 - p.side) = cd at *
    generalize p.at_.set a.toNat cd = A at *
    generalize tkI g p.side p a.toNat k = tk at *
    repeat first|refine wV fun _=>?_|simp [go_sem]
    refine zAu hCo (by simp [go_sem]) ?_
    repeat first|refine wV fun _=>?_|simp [go_sem]
    refine zAS 125 (by rfl) (hP) (by decide) (by simp [go_sem]) (by simp [go_sem]) (fun _ => zam.refl _ _ _ _) (by simp [go_sem]) (by simp [go_sem]) ?_
    ((repeat (first|with_reducible (first|refine wL fun _=>?_|refine wD fun _=>?_|refine wZ ?_)|simp [go_sem])); refine zAU (by kernel_rfl) ?_)
    repeat first|refine wV fun _=>?_|simp [go_sem, hk, hgk]
    refine zAt (fun hkp => ?_) (fun hkp => ?_)
    ·rw [if_pos hkp] at hts
     rcases hs with hs | hs
     ·have hqh : p.hand p.side = p.h0 := by rw [hs]; rfl
      rw [hqh] at hts hkh hv
      have hkh2 : k < (p.h0.set k (nth p.h0 k - 1)).length := by simpa using hkh
      have hQ : (⟨A, p.h0, p.h1, p.rights, p.side⟩ : zah).withHand p.side (p.h0.set k (nth p.h0 k - 1)) = ⟨A, p.h0.set k (nth p.h0 k - 1), p.h1, p.rights, p.side⟩ := by rw [hs]; rfl
      rw [hQ] at hts
      have hQh : (⟨A, p.h0.set k (nth p.h0 k - 1), p.h1, p.rights, p.side⟩ : zah).hand p.side = p.h0.set k (nth p.h0 k - 1) := by rw [hs]; rfl
      have hns : nth (p.h0.set k (nth p.h0 k - 1)) k = nth p.h0 k - 1 := by rw [zcs, if_pos ⟨rfl, hkh⟩]
      rw [hQh, hns] at hts
      repeat first|refine wV fun _=>?_|simp [go_sem, hs, hkh]
      refine zAt (fun hz1 => ?_) (fun hz1 => ?_) <;> simp at hz1
      ·rw [if_pos ⟨rfl, by omega⟩] at hts
       repeat first|refine wV fun _=>?_|simp [go_sem, hs, hkh]
       refine zAr (hrec (d - 1) (by omega) (k + 1) (by omega)) ?_ (by simp)
       rw [hs] at hts
       simp [go_sem, zaf, hts, hs, hgb]
       (first|done|exact rwX)
      ·rw [if_neg (fun h => by have := h.2; omega), List.append_nil] at hts
       repeat first|refine wV fun _=>?_|simp [go_sem, hs, hkh]
       refine zAr (hrec (d - 1) (by omega) (k + 1) (by omega)) ?_ (by simp)
       rw [hs] at hts
       simp [go_sem, zaf, hts, hs, hgb]
     ·have hqh : p.hand p.side = p.h1 := by rw [hs]; rfl
      rw [hqh] at hts hkh hv
      have hkh2 : k < (p.h1.set k (nth p.h1 k - 1)).length := by simpa using hkh
      have hQ : (⟨A, p.h0, p.h1, p.rights, p.side⟩ : zah).withHand p.side (p.h1.set k (nth p.h1 k - 1)) = ⟨A, p.h0, p.h1.set k (nth p.h1 k - 1), p.rights, p.side⟩ := by rw [hs]; rfl
      rw [hQ] at hts
      have hQh : (⟨A, p.h0, p.h1.set k (nth p.h1 k - 1), p.rights, p.side⟩ : zah).hand p.side = p.h1.set k (nth p.h1 k - 1) := by rw [hs]; rfl
      have hns : nth (p.h1.set k (nth p.h1 k - 1)) k = nth p.h1 k - 1 := by rw [zcs, if_pos ⟨rfl, hkh⟩]
      rw [hQh, hns] at hts
      repeat first|refine wV fun _=>?_|simp [go_sem, hs, hkh]
      refine zAt (fun hz1 => ?_) (fun hz1 => ?_) <;> simp at hz1
      ·rw [if_pos ⟨rfl, by omega⟩] at hts
       repeat first|refine wV fun _=>?_|simp [go_sem, hs, hkh]
       refine zAr (hrec (d - 1) (by omega) (k + 1) (by omega)) ?_ (by simp)
       rw [hs] at hts
       simp [go_sem, zaf, hts, hs, hgb]
       (first|done|exact rwX)
      ·rw [if_neg (fun h => by have := h.2; omega), List.append_nil] at hts
       repeat first|refine wV fun _=>?_|simp [go_sem, hs, hkh]
       refine zAr (hrec (d - 1) (by omega) (k + 1) (by omega)) ?_ (by simp)
       rw [hs] at hts
       simp [go_sem, zaf, hts, hs, hgb]
    ·rw [if_neg (show ¬ (nth g.kinds k).keep = true by simp [hkp])] at hts
     rcases hs with hs | hs
     ·have hqh : p.hand p.side = p.h0 := by rw [hs]; rfl
      rw [hqh] at hkh hv
      have hQh : (⟨A, p.h0, p.h1, p.rights, p.side⟩ : zah).hand p.side = p.h0 := by rw [hs]; rfl
      rw [hQh] at hts
      repeat first|refine wV fun _=>?_|simp [go_sem, hs, hkh]
      refine zAt (fun hz1 => ?_) (fun hz1 => ?_) <;> simp at hz1
      ·rw [if_pos ⟨rfl, by omega⟩] at hts
       repeat first|refine wV fun _=>?_|simp [go_sem, hs, hkh]
       refine zAr (hrec (d - 1) (by omega) (k + 1) (by omega)) ?_ (by simp)
       rw [hs] at hts
       simp [go_sem, zaf, hts, hs, hgb]
       (first|done|exact rwX)
      ·rw [if_neg (fun h => by have := h.2; omega), List.append_nil] at hts
       repeat first|refine wV fun _=>?_|simp [go_sem, hs, hkh]
       refine zAr (hrec (d - 1) (by omega) (k + 1) (by omega)) ?_ (by simp)
       rw [hs] at hts
       simp [go_sem, zaf, hts, hs, hgb]
     ·have hqh : p.hand p.side = p.h1 := by rw [hs]; rfl
      rw [hqh] at hkh hv
      have hQh : (⟨A, p.h0, p.h1, p.rights, p.side⟩ : zah).hand p.side = p.h1 := by rw [hs]; rfl
      rw [hQh] at hts
      repeat first|refine wV fun _=>?_|simp [go_sem, hs, hkh]
      refine zAt (fun hz1 => ?_) (fun hz1 => ?_) <;> simp at hz1
      ·rw [if_pos ⟨rfl, by omega⟩] at hts
       repeat first|refine wV fun _=>?_|simp [go_sem, hs, hkh]
       refine zAr (hrec (d - 1) (by omega) (k + 1) (by omega)) ?_ (by simp)
       rw [hs] at hts
       simp [go_sem, zaf, hts, hs, hgb]
       (first|done|exact rwX)
      ·rw [if_neg (fun h => by have := h.2; omega), List.append_nil] at hts
       repeat first|refine wV fun _=>?_|simp [go_sem, hs, hkh]
       refine zAr (hrec (d - 1) (by omega) (k + 1) (by omega)) ?_ (by simp)
       rw [hs] at hts
       simp [go_sem, zaf, hts, hs, hgb]
   ·obtain rfl : k = g.kinds.length := by omega
    rw [hR]
    generalize tkI g p.side p a.toNat g.kinds.length = tk at *
    repeat first|refine wV fun _=>?_|simp [go_sem]
    exact frX
  ·omega
  ·simp [go_sem, zaf, ht0, hgb]
  ·simp
 ·have hzz : tkI g p.side p a.toNat g.kinds.length = [] := by
   unfold tkI
   rw [List.flatMap_eq_nil_iff]
   exact fun k _ => zAg hz k
  rw [hR, hzz]
  repeat first|refine wV fun _=>?_|simp [go_sem, hx1, hx2, hz]
  exact frX
theorem zqO (g : zae) (hg : GOk g) (p : zah) (hp : POk g p) (x : zcq) (hx : zdO g.cells g.kinds.length g.rights x) : zaL Tryz.prog 199 [.agg (zac g), .agg (zad p), .agg (zaQ x)] (zaN (zde g p.side p x)) := by
 refine pF Tryz.func199 ?_
 obtain ⟨op, a, b⟩ := x
 unfold zdO at hx
 simp only at hx
 have hf := hp.fits hg
 have hal := hp.al
 have hgb : ∀ n, (∀ c ∈ zac g, Bel n c) = True := fun n => by simp [go_sem]
 have hgl : (zac g).length = 9 := rfl
 by_cases h6 : op = 6
 ·subst h6
  obtain ⟨hx1, hx2⟩ : 0 ≤ a ∧ a.toNat < p.at_.length := by omega
  have hT := ztP g hg p hp a hx1 hx2
  have e : zde g p.side p (6, a, b) = tkI g p.side p a.toNat g.kinds.length := zfX rfl
  rw [e]
  repeat first|refine wV fun _=>?_|simp [go_sem]
  refine zAs hT (by simp [go_sem]) ?_
  repeat first|refine wV fun _=>?_|simp [go_sem]
 unfold zde
 rw [if_neg h6]
 by_cases h7 : op = 7
 ·subst h7
  obtain ⟨hx1, hx2, hx3, hx4⟩ : 0 ≤ a ∧ a.toNat < p.at_.length ∧ 0 ≤ b ∧ b.toNat < p.at_.length := by omega
  rw [if_pos rfl]
  have hW1 := ziT p hf a (nth p.at_ b.toNat) hx1 hx2
  have hW2 := ziT { p with at_ := p.at_.set a.toNat (nth p.at_ b.toNat) } ⟨by simpa [ze5] using hf.1, hf.2⟩ b 0 hx3 (by simpa using hx4)
  simp only at hW2 ⊢
  obtain ⟨A, hA⟩ : ∃ A, A = p.at_.set a.toNat (nth p.at_ b.toNat) := ⟨_, rfl⟩
  rw [← hA] at hW1 hW2 ⊢
  obtain ⟨B, hB⟩ : ∃ B, B = A.set b.toNat 0 := ⟨_, rfl⟩
  rw [← hB] at hW2 ⊢
  by_cases hz : nth p.at_ b.toNat ≠ 0 ∧ nth p.at_ a.toNat = 0
  ·rw [if_pos hz]
   obtain ⟨z1, z2⟩ := hz
   have z3 : ¬ nth p.at_ b.toNat = 0 := z1
   repeat first|refine wV fun _=>?_|simp [go_sem, hx2, hx4, z3, z2]
   refine zAu hW1 (by simp [go_sem]) ?_
   repeat first|refine wV fun _=>?_|simp [go_sem, hx2, hx4, z3, z2]
   refine zAu hW2 (by simp [go_sem]) ?_
   repeat first|refine wV fun _=>?_|simp [go_sem]
   exact frX
  ·rw [if_neg hz]
   have z4 : nth p.at_ b.toNat = 0 ∨ ¬ nth p.at_ a.toNat = 0 := by
    by_cases h : nth p.at_ b.toNat = 0
    ·exact .inl h
    ·exact .inr fun h2 => hz ⟨h, h2⟩
   rcases z4 with z4 | z4
   ·repeat first|refine wV fun _=>?_|simp [go_sem, hx2, hx4, z4]
   ·repeat first|refine wV fun _=>?_|simp [go_sem, hx2, hx4, z4]
 rw [if_neg h7]
 by_cases h10 : op = 10
 ·subst h10
  rw [if_pos rfl]
  have hr4 := hg.r4
  have hx1 : 0 ≤ a ∧ a < 4 := by omega
  have hpw : (1 : Int) ≤ 2 ^ a.toNat ∧ (2 : Int) ^ a.toNat ≤ 8 := by
   rcases (show a.toNat = 0 ∨ a.toNat = 1 ∨ a.toNat = 2 ∨ a.toNat = 3 by omega) with h | h | h | h <;> rw [h] <;> decide
  have hlb := zvK hp.r0 (zoO hg hp) (n := a.toNat) (by omega)
  rw [hlb]
  generalize hgp : (2 : Int) ^ a.toNat = pw at *
  have ha0 : 0 ≤ a := hx1.1
  have ha1 : a ≤ 64 := by omega
  by_cases hz : zit .i64 (p.rights.fdiv pw) 1 = 1
  ·rw [if_neg (by simpa using hz)]
   repeat first|refine wV fun _=>?_|simp [go_sem, hz, hgp]
  ·rw [if_pos (by simpa using hz)]
   repeat first|refine wV fun _=>?_|simp [go_sem, hz, hgp]
   exact frX
 ·rw [if_neg h10]
  repeat first|refine wV fun _=>?_|simp [go_sem, h6, h7, h10]
  exact frX
theorem zup (g : zae) (hg : GOk g) (p : zah) (hp : POk g p) (acts : List zcq) (hacts : ∀ a ∈ acts, zdO g.cells g.kinds.length g.rights a) (h6 : za4 acts 6 ≤ 2) (h10 : za4 acts 10 ≤ 8) (hal : acts.length ≤ 1048576) :
  zaL Tryz.prog 144 [.agg (zac g), .agg (zad p), zbj acts] (zaN (zcx g p.side p acts.reverse)) := by
 refine pF Tryz.func144 ?_
 rw [← zx0]
 have hl0 := zvQ g p.side p acts
 have hls := fun j hj => zvP (g := g) (side := p.side) (p := p) (acts := acts) (j := j) hj
 have hlo := fun j => zzX hg hp.s hp hacts j
 have hll := fun j => zx1 hg p.side p h6 h10 j
 have hU := fun q (hq : POk g q) x hx => zqO g hg q hq x hx
 have hgb : ∀ n, (∀ c ∈ zac g, Bel n c) = True := fun n => by simp [go_sem]
 have hgl : (zac g).length = 9 := rfl
 have hps := hp.s
 have hgn := fun (i : Nat) (hi : i < acts.length) => zbl zaQ acts i hi
 have hmn := fun (i : Nat) (hi : i < acts.length) => hacts _ (zaj hi)
 have hAl : (acts.map zaQ).length = acts.length := by simp
 have hAb : ∀ n, (∀ r ∈ acts.map zaQ, ∀ c ∈ r, Bel n c) = True := fun n => by simp [go_sem]
 generalize zxZ g p.side p acts = lv at *
 obtain ⟨R, hR⟩ : ∃ R, R = lv acts.length := ⟨_, rfl⟩
 rw [← hR]
 obtain ⟨L, hL⟩ : ∃ L, L = acts.length := ⟨_, rfl⟩
 rw [← hL] at hls hgn hmn hAl hal hR
 unfold zbj
 generalize acts.map zaQ = AM at *
 repeat first|refine wV fun _=>?_|simp [go_sem, hAl]
 refine zAr (zAv (α := Nat) (fun j => ⟨[(2, .lst 3 AM), (3, .ref 0 0 9 0 0), (7, zaN (lv j)), (8, .v (.int .i64 ((L : Int) - 1 - j)))], [(0, .rows true 0 9 [zac g])], 1⟩)
  (fun d j => j + d = L) ?_ L 0 ?_) ?_ ?_
 ·rintro d j j1 hrec
  repeat first|refine wV fun _=>?_|simp [go_sem, hAl]
  refine zAt (fun hj => ?_) (fun hj => ?_) <;> simp at hj
  ·have hls := hls j (by omega)
   have hlo := hlo j
   have hlj := hll j
   have hxi := hmn (L - 1 - j) (by omega)
   have hgi := hgn (L - 1 - j) (by omega)
   have hI0 := zvO g p.side (lv j) (nth acts (L - 1 - j))
   have hIs := fun i h => zvN (g := g) (side := p.side) (l := lv j) (x := nth acts (L - 1 - j)) (i := i) h
   have hIa := zxX g p.side (lv j) (nth acts (L - 1 - j))
   have hIl := fun i => zxY hg p.side (lv j) (nth acts (L - 1 - j)) i
   have hIe : lv (j + 1) = zwH g p.side (lv j) (nth acts (L - 1 - j)) (lv j).length := by rw [hls, hIa]
   have hix : ((L : Int) - 1 - j).toNat = L - 1 - j := by omega
   generalize nth acts (L - 1 - j) = x at *
   generalize zwH g p.side (lv j) x = lI at *
   repeat first|refine wV fun _=>?_|simp [go_sem, hAl]
   refine zAr (zAv (α := Nat) (fun i => ⟨[(2, .lst 3 AM), (3, .ref 0 0 9 0 0), (7, zaN (lv j)), (8, .v (.int .i64 ((L : Int) - 1 - j))), (9, .sl 1 i 5 0 (lI i).length), (10, .v (.int .i64 i))], [(0, .rows true 0 9 [zac g]), (1, .rows true i 5 ((lI i).map zad))], 2⟩)
    (fun d i => i + d = (lv j).length) ?_ (lv j).length 0 ?_) ?_ ?_
   ·rintro d2 i i1 hrec2
    have hIli := hIl i
    repeat first|refine wV fun _=>?_|simp [go_sem, hAl]
    refine zAt (fun hi => ?_) (fun hi => ?_) <;> simp at hi
    ·obtain ⟨hq, hqs⟩ := hlo _ (zaj hi)
     have hUq := hU _ hq x hxi
     rw [hqs] at hUq
     have hIs := hIs i hi
     have hgq := zbl zad (lv j) i hi
     generalize nth (lv j) i = q at *
     have hul := zko hg p.side q x
     have hul6 : (zde g p.side q x).length ≤ 6 := by revert hul; (repeat' split) <;> omega
     generalize zde g p.side q x = u at *
     have hLt : L - 1 - j < L := by omega
     repeat first|refine wV fun _=>?_|simp [go_sem, hAl, hi, hgq, hix, hgi, hLt]
     refine zAu hUq (by simp [go_sem, hgb]) ?_
     repeat first|refine wV fun _=>?_|simp [go_sem]
     refine zAr (hrec2 (d2 - 1) (by omega) (i + 1) (by omega)) ?_ (by simp)
     simp [go_sem, zaf, hIs, hAb]
    ·obtain rfl : i = (lv j).length := by omega
     rw [← hIe]
     generalize (lv j).length = jl at *
     repeat first|refine wV fun _=>?_|simp [go_sem]
     refine zAr (hrec (d - 1) (by omega) (j + 1) (by omega)) ?_ (by simp)
     have hje : (L : Int) - 1 - j - 1 = (L : Int) - 1 - (j + 1) := by omega
     simp [go_sem, zaf, hAb, hje]
     exact frX
   ·omega
   ·simp [go_sem, zaf, hI0, hAb]
   ·simp
  ·obtain rfl : j = L := by omega
   rw [hR]
   repeat first|refine wV fun _=>?_|simp [go_sem]
 ·omega
 ·simp [go_sem, zaf, hl0, hAb]
  exact frX
 ·simp
end Go.Av
end
