/- Texts of ours, part 11: our library and contracts of functions. -/
import Derived.Test.YtedhfmmlhfmomaaGreatDoorB10
set_option linter.unusedSimpArgs false
set_option linter.unusedVariables false
set_option maxRecDepth 100000
set_option maxHeartbeats 40000000
section
open Go Go.Proofs
namespace Go.Av
def zcu (q : zah) : List AV := [.agg (zad q)]
theorem zxl {n : Nat} {L : List zah} : (∀ r ∈ L.map zcu, ∀ c ∈ r, Bel n c) = True := by
 refine eq_true ?_
 intro r hr c hc
 obtain ⟨x, _, rfl⟩ := List.mem_map.1 hr
 simp only [zcu, List.mem_cons, List.not_mem_nil, or_false] at hc
 subst hc
 simp [go_sem]
attribute [go_sem ↓] zxl
theorem zuL {n l more : Nat} {L : List zah} : Bel n (zba l more (L.map zcu)) := by
 simp only [zba, zqS, zlY, List.forall_mem_cons, zwJ, zcc]
 simp [go_sem]
theorem zey (p : zah) (hf : zaU p) (c v : Int) (h0 : 0 ≤ c) (hc : c.toNat < p.at_.length) : zaL Tryz.prog 203 [.agg (zad p), .v (.int .i64 c), .v (.int .i64 v)] (.agg (zad { p with at_ := p.at_.set c.toNat v })) := by
 refine pF Tryz.func203 ?_
 have hC := zdx p.at_ hf.1
 repeat first|refine wV fun _=>?_|simp [go_sem]
 refine zAx hC (by simp [go_sem]) ?_
 repeat first|refine wV fun _=>?_|simp [go_sem, hc]
 exact frX
theorem zlg (p : zah) (hf : zaU p) (s k by_ : Int) (hs : s = 0 ∨ s = 1) (h0 : 0 ≤ k) (hk : k.toNat < (p.hand s).length) (hb : -1000 ≤ nth (p.hand s) k.toNat + by_ ∧ nth (p.hand s) k.toNat + by_ ≤ 1000) : zaL Tryz.prog 205 [.agg (zad p), .v (.int .i64 s), .v (.int .i64 k), .v (.int .i64 by_)] (.agg (zad (p.withHand s ((p.hand s).set k.toNat (nth (p.hand s) k.toNat + by_))))) := by
 refine pF Tryz.func205 ?_
 rcases hs with rfl | rfl
 ·have hC := zdx p.h0 hf.2.1
  rw [show p.hand 0 = p.h0 from rfl] at hk hb ⊢
  repeat first|refine wV fun _=>?_|simp [go_sem]
  refine zAx hC (by simp [go_sem]) ?_
  simp only [zah.withHand]
  repeat first|refine wV fun _=>?_|simp [go_sem, hk]
  (repeat' (first | (with_reducible apply And.intro) | ((refine LeV.frz rfl ?_ ?_ (zAB ?_)) <;> first | (simp [noH]; done) | (rw [List.drop_zero, List.take_of_length_le (by simp)]))))
 ·have hC := zdx p.h1 hf.2.2
  rw [show p.hand 1 = p.h1 from rfl] at hk hb ⊢
  repeat first|refine wV fun _=>?_|simp [go_sem]
  refine zAx hC (by simp [go_sem]) ?_
  simp only [zah.withHand]
  repeat first|refine wV fun _=>?_|simp [go_sem, hk]
  (repeat' (first | (with_reducible apply And.intro) | ((refine LeV.frz rfl ?_ ?_ (zAB ?_)) <;> first | (simp [noH]; done) | (rw [List.drop_zero, List.take_of_length_le (by simp)]))))
def zwu (n : Nat) : AV := .fn (.func 295) [] [.ref (n + 2) 0 3 0 0, .ref n 0 9 0 0, .ref (n + 1) 0 5 0 0]
def zwv (g : zae) (p : zah) (x : zcq) (n : Nat) : List (Nat × zbq) := [(n, .rows true 0 9 [zac g]), (n + 1, .rows true 0 5 [zad p]), (n + 2, .rows true 0 3 [zaQ x])]
theorem zww (g : zae) (p : zah) (x : zcq) : zgi Tryz.prog 251 [.agg (zac g), .agg (zad p), .agg (zaQ x)] zwu (zwv g p x) 3 := by
 refine ⟨?_, fun n => ⟨by simp [go_sem, zwu], by simp [go_sem, zwv]⟩⟩
 refine zAw (by kernel_rfl) Tryz.func251 rfl rfl (Nat.le_of_ble_eq_true rfl) (by kernel_rfl) ?_
 repeat first|refine wV fun _=>?_|simp [go_sem, zwu, zwv]
 simp [go_sem, zaf]
theorem zwx (g : zae) (hg : GOk g) (p : zah) (hp : POk g p) (x : zcq) (hx : zdO g.cells g.kinds.length g.rights x) :
  zo7 Tryz.prog 295 [.fp (zaQ x), .fp (zac g), .ref 0 0 5 0 0] [(0, .rows true 0 5 [zad p])] 1 0 ((zde g p.side p x).map zcu) := by
 refine zA0 (by kernel_rfl) Tryz.func295 rfl rfl (Nat.le_of_ble_eq_true rfl) (by kernel_rfl) (fun l => ?_) (hm2 := by decide)
 obtain ⟨op, a, b⟩ := x
 unfold zdO at hx
 simp only at hx
 have hf := hp.fits hg
 have hal := hp.al
 have hk6 := hg.k6
 have hs := hp.s
 have hgh : ∀ (n : Nat) (L : List zah), Bel n (zba l 0 (L.map zcu)) = True := fun n (L : List zah) => eq_true zuL
 have hegl : (zac g).length = 9 := rfl
 have hegk : cel (zac g) 3 = .lst 3 (g.kinds.map zaS) := rfl
 have hegb : ∀ n, (∀ c ∈ zac g, Bel n c) = True := fun n => by simp [go_sem]
 by_cases h6 : op = 6
 ·subst h6
  obtain ⟨hx1, hx2⟩ : 0 ≤ a ∧ a.toNat < p.at_.length := by omega
  rw [zfX rfl]
  have hz : (List.range g.kinds.length).flatMap (tkL g p.side p a.toNat) = tkF g p.side p a.toNat 0 := rfl
  have hts := fun i (hi : i < g.kinds.length) => zym (g := g) p.side p a.toNat hi
  have hte := zAe g p.side p a.toNat
  have hCo := fun (k : Nat) => zdz k (1 - p.side)
  have hW := fun (k : Nat) => zey p hf a (zaF k (1 - p.side)) hx1 hx2
  have hCt := fun (k : Nat) (hk : k < g.kinds.length) => zlg { p with at_ := p.at_.set a.toNat (zaF k (1 - p.side)) } ⟨by simpa [ze5] using hf.1, hf.2⟩ p.side k (-1) hs (by omega) (by have := (hp.hand p.side).len; simpa [zah.hand] using (show k < (p.hand p.side).length by omega))
  simp only at hz ⊢
  rw [hz]
  repeat first|refine wV fun _=>?_|simp [go_sem, GH, hegl]
  refine zAr (zAv (α := Nat) (fun k => ⟨[(0, .fn (.yield l) [] []), (1, .fp (zaQ (6, a, b))), (2, .fp (zac g)), (3, .ref 0 0 5 0 0), (17, .v (.int .i64 g.kinds.length)), (18, .v (.int .i64 k)), (1000000007, zba l 0 ((tkF g p.side p a.toNat k).map zcu))], [(0, .rows true 0 5 [zad p])], 1⟩)
   (fun d k => k + d = g.kinds.length) ?_ g.kinds.length 0 ?_) ?_ ?_
  ·rintro d k k1 hrec
   repeat first|refine wV fun _=>?_|simp [go_sem, GH, hegl]
   refine zAt (fun hk => ?_) (fun hk => ?_) <;> simp at hk
   ·have hts := hts k hk
    have hCo := hCo k
    have hW := hW k
    have hkh : k < (p.hand p.side).length := by have := (hp.hand p.side).len; omega
    have hv := (hp.hand p.side).v k hkh
    have hCt := hCt k hk (by
     show -1000 ≤ nth (p.hand p.side) ((k : Int)).toNat + -1 ∧ nth (p.hand p.side) ((k : Int)).toNat + -1 ≤ 1000
     rw [Int.toNat_natCast]; omega)
    unfold tkL tkP at hts
    generalize hcd : zaF k (1 - p.side) = cd at *
    try simp only at hts
    try simp only at hW
    try simp only at hCt
    generalize hA : p.at_.set a.toNat cd = A at *
    repeat first|refine wV fun _=>?_|simp [go_sem, GH, hegl]
    refine zAu hCo (by simp [go_sem]) ?_
    repeat first|refine wV fun _=>?_|simp [go_sem, GH, hegl]
    refine zAu hW (by simp [go_sem]) ?_
    repeat first|refine wV fun _=>?_|simp [go_sem, GH, hegl]
    have hgk : nth (g.kinds.map zaS) k = zaS (nth g.kinds k) := zbl _ _ _ hk
    have hax : 0 ≤ a := hx1
    repeat first|refine wV fun _=>?_|simp [go_sem, GH, hegl, hk, hgk]
    refine zAt (fun hkp => ?_) (fun hkp => ?_)
    ·rw [if_pos hkp] at hts
     simp only [Int.toNat_natCast] at hCt
     obtain ⟨Q, hQ⟩ : ∃ Q, Q = (⟨A, p.h0, p.h1, p.rights, p.side⟩ : zah).withHand p.side ((p.hand p.side).set k (nth (p.hand p.side) k - 1)) := ⟨_, rfl⟩
     rw [← hQ] at hts
     replace hCt : zaL Tryz.prog 205 [.agg (zad ⟨A, p.h0, p.h1, p.rights, p.side⟩), .v (.int .i64 p.side), .v (.int .i64 k), .v (.int .i64 (-1))] (.agg (zad Q)) := by rw [hQ]; exact hCt
     repeat first|refine wV fun _=>?_|simp [go_sem, GH, hegl]
     refine zAs hCt (by simp [go_sem]) ?_
     rcases hs with hs | hs
     ·have hqh : Q.hand p.side = Q.h0 := by rw [hs]; rfl
      have hql : k < Q.h0.length := by rw [← hqh, hQ, zg1, List.length_set]; exact hkh
      rw [hqh] at hts
      by_cases hz0 : nth p.at_ a.toNat = 0
      ·by_cases hz1 : 0 ≤ nth Q.h0 k
       ·rw [if_pos ⟨hz0, hz1⟩] at hts
        rw [hts]
        repeat first|refine wV fun _=>?_|simp [go_sem, GH, hegl, hs, hx2, hz0, hz1, hql]
        refine aGC.yld (more := 0) (xs := zcu Q) (rs := (tkF g p.side p a.toNat (k + 1)).map zcu) _ (by simp [upd, GH, hs]) (.refl _) (.refl _ _ _ _) (by simp [go_sem, zcu]) ?_ ?_
        ·repeat first|refine wV fun _=>?_|simp [go_sem, GH, hegl]
         refine zAr (hrec (d - 1) (by omega) (k + 1) (by omega)) ?_ (by simp)
         simp [go_sem, zaf, GH, hgh, hs]
        ·repeat first|refine wV fun _=>?_|simp [go_sem, GH, hegl]
       ·rw [if_neg (fun h => hz1 h.2), List.nil_append] at hts
        rw [hts]
        have hz2 : nth Q.h0 k < 0 := by omega
        repeat first|refine wV fun _=>?_|simp [go_sem, GH, hegl, hs, hx2, hz0, hz1, hql, hz2]
        refine aGC.skip (.v (.bool true)) ?_
        repeat first|refine wV fun _=>?_|simp [go_sem, GH, hegl]
        refine zAr (hrec (d - 1) (by omega) (k + 1) (by omega)) ?_ (by simp)
        simp [go_sem, zaf, GH, hgh, hs]
      ·rw [if_neg (fun h => hz0 h.1), List.nil_append] at hts
       rw [hts]
       repeat first|refine wV fun _=>?_|simp [go_sem, GH, hegl, hs, hx2, hz0, hql]
       refine aGC.skip (.v (.bool true)) ?_
       repeat first|refine wV fun _=>?_|simp [go_sem, GH, hegl]
       refine zAr (hrec (d - 1) (by omega) (k + 1) (by omega)) ?_ (by simp)
       simp [go_sem, zaf, GH, hgh, hs]
     ·have hqh : Q.hand p.side = Q.h1 := by rw [hs]; rfl
      have hql : k < Q.h1.length := by rw [← hqh, hQ, zg1, List.length_set]; exact hkh
      rw [hqh] at hts
      by_cases hz0 : nth p.at_ a.toNat = 0
      ·by_cases hz1 : 0 ≤ nth Q.h1 k
       ·rw [if_pos ⟨hz0, hz1⟩] at hts
        rw [hts]
        repeat first|refine wV fun _=>?_|simp [go_sem, GH, hegl, hs, hx2, hz0, hz1, hql]
        refine aGC.yld (more := 0) (xs := zcu Q) (rs := (tkF g p.side p a.toNat (k + 1)).map zcu) _ (by simp [upd, GH, hs]) (.refl _) (.refl _ _ _ _) (by simp [go_sem, zcu]) ?_ ?_
        ·repeat first|refine wV fun _=>?_|simp [go_sem, GH, hegl]
         refine zAr (hrec (d - 1) (by omega) (k + 1) (by omega)) ?_ (by simp)
         simp [go_sem, zaf, GH, hgh, hs]
        ·repeat first|refine wV fun _=>?_|simp [go_sem, GH, hegl]
       ·rw [if_neg (fun h => hz1 h.2), List.nil_append] at hts
        rw [hts]
        have hz2 : nth Q.h1 k < 0 := by omega
        repeat first|refine wV fun _=>?_|simp [go_sem, GH, hegl, hs, hx2, hz0, hz1, hql, hz2]
        refine aGC.skip (.v (.bool true)) ?_
        repeat first|refine wV fun _=>?_|simp [go_sem, GH, hegl]
        refine zAr (hrec (d - 1) (by omega) (k + 1) (by omega)) ?_ (by simp)
        simp [go_sem, zaf, GH, hgh, hs]
      ·rw [if_neg (fun h => hz0 h.1), List.nil_append] at hts
       rw [hts]
       repeat first|refine wV fun _=>?_|simp [go_sem, GH, hegl, hs, hx2, hz0, hql]
       refine aGC.skip (.v (.bool true)) ?_
       repeat first|refine wV fun _=>?_|simp [go_sem, GH, hegl]
       refine zAr (hrec (d - 1) (by omega) (k + 1) (by omega)) ?_ (by simp)
       simp [go_sem, zaf, GH, hgh, hs]
    ·rw [if_neg (show ¬ (nth g.kinds k).keep = true by simp [hkp])] at hts
     obtain ⟨Q, hQ⟩ : ∃ Q : zah, Q = ⟨A, p.h0, p.h1, p.rights, p.side⟩ := ⟨_, rfl⟩
     have hq0 : p.h0 = Q.h0 := by rw [hQ]
     have hq1 : p.h1 = Q.h1 := by rw [hQ]
     have hqx : AV.agg [.lst 1 (A.map zb5), .lst 1 (p.h0.map zb5), .lst 1 (p.h1.map zb5), .v (.int .i64 p.rights), .v (.int .i64 p.side)] = .agg (zad Q) := by rw [hQ]; rfl
     rw [← hQ] at hts
     rcases hs with hs | hs
     ·have hqh : Q.hand p.side = Q.h0 := by rw [hs]; rfl
      have hql : k < Q.h0.length := by rw [← hqh, hQ]; exact hkh
      rw [hqh] at hts
      by_cases hz0 : nth p.at_ a.toNat = 0
      ·by_cases hz1 : 0 ≤ nth Q.h0 k
       ·rw [if_pos ⟨hz0, hz1⟩] at hts
        rw [hts]
        repeat first|refine wV fun _=>?_|simp [go_sem, GH, hegl, hs, hx2, hz0, hz1, hql, hq0, hq1]
        refine aGC.yld (more := 0) (xs := zcu Q) (rs := (tkF g p.side p a.toNat (k + 1)).map zcu) _ (by simp [upd, GH, hs]) (.refl _) (by rw [hQ]; simp only [zcu, zad, zap, hs]; exact .refl _ _ _ _) (by simp [go_sem, zcu]) ?_ ?_
        ·repeat first|refine wV fun _=>?_|simp [go_sem, GH, hegl]
         refine zAr (hrec (d - 1) (by omega) (k + 1) (by omega)) ?_ (by simp)
         simp [go_sem, zaf, GH, hgh, hs, hq0, hq1]
        ·repeat first|refine wV fun _=>?_|simp [go_sem, GH, hegl]
       ·rw [if_neg (fun h => hz1 h.2), List.nil_append] at hts
        rw [hts]
        have hz2 : nth Q.h0 k < 0 := by omega
        repeat first|refine wV fun _=>?_|simp [go_sem, GH, hegl, hs, hx2, hz0, hz1, hql, hz2, hq0, hq1]
        refine aGC.skip (.v (.bool true)) ?_
        repeat first|refine wV fun _=>?_|simp [go_sem, GH, hegl]
        refine zAr (hrec (d - 1) (by omega) (k + 1) (by omega)) ?_ (by simp)
        simp [go_sem, zaf, GH, hgh, hs, hq0, hq1]
      ·rw [if_neg (fun h => hz0 h.1), List.nil_append] at hts
       rw [hts]
       repeat first|refine wV fun _=>?_|simp [go_sem, GH, hegl, hs, hx2, hz0, hql, hq0, hq1]
       refine aGC.skip (.v (.bool true)) ?_
       repeat first|refine wV fun _=>?_|simp [go_sem, GH, hegl]
       refine zAr (hrec (d - 1) (by omega) (k + 1) (by omega)) ?_ (by simp)
       simp [go_sem, zaf, GH, hgh, hs, hq0, hq1]
     ·have hqh : Q.hand p.side = Q.h1 := by rw [hs]; rfl
      have hql : k < Q.h1.length := by rw [← hqh, hQ]; exact hkh
      rw [hqh] at hts
      by_cases hz0 : nth p.at_ a.toNat = 0
      ·by_cases hz1 : 0 ≤ nth Q.h1 k
       ·rw [if_pos ⟨hz0, hz1⟩] at hts
        rw [hts]
        repeat first|refine wV fun _=>?_|simp [go_sem, GH, hegl, hs, hx2, hz0, hz1, hql, hq0, hq1]
        refine aGC.yld (more := 0) (xs := zcu Q) (rs := (tkF g p.side p a.toNat (k + 1)).map zcu) _ (by simp [upd, GH, hs]) (.refl _) (by rw [hQ]; simp only [zcu, zad, zap, hs]; exact .refl _ _ _ _) (by simp [go_sem, zcu]) ?_ ?_
        ·repeat first|refine wV fun _=>?_|simp [go_sem, GH, hegl]
         refine zAr (hrec (d - 1) (by omega) (k + 1) (by omega)) ?_ (by simp)
         simp [go_sem, zaf, GH, hgh, hs, hq0, hq1]
        ·repeat first|refine wV fun _=>?_|simp [go_sem, GH, hegl]
       ·rw [if_neg (fun h => hz1 h.2), List.nil_append] at hts
        rw [hts]
        have hz2 : nth Q.h1 k < 0 := by omega
        repeat first|refine wV fun _=>?_|simp [go_sem, GH, hegl, hs, hx2, hz0, hz1, hql, hz2, hq0, hq1]
        refine aGC.skip (.v (.bool true)) ?_
        repeat first|refine wV fun _=>?_|simp [go_sem, GH, hegl]
        refine zAr (hrec (d - 1) (by omega) (k + 1) (by omega)) ?_ (by simp)
        simp [go_sem, zaf, GH, hgh, hs, hq0, hq1]
      ·rw [if_neg (fun h => hz0 h.1), List.nil_append] at hts
       rw [hts]
       repeat first|refine wV fun _=>?_|simp [go_sem, GH, hegl, hs, hx2, hz0, hql, hq0, hq1]
       refine aGC.skip (.v (.bool true)) ?_
       repeat first|refine wV fun _=>?_|simp [go_sem, GH, hegl]
       refine zAr (hrec (d - 1) (by omega) (k + 1) (by omega)) ?_ (by simp)
       simp [go_sem, zaf, GH, hgh, hs, hq0, hq1]
   ·obtain rfl : k = g.kinds.length := by omega
    rw [hte]
    repeat first|refine wV fun _=>?_|simp [go_sem, GH, hegl]
  ·omega
  ·simp [go_sem, zaf, GH, hgh]
  ·simp
 have hz6 : ¬ op = 6 := h6
 unfold zde
 rw [if_neg h6]
 by_cases h7 : op = 7
 ·subst h7
  obtain ⟨hx1, hx2, hx3, hx4⟩ : 0 ≤ a ∧ a.toNat < p.at_.length ∧ 0 ≤ b ∧ b.toNat < p.at_.length := by omega
  rw [if_pos rfl]
  have hW1 := zey p hf a (nth p.at_ b.toNat) hx1 hx2
  have hW2 := zey { p with at_ := p.at_.set a.toNat (nth p.at_ b.toNat) } ⟨by simpa [ze5] using hf.1, hf.2⟩ b 0 hx3 (by simpa using hx4)
  simp only at hW2 ⊢
  obtain ⟨A, hA⟩ : ∃ A, A = p.at_.set a.toNat (nth p.at_ b.toNat) := ⟨_, rfl⟩
  rw [← hA] at hW1 hW2 ⊢
  obtain ⟨B, hB⟩ : ∃ B, B = A.set b.toNat 0 := ⟨_, rfl⟩
  rw [← hB] at hW2 ⊢
  by_cases hz : nth p.at_ b.toNat ≠ 0 ∧ nth p.at_ a.toNat = 0
  ·rw [if_pos hz]
   obtain ⟨z1, z2⟩ := hz
   have z3 : ¬ nth p.at_ b.toNat = 0 := z1
   (repeat (first|with_reducible (first|refine wL fun _=>?_|refine wD fun _=>?_|refine wE ?_)|simp [go_sem, GH, hegl, hx2, hx4, z3, z2]))
   refine znq.split 14 ?_
   repeat first|refine wV fun _=>?_|simp [go_sem, GH, hegl, hx2, hx4, z3, z2]
   refine zAu hW1 (by simp [go_sem]) ?_
   repeat first|refine wV fun _=>?_|simp [go_sem, GH, hegl, hx2, hx4, z3, z2]
   refine zAu hW2 (by simp [go_sem]) ?_
   repeat first|refine wV fun _=>?_|simp [go_sem, GH, hegl]
   refine zr8.mk (more := 0) (xs := zcu ⟨B, p.h0, p.h1, p.rights, p.side⟩) (rs := []) _ (by simp [upd, GH]) (.refl _) (.refl _ _ _ _) (by simp [go_sem, zcu]) ?_ ?_
   ·repeat first|refine wV fun _=>?_|simp [go_sem, GH, hegl]
   ·repeat first|refine wV fun _=>?_|simp [go_sem, GH, hegl]
  ·rw [if_neg hz]
   have z4 : nth p.at_ b.toNat = 0 ∨ ¬ nth p.at_ a.toNat = 0 := by
    by_cases h : nth p.at_ b.toNat = 0
    ·exact .inl h
    ·exact .inr fun h2 => hz ⟨h, h2⟩
   rcases z4 with z4 | z4
   ·repeat first|refine wV fun _=>?_|simp [go_sem, GH, hegl, hx2, hx4, z4]
   ·repeat first|refine wV fun _=>?_|simp [go_sem, GH, hegl, hx2, hx4, z4]
 rw [if_neg h7]
 by_cases h10 : op = 10
 ·subst h10
  rw [if_pos rfl]
  have hr4 := hg.r4
  have hx1 : 0 ≤ a ∧ a < 4 := by omega
  have hpw : (1 : Int) ≤ 2 ^ a.toNat ∧ (2 : Int) ^ a.toNat ≤ 8 := by
   rcases (show a.toNat = 0 ∨ a.toNat = 1 ∨ a.toNat = 2 ∨ a.toNat = 3 by omega) with h | h | h | h <;> rw [h] <;> decide
  unfold zqj
  generalize hgp : (2 : Int) ^ a.toNat = pw at *
  by_cases hz : zit .i64 p.rights pw = 0
  ·rw [if_pos (by simpa using hz)]
   have ha0 : 0 ≤ a := hx1.1
   have ha1 : a ≤ 64 := by omega
   repeat first|refine wV fun _=>?_|simp [go_sem, GH, hegl, hz, hgp]
   refine aGC.yld (more := 0) (xs := zcu p) (rs := [zcu { p with rights := orN .i64 p.rights pw }]) _ (by simp [upd, GH]) (.refl _) (.refl _ _ _ _) (by simp [go_sem, zcu]) ?_ ?_
   ·repeat first|refine wV fun _=>?_|simp [go_sem, GH, hegl, hgp]
    refine zr8.mk (more := 0) (xs := zcu { p with rights := orN .i64 p.rights pw }) (rs := []) _ (by simp [upd, GH]) (.refl _) (.refl _ _ _ _) (by simp [go_sem, zcu]) ?_ ?_
    ·repeat first|refine wV fun _=>?_|simp [go_sem, GH, hegl]
    ·repeat first|refine wV fun _=>?_|simp [go_sem, GH, hegl]
   ·repeat first|refine wV fun _=>?_|simp [go_sem, GH, hegl]
  ·rw [if_neg (by simpa using hz)]
   repeat first|refine wV fun _=>?_|simp [go_sem, GH, hegl, hz, hgp]
   refine aGC.skip (.v (.bool true)) ?_
   repeat first|refine wV fun _=>?_|simp [go_sem, GH, hegl]
 ·rw [if_neg h10]
  repeat first|refine wV fun _=>?_|simp [go_sem, GH, hegl, h6, h7, h10]
  refine zr8.mk (more := 0) (xs := zcu p) (rs := []) _ (by simp [upd, GH]) (.refl _) (.refl _ _ _ _) (by simp [go_sem, zcu]) ?_ ?_
  ·repeat first|refine wV fun _=>?_|simp [go_sem, GH, hegl]
  ·repeat first|refine wV fun _=>?_|simp [go_sem, GH, hegl]
def zkm (n : Nat) : AV := .fn (.func 250) [] [.ref (n + 2) 0 1 0 0, .ref (n + 1) 0 5 0 0, .ref n 0 9 0 0]
def zkn (g : zae) (p : zah) (l : List zcq) (n : Nat) : List (Nat × zbq) := [(n, .rows true 0 9 [zac g]), (n + 1, .rows true 0 5 [zad p]), (n + 2, .rows true 0 1 [[zbj l]])]
theorem zim (g : zae) (p : zah) (l : List zcq) : zgi Tryz.prog 204 [.agg (zac g), .agg (zad p), zbj l] zkm (zkn g p l) 3 := by
 refine ⟨?_, fun n => ⟨by simp [go_sem, zkm], by simp [go_sem, zkn]⟩⟩
 refine zAw (by kernel_rfl) Tryz.func204 rfl rfl (Nat.le_of_ble_eq_true rfl) (by kernel_rfl) ?_
 repeat first|refine wV fun _=>?_|simp [go_sem, zkm, zkn]
 simp [go_sem, zaf]
theorem zqN (g : zae) (hg : GOk g) : ∀ (n : Nat) (acts : List zcq) (p : zah), acts.length = n → n ≤ 1048576 → POk g p → (∀ a ∈ acts, zdO g.cells g.kinds.length g.rights a) →
  znb Tryz.prog 250 [.fp [zbj acts], .fp (zad p), .fp (zac g)] 0 ((zcx g p.side p acts.reverse).map zcu) := by
 intro n
 induction n with
 | zero =>
  intro acts p hn _ hp _
  obtain rfl := List.eq_nil_of_length_eq_zero hn
  refine zAM (by kernel_rfl) Tryz.func250 rfl rfl (Nat.le_of_ble_eq_true rfl) (by kernel_rfl) (fun l => ?_) (hm2 := by decide)
  have e : (zcx g p.side p ([] : List zcq).reverse).map zcu = [zcu p] := rfl
  rw [e]
  repeat first|refine wV fun _=>?_|simp [go_sem, GH]
  refine zr8.mk (more := 0) (xs := zcu p) (rs := []) _ (by simp [upd, GH]) (.refl _) (.refl _ _ _ _) (by simp [go_sem, zcu]) ?_ ?_
  ·repeat first|refine wV fun _=>?_|simp [go_sem, GH]
  ·repeat first|refine wV fun _=>?_|simp [go_sem, GH]
 | succ n ih =>
  intro acts p hn hn2 hp hacts
  obtain ⟨init, x, he⟩ : ∃ init x, acts = init ++ [x] := by
   rcases List.eq_nil_or_concat acts with h | ⟨i, x, h⟩
   ·rw [h] at hn; cases hn
   ·exact ⟨i, x, by rw [h, List.concat_eq_append]⟩
  have hin : init.length = n := by rw [he, List.length_append, List.length_singleton] at hn; omega
  have hx := hacts x (by rw [he]; simp)
  have hacts' : ∀ a ∈ init, zdO g.cells g.kinds.length g.rights a := fun a ha => hacts a (by rw [he]; simp [ha])
  have er : zcx g p.side p acts.reverse = (zde g p.side p x).flatMap fun q => zcx g p.side q init.reverse := by rw [he, List.reverse_append]; rfl
  have hnt : nth (acts.map zaQ) n = zaQ x := by
   rw [zbl _ _ _ (by omega), zaC _ _ (by omega)]
   simp [he, ← hin]
  have htk : (acts.map zaQ).take n = init.map zaQ := by rw [he, List.map_append, List.take_left' (by simp [hin])]
  clear he
  have hU : zgi Tryz.prog 251 [.agg (zac g), .agg (zad p), .agg (zaQ x)] (fun n => zwu n) (fun n => zwv g p x n) 3 := zww g p x
  simp only [zwu, zwv] at hU
  have hQ := zwx g hg p hp x hx
  have hok := zrL hg hp.s hp hx
  have hAll : ∀ q, POk g q → zgi Tryz.prog 204 [.agg (zac g), .agg (zad q), zbj init] (fun n => zkm n) (fun n => zkn g q init n) 3 := fun q _ => zim g q init
  simp only [zkm, zkn] at hAll
  have hSeq := fun (q : zah) (hq : POk g q) => ih init q hin (by omega) hq hacts'
  refine zAM (by kernel_rfl) Tryz.func250 rfl rfl (Nat.le_of_ble_eq_true rfl) (by kernel_rfl) (fun l => ?_) (hm2 := by decide)
  have hgh : ∀ (n : Nat) (L : List zah), Bel n (zba l 0 (L.map zcu)) = True := fun n (L : List zah) => eq_true zuL
  have hgh2 : ∀ (n : Nat) (a b : List zah), Bel n (zba l 0 (a.map zcu ++ b.map zcu)) = True := fun n a b => by rw [← List.map_append]; exact hgh n _
  have hegl : (zac g).length = 9 := rfl
  have hegb : ∀ n, (∀ c ∈ zac g, Bel n c) = True := fun n => by simp [go_sem]
  rw [er]
  generalize zde g p.side p x = qs at *
  have hlt : n < acts.length := by omega
  have hzero : ((n : Int) + 1 = 0) = False := eq_false (by omega)
  (repeat (first|with_reducible (first|refine wL fun _=>?_|refine wD fun _=>?_|refine wE ?_)|simp [go_sem, GH, hn, hnt, hlt, hzero]))
  refine znq.split 6 ?_
  repeat first|refine wV fun _=>?_|simp [go_sem, GH, hn, hnt, hlt, hzero]
  refine zAx hU (by simp [go_sem]) ?_
  repeat first|refine wV fun _=>?_|simp [go_sem, GH]
  have hep : zad p = [zap p.at_, zap p.h0, zap p.h1, .v (.int .i64 p.rights), .v (.int .i64 p.side)] := rfl
  refine zeh.give [.fp (zaQ x), .fp (zac g), .ref 0 0 5 0 0] (za5 _ [11, 9]) 10 [zad p] hQ (zcU _ _) (by simp [za5, zbb, upd]; rfl) (.refl _) (by simp [go_sem]) ?_ (fun xs hx => by obtain ⟨y, _, rfl⟩ := List.mem_map.1 hx; rfl) ?_
  ·simp only [zqV, zm8, zm7, and_true]
   refine ⟨.frzP rfl ?_ ?_ ?_ ?_, ?_, .frzP rfl ?_ ?_ ?_ ?_, ?_⟩ <;> first | exact zam.refl _ _ _ _ | (simp [za5, zbb, upd]; done) | (simp [go_sem]; done)
  ·refine Fgt.to (zAK (α := List zah) (fun qs => ([(1, .fp [zbj acts]), (3, .fp (zac g)), (4, .ref 0 0 1 0 0), (5, .ref 1 0 1 0 0), (1000000007, zba l 0 ((qs.flatMap fun q => zcx g p.side q init.reverse).map zcu))], [(0, .rows true 0 1 [[.fn (.yield l) [] []]]), (1, .rows true 0 1 [[.v (.int .i64 n)]])], 2))
    (fun rows qs => rows = qs.map zcu ∧ ∀ q ∈ qs, POk g q ∧ q.side = p.side) ?_ ?_ _ qs ?_) ?_ ?_
   ·rintro qs ⟨i1, i2⟩
    obtain rfl : qs = [] := by
     cases qs with
     | nil => rfl
     | cons => cases i1
    refine ⟨rfl, ?_⟩
    repeat first|refine wV fun _=>?_|simp [go_sem, GH]
   ·rintro xs rs qs ⟨i1, i2⟩ hrec
    obtain ⟨q, qs, rfl⟩ : ∃ q t, qs = q :: t := by
     cases qs with
     | nil => cases i1
     | cons q t => exact ⟨q, t, rfl⟩
    rw [List.map_cons, List.cons.injEq] at i1
    obtain ⟨rfl, rfl⟩ := i1
    obtain ⟨hq, hqs⟩ := i2 q (by simp)
    have hA := hAll q hq
    have hS := hSeq q hq
    rw [hqs] at hS
    rw [List.flatMap_cons]
    refine zAN (Nat.zero_le _) ?_
    (repeat (first|with_reducible (first|refine wL fun _=>?_|refine wD fun _=>?_|refine wE ?_)|simp [go_sem, GH, zcu]))
    refine znq.split 5 ?_
    have hcn : ((n : Int)).toNat = n := by omega
    repeat first|refine wV fun _=>?_|simp [go_sem, GH, hn, htk, hcn]
    refine zAx hA (by simp [go_sem]) ?_
    repeat first|refine wV fun _=>?_|simp [go_sem, GH]
    refine zeh.mk [.fp [zbj init], .fp (zad q), .fp (zac g)] (za5 _ [9, 10, 11]) hS (zcU _ _) ?_ (by simp [go_sem]) (fun xs hx => by obtain ⟨y, _, rfl⟩ := List.mem_map.1 hx; rfl) ?_
    ·refine zam.cons (.frzP rfl ?_ ?_ ?_ ?_) (zam.cons (.frzP rfl ?_ ?_ ?_ ?_) (zam.cons (.frzP rfl ?_ ?_ ?_ ?_) .nil)) <;> first | exact zam.refl _ _ _ _ | (simp [za5, zbb, upd]; done)
    generalize hrest : (qs.flatMap fun q => zcx g p.side q init.reverse) = rest at *
    generalize zcx g p.side q init.reverse = ys at *
    refine Fgt.to (zAK (α := List zah) (fun ys => ([(1, .fp [zbj acts]), (3, .fp (zac g)), (4, .ref 0 0 1 0 0), (5, .ref 1 0 1 0 0), (1000000007, zba l 0 ((ys ++ rest).map zcu))], [(0, .rows true 0 1 [[.fn (.yield l) [] []]]), (1, .rows true 0 1 [[.v (.int .i64 n)]])], 2))
     (fun rows ys => rows = ys.map zcu) ?_ ?_ _ ys rfl) ?_ ?_
    ·rintro ys i1
     obtain rfl : ys = [] := by
      cases ys with
      | nil => rfl
      | cons => cases i1
     refine ⟨rfl, ?_⟩
     repeat first|refine wV fun _=>?_|simp [go_sem, GH]
     refine Fgt.to (hrec qs ⟨rfl, fun z hz => i2 z (by simp [hz])⟩) ?_ (by simp)
     simp [go_sem, zaf, hgh, GH, hrest]
    ·rintro xs rs ys i1 hrec2
     obtain ⟨y, ys, rfl⟩ : ∃ q t, ys = q :: t := by
      cases ys with
      | nil => cases i1
      | cons q t => exact ⟨q, t, rfl⟩
     rw [List.map_cons, List.cons.injEq] at i1
     obtain ⟨rfl, rfl⟩ := i1
     rw [List.cons_append]
     refine zAN (Nat.le_refl _) ?_
     repeat first|refine wV fun _=>?_|simp [go_sem, GH, zcu]
     refine zr8.mk (more := 0) (xs := zcu y) (rs := (ys ++ rest).map zcu) _ (by simp [upd, GH]; rfl) (.refl _) (.refl _ _ _ _) (by simp [go_sem, zcu]) ?_ ?_
     ·repeat first|refine wV fun _=>?_|simp [go_sem, GH]
      refine Fgt.to (hrec2 ys rfl) ?_ (by simp)
      simp [go_sem, zaf, hgh, hgh2, GH]
     ·repeat first|refine wV fun _=>?_|simp [go_sem, GH]
    ·simp [go_sem, zaf, hgh, hgh2, GH]
    ·simp
   ·exact ⟨rfl, hok⟩
   ·simp [go_sem, zaf, hgh, GH]
   ·simp
theorem nofz_A {l : List zcq} : (∀ r ∈ l.map zaQ, ∀ c ∈ r, zfa c) = True := by
 refine eq_true ?_
 intro r hr c hc
 obtain ⟨x, _, rfl⟩ := List.mem_map.1 hr
 revert c
 simp [go_sem]
attribute [go_sem ↓] nofz_A
theorem zt1 (m : Int) (h0 : 0 ≤ m) (h1 : m ≤ 17179869184) : zgi Tryz.prog 289 [zAz, .v (.int .i64 m)] (fun n => .sl n 0 3 0 0) (fun n => [(n, .rows true 0 3 [])]) 1 := by
 refine ⟨?_, fun n => ⟨by simp [go_sem], by simp [go_sem]⟩⟩
 by_cases hm : m = 0
 ·subst hm
  refine zAw (by kernel_rfl) Tryz.func289 rfl rfl (Nat.le_of_ble_eq_true rfl) (by kernel_rfl) ?_
  repeat first|refine wV fun _=>?_|simp [go_sem]
  simp [go_sem, zaf]
 ·refine zaa.clear ?_
  refine zAw (by kernel_rfl) Tryz.func289 rfl rfl (Nat.le_of_ble_eq_true rfl) (by kernel_rfl) ?_
  repeat first|refine wV fun _=>?_|simp [go_sem]
  (refine zAt (fun hF => by first | omega | (simp at hF; omega)) (fun hF => ?_); clear hF)
  repeat first|refine wV fun _=>?_|simp [go_sem]
  (refine zAt (fun hT => ?_) (fun hT => by first | omega | (simp at hT; omega)); clear hT)
  repeat first|refine wV fun _=>?_|simp [go_sem]
  refine ⟨0, 0, 3, by decide, ⟨rfl, rfl, rfl⟩, ?_⟩
  simp [go_sem, zaf]
theorem zo5 (a b : List zcq) (ha : a.length ≤ 1048576) (hb : b.length ≤ 1048576) : zgi Tryz.prog 242 [.lst 1 [[zbj a], [zbj b]]]
  (fun n => .sl n 2 3 0 (a.length + b.length)) (fun n => [(n, .rows true 2 3 ((a ++ b).map zaQ))]) 1 := by
 refine ⟨?_, fun n => ⟨by simp [go_sem], by simp [go_sem]⟩⟩
 refine zAw (by kernel_rfl) Tryz.func242 rfl rfl (Nat.le_of_ble_eq_true rfl) (by kernel_rfl) ?_
 repeat first|refine wV fun _=>?_|simp [go_sem]
 refine zAA ?_
 repeat first|refine wV fun _=>?_|simp [go_sem]
 (refine zAt (fun hF => by first | omega | (simp at hF; omega)) (fun hF => ?_); clear hF)
 repeat first|refine wV fun _=>?_|simp [go_sem]
 refine zAA ?_
 repeat first|refine wV fun _=>?_|simp [go_sem]
 (refine zAt (fun hF => by first | omega | (simp at hF; omega)) (fun hF => ?_); clear hF)
 repeat first|refine wV fun _=>?_|simp [go_sem]
 refine zAA ?_
 repeat first|refine wV fun _=>?_|simp [go_sem]
 refine zAx (zt1 _ (by omega) (by omega)) (by simp [go_sem]) ?_
 repeat first|refine wV fun _=>?_|simp [go_sem]
 refine zAA ?_
 repeat first|refine wV fun _=>?_|simp [go_sem]
 refine zAA ?_
 repeat first|refine wV fun _=>?_|simp [go_sem]
 refine zAA ?_
 repeat first|refine wV fun _=>?_|simp [go_sem]
 simp [go_sem, zaf]
theorem zvh (p : zaV) (to : Int) (more : List zcq) (ha : p.acts.length ≤ 1048576) (hb : more.length ≤ 1048576) : zgi Tryz.prog 241 [.v (.int .i64 to), zbj more, .fp (zaq p)]
  (fun n => .agg [.sl (n + 2) 2 3 0 (p.acts.length + more.length), .v (.int .i64 to)]) (fun n => [(n + 2, .rows true 2 3 ((p.acts ++ more).map zaQ))]) 3 := by
 refine ⟨?_, fun n => ⟨by simp [go_sem], by simp [go_sem]⟩⟩
 refine zAw (by kernel_rfl) Tryz.func241 rfl rfl (Nat.le_of_ble_eq_true rfl) (by kernel_rfl) ?_
 repeat first|refine wV fun _=>?_|simp [go_sem]
 refine zAF (zo5 p.acts more ha hb) (by simp [go_sem]) (by simp [go_sem]) ?_ (by simp [go_sem]) ?_
 ·simp only [zbj]
  refine zam.cons ?_ zam.nil
  refine zas rfl (by simp) (by simp [noH, upd]) ?_
  simp [go_sem]
 ·repeat first|refine wV fun _=>?_|simp [go_sem]
  simp [go_sem, zaf]
theorem zhe (p : zaV) : ∀ (l : List Int) (passed : List zcq) (c : Int), zb9 p (l ++ [c]) passed = zb9 p l passed ++ [onP p c (passed ++ l.map fun c => (3, c, 0))]
 | [], passed, c => by simp [zb9, onP]
 | d :: l, passed, c => by simp [zb9, zhe p l]
def zhL (l : List Int) : List zcq := l.map fun c => (3, c, 0)
theorem zoL (l : List Int) (c : Int) : zhL (l ++ [c]) = zhL l ++ [(3, c, 0)] := by simp [zhL]
theorem zv8 (l : List Int) : (zhL l).length = l.length := by simp [zhL]
theorem zqH (p : zaV) (l : List Int) {i : Nat} (h : i < l.length) : zb9 p (l.take (i + 1)) [] = zb9 p (l.take i) [] ++ [onP p (nth l i) (zhL (l.take i))] ∧ zhL (l.take (i + 1)) = zhL (l.take i) ++ [(3, nth l i, 0)] := by
 rw [List.take_add_one, List.getElem?_eq_getElem h, zaC _ _ h, Option.toList_some, zhe, zoL]
 exact ⟨by simp [zhL], rfl⟩
theorem zp4 (b : zaE) (hb : zaY b) (h9 : b.cells ≤ 9) (side : Int) (p : zaV) (hp : p.acts.length ≤ 1000000) (x : Int × Int) :
  zaL Tryz.prog 194 [.agg (zcZ b), .v (.int .i64 side), .agg (zaq p), .agg [.v (.int .i64 x.1), .v (.int .i64 x.2)]] (zbe (ziJ b side p x)) := by
 refine pF Tryz.func194 ?_
 obtain ⟨op, N⟩ := x
 have hT := ziF b hb side N p.to
 have hL := zk8 b hb side N p.to
 have hll := ziO hb (side := side) (d := N) (c := p.to)
 have hO := fun to more (h : more.length ≤ 1048576) => zvh p to more (by omega) h
 have hE : ziJ b side p (op, N) = if op = 1 ∨ op = 7 then
  if toB b side N p.to < 0 then [] else if op = 1 then [onP p (toB b side N p.to) []] else [onP p p.to [(7, p.to, toB b side N p.to)]]
  else if op = 2 then zb9 p (zft b side N p.to) []
  else if op = 8 ∨ op = 9 ∨ op = 10 then [onP p p.to [(op, N, 0)]]
  else [onP p p.to [(op, p.to, 0)]] := rfl
 generalize toB b side N p.to = to at *
 generalize zft b side N p.to = line at *
 generalize ziJ b side p (op, N) = R at *
 have hbl : ∀ n, (∀ c' ∈ zcZ b, Bel n c') = True := fun n => by simp [go_sem]
 have hel : (zcZ b).length = 3 := rfl
 have hte : (zcZ b).take 3 = zcZ b := rfl
 obtain ⟨eb, heb⟩ : ∃ eb, eb = zcZ b := ⟨_, rfl⟩
 rw [← heb] at hbl hel hT hL hte ⊢
 repeat first|refine wV fun _=>?_|simp [go_sem, hel, hte]
 refine zAt (fun h1 => ?_) (fun h1 => ?_) <;> simp at h1
 ·subst h1
  repeat first|refine wV fun _=>?_|simp [go_sem, hel, hte]
  refine zAs hT (by simp [go_sem, hbl]) ?_
  repeat first|refine wV fun _=>?_|simp [go_sem, hel, hte]
  refine zAt (fun ht => ?_) (fun ht => ?_) <;> simp at ht
  ·rw [if_pos (by omega), if_pos ht] at hE
   rw [hE]
   repeat first|refine wV fun _=>?_|simp [go_sem, hel, hte]
  ·rw [if_pos (by omega), if_neg (by omega), if_pos rfl] at hE
   rw [hE]
   repeat first|refine wV fun _=>?_|simp [go_sem, hel, hte]
   refine zAF (hO to [] (by simp)) (by simp [go_sem]) (by simp [go_sem]) ?_ (by simp [go_sem]) ?_
   ·(first|done|exact leX)
   ·repeat first|refine wV fun _=>?_|simp [go_sem, hel, hte, onP]
    (first|done|exact leX)
 ·repeat first|refine wV fun _=>?_|simp [go_sem, hel, hte]
  refine zAt (fun h7 => ?_) (fun h7 => ?_) <;> simp at h7
  ·subst h7
   repeat first|refine wV fun _=>?_|simp [go_sem, hel, hte]
   refine zAs hT (by simp [go_sem, hbl]) ?_
   repeat first|refine wV fun _=>?_|simp [go_sem, hel, hte]
   refine zAt (fun ht => ?_) (fun ht => ?_) <;> simp at ht
   ·rw [if_pos (by omega), if_pos ht] at hE
    rw [hE]
    repeat first|refine wV fun _=>?_|simp [go_sem, hel, hte]
   ·rw [if_pos (by omega), if_neg (by omega), if_neg (by omega)] at hE
    rw [hE]
    repeat first|refine wV fun _=>?_|simp [go_sem, hel, hte]
    refine zAF (hO p.to [(7, p.to, to)] (by simp)) (by simp [go_sem]) (by simp [go_sem]) ?_ (by simp [go_sem]) ?_
    ·(first|done|exact leX)
    ·repeat first|refine wV fun _=>?_|simp [go_sem, hel, hte, onP]
     (first|done|exact leX)
  ·rw [if_neg (by omega)] at hE
   repeat first|refine wV fun _=>?_|simp [go_sem, hel, hte]
   refine zAt (fun h2 => ?_) (fun h2 => ?_) <;> simp at h2
   ·subst h2
    rw [if_pos rfl] at hE
    repeat first|refine wV fun _=>?_|simp [go_sem, hel, hte]
    refine zAs hL (by simp [go_sem, hbl]) ?_
    repeat first|refine wV fun _=>?_|simp [go_sem, hel, hte]
    refine zAr (zAv (α := Nat) (fun i => ⟨[(9, .fn (.func 241) [] [.ref 1 0 2 0 0]), (11, .sl 3 i 2 0 i), (12, .sl 4 i 3 0 i), (55, zap line), (56, .v (.int .i64 line.length)), (57, .v (.int .i64 i))],
      [(1, .rows true 0 2 [zaq p]), (3, .rows true i 2 ((zb9 p (line.take i) []).map zaq)), (4, .rows true i 3 ((zhL (line.take i)).map zaQ))], 5⟩)
     (fun d i => i + d = line.length) ?_ line.length 0 ?_) ?_ ?_
    ·rintro d i i1 hrec
     have hsl : (zb9 p (line.take i) []).length = i := by rw [zhS]; simp; omega
     have hpl : (zhL (line.take i)).length = i := by rw [zv8]; simp; omega
     repeat first|refine wV fun _=>?_|simp [go_sem, hel, hte]
     refine zAt (fun hi => ?_) (fun hi => ?_) <;> simp at hi
     ·obtain ⟨s1, s2⟩ := zqH p line hi
      repeat first|refine wV fun _=>?_|simp [go_sem, hi]
      refine zAF (hO (nth line i) (zhL (line.take i)) (by omega)) (by simp [go_sem]) (by simp [go_sem]) ?_ (by simp [go_sem]) ?_
      ·((try simp only [zau, zaA, zaQ, zbj, zaq, zbe, zay, zan, zad, zbI, za0, zaN, zap, zac, List.map_cons, List.map_nil, List.nil_append, List.append_nil, List.cons_append]); (repeat (first | (with_reducible first|exact zam.nil|exact zai.nil|exact LeV.refl _|exact zam.refl _ _ _ _|exact zai.refl _|refine zam.cons ?_ ?_|refine zai.cons ?_ ?_|refine LeV.agg ?_|refine LeV.tup ?_|refine LeV.fn ?_ ?_|exact LeV.nil _|refine zak (zai.refl _) ?_) | ((refine zas rfl (by simp [hpl]) (by simp [za5, zbb, upd, noH]) ?_); (first | (simp [go_sem, hpl]; done) | (simp [go_sem, hpl]; exact List.take_of_length_le (by simp [hpl])))) | ((refine LeV.frz rfl (by simp [hpl]) (by simp [za5, zbb, upd, noH]) ?_); (simp only [List.drop_zero, List.take_succ_cons, List.take_zero, List.map_cons, List.map_nil])) | ((refine LeV.frzP rfl (by simp [hpl]) (by simp) (by simp [za5, zbb, upd, noH]) ?_); (simp only [zaP, List.drop_zero])))))
      ·repeat first|refine wV fun _=>?_|simp [go_sem, hi, hsl, hpl]
       refine zAr (hrec (d - 1) (by omega) (i + 1) (by omega)) ?_ (by simp)
       simp [go_sem, zaf, s1, s2, onP, hpl]
       ((try simp only [zau, zaA, zaQ, zbj, zaq, zbe, zay, zan, zad, zbI, za0, zaN, zap, zac, List.map_cons, List.map_nil, List.nil_append, List.append_nil, List.cons_append]); (repeat (first | (with_reducible first|exact zam.nil|exact zai.nil|exact LeV.refl _|exact zam.refl _ _ _ _|exact zai.refl _|refine zam.cons ?_ ?_|refine zai.cons ?_ ?_|refine LeV.agg ?_|refine LeV.tup ?_|refine LeV.fn ?_ ?_|exact LeV.nil _|refine zak (zai.refl _) ?_) | ((refine zas rfl (by simp [hpl]) (by simp [za5, zbb, upd, noH]) ?_); (first | (simp [go_sem, hpl]; done) | (simp [go_sem, hpl]; exact List.take_of_length_le (by simp [hpl])))) | ((refine LeV.frz rfl (by simp [hpl]) (by simp [za5, zbb, upd, noH]) ?_); (simp only [List.drop_zero, List.take_succ_cons, List.take_zero, List.map_cons, List.map_nil])) | ((refine LeV.frzP rfl (by simp [hpl]) (by simp) (by simp [za5, zbb, upd, noH]) ?_); (simp only [zaP, List.drop_zero])))))
     ·have hil : i = line.length := by omega
      subst hil
      rw [List.take_length] at hsl ⊢
      rw [hE]
      repeat first|refine wV fun _=>?_|simp [go_sem, hsl]
      ((try simp only [zau, zaA, zaQ, zbj, zaq, zbe, zay, zan, zad, zbI, za0, zaN, zap, zac, List.map_cons, List.map_nil, List.nil_append, List.append_nil, List.cons_append]); (repeat (first | (with_reducible first|exact zam.nil|exact zai.nil|exact LeV.refl _|exact zam.refl _ _ _ _|exact zai.refl _|refine zam.cons ?_ ?_|refine zai.cons ?_ ?_|refine LeV.agg ?_|refine LeV.tup ?_|refine LeV.fn ?_ ?_|exact LeV.nil _|refine zak (zai.refl _) ?_) | ((refine zas rfl (by simp [hsl]) (by simp [za5, zbb, upd, noH]) ?_); (first | (simp [go_sem, hsl]; done) | (simp [go_sem, hsl]; exact List.take_of_length_le (by simp [hsl])))) | ((refine LeV.frz rfl (by simp [hsl]) (by simp [za5, zbb, upd, noH]) ?_); (simp only [List.drop_zero, List.take_succ_cons, List.take_zero, List.map_cons, List.map_nil])) | ((refine LeV.frzP rfl (by simp [hsl]) (by simp) (by simp [za5, zbb, upd, noH]) ?_); (simp only [zaP, List.drop_zero])))))
    ·simp
    ·simp [go_sem, zaf, zb9, zhL]
    ·simp
   ·rw [if_neg h2] at hE
    repeat first|refine wV fun _=>?_|simp [go_sem, hel, hte]
    refine zAt (fun h8 => ?_) (fun h8 => ?_) <;> simp at h8
    ·subst h8
     rw [if_pos (by omega)] at hE
     rw [hE]
     repeat first|refine wV fun _=>?_|simp [go_sem, hel, hte]
     refine zAF (hO p.to [(8, N, 0)] (by simp)) (by simp [go_sem]) (by simp [go_sem]) ?_ (by simp [go_sem]) ?_
     ·(first|done|exact leX)
     ·repeat first|refine wV fun _=>?_|simp [go_sem, hel, hte, onP]
      (first|done|exact leX)
    ·repeat first|refine wV fun _=>?_|simp [go_sem, hel, hte]
     refine zAt (fun h99 => ?_) (fun h99 => ?_) <;> simp at h99
     ·subst h99
      rw [if_pos (by omega)] at hE
      rw [hE]
      repeat first|refine wV fun _=>?_|simp [go_sem, hel, hte]
      refine zAF (hO p.to [(9, N, 0)] (by simp)) (by simp [go_sem]) (by simp [go_sem]) ?_ (by simp [go_sem]) ?_
      ·(first|done|exact leX)
      ·repeat first|refine wV fun _=>?_|simp [go_sem, hel, hte, onP]
       (first|done|exact leX)
     ·repeat first|refine wV fun _=>?_|simp [go_sem, hel, hte]
      refine zAt (fun h10 => ?_) (fun h10 => ?_) <;> simp at h10
      ·subst h10
       rw [if_pos (by omega)] at hE
       rw [hE]
       repeat first|refine wV fun _=>?_|simp [go_sem, hel, hte]
       refine zAF (hO p.to [(10, N, 0)] (by simp)) (by simp [go_sem]) (by simp [go_sem]) ?_ (by simp [go_sem]) ?_
       ·(first|done|exact leX)
       ·repeat first|refine wV fun _=>?_|simp [go_sem, hel, hte, onP]
        (first|done|exact leX)
      ·rw [if_neg (by omega)] at hE
       rw [hE]
       repeat first|refine wV fun _=>?_|simp [go_sem, hel, hte]
       refine zAF (hO p.to [(op, p.to, 0)] (by simp)) (by simp [go_sem]) (by simp [go_sem]) ?_ (by simp [go_sem]) ?_
       ·(first|done|exact leX)
       ·repeat first|refine wV fun _=>?_|simp [go_sem, hel, hte, onP]
        (first|done|exact leX)
def zp6 {α β : Type} (F : α → List β) (l : List α) (i : Nat) : List β := (l.take i).flatMap F
theorem zof {α β : Type} [Inhabited α] (F : α → List β) (l : List α) {i : Nat} (h : i < l.length) : zp6 F l (i + 1) = zp6 F l i ++ F (nth l i) := by
 unfold zp6
 rw [List.take_add_one, List.getElem?_eq_getElem h, zaC _ _ h, Option.toList_some, List.flatMap_append]
 simp
theorem zog {α β : Type} (F : α → List β) (l : List α) : zp6 F l 0 = [] := by simp [zp6]
theorem ziK {α β : Type} (F : α → List β) (l : List α) : zp6 F l l.length = l.flatMap F := by simp [zp6]
theorem zmF {α β : Type} (F : α → List β) (l : List α) (i : Nat) : (zp6 F l i).length ≤ (l.flatMap F).length := by
 unfold zp6
 conv => rhs; rw [← List.take_append_drop i l]
 rw [List.flatMap_append, List.length_append]
 omega
theorem zs2 (l : List (List (Int × Int))) (hl : l.length ≤ 1048576) (f : FuncId) (caps : List AV) (F : List (Int × Int) → List zaV) (hF : ∀ x ∈ l, zaL Tryz.prog f (zau x :: caps) (zbe (F x))) (hb : ∀ c ∈ caps, Bel 0 c)
  (hn : (l.flatMap F).length ≤ 8589934592) : zaL Tryz.prog 138 [.lst 1 (l.map fun p => [zau p]), .fn (.func f) [] caps] (zbe (l.flatMap F)) := by
 refine pF Tryz.func138 ?_
 rw [← ziK F l] at hn ⊢
 repeat first|refine wV fun _=>?_|simp [go_sem]
 refine zAr (zAv (α := Nat) (fun i => ⟨[(1, .fn (.func f) [] caps), (5, .sl 0 i 2 0 (zp6 F l i).length), (8, .lst 1 (l.map fun p => [zau p])), (9, .v (.int .i64 l.length)), (10, .v (.int .i64 i))], [(0, .rows true i 2 ((zp6 F l i).map zaq))], 1⟩)
  (fun d i => i + d = l.length) ?_ l.length 0 ?_) ?_ ?_
 ·rintro d i i1 hrec
  have hni := zmF F l i
  repeat first|refine wV fun _=>?_|simp [go_sem]
  refine zAt (fun hi => ?_) (fun hi => ?_) <;> simp at hi
  ·have hs := zof F l hi
   have hns := zmF F l (i + 1)
   rw [hs, List.length_append] at hns
   rw [ziK] at hn
   repeat first|refine wV fun _=>?_|simp [go_sem, hi]
   refine zAs (hF _ (zaj hi)) (by simp [go_sem]; exact hb) ?_
   repeat first|refine wV fun _=>?_|simp [go_sem, hi]
   refine zAr (hrec (d - 1) (by omega) (i + 1) (by omega)) ?_ (by simp)
   simp [go_sem, zaf, hs]
   exact fun c hc => (hb c hc).mono (Nat.zero_le _)
  ·have hil : i = l.length := by omega
   subst hil
   generalize zp6 F l l.length = R at *
   repeat first|refine wV fun _=>?_|simp [go_sem]
   (first|done|exact leX)
 ·simp
 ·simp [go_sem, zaf, zog]
  exact fun c hc => (hb c hc).mono (Nat.zero_le _)
 ·simp
theorem zs1 (l : List zaV) (hl : l.length ≤ 1073741824) (f : FuncId) (caps : List AV) (F : zaV → List zaV) (hF : ∀ x ∈ l, zaL Tryz.prog f (.agg (zaq x) :: caps) (zbe (F x))) (hb : ∀ c ∈ caps, Bel 0 c)
  (hn : (l.flatMap F).length ≤ 8589934592) : zaL Tryz.prog 192 [zbe l, .fn (.func f) [] caps] (zbe (l.flatMap F)) := by
 refine pF Tryz.func192 ?_
 rw [← ziK F l] at hn ⊢
 repeat first|refine wV fun _=>?_|simp [go_sem]
 refine zAr (zAv (α := Nat) (fun i => ⟨[(1, .fn (.func f) [] caps), (5, .sl 0 i 2 0 (zp6 F l i).length), (8, zbe l), (9, .v (.int .i64 l.length)), (10, .v (.int .i64 i))], [(0, .rows true i 2 ((zp6 F l i).map zaq))], 1⟩)
  (fun d i => i + d = l.length) ?_ l.length 0 ?_) ?_ ?_
 ·rintro d i i1 hrec
  have hni := zmF F l i
  repeat first|refine wV fun _=>?_|simp [go_sem]
  refine zAt (fun hi => ?_) (fun hi => ?_) <;> simp at hi
  ·have hs := zof F l hi
   have hns := zmF F l (i + 1)
   rw [hs, List.length_append] at hns
   rw [ziK] at hn
   repeat first|refine wV fun _=>?_|simp [go_sem, hi]
   refine zAs (hF _ (zaj hi)) (by simp [go_sem]; exact hb) ?_
   repeat first|refine wV fun _=>?_|simp [go_sem, hi]
   refine zAr (hrec (d - 1) (by omega) (i + 1) (by omega)) ?_ (by simp)
   simp [go_sem, zaf, hs]
   exact fun c hc => (hb c hc).mono (Nat.zero_le _)
  ·have hil : i = l.length := by omega
   subst hil
   generalize zp6 F l l.length = R at *
   repeat first|refine wV fun _=>?_|simp [go_sem]
   (first|done|exact leX)
 ·simp
 ·simp [go_sem, zaf, zog]
  exact fun c hc => (hb c hc).mono (Nat.zero_le _)
 ·simp
theorem zqx (b : zaE) (hb : zaY b) (h9 : b.cells ≤ 9) (side : Int) (p : zaV) (hp : p.acts.length ≤ 1000000) (x : Int × Int) :
  zaL Tryz.prog 193 [.agg (zaq p), .fp (zcZ b), .fp [.v (.int .i64 side)], .fp [.v (.int .i64 x.1), .v (.int .i64 x.2)]] (zbe (ziJ b side p x)) := by
 refine pF Tryz.func193 ?_
 have hE := zp4 b hb h9 side p hp x
 generalize ziJ b side p x = R at *
 repeat first|refine wV fun _=>?_|simp [go_sem]
 refine zAs hE (by simp [go_sem]) ?_
 repeat first|refine wV fun _=>?_|simp [go_sem]
def zdp (b : zaE) (side : Int) (prog : List (Int × Int)) (cell : Int) (i : Nat) : List zaV := zbB b side (prog.take i) cell
theorem zgA (b : zaE) (side : Int) (prog : List (Int × Int)) (cell : Int) {i : Nat} (h : i < prog.length) : zdp b side prog cell (i + 1) = (zdp b side prog cell i).flatMap fun w => ziJ b side w (nth prog i) := by
 unfold zdp zbB
 rw [List.take_add_one, List.getElem?_eq_getElem h, zaC _ _ h, Option.toList_some, List.foldl_append]
 rfl
theorem zeS {b : zaE} (hb : zaY b) (h9 : b.cells ≤ 9) (side : Int) (prog : List (Int × Int)) (cell : Int) : ∀ i, i ≤ prog.length → zhV (10 * i) (zdp b side prog cell i)
 | 0, _ => by
  intro w hw
  simp [zdp, zbB] at hw
  subst hw
  simp
 | i + 1, h => by
  rw [zgA b side prog cell (by omega)]
  exact ztJ hb h9 side (zeS hb h9 side prog cell i (by omega)) _
theorem zhM {b : zaE} (hb : zaY b) (h1 : 1 ≤ b.cells) (h9 : b.cells ≤ 9) (side : Int) (prog : List (Int × Int)) (hp : prog.length ≤ 8) (cell : Int) (i : Nat) : (zdp b side prog cell i).length ≤ 43046721 := by
 have h := zhN hb h1 side (prog.take i) cell
 have hc : zaB (prog.take i) 2 ≤ 8 := by
  unfold zaB
  have := List.countP_le_length (p := fun x : Int × Int => x.1 == 2) (l := prog.take i)
  simp at this
  omega
 have h2 : b.cells.toNat ^ zaB (prog.take i) 2 ≤ 9 ^ zaB (prog.take i) 2 := Nat.pow_le_pow_left (by omega) _
 have h3 : 9 ^ zaB (prog.take i) 2 ≤ 9 ^ 8 := Nat.pow_le_pow_right (by omega) hc
 unfold zdp
 omega
theorem ztu (b : zaE) (hb : zaY b) (h1 : 1 ≤ b.cells) (h9 : b.cells ≤ 9) (side : Int) (prog : List (Int × Int)) (hp : prog.length ≤ 8) (cell : Int) :
  zaL Tryz.prog 140 [.agg (zcZ b), .v (.int .i64 side), zau prog, .v (.int .i64 cell)] (zbe (zbB b side prog cell)) := by
 refine pF Tryz.func140 ?_
 have hR : zbB b side prog cell = zdp b side prog cell prog.length := by unfold zdp; rw [List.take_length]
 have hl := zhM hb h1 h9 side prog hp cell
 have ha := zeS hb h9 side prog cell
 have hs := fun (i : Nat) (h : i < prog.length) => zgA b side prog cell h
 have h0 : zdp b side prog cell 0 = [⟨[], cell⟩] := rfl
 rw [hR]
 have hP := fun w hw x => zqx b hb h9 side w hw x
 generalize zdp b side prog cell = K at *
 generalize hXb : ziJ b side = E at *
 have hbl : ∀ n, (∀ c' ∈ zcZ b, Bel n c') = True := fun n => by simp [go_sem]
 have hel : (zcZ b).length = 3 := rfl
 have hte : (zcZ b).take 3 = zcZ b := rfl
 obtain ⟨eb, heb⟩ : ∃ eb, eb = zcZ b := ⟨_, rfl⟩
 rw [← heb] at hbl hel hte ⊢
 have hP' : ∀ w : zaV, w.acts.length ≤ 1000000 → ∀ x : Int × Int, zaL Tryz.prog 193 [.agg (zaq w), .fp eb, .fp [.v (.int .i64 side)], .fp [.v (.int .i64 x.1), .v (.int .i64 x.2)]] (zbe (E w x)) := fun w hw x => by rw [heb]; exact hP w hw x
 clear hP
 repeat first|refine wV fun _=>?_|simp [go_sem, hel, hte]
 refine zAr (zAv (α := Nat) (fun i => ⟨[(4, .ref 0 0 3 0 0), (5, .ref 1 0 1 0 0), (9, zbe (K i)), (15, zau prog), (16, .v (.int .i64 prog.length)), (17, .v (.int .i64 i))], [(0, .rows false 0 3 [eb]), (1, .rows false 0 1 [[.v (.int .i64 side)]])], 2⟩)
  (fun d i => i + d = prog.length) ?_ prog.length 0 ?_) ?_ ?_
 ·rintro d i i1 hrec
  have hli := hl i
  repeat first|refine wV fun _=>?_|simp [go_sem, hel, hte]
  refine zAt (fun hi => ?_) (fun hi => ?_) <;> simp at hi
  ·have hsi := hs i hi
   have hls := hl (i + 1)
   have hai := ha i (by omega)
   repeat first|refine wV fun _=>?_|simp [go_sem, hel, hte, hi]
   refine zAy [2] (zs1 (K i) (by omega) 193 [.fp eb, .fp [.v (.int .i64 side)], .fp [.v (.int .i64 (nth prog i).1), .v (.int .i64 (nth prog i).2)]] (fun w => E w (nth prog i)) (fun w hw => hP' w (by have := hai w hw; omega) _) (by simp [go_sem, hbl]) (by rw [← hsi]; omega)) ?_ (by simp [go_sem, hbl]) ?_
   ·(first|done|exact leX)
   ·rw [← hsi]
    repeat first|refine wV fun _=>?_|simp [go_sem, hel, hte]
    refine zAr (hrec (d - 1) (by omega) (i + 1) (by omega)) ?_ (by simp)
    simp [go_sem, zaf, hbl]
  ·have hil : i = prog.length := by omega
   subst hil
   generalize K prog.length = R at *
   repeat first|refine wV fun _=>?_|simp [go_sem]
 ·simp
 ·simp [go_sem, zaf, h0, hbl]
  (first|done|exact leX)
 ·simp
theorem zmw (g : zae) (hg : GOk g) (side : Int) (cell : Int) (prog : List (Int × Int)) (hp : prog.length ≤ 8) :
    zaL Tryz.prog 139 [zau prog, .fp (zac g), .fp [.v (.int .i64 side)], .fp [.v (.int .i64 cell)]] (zbe (zbB g.board side prog cell)) := by
  refine pF Tryz.func139 ?_
  have hP := ztu g.board hg.board hg.c1 hg.c9 side prog hp cell
  generalize zbB g.board side prog cell = R at *
  rw [show zcZ g.board = [.v (.int .i64 g.cells), zcg g.next, zap g.turn] from rfl] at hP
  repeat first|refine wV fun _=>?_|simp [go_sem]
  refine zAs hP (by simp [go_sem]) ?_
  repeat first|refine wV fun _=>?_|simp [go_sem]
def zhz (f : Nat → List AV) (z : List AV) (n c : Nat) : List (List AV) := (List.range n).map fun i => if i < c then f i else z
theorem zoc (f : Nat → List AV) (z : List AV) (n c : Nat) : (zhz f z n c).length = n := by simp [zhz]
theorem zlk (f : Nat → List AV) (z : List AV) (n : Nat) : List.replicate n z = zhz f z n 0 := by
  unfold zhz
  refine List.ext_getElem (by simp) fun i h1 h2 => ?_
  simp
theorem zod (f : Nat → List AV) (z : List AV) (n c : Nat) : (zhz f z n c).set c (f c) = zhz f z n (c + 1) := by
  unfold zhz
  refine List.ext_getElem (by simp) fun i h1 h2 => ?_
  simp only [List.getElem_set, List.getElem_map, List.getElem_range]
  by_cases h : c = i
  · subst h; simp
  · rw [if_neg h]
    by_cases hi : i < c
    · rw [if_pos hi, if_pos (by omega)]
    · rw [if_neg hi, if_neg (by omega)]
theorem zob (f : Nat → List AV) (z : List AV) (n : Nat) : zhz f z n n = (List.range n).map f := by
  unfold zhz
  refine List.map_congr_left fun i hi => ?_
  rw [if_pos (List.mem_range.1 hi)]
theorem zgZ {f : Nat → List AV} {z : List AV} {n c m : Nat} (hf : ∀ i, ∀ x ∈ f i, Bel m x) (hz : ∀ x ∈ z, Bel m x) : ∀ r ∈ zhz f z n c, ∀ x ∈ r, Bel m x := by
  intro r hr x hx
  unfold zhz at hr
  obtain ⟨i, _, rfl⟩ := List.mem_map.1 hr
  split at hx
  · exact hf i x hx
  · exact hz x hx
theorem zrl (h : zar) (o : Nat) (x : Option zbq) : za5 (upd h o x) [o] = upd h o (zbb x) := by
  funext a
  unfold za5 upd
  by_cases e : a = o
  · subst e; simp
  · simp [e]
def zhR (g : zae) (side : Int) (j : Nat) : List (List (List zaV)) := (g.kinds.take j).map fun k => zff g.board side k.progs
theorem zlR (g : zae) (side : Int) {j : Nat} (h : j < g.kinds.length) : zhR g side (j + 1) = zhR g side j ++ [zff g.board side (nth g.kinds j).progs] := by
  unfold zhR
  rw [List.take_add_one, List.getElem?_eq_getElem h, zaC _ _ h, Option.toList_some, List.map_append]
  rfl
theorem zoS (g : zae) (side : Int) : zhR g side g.kinds.length = zbz g side := by unfold zhR zbz; rw [List.take_length]
theorem zlS (g : zae) (side : Int) : zhR g side 0 = [] := by simp [zhR]
theorem zj9 (g : zae) (side : Int) {j : Nat} (h : j ≤ g.kinds.length) : (zhR g side j).length = j := by simp [zhR]; omega
theorem zfs {g : zae} (hg : GOk g) (side : Int) {k : zfZ} (hk : k ∈ g.kinds) (cell : Int) : (zbw g.board side k.progs cell).length ≤ 8589934592 := by
  have h := zhA (fun p => zbB g.board side p cell) 43046721 k.progs (fun p hp => by
    have := zhM hg.board hg.c1 hg.c9 side p (hg.pr k hk p hp).len cell p.length
    unfold zdp at this
    rwa [List.take_length] at this)
  have := hg.pn k hk
  have h2 : k.progs.length * 43046721 ≤ 8 * 43046721 := Nat.mul_le_mul_right _ this
  unfold zbw
  omega
theorem zhD {g : zae} (hg : GOk g) (s : Int) {k : zfZ} (hk : k ∈ g.kinds) (c : Int) : zhV 1048576 (zbw g.board s k.progs c) := by
  intro w hw
  obtain ⟨p, hp, hw⟩ := List.mem_flatMap.1 hw
  have := zeS hg.board hg.c9 s p c p.length (Nat.le_refl _) w (by unfold zdp; rwa [List.take_length])
  have := (hg.pr k hk p hp).len
  omega
theorem zhW (g : zae) (hg : GOk g) : zaL Tryz.prog 76 [.agg (zac g)] (.agg (zbg (zbE g))) := by
  refine pF Tryz.func76 ?_
  have hc9 := hg.c9
  have hc1 := hg.c1
  have hk6 := hg.k6
  have hF := fun (s : Int) (c : Int) (k : zfZ) (hk : k ∈ g.kinds) => zs2 k.progs (by have := hg.pn k hk; omega) 139 [.fp (zac g), .fp [.v (.int .i64 s)], .fp [.v (.int .i64 c)]] (fun p => zbB g.board s p c)
    (fun p hp => zmw g hg s c p (hg.pr k hk p hp).len) (by simp [go_sem]) (zfs hg s hk c)
  have hkb : ∀ (s : Int) (k : zfZ) (c : Nat), c < g.cells.toNat → True := fun _ _ _ _ => trivial
  have hR : zbg (zbE g) = [za3 (zbz g 0), za3 (zbz g 1)] := rfl
  rw [hR]
  clear hR
  have hsk := fun (s : Int) (j : Nat) (h : j < g.kinds.length) => zlR g s h
  have hsa := fun s => zoS g s
  have hsz := fun s => zlS g s
  have hsl := fun (s : Int) (j : Nat) (h : j ≤ g.kinds.length) => zj9 g s h
  obtain ⟨C, hC⟩ : ∃ C : Nat, g.cells = C := ⟨g.cells.toNat, by omega⟩
  have hcells : ∀ (s : Int) (j : Nat), zff g.board s (nth g.kinds j).progs = (List.range C).map fun (c : Nat) => zbw g.board s (nth g.kinds j).progs c := fun s j => by
    unfold zff
    rw [show g.board.cells.toNat = C by have : g.board.cells = g.cells := rfl; omega]
  generalize zhR g = K at *
  have heg : zac g = [.v (.int .i64 (C : Int)), zcg g.next, zap g.turn, .lst 3 (g.kinds.map zaS), .v (.int .i64 g.rights), .v (.bool g.must), .lst 4 (g.clauses.map zaZ), .v (.int .i64 g.blocked), .v (.int .i64 g.endless)] := by rw [← hC]; rfl
  rw [heg] at hF
  have hbl : ∀ n, (∀ c' ∈ zac g, Bel n c') = True := fun n => by simp [go_sem]
  have hel : (zac g).length = 9 := rfl
  repeat first|refine wV fun _=>?_|simp [go_sem, hel]
  refine zAr (zAv (α := Nat) (fun s => ⟨[(1, .ref 0 0 9 0 0), (2, .ref 1 0 2 0 0), (3, .ref 2 0 2 0 0), (9, .v (.int .i64 s))],
      [(0, .rows false 0 9 [zac g]), (1, .rows true 0 2 [[AV.v (.slice none 0 0), AV.v (.slice none 0 0)]]), (2, .rows true 0 2 [[if s = 0 then AV.v (.slice none 0 0) else za3 (zbz g 0), if s < 2 then AV.v (.slice none 0 0) else za3 (zbz g 1)]])], 3⟩)
    (fun d s => s + d = 2) ?_ 2 0 ?_) ?_ ?_
  · rintro d0 s s1 hrec
    rcases (show s = 0 ∨ s = 1 ∨ s = 2 by omega) with rfl | rfl | rfl
    · have hFs := hF 0
      have hsk := hsk 0
      have hsa := hsa 0
      have hsz := hsz 0
      have hsl := hsl 0
      have hcells := hcells 0
      repeat first|refine wV fun _=>?_|simp [go_sem, hel, hC]
      refine zAr (zAv (α := Nat) (fun j => ⟨[(1, .ref 0 0 9 0 0), (2, .ref 1 0 2 0 0), (3, .ref 2 0 2 0 0), (4, .ref 3 0 1 0 0), (9, .v (.int .i64 0)), (13, .lst 3 (g.kinds.map zaS)), (14, .v (.int .i64 g.kinds.length)), (15, .v (.int .i64 j))],
          [(0, .rows false 0 9 [zac g]), (1, .rows true 0 2 [[AV.v (.slice none 0 0), AV.v (.slice none 0 0)]]), (2, .rows true 0 2 [[.sl 4 j 1 0 j, AV.v (.slice none 0 0)]]), (3, .rows false 0 1 [[.v (.int .i64 0)]]), (4, .rows true j 1 ((K 0 j).map fun x => [zby x]))], 5⟩)
        (fun d j => j + d = g.kinds.length) ?_ g.kinds.length 0 ?_) ?_ ?_
      · rintro d j j1 hrec2
        have hlj := hsl j (by omega)
        repeat first|refine wV fun _=>?_|simp [go_sem, hel, hC, hlj]
        refine zAt (fun hj => ?_) (fun hj => ?_) <;> simp at hj
        · have hkm := zaj hj
          have hpn := hg.pn _ hkm
          have hFk := fun (c : Nat) => hFs c _ hkm
          have hsj := hsk j hj
          have hcj := hcells j
          have hlj1 := hsl (j + 1) (by omega)
          have hkp : ∀ c : Int, (nth g.kinds j).progs.flatMap (fun p => zbB g.board 0 p c) = zbw g.board 0 (nth g.kinds j).progs c := fun c => rfl
          simp only [hkp] at hFk
          generalize zbw g.board 0 (nth g.kinds j).progs = KP at *
          repeat first|refine wV fun _=>?_|simp [go_sem, hel, hC, hj]
          rw [zlk (fun (i : Nat) => [.lst 2 ((KP i).map zaq)])]
          refine zAr (zAv (α := Nat) (fun c => ⟨[(1, .ref 0 0 9 0 0), (2, .ref 1 0 2 0 0), (3, .ref 2 0 2 0 0), (4, .ref 3 0 1 0 0), (6, .ref 5 0 3 0 0), (7, .sl 6 0 1 0 C), (9, .v (.int .i64 0)), (13, .lst 3 (g.kinds.map zaS)), (14, .v (.int .i64 g.kinds.length)), (15, .v (.int .i64 j)), (24, .v (.int .i64 C)), (25, .v (.int .i64 c))],
              [(0, .rows false 0 9 [zac g]), (1, .rows true 0 2 [[AV.v (.slice none 0 0), AV.v (.slice none 0 0)]]), (2, .rows true 0 2 [[.sl 4 j 1 0 j, AV.v (.slice none 0 0)]]), (3, .rows false 0 1 [[.v (.int .i64 0)]]), (4, .rows true j 1 ((K 0 j).map fun x => [zby x])),
               (5, .rows true 0 3 [zaS (nth g.kinds j)]), (6, .rows true 0 1 (zhz (fun (i : Nat) => [.lst 2 ((KP i).map zaq)]) [AV.v (.slice none 0 0)] C c))], 7⟩)
            (fun d c => c + d = C) ?_ C 0 ?_) ?_ ?_
          · rintro d2 c c1' hrec3
            have hfl := zoc (fun (i : Nat) => [.lst 2 ((KP i).map zaq)]) [AV.v (.slice none 0 0)] C c
            have hfs := zod (fun (i : Nat) => [.lst 2 ((KP i).map zaq)]) [AV.v (.slice none 0 0)] C c
            repeat first|refine wV fun _=>?_|simp [go_sem, hel, hC, hlj, hfl]
            refine zAt (fun hc => ?_) (fun hc => ?_) <;> simp at hc
            · (repeat (first|with_reducible (first|refine wL fun _=>?_|refine wD fun _=>?_|refine wE ?_)|simp [go_sem, hel, hC, hj, hfl]))
              refine znq.frz (za5 _ [7]) (zcU _ _) ?_
              simp only [zrl]
              repeat first|refine wV fun _=>?_|simp [go_sem, hel, hC, hj, hfl]
              refine zav.frz [.lst 1 ((nth g.kinds j).progs.map fun p => [zau p]), _] _ [0, 3, 7] [] (hFk c) (by simp) ?_ (by simp [go_sem]) ?_
              · intro h₁ hS
                have h0 := hS 0 (by simp)
                have h3 := hS 3 (by simp)
                have h7 := hS 7 (by simp)
                simp [upd, za5, zbb] at h0 h3 h7
                refine .cons (.refl _) (.cons (.fn .nil (.cons (.frzP h0.symm (by simp) (by simp) (by simp [zal, upd, ← h0]) (.refl _ _ _ _)) (.cons (.frzP h3.symm (by simp) (by simp) (by simp [zal, upd, ← h3]) (.refl _ _ _ _)) (.cons (.frzP h7.symm (by simp) (by simp) (by simp [zal, upd, ← h7]) (.refl _ _ _ _)) .nil)))) .nil)
              · (repeat (first|refine wV fun _=>?_|simp [go_sem, hel, hC, hj, hfl]))
                refine zAr (hrec3 (d2 - 1) (by omega) (c + 1) (by omega)) ?_ (by simp)
                simp [go_sem, zaf, hfs, hC]
                exact zgZ (fun i x hx => by simp only [List.mem_singleton] at hx; subst hx; exact of_eq_true zhp) (fun x hx => by simp only [List.mem_singleton] at hx; subst hx; exact .v _)
            · have hcC : c = C := by omega
              subst hcC
              rw [zob]
              repeat first|refine wV fun _=>?_|simp [go_sem, hel, hC, hj]
              refine zAr (hrec2 (d - 1) (by omega) (j + 1) (by omega)) ?_ (by simp)
              simp [go_sem, zaf, hsj, hcj, hC]
              (first|done|exact leX)
          · simp
          · simp [go_sem, zaf, hC]
            exact zgZ (fun i x hx => by simp only [List.mem_singleton] at hx; subst hx; exact of_eq_true zhp) (fun x hx => by simp only [List.mem_singleton] at hx; subst hx; exact .v _)
          · simp
        · have hjl : j = g.kinds.length := by omega
          subst hjl
          rw [hsa]
          repeat first|refine wV fun _=>?_|simp [go_sem, hel, hC]
          refine zAr (hrec (d0 - 1) (by omega) (1) (by omega)) ?_ (by simp)
          have hsl' : (zbz g 0).length = g.kinds.length := by simp [zbz]
          simp [go_sem, zaf, hC]
          ((try simp only [zau, zaA, zaQ, zbj, zaq, zbe, zay, zan, zad, zbI, za0, zaN, zap, zac, List.map_cons, List.map_nil, List.nil_append, List.append_nil, List.cons_append]); (repeat (first | (with_reducible first|exact zam.nil|exact zai.nil|exact LeV.refl _|exact zam.refl _ _ _ _|exact zai.refl _|refine zam.cons ?_ ?_|refine zai.cons ?_ ?_|refine LeV.agg ?_|refine LeV.tup ?_|refine LeV.fn ?_ ?_|exact LeV.nil _|refine zak (zai.refl _) ?_) | ((refine zas rfl (by simp [hsl']) (by simp [za5, zbb, upd, noH]) ?_); (first | (simp [go_sem, hsl']; done) | (simp [go_sem, hsl']; exact List.take_of_length_le (by simp [hsl'])))) | ((refine LeV.frz rfl (by simp [hsl']) (by simp [za5, zbb, upd, noH]) ?_); (simp only [List.drop_zero, List.take_succ_cons, List.take_zero, List.map_cons, List.map_nil])) | ((refine LeV.frzP rfl (by simp [hsl']) (by simp) (by simp [za5, zbb, upd, noH]) ?_); (simp only [zaP, List.drop_zero])))))
      · simp
      · simp [go_sem, zaf, hsz, hC]
      · simp
    · have hFs := hF 1
      have hsk := hsk 1
      have hsa := hsa 1
      have hsz := hsz 1
      have hsl := hsl 1
      have hcells := hcells 1
      repeat first|refine wV fun _=>?_|simp [go_sem, hel, hC]
      refine zAr (zAv (α := Nat) (fun j => ⟨[(1, .ref 0 0 9 0 0), (2, .ref 1 0 2 0 0), (3, .ref 2 0 2 0 0), (4, .ref 3 0 1 0 0), (9, .v (.int .i64 1)), (13, .lst 3 (g.kinds.map zaS)), (14, .v (.int .i64 g.kinds.length)), (15, .v (.int .i64 j))],
          [(0, .rows false 0 9 [zac g]), (1, .rows true 0 2 [[AV.v (.slice none 0 0), AV.v (.slice none 0 0)]]), (2, .rows true 0 2 [[za3 (zbz g 0), .sl 4 j 1 0 j]]), (3, .rows false 0 1 [[.v (.int .i64 1)]]), (4, .rows true j 1 ((K 1 j).map fun x => [zby x]))], 5⟩)
        (fun d j => j + d = g.kinds.length) ?_ g.kinds.length 0 ?_) ?_ ?_
      · rintro d j j1 hrec2
        have hlj := hsl j (by omega)
        repeat first|refine wV fun _=>?_|simp [go_sem, hel, hC, hlj]
        refine zAt (fun hj => ?_) (fun hj => ?_) <;> simp at hj
        · have hkm := zaj hj
          have hpn := hg.pn _ hkm
          have hFk := fun (c : Nat) => hFs c _ hkm
          have hsj := hsk j hj
          have hcj := hcells j
          have hlj1 := hsl (j + 1) (by omega)
          have hkp : ∀ c : Int, (nth g.kinds j).progs.flatMap (fun p => zbB g.board 1 p c) = zbw g.board 1 (nth g.kinds j).progs c := fun c => rfl
          simp only [hkp] at hFk
          generalize zbw g.board 1 (nth g.kinds j).progs = KP at *
          repeat first|refine wV fun _=>?_|simp [go_sem, hel, hC, hj]
          rw [zlk (fun (i : Nat) => [.lst 2 ((KP i).map zaq)])]
          refine zAr (zAv (α := Nat) (fun c => ⟨[(1, .ref 0 0 9 0 0), (2, .ref 1 0 2 0 0), (3, .ref 2 0 2 0 0), (4, .ref 3 0 1 0 0), (6, .ref 5 0 3 0 0), (7, .sl 6 0 1 0 C), (9, .v (.int .i64 1)), (13, .lst 3 (g.kinds.map zaS)), (14, .v (.int .i64 g.kinds.length)), (15, .v (.int .i64 j)), (24, .v (.int .i64 C)), (25, .v (.int .i64 c))],
              [(0, .rows false 0 9 [zac g]), (1, .rows true 0 2 [[AV.v (.slice none 0 0), AV.v (.slice none 0 0)]]), (2, .rows true 0 2 [[za3 (zbz g 0), .sl 4 j 1 0 j]]), (3, .rows false 0 1 [[.v (.int .i64 1)]]), (4, .rows true j 1 ((K 1 j).map fun x => [zby x])),
               (5, .rows true 0 3 [zaS (nth g.kinds j)]), (6, .rows true 0 1 (zhz (fun (i : Nat) => [.lst 2 ((KP i).map zaq)]) [AV.v (.slice none 0 0)] C c))], 7⟩)
            (fun d c => c + d = C) ?_ C 0 ?_) ?_ ?_
          · rintro d2 c c1' hrec3
            have hfl := zoc (fun (i : Nat) => [.lst 2 ((KP i).map zaq)]) [AV.v (.slice none 0 0)] C c
            have hfs := zod (fun (i : Nat) => [.lst 2 ((KP i).map zaq)]) [AV.v (.slice none 0 0)] C c
            repeat first|refine wV fun _=>?_|simp [go_sem, hel, hC, hlj, hfl]
            refine zAt (fun hc => ?_) (fun hc => ?_) <;> simp at hc
            · (repeat (first|with_reducible (first|refine wL fun _=>?_|refine wD fun _=>?_|refine wE ?_)|simp [go_sem, hel, hC, hj, hfl]))
              refine znq.frz (za5 _ [7]) (zcU _ _) ?_
              simp only [zrl]
              repeat first|refine wV fun _=>?_|simp [go_sem, hel, hC, hj, hfl]
              refine zav.frz [.lst 1 ((nth g.kinds j).progs.map fun p => [zau p]), _] _ [0, 3, 7] [] (hFk c) (by simp) ?_ (by simp [go_sem]) ?_
              · intro h₁ hS
                have h0 := hS 0 (by simp)
                have h3 := hS 3 (by simp)
                have h7 := hS 7 (by simp)
                simp [upd, za5, zbb] at h0 h3 h7
                refine .cons (.refl _) (.cons (.fn .nil (.cons (.frzP h0.symm (by simp) (by simp) (by simp [zal, upd, ← h0]) (.refl _ _ _ _)) (.cons (.frzP h3.symm (by simp) (by simp) (by simp [zal, upd, ← h3]) (.refl _ _ _ _)) (.cons (.frzP h7.symm (by simp) (by simp) (by simp [zal, upd, ← h7]) (.refl _ _ _ _)) .nil)))) .nil)
              · (repeat (first|refine wV fun _=>?_|simp [go_sem, hel, hC, hj, hfl]))
                refine zAr (hrec3 (d2 - 1) (by omega) (c + 1) (by omega)) ?_ (by simp)
                simp [go_sem, zaf, hfs, hC]
                exact zgZ (fun i x hx => by simp only [List.mem_singleton] at hx; subst hx; exact of_eq_true zhp) (fun x hx => by simp only [List.mem_singleton] at hx; subst hx; exact .v _)
            · have hcC : c = C := by omega
              subst hcC
              rw [zob]
              repeat first|refine wV fun _=>?_|simp [go_sem, hel, hC, hj]
              refine zAr (hrec2 (d - 1) (by omega) (j + 1) (by omega)) ?_ (by simp)
              simp [go_sem, zaf, hsj, hcj, hC]
              (first|done|exact leX)
          · simp
          · simp [go_sem, zaf, hC]
            exact zgZ (fun i x hx => by simp only [List.mem_singleton] at hx; subst hx; exact of_eq_true zhp) (fun x hx => by simp only [List.mem_singleton] at hx; subst hx; exact .v _)
          · simp
        · have hjl : j = g.kinds.length := by omega
          subst hjl
          rw [hsa]
          repeat first|refine wV fun _=>?_|simp [go_sem, hel, hC]
          refine zAr (hrec (d0 - 1) (by omega) (2) (by omega)) ?_ (by simp)
          have hsl' : (zbz g 1).length = g.kinds.length := by simp [zbz]
          simp [go_sem, zaf, hC]
          ((try simp only [zau, zaA, zaQ, zbj, zaq, zbe, zay, zan, zad, zbI, za0, zaN, zap, zac, List.map_cons, List.map_nil, List.nil_append, List.append_nil, List.cons_append]); (repeat (first | (with_reducible first|exact zam.nil|exact zai.nil|exact LeV.refl _|exact zam.refl _ _ _ _|exact zai.refl _|refine zam.cons ?_ ?_|refine zai.cons ?_ ?_|refine LeV.agg ?_|refine LeV.tup ?_|refine LeV.fn ?_ ?_|exact LeV.nil _|refine zak (zai.refl _) ?_) | ((refine zas rfl (by simp [hsl']) (by simp [za5, zbb, upd, noH]) ?_); (first | (simp [go_sem, hsl']; done) | (simp [go_sem, hsl']; exact List.take_of_length_le (by simp [hsl'])))) | ((refine LeV.frz rfl (by simp [hsl']) (by simp [za5, zbb, upd, noH]) ?_); (simp only [List.drop_zero, List.take_succ_cons, List.take_zero, List.map_cons, List.map_nil])) | ((refine LeV.frzP rfl (by simp [hsl']) (by simp) (by simp [za5, zbb, upd, noH]) ?_); (simp only [zaP, List.drop_zero])))))
      · simp
      · simp [go_sem, zaf, hsz, hC]
      · simp
    · (repeat (first|refine wV fun _=>?_|simp [go_sem]))
  · simp
  · simp [go_sem, zaf]
  · simp
theorem zuH {n : Nat} {l : List (Int × Int)} : (∀ r ∈ l.map zaA, ∀ c ∈ r, Bel n c) = True := by
 refine eq_true ?_
 intro r hr c hc
 obtain ⟨x, _, rfl⟩ := List.mem_map.1 hr
 revert c
 simp [go_sem]
attribute [go_sem ↓] zuH
theorem zms (l : List (List zaV)) {i : Nat} (h : i < l.length) : zcD (l.drop i) = (nth l i).length + zcD (l.drop (i + 1)) := by
 unfold zcD
 rw [zaH h, List.map_cons, List.sum_cons]
theorem znQ (l : List (List (List zaV))) {i : Nat} (h : i < l.length) : zbS (l.drop i) = zcD (nth l i) + zbS (l.drop (i + 1)) := by
 unfold zbS
 rw [zaH h, List.map_cons, List.sum_cons]
structure zl9 (g : zae) (c : zl0) : Prop where
 l1 : c.1.length = g.kinds.length
 l2 : c.2.length = g.kinds.length
 c1 : ∀ x ∈ c.1, (x.length : Int) = g.cells
 c2 : ∀ x ∈ c.2, (x.length : Int) = g.cells
theorem zl9.side {g : zae} {c : zl0} (h : zl9 g c) {s : Nat} (hs : s < 2) : ∃ l, cel [za3 c.1, za3 c.2] s = za3 l ∧ l.length = g.kinds.length ∧ ∀ x ∈ l, (x.length : Int) = g.cells := by
 rcases (show s = 0 ∨ s = 1 by omega) with rfl | rfl
 ·exact ⟨_, rfl, h.l1, h.c1⟩
 ·exact ⟨_, rfl, h.l2, h.c2⟩
theorem zqF {g : zae} (hg : GOk g) : zl9 g (zbE g) := by
 have h : ∀ s, ∀ x ∈ zbz g s, (x.length : Int) = g.cells := by
  intro s x hx
  obtain ⟨k, _, rfl⟩ := List.mem_map.1 hx
  have : g.board.cells = g.cells := rfl
  have := hg.c1
  simp [zff]
  omega
 exact ⟨by simp [zbE, zbz], by simp [zbE, zbz], h 0, h 1⟩
theorem zoT (g : zae) (s : Int) {k c : Nat} (hk : k < g.kinds.length) (hc : c < g.cells.toNat) : nth (nth (zbz g s) k) c = zbw g.board s (nth g.kinds k).progs c := by
 unfold zbz
 rw [zbl _ _ _ hk]
 have hc' : c < (List.range g.board.cells.toNat).length := by rw [List.length_range]; exact hc
 show nth ((List.range g.board.cells.toNat).map fun (c : Nat) => zbw g.board s (nth g.kinds k).progs c) c = _
 rw [zbl _ _ _ hc', zaC _ _ hc', List.getElem_range]
structure FitC (g : zae) (c : zl0) : Prop where
 sh : zl9 g c
 len : ∀ l ∈ c.1 ++ c.2, ∀ x ∈ l, x.length ≤ 1099511627776 ∧ zhV 1048576 x
theorem zjB {g : zae} (hg : GOk g) : FitC g (zbE g) := by
 refine ⟨zqF hg, ?_⟩
 have h : ∀ s, ∀ l ∈ zbz g s, ∀ x ∈ l, x.length ≤ 1099511627776 ∧ zhV 1048576 x := by
  intro s l hl x hx
  obtain ⟨k, hk, rfl⟩ := List.mem_map.1 hl
  obtain ⟨c, _, rfl⟩ := List.mem_map.1 hx
  exact ⟨by have := zfs hg s hk (c : Nat); omega, zhD hg s hk _⟩
 intro l hl
 rcases List.mem_append.1 hl with hl | hl
 ·exact h 0 l hl
 ·exact h 1 l hl
theorem FitC.side {g : zae} {c : zl0} (h : FitC g c) {s : Nat} (hs : s < 2) : ∃ l, cel [za3 c.1, za3 c.2] s = za3 l ∧ l.length = g.kinds.length ∧ (∀ x ∈ l, (x.length : Int) = g.cells) ∧ ∀ x ∈ l, ∀ y ∈ x, y.length ≤ 1099511627776 ∧ zhV 1048576 y := by
 rcases (show s = 0 ∨ s = 1 by omega) with rfl | rfl
 ·exact ⟨_, rfl, h.sh.l1, h.sh.c1, fun x hx => h.len x (by simp [hx])⟩
 ·exact ⟨_, rfl, h.sh.l2, h.sh.c2, fun x hx => h.len x (by simp [hx])⟩
theorem ztb (d e k r : Int) (i : Nat) : zaB (nth (zo1 d e k r) i) 2 ≤ 1 := by
 rcases Nat.lt_or_ge i 16 with h | h
 ·have : ∀ p ∈ zo1 d e k r, zaB p 2 ≤ 1 := by
   intro p hp
   simp only [zo1, List.mem_cons, List.not_mem_nil, or_false] at hp
   rcases hp with rfl | rfl | rfl | rfl | rfl | rfl | rfl | rfl | rfl | rfl | rfl | rfl | rfl | rfl | rfl | rfl <;> simp [zaB]
  exact this _ (zaj h)
 ·have e : nth (zo1 d e k r) i = [] := by
   unfold nth
   rw [List.getD_eq_getElem?_getD, List.getElem?_eq_none (by exact h)]; rfl
  rw [e]
  simp [zaB]
theorem zsY {dirs kinds rights : Int} {p : List (Int × Int)} (h : zaB p 2 ≤ 1) : zaB (zyI dirs kinds rights p) 2 ≤ 1 := by
 unfold zyI
 split
 ·simp [zaB]
 ·exact Nat.le_trans (zfp 2 p) h
theorem zeQ (x : zis) : zbm (zhF x) := by
 intro k hk p hp
 obtain ⟨i, _, rfl⟩ := List.mem_map.1 hk
 obtain ⟨n, _, rfl⟩ := List.mem_map.1 hp
 exact zsY (ztb _ _ _ _ _)
def znM (n : Nat) : AV := .fn (.func 202) [] [.ref (n + 1) 0 2 0 0, .ref (n + 3) 0 1 0 0, .ref (n + 2) 0 5 0 0, .ref n 0 9 0 0]
theorem zsK (g : zae) (c : zl0) (p : zah) (hs : p.side = 0 ∨ p.side = 1) : zgi Tryz.prog 152 [.agg (zac g), .agg (zbg c), .agg (zad p)] znM (fun n => [(n, .rows true 0 9 [zac g]), (n + 1, .rows true 0 2 [zbg c]), (n + 2, .rows true 0 5 [zad p]), (n + 3, .rows true 0 1 [[.v (.int .i64 (1 - p.side))]])]) 4 := by
 refine ⟨?_, fun n => ⟨by simp [go_sem, znM], by simp [go_sem]⟩⟩
 refine zAw (by kernel_rfl) Tryz.func152 rfl rfl (Nat.le_of_ble_eq_true rfl) (by kernel_rfl) ?_
 repeat first|refine wV fun _=>?_|simp [go_sem, znM]
 simp [go_sem, zaf]

def cKd (g : zae) (sd : Int) (p : zah) (k : Nat) : List zah := ((List.range g.kinds.length).drop k).flatMap (fun (k : Nat) => (List.range g.cells.toNat).flatMap fun (c : Nat) => (zbw g.board sd (nth g.kinds k).progs c).flatMap (zfe g sd p k c)) ++ zgo g sd p
def cCl (g : zae) (sd : Int) (p : zah) (k c : Nat) : List zah := ((List.range g.cells.toNat).drop c).flatMap (fun (c : Nat) => (zbw g.board sd (nth g.kinds k).progs c).flatMap (zfe g sd p k c)) ++ cKd g sd p (k + 1)
def cPt (g : zae) (sd : Int) (p : zah) (k c i : Nat) : List zah := ((zbw g.board sd (nth g.kinds k).progs c).drop i).flatMap (zfe g sd p k c) ++ cCl g sd p k (c + 1)
theorem zgq {n j : Nat} (h : j < n) : (List.range n).drop j = j :: (List.range n).drop (j + 1) := by
 rw [List.drop_eq_getElem_cons (by simpa using h)]; simp
theorem zyD {g : zae} {sd : Int} {p : zah} {k : Nat} (h : k < g.kinds.length) : cKd g sd p k = cCl g sd p k 0 := by
 unfold cCl cKd
 rw [zgq h, List.flatMap_cons, List.append_assoc]
 rfl
theorem zuR {g : zae} {sd : Int} {p : zah} : cKd g sd p g.kinds.length = zgo g sd p := by
 unfold cKd
 rw [List.drop_eq_nil_of_le (by simp)]
 rfl
theorem zyC {g : zae} {sd : Int} {p : zah} {k c : Nat} (h : c < g.cells.toNat) : cCl g sd p k c = cPt g sd p k c 0 := by
 unfold cPt cCl
 rw [zgq h, List.flatMap_cons, List.append_assoc]
 rfl
theorem zuQ {g : zae} {sd : Int} {p : zah} {k : Nat} : cCl g sd p k g.cells.toNat = cKd g sd p (k + 1) := by
 unfold cCl
 rw [List.drop_eq_nil_of_le (by simp)]
 rfl
theorem zyE {g : zae} {sd : Int} {p : zah} {k c i : Nat} (h : i < (zbw g.board sd (nth g.kinds k).progs c).length) : cPt g sd p k c i = zfe g sd p k c (nth (zbw g.board sd (nth g.kinds k).progs c) i) ++ cPt g sd p k c (i + 1) := by
 unfold cPt
 rw [List.drop_eq_getElem_cons h, ← zaC _ _ h, List.flatMap_cons, List.append_assoc]
theorem zuS {g : zae} {sd : Int} {p : zah} {k c : Nat} : cPt g sd p k c (zbw g.board sd (nth g.kinds k).progs c).length = cCl g sd p k (c + 1) := by
 unfold cPt
 rw [List.drop_eq_nil_of_le (Nat.le_refl _)]
 rfl
def cDr (g : zae) (sd : Int) (p : zah) (c : Nat) : List zah := (((List.range p.at_.length).drop c).filter fun c => decide ((zao (nth p.at_ c)).2 = sd) && (nth g.kinds (zao (nth p.at_ c)).1.toNat).keep).map (ziw sd p)
theorem zxn (g : zae) (sd : Int) (p : zah) : cDr g sd p 0 = zgo g sd p := rfl
theorem cDr_go {g : zae} {sd : Int} {p : zah} {c : Nat} (h : c < p.at_.length) : cDr g sd p c = if (zao (nth p.at_ c)).2 = sd ∧ (nth g.kinds (zao (nth p.at_ c)).1.toNat).keep = true then ziw sd p c :: cDr g sd p (c + 1) else cDr g sd p (c + 1) := by
 unfold cDr
 rw [zgq h, List.filter_cons]
 by_cases h1 : (zao (nth p.at_ c)).2 = sd ∧ (nth g.kinds (zao (nth p.at_ c)).1.toNat).keep = true
 ·rw [if_pos h1, if_pos (by simp [h1.1, h1.2])]
  rfl
 ·rw [if_neg h1, if_neg (by
   intro h2
   rw [Bool.and_eq_true, decide_eq_true_eq] at h2
   exact h1 h2)]
theorem zzy (g : zae) (sd : Int) (p : zah) : cDr g sd p p.at_.length = [] := by
 unfold cDr
 rw [List.drop_eq_nil_of_le (by simp)]
 rfl
theorem zuU (g : zae) (hg : GOk g) (p : zah) (hp : POk g p) (sd : Int) (hsd : sd = 0 ∨ sd = 1) :
  znb Tryz.prog 202 [.fp (zbg (zbE g)), .fp [.v (.int .i64 sd)], .fp (zad p), .fp (zac g)] 0 ((zeG g sd p ++ zgo g sd p).map zcu) := by
 refine zAM (by kernel_rfl) Tryz.func202 rfl rfl (Nat.le_of_ble_eq_true rfl) (by kernel_rfl) (fun l => ?_) (hm2 := by decide)
 have hgh : ∀ (n : Nat) (L : List zah), Bel n (zba l 0 (L.map zcu)) = True := fun n (L : List zah) => eq_true zuL
 have hf := hp.fits hg
 have hal := hp.al
 have c9 := hg.c9
 have c1 := hg.c1
 have k6 := hg.k6
 obtain ⟨cn, hcn⟩ : ∃ cn : Nat, cn = g.cells.toNat := ⟨_, rfl⟩
 have hF := zjB hg
 have hegl : (zac g).length = 9 := rfl
 have hegk : cel (zac g) 3 = .lst 3 (g.kinds.map zaS) := rfl
 have hegb : ∀ n, (∀ c ∈ zac g, Bel n c) = True := fun n => by simp [go_sem]
 have hcl : (zbg (zbE g)).length = 2 := rfl
 have hcs : cel ((zbg (zbE g)).drop sd.toNat) 0 = za3 (zbz g sd) := by rcases hsd with rfl | rfl <;> rfl
 have hsl : (zbz g sd).length = g.kinds.length := by
  rcases hsd with rfl | rfl
  ·exact hF.sh.l1
  ·exact hF.sh.l2
 have hz : zeG g sd p ++ zgo g sd p = cKd g sd p 0 := rfl
 rw [hz]
 have hecb : ∀ n, (∀ c ∈ zbg (zbE g), Bel n c) = True := fun n => by simp [go_sem]
 generalize zbg (zbE g) = ec at *
 obtain ⟨ck, hck⟩ : ∃ ck : Nat → List (List AV), ∀ k, ck k = (nth (zbz g sd) k).map fun y => [zbe y] := ⟨_, fun _ => rfl⟩
 have hckl : ∀ k, k < g.kinds.length → (ck k).length = cn := fun k hk => by
  rw [hck, List.length_map]
  have hm : nth (zbz g sd) k ∈ (zbE g).1 ++ (zbE g).2 := by
   have := zaj (l := zbz g sd) (i := k) (by omega)
   rcases hsd with rfl | rfl
   ·exact List.mem_append_left _ this
   ·exact List.mem_append_right _ this
  rcases List.mem_append.1 hm with h | h
  ·have := hF.sh.c1 _ h; omega
  ·have := hF.sh.c2 _ h; omega
 have hckn : ∀ k, k < g.kinds.length → ∀ c, c < cn → nth (ck k) c = [.lst 2 ((zbw g.board sd (nth g.kinds k).progs c).map zaq)] := fun k hk c hc => by
  have h1 := hckl k hk
  rw [hck, List.length_map] at h1
  rw [hck, zbl _ _ _ (by omega), zoT _ _ hk (by omega)]
  rfl
 have hckb : ∀ k n, (∀ r ∈ ck k, ∀ c ∈ r, Bel n c) = True := fun k n => eq_true fun r hr c hc => by
  rw [hck] at hr
  obtain ⟨y, _, rfl⟩ := List.mem_map.1 hr
  simp only [List.mem_singleton] at hc
  subst hc
  simp [go_sem]
 have hsn : ∀ k, k < g.kinds.length → nth ((zbz g sd).map fun x => [zby x]) k = [.lst 1 (ck k)] := fun k hk => by rw [hck]; exact zbl _ _ _ (by omega)
 have hsl2 : ((zbz g sd).map fun x => [zby x]).length = g.kinds.length := by rw [List.length_map]; exact hsl
 obtain ⟨es, hes⟩ : ∃ es, es = (zbz g sd).map fun x => [zby x] := ⟨_, rfl⟩
 have hcs' : cel (ec.drop sd.toNat) 0 = .lst 1 es := by rw [hcs, hes]; rfl
 have heb : ∀ n, (∀ r ∈ es, ∀ c ∈ r, Bel n c) = True := fun n => eq_true fun r hr c hc => by
  rw [hes] at hr
  obtain ⟨y, _, rfl⟩ := List.mem_map.1 hr
  simp only [List.mem_singleton] at hc
  subst hc
  simp [go_sem]
 rw [← hes] at hsn hsl2
 clear hcs hes hck hsl hF
 have hsd0 : 0 ≤ sd := by omega
 have hsd2 : sd < 2 := by omega
 have hsd3 : sd.toNat ≤ 2 := by omega
 repeat first|refine wV fun _=>?_|simp [go_sem, GH, hcl, hcs', hsl2]
 refine zAr (zAv (α := Nat) (fun k => ⟨[(2, .fp [.v (.int .i64 sd)]), (3, .fp (zad p)), (4, .fp (zac g)), (5, .ref 0 0 1 0 0), (24, .lst 1 es), (25, .v (.int .i64 g.kinds.length)), (26, .v (.int .i64 k)), (1000000007, zba l 0 ((cKd g sd p k).map zcu))], [(0, .rows true 0 1 [[.fn (.yield l) [] []]])], 1⟩)
  (fun d k => k + d = g.kinds.length) ?_ g.kinds.length 0 ?_) ?_ ?_
 ·rintro d k k1 hrec
  repeat first|refine wV fun _=>?_|simp [go_sem, GH, hsl2]
  refine zAt (fun hk => ?_) (fun hk => ?_) <;> simp at hk
  ·have hsnk := hsn k hk
   have hckl := hckl k hk
   have hckn := hckn k hk
   have hckb := hckb k
   generalize ck k = ce at *
   rw [zyD hk]
   repeat first|refine wV fun _=>?_|simp [go_sem, GH, hsl2, hk, hsnk, hckl]
   refine zAr (zAv (α := Nat) (fun c => ⟨[(2, .fp [.v (.int .i64 sd)]), (3, .fp (zad p)), (4, .fp (zac g)), (5, .ref 0 0 1 0 0), (6, .ref 1 0 1 0 0), (24, .lst 1 es), (25, .v (.int .i64 g.kinds.length)), (26, .v (.int .i64 k)), (31, .lst 1 ce), (32, .v (.int .i64 cn)), (33, .v (.int .i64 c)), (1000000007, zba l 0 ((cCl g sd p k c).map zcu))],
     [(0, .rows true 0 1 [[.fn (.yield l) [] []]]), (1, .rows true 0 1 [[.v (.int .i64 k)]])], 2⟩)
    (fun d c => c + d = cn) ?_ cn 0 ?_) ?_ ?_
   ·rintro d2 c c1' hrec2
    repeat first|refine wV fun _=>?_|simp [go_sem, GH, hckl]
    refine zAt (fun hc => ?_) (fun hc => ?_) <;> simp at hc
    ·have hcn2 := hckn c hc
     have hkm := zaj hk
     have hwok := zg5 hg (side := sd) hkm (cell := (c : Int)) ⟨by omega, by omega⟩
     have hlen := zfs hg sd hkm (c : Int)
     have hacl := zhD hg sd hkm (c : Int)
     have hmw : ∀ {i : Nat}, i < (zbw g.board sd (nth g.kinds k).progs c).length → nth (zbw g.board sd (nth g.kinds k).progs c) i ∈ zbw g.board sd (nth g.kinds k).progs c := fun h => zaj h
     have hpg := fun i h => zyE (g := g) (sd := sd) (p := p) (k := k) (c := c) (i := i) h
     have hpe := zuS (g := g) (sd := sd) (p := p) (k := k) (c := c)
     rw [zyC (by omega)]
     generalize zbw g.board sd (nth g.kinds k).progs c = pt at *
     repeat first|refine wV fun _=>?_|simp [go_sem, GH, hckl, hc, hcn2]
     refine zAr (zAv (α := Nat) (fun i => ⟨[(2, .fp [.v (.int .i64 sd)]), (3, .fp (zad p)), (4, .fp (zac g)), (5, .ref 0 0 1 0 0), (6, .ref 1 0 1 0 0), (8, .ref 2 0 1 0 0), (24, .lst 1 es), (25, .v (.int .i64 g.kinds.length)), (26, .v (.int .i64 k)), (31, .lst 1 ce), (32, .v (.int .i64 cn)), (33, .v (.int .i64 c)), (38, .lst 2 (pt.map zaq)), (39, .v (.int .i64 pt.length)), (40, .v (.int .i64 i)), (1000000007, zba l 0 ((cPt g sd p k c i).map zcu))],
       [(0, .rows true 0 1 [[.fn (.yield l) [] []]]), (1, .rows true 0 1 [[.v (.int .i64 k)]]), (2, .rows true 0 1 [[.v (.int .i64 c)]])], 3⟩)
      (fun d i => i + d = pt.length) ?_ pt.length 0 ?_) ?_ ?_
     ·rintro d3 i i1 hrec3
      repeat first|refine wV fun _=>?_|simp [go_sem, GH]
      refine zAt (fun hi => ?_) (fun hi => ?_) <;> simp at hi
      ·have hw := hwok _ (zaj hi)
       have hgi := zbl zaq pt i hi
       have hmw := hmw hi
       have hpg := hpg i hi
       unfold zfe at hpg
       generalize nth pt i = w at *
       obtain ⟨hw1, hw2, hw3, hw4, hw5⟩ := hw
       have hto : w.to.toNat < p.at_.length := by omega
       have hto0 := hw1.1
       have hMa := zfq (nth p.at_ w.to.toNat)
       have hal2 : w.acts.length ≤ 1048576 := by have := hacl w hmw; omega
       have hW := zey p hf w.to 0 hto0 hto
       have hlf : POk g ⟨p.at_.set w.to.toNat 0, p.h0, p.h1, p.rights, sd⟩ := by
        have := hp.setAt w.to.toNat (v := 0) (by omega)
        exact ⟨this.al, this.av, this.h0, this.h1, this.r0, this.r1, hsd⟩
       generalize p.at_.set w.to.toNat 0 = A at *
       have hA : zgi Tryz.prog 204 [.agg (zac g), .agg (zad ⟨A, p.h0, p.h1, p.rights, sd⟩), zbj w.acts] (fun n => zkm n) (fun n => zkn g ⟨A, p.h0, p.h1, p.rights, sd⟩ w.acts n) 3 := zim _ _ _
       have hS := zqN g hg w.acts.length w.acts _ rfl hal2 hlf hw2
       have hro := zhj hg hsd hlf (l := w.acts.reverse) (fun a ha => hw2 a (List.mem_reverse.1 ha))
       simp only [zkm, zkn] at hA
       simp only at hS
       repeat first|refine wV fun _=>?_|simp [go_sem, GH, hi, hgi, hto, hto0]
       refine zAs hMa (by simp [go_sem]) ?_
       generalize zao (nth p.at_ w.to.toNat) = m at *
       obtain ⟨m1, m2⟩ := m
       replace hpg : cPt g sd p k c i = (if m2 = sd then _ else _) ++ _ := hpg
       repeat first|refine wV fun _=>?_|simp [go_sem, GH]
       refine zAt (fun hne => ?_) (fun hne => ?_) <;> simp at hne
       ·rw [if_neg hne, List.nil_append] at hpg
        rw [hpg]
        repeat first|refine wV fun _=>?_|simp [go_sem, GH]
        refine zAr (hrec3 (d3 - 1) (by omega) (i + 1) (by omega)) ?_ (by simp)
        simp [go_sem, zaf, GH, hgh, heb, hckb]
       ·subst hne
        rw [if_pos rfl] at hpg
        obtain ⟨fF, hfF⟩ : ∃ fF : List zah → List zah, ∀ ys, fF ys = ((ys.filter fun q => decide (nth q.at_ c = 0)).map fun q => { q with at_ := q.at_.set c (zaF k m2) }) ++ cPt g m2 p k c (i + 1) := ⟨_, fun _ => rfl⟩
        rw [← hfF] at hpg
        rw [hpg]
        repeat first|refine wV fun _=>?_|simp [go_sem, GH, hto0]
        refine zAs hW (by simp [go_sem]) ?_
        repeat first|refine wV fun _=>?_|simp [go_sem, GH]
        refine zAx hA (by simp [go_sem]) ?_
        repeat first|refine wV fun _=>?_|simp [go_sem, GH]
        refine zeh.mk [.fp [zbj w.acts], .fp (zad ⟨A, p.h0, p.h1, p.rights, m2⟩), .fp (zac g)] (za5 _ [5, 6, 7]) hS (zcU _ _) ?_ (by simp [go_sem]) (fun xs hx => by obtain ⟨y, _, rfl⟩ := List.mem_map.1 hx; rfl) ?_
        ·refine zam.cons (.frzP rfl ?_ ?_ ?_ ?_) (zam.cons (.frzP rfl ?_ ?_ ?_ ?_) (zam.cons (.frzP rfl ?_ ?_ ?_ ?_) .nil)) <;> first | exact zam.refl _ _ _ _ | (simp [za5, zbb, upd]; done)
        generalize zcx g m2 ⟨A, p.h0, p.h1, p.rights, m2⟩ w.acts.reverse = ys at *
        clear hS
        refine Fgt.to (zAK (α := List zah) (fun ys => ([(2, .fp [.v (.int .i64 m2)]), (3, .fp (zad p)), (4, .fp (zac g)), (5, .ref 0 0 1 0 0), (6, .ref 1 0 1 0 0), (8, .ref 2 0 1 0 0), (24, .lst 1 es), (25, .v (.int .i64 g.kinds.length)), (26, .v (.int .i64 k)), (31, .lst 1 ce), (32, .v (.int .i64 cn)), (33, .v (.int .i64 c)), (38, .lst 2 (pt.map zaq)), (39, .v (.int .i64 pt.length)), (40, .v (.int .i64 i)), (1000000007, zba l 0 ((fF ys).map zcu))],
          [(0, .rows true 0 1 [[.fn (.yield l) [] []]]), (1, .rows true 0 1 [[.v (.int .i64 k)]]), (2, .rows true 0 1 [[.v (.int .i64 c)]])], 3))
         (fun rows ys => rows = ys.map zcu ∧ ∀ q ∈ ys, POk g q) ?_ ?_ _ ys ⟨rfl, fun q hq => (hro q hq).1⟩) ?_ ?_
        ·rintro ys ⟨i1, i2⟩
         obtain rfl : ys = [] := by
          cases ys with
          | nil => rfl
          | cons => cases i1
         refine ⟨rfl, ?_⟩
         rw [show fF [] = cPt g m2 p k c (i + 1) from by rw [hfF]; rfl]
         repeat first|refine wV fun _=>?_|simp [go_sem, GH]
         refine zAr (hrec3 (d3 - 1) (by omega) (i + 1) (by omega)) ?_ (by simp)
         simp [go_sem, zaf, GH, hgh, heb, hckb]
        ·rintro xs rs ys ⟨i1, i2⟩ hrec4
         obtain ⟨y, ys, rfl⟩ : ∃ q t, ys = q :: t := by
          cases ys with
          | nil => cases i1
          | cons q t => exact ⟨q, t, rfl⟩
         rw [List.map_cons, List.cons.injEq] at i1
         obtain ⟨rfl, rfl⟩ := i1
         have hy := i2 y (by simp)
         have hyl := hy.al
         have hcy : c < y.at_.length := by omega
         have hCo := zdz k m2
         have hWy := zey y (hy.fits hg) c (zaF k m2) (by omega) (by rw [Int.toNat_natCast]; exact hcy)
         rw [Int.toNat_natCast] at hWy
         have hfy : fF (y :: ys) = if nth y.at_ c = 0 then { y with at_ := y.at_.set c (zaF k m2) } :: fF ys else fF ys := by
          rw [hfF, hfF, List.filter_cons]
          by_cases hz : nth y.at_ c = 0
          ·rw [if_pos hz, if_pos (by simpa using hz)]
           rfl
          ·rw [if_neg hz, if_neg (by simpa using hz)]
         obtain ⟨Y, hY⟩ : ∃ Y, Y = { y with at_ := y.at_.set c (zaF k m2) } := ⟨_, rfl⟩
         rw [← hY] at hWy hfy
         generalize zaF k m2 = cd at *
         refine zAN (Nat.zero_le _) ?_
         by_cases hz : nth y.at_ c = 0
         ·rw [if_pos hz] at hfy
          rw [hfy]
          (repeat (first|with_reducible (first|refine wL fun _=>?_|refine wD fun _=>?_|refine wE ?_)|simp [go_sem, GH, zcu]))
          refine znq.split 14 ?_
          repeat first|refine wV fun _=>?_|simp [go_sem, GH, hcy, hz]
          refine zAD (.v (.int .i64 cd)) (fun _ => hCo) (by simp [go_sem]) ?_
          repeat first|refine wV fun _=>?_|simp [go_sem, GH, hcy]
          refine zAD (.agg (zad Y)) (fun _ => hWy) (by simp [go_sem]) ?_
          repeat first|refine wV fun _=>?_|simp [go_sem, GH]
          refine aGC.yld (more := 0) (xs := zcu Y) (rs := (fF ys).map zcu) _ (by simp [upd, GH, zcu, zad, zap]) (.refl _) (.refl _ _ _ _) (by simp [go_sem, zcu]) ?_ ?_
          ·repeat first|refine wV fun _=>?_|simp [go_sem, GH]
           refine Fgt.to (hrec4 ys ⟨rfl, fun z hz => i2 z (by simp [hz])⟩) ?_ (by simp)
           simp [go_sem, zaf, GH, hgh, heb, hckb]
          ·repeat first|refine wV fun _=>?_|simp [go_sem, GH]
         ·rw [if_neg hz] at hfy
          rw [hfy]
          (repeat (first|with_reducible (first|refine wL fun _=>?_|refine wD fun _=>?_|refine wE ?_)|simp [go_sem, GH, zcu]))
          refine znq.split 14 ?_
          repeat first|refine wV fun _=>?_|simp [go_sem, GH, hcy, hz]
          refine zAD (.v (.int .i64 cd)) (fun _ => hCo) (by simp [go_sem]) ?_
          repeat first|refine wV fun _=>?_|simp [go_sem, GH, hcy]
          refine zAD (.agg (zad Y)) (fun h => by cases h) (by simp [go_sem]) ?_
          repeat first|refine wV fun _=>?_|simp [go_sem, GH]
          refine aGC.skip (.v (.bool true)) ?_
          repeat first|refine wV fun _=>?_|simp [go_sem, GH]
          refine Fgt.to (hrec4 ys ⟨rfl, fun z hz => i2 z (by simp [hz])⟩) ?_ (by simp)
          simp [go_sem, zaf, GH, hgh, heb, hckb]
        ·simp [go_sem, zaf, GH, hgh, heb, hckb]
        ·simp
      ·obtain rfl : i = pt.length := by omega
       rw [hpe]
       repeat first|refine wV fun _=>?_|simp [go_sem, GH]
       refine zAr (hrec2 (d2 - 1) (by omega) (c + 1) (by omega)) ?_ (by simp)
       simp [go_sem, zaf, GH, hgh, heb, hckb]
     ·omega
     ·simp [go_sem, zaf, GH, hgh, heb, hckb]
     ·simp
    ·obtain rfl : c = cn := by omega
     rw [hcn, zuQ]
     repeat first|refine wV fun _=>?_|simp [go_sem, GH]
     refine zAr (hrec (d - 1) (by omega) (k + 1) (by omega)) ?_ (by simp)
     simp [go_sem, zaf, GH, hgh, heb]
   ·omega
   ·simp [go_sem, zaf, GH, hgh, heb, hckb]
   ·simp
  ·obtain rfl : k = g.kinds.length := by omega
   rw [zuR, ← zxn]
   clear hrec heb hckb hckn hckl hsn hsl2 hcs'
   repeat first|refine wV fun _=>?_|simp [go_sem, GH]
   refine zAr (zAv (α := Nat) (fun c => ⟨[(2, .fp [.v (.int .i64 sd)]), (3, .fp (zad p)), (4, .fp (zac g)), (5, .ref 0 0 1 0 0), (90, zap p.at_), (91, .v (.int .i64 p.at_.length)), (92, .v (.int .i64 c)), (1000000007, zba l 0 ((cDr g sd p c).map zcu))], [(0, .rows true 0 1 [[.fn (.yield l) [] []]])], 1⟩)
    (fun d c => c + d = p.at_.length) ?_ p.at_.length 0 ?_) ?_ ?_
   ·rintro d c c1' hrec
    repeat first|refine wV fun _=>?_|simp [go_sem, GH]
    refine zAt (fun hc => ?_) (fun hc => ?_) <;> simp at hc
    ·have hgo := cDr_go (g := g) (sd := sd) (p := p) hc
     have hv := hp.at (i := c) (by omega)
     have hman := zaR hv.1 hv.2 k6
     have hMa := zfq (nth p.at_ c)
     have hW := zey p hf c 0 (by omega) (by rw [Int.toNat_natCast]; exact hc)
     rw [Int.toNat_natCast] at hW
     have hlp : ziw sd p c = { (({ p with at_ := p.at_.set c 0 } : zah).withHand sd ((p.hand sd).set (zao (nth p.at_ c)).1.toNat (nth (p.hand sd) (zao (nth p.at_ c)).1.toNat + 1))) with side := sd } := by
      rcases hsd with rfl | rfl <;> rfl
     rw [hlp] at hgo
     clear hlp
     have hfA : zaU { p with at_ := p.at_.set c 0 } := ⟨by simpa [ze5] using hf.1, hf.2⟩
     have hCt := fun (kd : Int) h0 h1 h2 => zlg { p with at_ := p.at_.set c 0 } hfA sd kd 1 hsd h0 h1 h2
     generalize p.at_.set c 0 = A at *
     generalize zao (nth p.at_ c) = m at *
     obtain ⟨m1, m2⟩ := m
     repeat first|refine wV fun _=>?_|simp [go_sem, GH, hc]
     refine zAs hMa (by simp [go_sem]) ?_
     replace hgo : cDr g sd p c = if m2 = sd ∧ (nth g.kinds m1.toNat).keep = true then _ else _ := hgo
     by_cases hms : m2 = sd
     ·subst hms
      simp only [Prod.mk.injEq] at hman
      obtain ⟨hm0, hmk⟩ : 0 ≤ m1 ∧ m1 < g.kinds.length := by omega
      have hmk' : m1.toNat < g.kinds.length := by omega
      have hgk : nth (g.kinds.map zaS) m1.toNat = zaS (nth g.kinds m1.toNat) := zbl _ _ _ hmk'
      by_cases hkp : (nth g.kinds m1.toNat).keep = true
      ·rw [if_pos ⟨rfl, hkp⟩] at hgo
       have hhl := (hp.hand m2).len
       have hhv := (hp.hand m2).v m1.toNat (by omega)
       have hCt := hCt m1 hm0 (by show m1.toNat < (p.hand m2).length; omega) (by
        show -1000 ≤ nth (p.hand m2) m1.toNat + 1 ∧ nth (p.hand m2) m1.toNat + 1 ≤ 1000
        omega)
       obtain ⟨Q, hQ⟩ : ∃ Q, Q = (⟨A, p.h0, p.h1, p.rights, p.side⟩ : zah).withHand m2 ((p.hand m2).set m1.toNat (nth (p.hand m2) m1.toNat + 1)) := ⟨_, rfl⟩
       rw [← hQ] at hgo
       replace hCt : zaL Tryz.prog 205 [.agg (zad ⟨A, p.h0, p.h1, p.rights, p.side⟩), .v (.int .i64 m2), .v (.int .i64 m1), .v (.int .i64 1)] (.agg (zad Q)) := by rw [hQ]; exact hCt
       rw [hgo]
       repeat first|refine wV fun _=>?_|simp [go_sem, GH, hm0, hmk', hgk, hkp]
       refine zAu hW (by simp [go_sem]) ?_
       repeat first|refine wV fun _=>?_|simp [go_sem, GH]
       refine zAu hCt (by simp [go_sem]) ?_
       repeat first|refine wV fun _=>?_|simp [go_sem, GH]
       refine zr8.mk (more := 0) (xs := zcu { Q with side := m2 }) (rs := (cDr g m2 p (c + 1)).map zcu) _ (by simp [upd, GH]) (.refl _) (.refl _ _ _ _) (by simp [go_sem, zcu]) ?_ ?_
       ·repeat first|refine wV fun _=>?_|simp [go_sem, GH]
        refine zAr (hrec (d - 1) (by omega) (c + 1) (by omega)) ?_ (by simp)
        simp [go_sem, zaf, GH, hgh]
       ·repeat first|refine wV fun _=>?_|simp [go_sem, GH]
      ·rw [if_neg (fun h => hkp h.2)] at hgo
       rw [hgo]
       repeat first|refine wV fun _=>?_|simp [go_sem, GH, hm0, hmk', hgk, hkp]
       refine zAr (hrec (d - 1) (by omega) (c + 1) (by omega)) ?_ (by simp)
       simp [go_sem, zaf, GH, hgh]
     ·rw [if_neg (fun h => hms h.1)] at hgo
      rw [hgo]
      simp only [Prod.mk.injEq] at hman
      have hmk' : m1.toNat < g.kinds.length := by have := hg.k1; omega
      have hgk : nth (g.kinds.map zaS) m1.toNat = zaS (nth g.kinds m1.toNat) := zbl _ _ _ hmk'
      repeat first|refine wV fun _=>?_|simp [go_sem, GH, hms, hgk]
      refine zAr (hrec (d - 1) (by omega) (c + 1) (by omega)) ?_ (by simp)
      simp [go_sem, zaf, GH, hgh]
    ·obtain rfl : c = p.at_.length := by omega
     rw [zzy]
     repeat first|refine wV fun _=>?_|simp [go_sem, GH]
   ·omega
   ·simp [go_sem, zaf, GH, hgh]
   ·simp
 ·omega
 ·simp [go_sem, zaf, GH, hgh, heb]
 ·simp
theorem zrP (p : zaV) (more : List zcq) (to : Int) (hp : p.acts.length ≤ 1048576) (hm : more.length ≤ 1048576) : zgi Tryz.prog 207 [.agg (zaq p), zbj more, .v (.int .i64 to)]
  (fun n => .agg [.sl (n + 2) 2 3 0 (p.acts.length + more.length), .v (.int .i64 to)]) (fun n => [(n + 2, .rows true 2 3 ((p.acts ++ more).map zaQ))]) 3 := by
 refine ⟨zAw (by kernel_rfl) Tryz.func207 rfl rfl (Nat.le_of_ble_eq_true rfl) (by kernel_rfl) ?_, fun n => ⟨by simp [go_sem], by simp [go_sem]⟩⟩
 obtain ⟨acts, t⟩ := p
 simp only at hp
 repeat first|refine wV fun _=>?_|simp [go_sem]
 simp [go_sem, zaf]
theorem zrQ (p : zaV) (more : List zcq) (to : Int) (hp : p.acts.length ≤ 1048576) (hm : more.length ≤ 1048576) : zaL Tryz.prog 207 [.agg (zaq p), zbj more, .v (.int .i64 to)] (.agg (zaq (onP p to more))) := by
 refine (zrP p more to hp hm).pure ?_ (by simp [go_sem])
 unfold onP
 (first|done|exact leX)
theorem zn8 (b : zaE) (hb : zaY b) (h9 : b.cells ≤ 9) (side : Int) (p : zaV) (hp : p.acts.length ≤ 1000000) (x : Int × Int) (hx : 1 ≤ x.1 ∧ x.1 ≤ 10) :
  zaL Tryz.prog 156 [.agg (zcZ b), .v (.int .i64 side), .agg (zaq p), .agg (zaA x)] (zbe (ziJ b side p x)) := by
 refine pF Tryz.func156 ?_
 have hT := zgK b hb side x.2 p.to
 have hL := zi0 b hb side x.2 p.to
 have hwg : ∀ to, zaL Tryz.prog 207 [.agg (zaq p), zbj [], .v (.int .i64 to)] (.agg (zaq (onP p to []))) := fun to => zrQ p [] to (by omega) (by simp)
 have hw1 : ∀ to a, zaL Tryz.prog 207 [.agg (zaq p), zbj [a], .v (.int .i64 to)] (.agg (zaq (onP p to [a]))) := fun to a => zrQ p [a] to (by omega) (by simp)
 have hbl : ∀ n, (∀ c' ∈ zcZ b, Bel n c') = True := fun n => by simp [go_sem]
 have hel : (zcZ b).length = 3 := rfl
 generalize zcZ b = eb at *
 obtain ⟨op, N⟩ := x
 simp only at hx hT hL
 unfold ziJ
 simp only
 by_cases h1 : op = 1
 ·subst h1
  rw [if_pos (.inl rfl)]
  generalize toB b side N p.to = T at *
  by_cases ht : T < 0
  ·rw [if_pos ht]
   repeat first|refine wV fun _=>?_|simp [go_sem, hel]
   refine zAs hT (by simp [go_sem, hbl]) ?_
   repeat first|refine wV fun _=>?_|simp [go_sem, hel, ht]
   (first|done|exact leX)
  ·rw [if_neg ht, if_pos rfl]
   repeat first|refine wV fun _=>?_|simp [go_sem, hel]
   refine zAs hT (by simp [go_sem, hbl]) ?_
   repeat first|refine wV fun _=>?_|simp [go_sem, hel, ht]
   refine zAy [] (hwg T) (.cons (.refl _) (.cons (.nil _) (.refl _ _ _ _))) (by simp [go_sem]) ?_
   repeat first|refine wV fun _=>?_|simp [go_sem]
   (first|done|exact leX)
 by_cases h7 : op = 7
 ·subst h7
  rw [if_pos (.inr rfl)]
  generalize toB b side N p.to = T at *
  by_cases ht : T < 0
  ·rw [if_pos ht]
   repeat first|refine wV fun _=>?_|simp [go_sem, hel]
   refine zAs hT (by simp [go_sem, hbl]) ?_
   repeat first|refine wV fun _=>?_|simp [go_sem, hel, ht]
   (first|done|exact leX)
  ·rw [if_neg ht, if_neg (by omega)]
   repeat first|refine wV fun _=>?_|simp [go_sem, hel]
   refine zAs hT (by simp [go_sem, hbl]) ?_
   repeat first|refine wV fun _=>?_|simp [go_sem, hel, ht]
   refine zAy [3] (hw1 p.to (7, p.to, T)) ?_ (by simp [go_sem]) ?_
   ·(first|done|exact leX)
   repeat first|refine wV fun _=>?_|simp [go_sem]
   (first|done|exact leX)
 rw [if_neg (by omega)]
 by_cases h2 : op = 2
 ·subst h2
  rw [if_pos rfl]
  have hll : (zft b side N p.to).length ≤ 9 := by have := ziO hb (side := side) (d := N) (c := p.to); omega
  generalize zft b side N p.to = line at *
  repeat first|refine wV fun _=>?_|simp [go_sem, hel]
  refine zAs hL (by simp [go_sem, hbl]) ?_
  repeat first|refine wV fun _=>?_|simp [go_sem, hel]
  refine zAr (zAv (α := Nat × List zcq × List zaV) (fun a => ⟨[(6, .ref 1 0 2 0 0), (10, .sl 3 a.1 2 0 a.2.2.length), (11, .sl 4 a.1 3 0 a.2.1.length), (12, zap line), (13, .v (.int .i64 a.1))],
    [(1, .rows true 0 2 [zaq p]), (3, .rows true a.1 2 (a.2.2.map zaq)), (4, .rows true a.1 3 (a.2.1.map zaQ))], 5⟩)
   (fun d a => a.1 + d = line.length ∧ a.2.1.length = a.1 ∧ a.2.2.length = a.1 ∧ a.2.2 ++ zb9 p (line.drop a.1) a.2.1 = zb9 p line []) ?_ line.length (0, [], []) ?_) ?_ ?_
  ·rintro d ⟨i, passed, out⟩ ⟨i1, i2, i3, i4⟩ hrec
   simp only at i1 i2 i3 i4
   have hw := zrP p passed (nth line i) (by omega) (by omega)
   repeat first|refine wV fun _=>?_|simp [go_sem]
   refine zAt (fun hi => ?_) (fun hi => ?_) <;> simp at hi
   ·rw [zaH hi, zb9] at i4
    have hgo := hrec (d - 1) (by omega) (i + 1, passed ++ [(3, nth line i, 0)], out ++ [onP p (nth line i) passed]) ⟨by simp only; omega, by simp; omega, by simp; omega, by simp only; rw [← i4, List.append_assoc]; rfl⟩
    repeat first|refine wV fun _=>?_|simp [go_sem, hi]
    refine zA3 [4] 128 (by rfl) hw (by decide) (by simp [go_sem]) (by simp [go_sem]) ?_ (by simp [go_sem]) (by simp [go_sem]) ?_
    ·intro h₁ hh
     exact zam.cons (.refl _) (zam.cons (zas ((hh 4 (by simp)).symm.trans rfl) (by simp) (by simp [noH]) (by rw [List.drop_zero, List.take_of_length_le (by simp)])) (.refl _ _ _ _))
    ((repeat (first|with_reducible (first|refine wL fun _=>?_|refine wD fun _=>?_|refine wZ ?_)|simp [go_sem, hi])); refine zAU (by kernel_rfl) ?_)
    repeat first|refine wV fun _=>?_|simp [go_sem, hi]
    refine zAr hgo ?_ (by simp)
    simp [go_sem, zaf]
    unfold onP
    (first|done|exact rwX)
   ·rw [List.drop_eq_nil_of_le hi, zb9, List.append_nil] at i4
    rw [← i4]
    repeat first|refine wV fun _=>?_|simp [go_sem]
    (first|done|exact leX)
  ·exact ⟨by simp, rfl, rfl, rfl⟩
  ·simp [go_sem, zaf]
  ·simp
 rw [if_neg h2]
 by_cases h8 : op = 8 ∨ op = 9 ∨ op = 10
 ·rw [if_pos h8]
  rcases h8 with rfl | rfl | rfl
  ·repeat first|refine wV fun _=>?_|simp [go_sem]
   refine zAy [3] (hw1 p.to (8, N, 0)) ?_ (by simp [go_sem]) ?_
   ·(first|done|exact leX)
   repeat first|refine wV fun _=>?_|simp [go_sem]
   (first|done|exact leX)
  ·repeat first|refine wV fun _=>?_|simp [go_sem]
   refine zAy [3] (hw1 p.to (9, N, 0)) ?_ (by simp [go_sem]) ?_
   ·(first|done|exact leX)
   repeat first|refine wV fun _=>?_|simp [go_sem]
   (first|done|exact leX)
  ·repeat first|refine wV fun _=>?_|simp [go_sem]
   refine zAy [3] (hw1 p.to (10, N, 0)) ?_ (by simp [go_sem]) ?_
   ·(first|done|exact leX)
   repeat first|refine wV fun _=>?_|simp [go_sem]
   (first|done|exact leX)
 ·rw [if_neg h8]
  rcases (show op = 3 ∨ op = 4 ∨ op = 5 ∨ op = 6 by omega) with rfl | rfl | rfl | rfl
  ·repeat first|refine wV fun _=>?_|simp [go_sem]
   refine zAy [3] (hw1 p.to (3, p.to, 0)) ?_ (by simp [go_sem]) ?_
   ·(first|done|exact leX)
   repeat first|refine wV fun _=>?_|simp [go_sem]
   (first|done|exact leX)
  ·repeat first|refine wV fun _=>?_|simp [go_sem]
   refine zAy [3] (hw1 p.to (4, p.to, 0)) ?_ (by simp [go_sem]) ?_
   ·(first|done|exact leX)
   repeat first|refine wV fun _=>?_|simp [go_sem]
   (first|done|exact leX)
  ·repeat first|refine wV fun _=>?_|simp [go_sem]
   refine zAy [3] (hw1 p.to (5, p.to, 0)) ?_ (by simp [go_sem]) ?_
   ·(first|done|exact leX)
   repeat first|refine wV fun _=>?_|simp [go_sem]
   (first|done|exact leX)
  ·repeat first|refine wV fun _=>?_|simp [go_sem]
   refine zAy [3] (hw1 p.to (6, p.to, 0)) ?_ (by simp [go_sem]) ?_
   ·(first|done|exact leX)
   repeat first|refine wV fun _=>?_|simp [go_sem]
   (first|done|exact leX)
theorem zo8 (b : zaE) (hb : zaY b) (h1 : 1 ≤ b.cells) (h9 : b.cells ≤ 9) (side : Int) (prog : List (Int × Int)) (hp : prog.length ≤ 8) (hpo : ∀ x ∈ prog, 1 ≤ x.1 ∧ x.1 ≤ 10) (cell : Int) :
  zaL Tryz.prog 106 [.agg (zcZ b), .v (.int .i64 side), zau prog, .v (.int .i64 cell)] (zbe (zbB b side prog cell)) := by
 refine pF Tryz.func106 ?_
 have hR : zbB b side prog cell = zdp b side prog cell prog.length := by unfold zdp; rw [List.take_length]
 have hl := zhM hb h1 h9 side prog hp cell
 have ha := zeS hb h9 side prog cell
 have hs := fun (i : Nat) (h : i < prog.length) => zgA b side prog cell h
 have h0 : zdp b side prog cell 0 = [⟨[], cell⟩] := rfl
 have hE : ∀ p x, p.acts.length ≤ 1000000 → (1 ≤ x.1 ∧ x.1 ≤ 10) → zaL Tryz.prog 156 [.agg (zcZ b), .v (.int .i64 side), .agg (zaq p), .agg (zaA x)] (zbe (ziJ b side p x)) := fun p x hp hx => zn8 b hb h9 side p hp x hx
 have hbl : ∀ n, (∀ c' ∈ zcZ b, Bel n c') = True := fun n => by simp [go_sem]
 have hel : (zcZ b).length = 3 := rfl
 rw [hR]
 generalize zcZ b = eb at *
 generalize zdp b side prog cell = K at *
 generalize ziJ b side = X at *
 clear hR
 repeat first|refine wV fun _=>?_|simp [go_sem, hel]
 refine zAr (zAv (α := Nat) (fun i => ⟨[(1, .v (.int .i64 side)), (2, zau prog), (4, .ref 0 0 3 0 0), (9, zbe (K i)), (10, .v (.int .i64 i))], [(0, .rows true 0 3 [eb])], 1⟩)
  (fun d i => i + d = prog.length) ?_ prog.length 0 ?_) ?_ ?_
 ·rintro d i i1 hrec
  have hli := hl i
  repeat first|refine wV fun _=>?_|simp [go_sem]
  refine zAt (fun hi => ?_) (fun hi => ?_) <;> simp at hi
  ·have hai := ha i (by omega)
   have hsi := hs i hi
   have hx := hpo _ (zaj hi)
   have hl1 := hl (i + 1)
   have hgo := hrec (d - 1) (by omega) (i + 1) (by omega)
   rw [hsi] at hgo hl1
   generalize K i = now at *
   obtain ⟨R, hR⟩ : ∃ R, R = now.flatMap fun w => X w (nth prog i) := ⟨_, rfl⟩
   rw [← hR] at hgo hl1
   repeat first|refine wV fun _=>?_|simp [go_sem]
   refine zAr (zAv (α := Nat × List zaV) (fun a => ⟨[(1, .v (.int .i64 side)), (2, zau prog), (4, .ref 0 0 3 0 0), (9, zbe now), (10, .v (.int .i64 i)), (11, .sl 1 a.1 2 0 a.2.length), (12, .v (.int .i64 a.1))],
     [(0, .rows true 0 3 [eb]), (1, .rows true a.1 2 (a.2.map zaq))], 2⟩)
    (fun d a => a.1 + d = now.length ∧ a.2 ++ ((now.drop a.1).flatMap fun w => X w (nth prog i)) = R) ?_ now.length (0, []) ?_) ?_ ?_
   ·rintro d2 ⟨j, l⟩ ⟨j1, j2⟩ hrec2
    simp only at j1 j2
    repeat first|refine wV fun _=>?_|simp [go_sem]
    refine zAt (fun hj => ?_) (fun hj => ?_) <;> simp at hj
    ·have haj := hai _ (zaj hj)
     have hlR : l.length + (X (nth now j) (nth prog i)).length ≤ 43046721 := by
      rw [zaH hj] at j2
      rw [← j2] at hl1
      simp only [List.flatMap_cons, List.length_append] at hl1
      omega
     rw [zaH hj, List.flatMap_cons, ← List.append_assoc] at j2
     have hgo2 := hrec2 (d2 - 1) (by omega) (j + 1, l ++ X (nth now j) (nth prog i)) ⟨by simp only; omega, j2⟩
     have hEj := hE (nth now j) (nth prog i) (by omega) hx
     simp only [List.length_append] at hgo2
     repeat first|refine wV fun _=>?_|simp [go_sem, hel, hi, hj]
     refine zAu hEj (by simp [go_sem, hbl]) ?_
     repeat first|refine wV fun _=>?_|simp [go_sem]
     refine zAr hgo2 ?_ (by simp)
     simp [go_sem, zaf, hbl]
    ·rw [List.drop_eq_nil_of_le hj, List.flatMap_nil, List.append_nil] at j2
     subst j2
     repeat first|refine wV fun _=>?_|simp [go_sem]
     refine zAr hgo ?_ (by simp)
     simp [go_sem, zaf]
     refine ⟨?_, of_eq_true (hbl 1)⟩
     (first|done|exact leX)
   ·exact ⟨by simp, by rw [hR]; rfl⟩
   ·simp [go_sem, zaf, hbl]
   ·simp
  ·have hil : i = prog.length := by omega
   subst hil
   repeat first|refine wV fun _=>?_|simp [go_sem]
 ·simp
 ·simp [go_sem, zaf, hbl, h0]
  (first|done|exact leX)
 ·simp
theorem zo6 (c : zl0) (hc : zek c ≤ 4611686018427387904) (h1 : c.1.length ≤ 1048576) (h2 : c.2.length ≤ 1048576) (hl : ∀ x ∈ c.1 ++ c.2, x.length ≤ 1048576) :
  zaL Tryz.prog 52 [.agg (zbg c)] (.v (.int .i64 (zek c))) := by
 refine pF Tryz.func52 ?_
 obtain ⟨a, b⟩ := c
 simp only at h1 h2 hl
 have hT : zek (a, b) = zbS a + zbS b := rfl
 rw [hT] at hc ⊢
 repeat first|refine wV fun _=>?_|simp [go_sem]
 refine zAr (zAv (α := Nat × Nat) (fun x => ⟨[(1, .ref 0 0 2 0 0), (3, .v (.int .i64 x.2)), (4, .v (.int .i64 x.1))], [(0, .rows true 0 2 [[za3 a, za3 b]])], 1⟩)
  (fun d x => x.1 + d = 2 ∧ x.2 = (if x.1 = 0 then 0 else if x.1 = 1 then zbS a else zbS a + zbS b)) ?_ 2 (0, 0) ?_) ?_ ?_
 ·rintro d ⟨s, n⟩ ⟨s1, s2⟩ hrec
  simp only at s1 s2
  rcases (show s = 2 ∨ s < 2 by omega) with rfl | hs2
  ·simp at s2
   subst s2
   repeat first|refine wV fun _=>?_|simp [go_sem]
  ·obtain ⟨l, hl0, hl1, hl2, hl3⟩ : ∃ l : List (List (List zaV)), cel [za3 a, za3 b] s = za3 l ∧ l.length ≤ 1048576 ∧ (∀ x ∈ l, x.length ≤ 1048576) ∧ (if s + 1 = 0 then 0 else if s + 1 = 1 then zbS a else zbS a + zbS b) = n + zbS l := by
    rcases (show s = 0 ∨ s = 1 by omega) with rfl | rfl
    ·simp at s2
     exact ⟨a, rfl, h1, fun x hx => hl x (by simp [hx]), by simp [s2]⟩
    ·simp at s2
     exact ⟨b, rfl, h2, fun x hx => hl x (by simp [hx]), by simp [s2]⟩
   have hcap : n + zbS l ≤ 4611686018427387904 := by rw [← hl3]; split <;> (try split) <;> omega
   simp only [za3, zby, zbe] at hl0
   repeat first|refine wV fun _=>?_|simp [go_sem, hl0]
   (refine zAt (fun hT => ?_) (fun hT => by first | omega | (simp at hT; omega)); clear hT)
   repeat first|refine wV fun _=>?_|simp [go_sem, hl0]
   refine zAr (zAv (α := Nat × Nat) (fun x => ⟨[(1, .ref 0 0 2 0 0), (3, .v (.int .i64 x.2)), (4, .v (.int .i64 s)), (5, .v (.int .i64 x.1))], [(0, .rows true 0 2 [[za3 a, za3 b]])], 1⟩)
    (fun d x => x.1 + d = l.length ∧ x.2 + zbS (l.drop x.1) = n + zbS l) ?_ l.length (0, n) ?_) ?_ ?_
   ·rintro d2 ⟨j, m⟩ ⟨j1, j2⟩ hrec2
    simp only at j1 j2
    repeat first|refine wV fun _=>?_|simp [go_sem, hl0]
    refine zAt (fun hj => ?_) (fun hj => ?_) <;> simp at hj
    ·have hll := hl2 _ (zaj hj)
     rw [znQ l hj] at j2
     repeat first|refine wV fun _=>?_|simp [go_sem, hj, hl0]
     refine zAr (zAv (α := Nat × Nat) (fun x => ⟨[(1, .ref 0 0 2 0 0), (3, .v (.int .i64 x.2)), (4, .v (.int .i64 s)), (5, .v (.int .i64 j)), (6, .v (.int .i64 x.1))], [(0, .rows true 0 2 [[za3 a, za3 b]])], 1⟩)
      (fun d x => x.1 + d = (nth l j).length ∧ x.2 + zcD ((nth l j).drop x.1) = m + zcD (nth l j)) ?_ (nth l j).length (0, m) ?_) ?_ ?_
     ·rintro d3 ⟨k, q⟩ ⟨k1, k2⟩ hrec3
      simp only at k1 k2
      repeat first|refine wV fun _=>?_|simp [go_sem, hl0, hj]
      refine zAt (fun hk => ?_) (fun hk => ?_) <;> simp at hk
      ·rw [zms _ hk] at k2
       repeat first|refine wV fun _=>?_|simp [go_sem, hk, hl0, hj]
       refine zAr (hrec3 (d3 - 1) (by omega) (k + 1, q + (nth (nth l j) k).length) ⟨by simp only; omega, by simp only; omega⟩) ?_ (by simp)
       simp [go_sem, zaf]
      ·rw [List.drop_eq_nil_of_le hk] at k2
       simp [zcD] at k2
       repeat first|refine wV fun _=>?_|simp [go_sem]
       refine zAr (hrec2 (d2 - 1) (by omega) (j + 1, q) ⟨by simp only; omega, by simp only [zcD] at j2 ⊢; omega⟩) ?_ (by simp)
       simp [go_sem, zaf]
     ·exact ⟨by simp, by simp⟩
     ·simp [go_sem, zaf]
     ·simp
    ·rw [List.drop_eq_nil_of_le hj] at j2
     simp [zbS] at j2
     repeat first|refine wV fun _=>?_|simp [go_sem]
     refine zAr (hrec (d - 1) (by omega) (s + 1, m) ⟨by simp only; omega, ?_⟩) ?_ (by simp)
     ·simp only
      rw [hl3, j2]
      rfl
     ·simp [go_sem, zaf]
   ·exact ⟨by simp, by simp⟩
   ·simp [go_sem, zaf]
   ·simp
 ·exact ⟨rfl, rfl⟩
 ·simp [go_sem, zaf]
 ·simp
def zo2 (a : AV) (s : Nat) (x : AV) : List AV := if s = 0 then [x, .v (.slice none 0 0)] else [a, x]
theorem zye (a : AV) (s : Nat) (x : AV) : (zo2 a s x).length = 2 := by unfold zo2; split <;> rfl
theorem zyd (a : AV) {s : Nat} (hs : s < 2) (x : AV) : cel (zo2 a s x) s = x := by
 rcases (show s = 0 ∨ s = 1 by omega) with rfl | rfl <;> rfl
theorem zyf (a : AV) {s : Nat} (hs : s < 2) (x y : AV) : (zo2 a s x).set s y = zo2 a s y := by
 rcases (show s = 0 ∨ s = 1 by omega) with rfl | rfl <;> rfl
theorem zAc {h h' : zar} {n : Nat} {a : AV} {s : Nat} {x y : AV} (hx : LeV h h' n x y) : zam h h' n (zo2 a s x) (zo2 a s y) := by
 unfold zo2
 split
 ·exact .cons hx (.refl _ _ _ _)
 ·exact .cons (.refl _) (.cons hx .nil)
theorem zfT {n : Nat} {a : AV} {s : Nat} {x : AV} (ha : Bel n a) (hx : Bel n x) : ∀ c ∈ zo2 a s x, Bel n c := by
 unfold zo2
 split <;> intro c hc <;> simp only [List.mem_cons, List.not_mem_nil, or_false] at hc <;> rcases hc with rfl | rfl
 ·exact hx
 ·exact .v _
 ·exact ha
 ·exact hx
def zgS (b : zaE) (s : Int) (ps : List (List (Int × Int))) (c : Nat) : List (List zaV) := (List.range c).map fun (c : Nat) => zbw b s ps c
theorem zpV (b : zaE) (s : Int) (ps : List (List (Int × Int))) (c : Nat) : zgS b s ps (c + 1) = zgS b s ps c ++ [zbw b s ps c] := by simp [zgS, List.range_succ]
theorem zsL (b : zaE) (s : Int) (ps : List (List (Int × Int))) (c : Nat) : (zgS b s ps c).length = c := by simp [zgS]
def zAb (a b : AV) (s : Nat) : List AV := [if s = 0 then AV.v (.slice none 0 0) else a, if s < 2 then AV.v (.slice none 0 0) else b]
theorem zgG (g : zae) (hg : GOk g) : zaL Tryz.prog 53 [.agg (zac g)] (.agg (zbg (zbE g))) := by
 refine pF Tryz.func53 ?_
 have hc1 := hg.c1
 have hc9 := hg.c9
 have hk6 := hg.k6
 have hP : ∀ k ∈ g.kinds, ∀ p ∈ k.progs, ∀ (side c : Int), zaL Tryz.prog 106 [.agg (zcZ g.board), .v (.int .i64 side), zau p, .v (.int .i64 c)] (zbe (zbB g.board side p c)) :=
  fun k hk p hp side c => by
   have hpo := hg.pr k hk p hp
   exact zo8 g.board hg.board hg.c1 hg.c9 side p hpo.len (fun x hx => (hpo.st x hx).op) c
 have hR : zbg (zbE g) = [za3 (zbz g 0), za3 (zbz g 1)] := rfl
 rw [hR]
 clear hR
 obtain ⟨C, hC⟩ : ∃ C : Nat, g.cells = C := ⟨g.cells.toNat, by omega⟩
 have hcells : ∀ (s : Int) (j : Nat), zff g.board s (nth g.kinds j).progs = zgS g.board s (nth g.kinds j).progs C := fun s j => by
  unfold zff zgS
  rw [show g.board.cells.toNat = C by have : g.board.cells = g.cells := rfl; omega]
 have hbl : ∀ n, (∀ c' ∈ zac g, Bel n c') = True := fun n => by simp [go_sem]
 have hel : (zac g).length = 9 := rfl
 obtain ⟨eB, heB⟩ : ∃ eB, eB = zcZ g.board := ⟨_, rfl⟩
 have hg1 : (zac g).take 3 = eB := by rw [heB]; rfl
 have hg2 : cel (zac g) 3 = .lst 3 (g.kinds.map zaS) := rfl
 have hg3 : cel (zac g) 0 = .v (.int .i64 C) := by rw [← hC]; rfl
 have heBb : ∀ n, (∀ c' ∈ eB, Bel n c') = True := fun n => by rw [heB]; simp [go_sem]
 rw [← heB] at hP
 clear heB
 generalize zac g = eg at *
 obtain ⟨S0, hS0⟩ : ∃ S0, S0 = za3 (zbz g 0) := ⟨_, rfl⟩
 obtain ⟨S1, hS1⟩ : ∃ S1, S1 = za3 (zbz g 1) := ⟨_, rfl⟩
 have hSb0 : ∀ n, Bel n S0 = True := fun n => by rw [hS0]; simp [go_sem]
 have hSb1 : ∀ n, Bel n S1 = True := fun n => by rw [hS1]; simp [go_sem]
 rw [← hS0, ← hS1]
 repeat first|refine wV fun _=>?_|simp [go_sem, hel]
 refine zAr (zAv (α := Nat) (fun s => ⟨[(1, .ref 0 0 9 0 0), (2, .ref 1 0 2 0 0), (3, .ref 2 0 2 0 0), (4, .v (.int .i64 s))],
   [(0, .rows true 0 9 [eg]), (1, .rows true 0 2 [[AV.v (.slice none 0 0), AV.v (.slice none 0 0)]]), (2, .rows true 0 2 [zAb S0 S1 s])], 3⟩)
  (fun d s => s + d = 2) ?_ 2 0 ?_) ?_ ?_
 ·rintro d0 s s1 hrec
  rcases (show s = 2 ∨ s < 2 by omega) with rfl | hs2
  ·simp only [zAb]
   repeat first|refine wV fun _=>?_|simp [go_sem]
   exact ⟨of_eq_true (hSb0 0), of_eq_true (hSb1 0)⟩
  have hAS : zAb S0 S1 s = zo2 S0 s (.v (.slice none 0 0)) := by rcases (show s = 0 ∨ s = 1 by omega) with rfl | rfl <;> rfl
  rw [hAS]
  have hrl := zye S0 s
  have hrc := zyd S0 hs2
  have hrs := zyf S0 hs2
  repeat first|refine wV fun _=>?_|simp [go_sem, hel]
  (refine zAt (fun hT => ?_) (fun hT => by first | omega | (simp at hT; omega)); clear hT)
  repeat first|refine wV fun _=>?_|simp [go_sem, hel]
  refine zAr (zAv (α := Nat) (fun j => ⟨[(1, .ref 0 0 9 0 0), (2, .ref 1 0 2 0 0), (3, .ref 2 0 2 0 0), (4, .v (.int .i64 s)), (5, .v (.int .i64 j))],
    [(0, .rows true 0 9 [eg]), (1, .rows true 0 2 [[AV.v (.slice none 0 0), AV.v (.slice none 0 0)]]), (2, .rows true 0 2 [zo2 S0 s (.sl 3 j 1 0 j)]), (3, .rows true j 1 ((zhR g s j).map fun x => [zby x]))], 4⟩)
   (fun d j => j + d = g.kinds.length) ?_ g.kinds.length 0 ?_) ?_ ?_
  ·rintro d j j1 hrec2
   have hlj := zj9 g s (show j ≤ g.kinds.length by omega)
   repeat first|refine wV fun _=>?_|simp [go_sem, hel, hg2]
   refine zAt (fun hj => ?_) (fun hj => ?_) <;> simp at hj
   ·have hkm := zaj hj
    have hpn := hg.pn _ hkm
    have hPk := hP _ hkm
    have hsj := zlR g s hj
    have hcj := hcells s j
    have hlj1 := zj9 g s (show j + 1 ≤ g.kinds.length by omega)
    have hkl := zfs hg s hkm
    have hks : ∀ c : Nat, zbw g.board s (nth g.kinds j).progs c = (nth g.kinds j).progs.flatMap fun p => zbB g.board s p c := fun c => rfl
    obtain ⟨k, hk⟩ : ∃ k, k = nth g.kinds j := ⟨_, rfl⟩
    rw [← hk] at hpn hPk hsj hcj hkl hks
    rw [hcj] at hsj
    have hcs := zpV g.board s k.progs
    have hcl := zsL g.board s k.progs
    have hc0 : zgS g.board s k.progs 0 = [] := rfl
    generalize zgS g.board s k.progs = CK at *
    generalize zbw g.board s k.progs = KP at *
    repeat first|refine wV fun _=>?_|simp [go_sem, hel, hg2]
    refine zAr (zAv (α := Nat) (fun c => ⟨[(1, .ref 0 0 9 0 0), (2, .ref 1 0 2 0 0), (3, .ref 2 0 2 0 0), (4, .v (.int .i64 s)), (5, .v (.int .i64 j)), (6, .sl 4 c 1 0 c), (7, .v (.int .i64 c))],
      [(0, .rows true 0 9 [eg]), (1, .rows true 0 2 [[AV.v (.slice none 0 0), AV.v (.slice none 0 0)]]), (2, .rows true 0 2 [zo2 S0 s (.sl 3 j 1 0 j)]), (3, .rows true j 1 ((zhR g s j).map fun x => [zby x])), (4, .rows true c 1 ((CK c).map fun x => [zbe x]))], 5⟩)
     (fun d c => c + d = C) ?_ C 0 ?_) ?_ ?_
    ·rintro d2 c c1' hrec3
     have hclc := hcl c
     repeat first|refine wV fun _=>?_|simp [go_sem, hel, hg3]
     refine zAt (fun hc => ?_) (fun hc => ?_) <;> simp at hc
     ·have hklc := hkl c
      have hcsc := hcs c
      rw [hks c] at hcsc
      have hks' : ((k.progs.flatMap fun p => zbB g.board s p c)).length ≤ 8589934592 := by rw [← hks c]; exact hklc
      obtain ⟨R, hR⟩ : ∃ R, R = k.progs.flatMap fun p => zbB g.board s p c := ⟨_, rfl⟩
      rw [← hR] at hcsc hks'
      repeat first|refine wV fun _=>?_|simp [go_sem, hel]
      refine zAr (zAv (α := Nat × List zaV) (fun a => ⟨[(1, .ref 0 0 9 0 0), (2, .ref 1 0 2 0 0), (3, .ref 2 0 2 0 0), (4, .v (.int .i64 s)), (5, .v (.int .i64 j)), (6, .sl 4 c 1 0 c), (7, .v (.int .i64 c)), (8, .sl 5 a.1 2 0 a.2.length), (9, .v (.int .i64 a.1))],
        [(0, .rows true 0 9 [eg]), (1, .rows true 0 2 [[AV.v (.slice none 0 0), AV.v (.slice none 0 0)]]), (2, .rows true 0 2 [zo2 S0 s (.sl 3 j 1 0 j)]), (3, .rows true j 1 ((zhR g s j).map fun x => [zby x])), (4, .rows true c 1 ((CK c).map fun x => [zbe x])), (5, .rows true a.1 2 (a.2.map zaq))], 6⟩)
       (fun d a => a.1 + d = k.progs.length ∧ a.2 ++ ((k.progs.drop a.1).flatMap fun p => zbB g.board s p c) = R) ?_ k.progs.length (0, []) ?_) ?_ ?_
      ·rintro d3 ⟨i, l⟩ ⟨i1, i2⟩ hrec4
       simp only at i1 i2
       repeat first|refine wV fun _=>?_|simp [go_sem, hel, hg2, hj, ← hk]
       refine zAt (fun hi => ?_) (fun hi => ?_) <;> simp at hi
       ·rw [zaH hi, List.flatMap_cons, ← List.append_assoc] at i2
        have hlR : l.length + (zbB g.board s (nth k.progs i) c).length ≤ 8589934592 := by
         have := hks'
         rw [← i2] at this
         simp only [List.length_append] at this
         omega
        have hPi := hPk _ (zaj hi) s c
        have hgo := hrec4 (d3 - 1) (by omega) (i + 1, l ++ zbB g.board s (nth k.progs i) c) ⟨by simp only; omega, i2⟩
        simp only [List.length_append] at hgo
        generalize zbB g.board s (nth k.progs i) c = X at *
        repeat first|refine wV fun _=>?_|simp [go_sem, hel, hg1, hg2, hj, hi, ← hk]
        refine zAu hPi (by simp [go_sem, heBb]) ?_
        repeat first|refine wV fun _=>?_|simp [go_sem]
        refine zAr hgo ?_ (by simp)
        simp [go_sem, zaf, hbl]
        exact zfT (of_eq_true (hSb0 _)) (.sl (by omega))
       ·rw [List.drop_eq_nil_of_le hi, List.flatMap_nil, List.append_nil] at i2
        subst i2
        repeat first|refine wV fun _=>?_|simp [go_sem]
        refine zAr (hrec3 (d2 - 1) (by omega) (c + 1) (by omega)) ?_ (by simp)
        simp [go_sem, zaf, hbl, hcsc]
        refine ⟨zfT (of_eq_true (hSb0 _)) (.sl (by omega)), ?_⟩
        (first|done|exact leX)
      ·exact ⟨by simp, by rw [hR]; rfl⟩
      ·simp [go_sem, zaf, hbl]
       exact zfT (of_eq_true (hSb0 _)) (.sl (by omega))
      ·simp
     ·have hcC : c = C := by omega
      subst hcC
      repeat first|refine wV fun _=>?_|simp [go_sem, hel, hrl, hrc, hrs, hlj]
      refine zAr (hrec2 (d - 1) (by omega) (j + 1) (by omega)) ?_ (by simp)
      simp [go_sem, zaf, hbl, hsj]
      refine ⟨zfT (of_eq_true (hSb0 _)) (.sl (by omega)), ?_⟩
      ((try simp only [zau, zaA, zaQ, zbj, zaq, zbe, zay, zan, zad, zbI, za0, zaN, zap, zac, List.map_cons, List.map_nil, List.nil_append, List.append_nil, List.cons_append]); (repeat (first | (with_reducible first|exact zam.nil|exact zai.nil|exact LeV.refl _|exact zam.refl _ _ _ _|exact zai.refl _|refine zam.cons ?_ ?_|refine zai.cons ?_ ?_|refine LeV.agg ?_|refine LeV.tup ?_|refine LeV.fn ?_ ?_|exact LeV.nil _|refine zak (zai.refl _) ?_) | ((refine zas rfl (by simp [hclc]) (by simp [za5, zbb, upd, noH]) ?_); (first | (simp [go_sem, hclc]; done) | (simp [go_sem, hclc]; exact List.take_of_length_le (by simp [hclc])))) | ((refine LeV.frz rfl (by simp [hclc]) (by simp [za5, zbb, upd, noH]) ?_); (simp only [List.drop_zero, List.take_succ_cons, List.take_zero, List.map_cons, List.map_nil])) | ((refine LeV.frzP rfl (by simp [hclc]) (by simp) (by simp [za5, zbb, upd, noH]) ?_); (simp only [zaP, List.drop_zero])))))
    ·simp
    ·simp [go_sem, zaf, hbl, hc0]
     exact zfT (of_eq_true (hSb0 _)) (.sl (by omega))
    ·simp
   ·have hjk : j = g.kinds.length := by omega
    subst hjk
    rw [zoS] at *
    repeat first|refine wV fun _=>?_|simp [go_sem]
    refine zAr (hrec (d0 - 1) (by omega) (s + 1) (by omega)) ?_ (by simp)
    simp [go_sem, zaf, hbl]
    refine ⟨?_, ?_⟩
    ·rcases (show s = 0 ∨ s = 1 by omega) with rfl | rfl
     ·have hl0 : (zbz g 0).length = g.kinds.length := by simp [zbz]
      simp only [zAb, zo2, hS0, za3, zby, zbe]
      simp
      ((try simp only [zau, zaA, zaQ, zbj, zaq, zbe, zay, zan, zad, zbI, za0, zaN, zap, zac, List.map_cons, List.map_nil, List.nil_append, List.append_nil, List.cons_append]); (repeat (first | (with_reducible first|exact zam.nil|exact zai.nil|exact LeV.refl _|exact zam.refl _ _ _ _|exact zai.refl _|refine zam.cons ?_ ?_|refine zai.cons ?_ ?_|refine LeV.agg ?_|refine LeV.tup ?_|refine LeV.fn ?_ ?_|exact LeV.nil _|refine zak (zai.refl _) ?_) | ((refine zas rfl (by simp [hl0]) (by simp [za5, zbb, upd, noH]) ?_); (first | (simp [go_sem, hl0]; done) | (simp [go_sem, hl0]; exact List.take_of_length_le (by simp [hl0])))) | ((refine LeV.frz rfl (by simp [hl0]) (by simp [za5, zbb, upd, noH]) ?_); (simp only [List.drop_zero, List.take_succ_cons, List.take_zero, List.map_cons, List.map_nil])) | ((refine LeV.frzP rfl (by simp [hl0]) (by simp) (by simp [za5, zbb, upd, noH]) ?_); (simp only [zaP, List.drop_zero])))))
     ·have hl0 : (zbz g 1).length = g.kinds.length := by simp [zbz]
      simp only [zAb, zo2, hS1, za3, zby, zbe]
      simp
      ((try simp only [zau, zaA, zaQ, zbj, zaq, zbe, zay, zan, zad, zbI, za0, zaN, zap, zac, List.map_cons, List.map_nil, List.nil_append, List.append_nil, List.cons_append]); (repeat (first | (with_reducible first|exact zam.nil|exact zai.nil|exact LeV.refl _|exact zam.refl _ _ _ _|exact zai.refl _|refine zam.cons ?_ ?_|refine zai.cons ?_ ?_|refine LeV.agg ?_|refine LeV.tup ?_|refine LeV.fn ?_ ?_|exact LeV.nil _|refine zak (zai.refl _) ?_) | ((refine zas rfl (by simp [hl0]) (by simp [za5, zbb, upd, noH]) ?_); (first | (simp [go_sem, hl0]; done) | (simp [go_sem, hl0]; exact List.take_of_length_le (by simp [hl0])))) | ((refine LeV.frz rfl (by simp [hl0]) (by simp [za5, zbb, upd, noH]) ?_); (simp only [List.drop_zero, List.take_succ_cons, List.take_zero, List.map_cons, List.map_nil])) | ((refine LeV.frzP rfl (by simp [hl0]) (by simp) (by simp [za5, zbb, upd, noH]) ?_); (simp only [zaP, List.drop_zero])))))
    ·intro x hx
     unfold zAb at hx
     simp only [List.mem_cons, List.not_mem_nil, or_false] at hx
     rcases hx with rfl | rfl
     ·exact of_eq_true (hSb0 _)
     ·split
      ·exact .v _
      ·exact of_eq_true (hSb1 _)
  ·simp
  ·have h0 := zlS g s
   simp [go_sem, zaf, h0]
   refine ⟨of_eq_true (hbl _), zAc ?_, zfT (of_eq_true (hSb0 _)) (.sl (by omega))⟩
   simp [go_sem]
  ·simp
 ·simp
 ·simp [go_sem, zaf, hbl, zAb]
 ·simp
end Go.Av
end
