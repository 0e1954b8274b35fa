/- Texts of ours, part 7: contracts and facts for this claim. -/
import Derived.Test.YtkahkcakggflaaaGreatDoorB07
import Derived.Test.YtkahkcakggflaaaGreatDoorSFx06
set_option linter.unusedSimpArgs false
set_option linter.unusedVariables false
set_option maxRecDepth 100000
set_option maxHeartbeats 40000000
section
open Go Go.Proofs
namespace Go.Av
theorem zlW (g : zaf) (hg : zfp g) (l : List Int) (hl : l.length ≤ 9223372036854775807) : zaC Tryz.prog 91 [.agg (zab g), zas l] (.v (.bool (zd1 g l))) := by
 refine pF Tryz.func91 ?_
 unfold zfp at hg
 repeat first|with_reducible refine wV fun _=>?_|simp [go_sem]
 refine zBo (fun hn => ?_) (fun hn => ?_) <;> simp at hn
 ·have e : zd1 g l = false := by simp [zd1]; intro h; omega
  rw [e]
  repeat first|with_reducible refine wV fun _=>?_|simp [go_sem]
 ·repeat first|with_reducible refine wV fun _=>?_|simp [go_sem]
  have e : zd1 g l = zcq l g.kinds := by simp [zd1]; intro; omega
  rw [e]
  refine zBm (zBr (α := Nat) (fun j => ⟨[(1, zas l), (2, .ref 0 0 9 0 0), (5, .v (.int .i64 j))], [(0, .rows true 0 9 [zab g])], 1⟩)
   (fun d j => j + d = l.length ∧ zcq l g.kinds = zcq (l.drop j) (g.kinds.drop j)) ?_ l.length 0 ?_) ?_ ?_
  ·rintro d j ⟨i1, i2⟩ hrec
   repeat first|with_reducible refine wV fun _=>?_|simp [go_sem]
   refine zBo (fun hj => ?_) (fun hj => ?_) <;> simp at hj
   ·have hjk : j < g.kinds.length := by omega
    rw [zaO hj, zaO hjk, zcq] at i2
    generalize hR : zcq (List.drop (j + 1) l) (List.drop (j + 1) g.kinds) = R at *
    cases hkp : (nth g.kinds j).keep
    ·rw [hkp] at i2
     repeat first|with_reducible refine wV fun _=>?_|simp [go_sem, hj, hjk, hkp]
     refine zBo (fun hb => ?_) (fun hb => ?_) <;> simp at hb
     ·have e2 : zcq l g.kinds = false := by rw [i2]; simp; intros; omega
      rw [e2]
      repeat first|with_reducible refine wV fun _=>?_|simp [go_sem]
     ·have e2 : zcq l g.kinds = R := by
       rw [i2]
       simp [show 0 ≤ nth l j by omega, show nth l j ≤ 8 by omega, show ¬ 0 < nth l j by omega]
      repeat first|with_reducible refine wV fun _=>?_|simp [go_sem]
      refine zBm (hrec (d - 1) (by omega) (j + 1) ⟨by omega, by rw [e2, hR]⟩) ?_ (by simp)
      simp [go_sem, zah]
    ·rw [hkp] at i2
     repeat first|with_reducible refine wV fun _=>?_|simp [go_sem, hj, hjk, hkp]
     refine zBo (fun hb => ?_) (fun hb => ?_) <;> simp at hb
     ·have e2 : zcq l g.kinds = false := by rw [i2]; simp; intros; omega
      rw [e2]
      repeat first|with_reducible refine wV fun _=>?_|simp [go_sem]
     ·have e2 : zcq l g.kinds = R := by
       rw [i2]
       simp [show 0 ≤ nth l j by omega, show nth l j ≤ 8 by omega]
      repeat first|with_reducible refine wV fun _=>?_|simp [go_sem]
      refine zBm (hrec (d - 1) (by omega) (j + 1) ⟨by omega, by rw [e2, hR]⟩) ?_ (by simp)
      simp [go_sem, zah]
   ·rw [List.drop_eq_nil_of_le hj, show ∀ ks, zcq [] ks = true from fun ks => by simp [zcq]] at i2
    rw [i2]
    repeat first|with_reducible refine wV fun _=>?_|simp [go_sem]
  ·exact ⟨by simp, rfl⟩
  ·simp [go_sem, zah]
  ·simp
theorem zdU (g : zaf) (hg : zfp g) (hr : FitsR g) (p : zaj) (hp : za0 p) : zaC Tryz.prog 39 [.agg (zab g), .agg (zad p)] (.v (.bool (zeI g p))) := by
 refine pF Tryz.func39 ?_
 obtain ⟨p1, p2, p3⟩ := hp
 obtain ⟨r1, r2⟩ := hr
 have hpow : (0 : Int) ≤ 2 ^ g.rights.toNat ∧ (2 : Int) ^ g.rights.toNat ≤ 1152921504606846976 := by
  have h1 : g.rights.toNat ≤ 60 := by omega
  have h2 : (2 : Int) ^ g.rights.toNat ≤ 2 ^ 60 := by have := Nat.pow_le_pow_right (n := 2) (by omega) h1; exact_mod_cast this
  exact ⟨Int.pow_nonneg (by omega), by simpa using h2⟩
 unfold zfp at hg
 repeat first|with_reducible refine wV fun _=>?_|simp [go_sem]
 refine zBz _ (fun _ => zlW g hg p.h0 (by unfold zeS at p2; omega)) (by simp [go_sem]) ?_
 repeat first|with_reducible refine wV fun _=>?_|simp [go_sem]
 refine zBz _ (fun _ => zlW g hg p.h1 (by unfold zeS at p3; omega)) (by simp [go_sem]) ?_
 generalize hpw : (2 : Int) ^ g.rights.toNat = pw at *
 repeat first|with_reducible refine wV fun _=>?_|simp [go_sem, hpw]
 unfold zeS at p1
 refine zBo (fun hv => ?_) (fun hv => ?_) <;> simp at hv
 ·have e : zeI g p = false := by
   rw [Bool.eq_false_iff]
   intro h
   obtain ⟨a1, a2, a3, a4, a5, a6, a7⟩ := zhv.1 h
   rw [hpw] at a6
   rw [a3, a4] at hv
   simp at hv
   omega
  rw [e]
  repeat first|with_reducible refine wV fun _=>?_|simp [go_sem]
 ·have hn : ∀ x : Int, (∀ y ∈ p.at_, 0 ≤ y ∧ y ≤ 2 * g.kinds.length) → zeI g p = true := fun _ h => by
   rw [zhv, hpw]
   obtain ⟨⟨⟨⟨⟨⟨b1, b2⟩, b3⟩, b4⟩, b5⟩, b6⟩, b7⟩ := hv
   exact ⟨b1, h, b2, b3, b4, b5, by omega⟩
  repeat first|with_reducible refine wV fun _=>?_|simp [go_sem]
  refine zBm (zBr (α := Nat) (fun j => ⟨[(2, .ref 0 0 9 0 0), (3, .ref 1 0 5 0 0), (5, .v (.int .i64 j))], [(0, .rows true 0 9 [zab g]), (1, .rows true 0 5 [zad p])], 2⟩)
   (fun d j => j + d = p.at_.length ∧ ∀ i, i < j → 0 ≤ nth p.at_ i ∧ nth p.at_ i ≤ 2 * g.kinds.length) ?_ p.at_.length 0 ?_) ?_ ?_
  ·rintro d j ⟨i1, i2⟩ hrec
   repeat first|with_reducible refine wV fun _=>?_|simp [go_sem]
   refine zBo (fun hj => ?_) (fun hj => ?_) <;> simp at hj
   ·repeat first|with_reducible refine wV fun _=>?_|simp [go_sem, hj]
    refine zBo (fun hb => ?_) (fun hb => ?_) <;> simp at hb
    ·have e : zeI g p = false := by
      rw [Bool.eq_false_iff]
      intro h
      have := (zhv.1 h).2.1 _ (zan hj)
      omega
     rw [e]
     repeat first|with_reducible refine wV fun _=>?_|simp [go_sem]
    ·repeat first|with_reducible refine wV fun _=>?_|simp [go_sem]
     refine zBm (hrec (d - 1) (by omega) (j + 1) ⟨by omega, fun i hi => ?_⟩) ?_ (by simp)
     ·rcases Nat.lt_or_ge i j with h | h
      ·exact i2 i h
      ·obtain rfl : i = j := by omega
       exact hb
     ·simp [go_sem, zah]
   ·have e := hn 0 (fun y hy => by
     obtain ⟨i, hi, rfl⟩ := List.getElem_of_mem hy
     rw [← zaJ _ _ hi]
     exact i2 i (by omega))
    rw [e]
    repeat first|with_reducible refine wV fun _=>?_|simp [go_sem]
  ·exact ⟨by simp, fun i hi => by omega⟩
  ·simp [go_sem, zah]
  ·simp
theorem zg3 (b : zaM) (hb : za7 b) (side d c : Int) : zaC Tryz.prog 241 [.agg (zdf b), .v (.int .i64 side), .v (.int .i64 d), .v (.int .i64 c)] (.v (.int .i64 (toB b side d c))) := by
 refine pF Tryz.func241 ?_
 obtain ⟨tl, tv, nl, nv, c0, c1, n1⟩ := hb
 repeat first|with_reducible refine wV fun _=>?_|simp [go_sem]
 refine zBo (fun hs => ?_) (fun hs => ?_) <;> simp at hs
 ·have e : toB b side d c = -1 := by unfold toB; rw [if_pos (by omega)]
  rw [e]
  repeat first|with_reducible refine wV fun _=>?_|simp [go_sem]
 ·have hdt : d.toNat < b.next.length := by omega
  have hdu : d.toNat < b.turn.length := by omega
  have e : toB b side d c = nth (nth b.next (if side = 1 then (nth b.turn d.toNat) else d).toNat) c.toNat := by unfold toB; rw [if_neg (by omega)]
  repeat first|with_reducible refine wV fun _=>?_|simp [go_sem]
  refine zBo (fun h1 => ?_) (fun h1 => ?_) <;> simp at h1
  ·rw [if_pos h1] at e
   have ht := tv _ (zan hdu)
   have hn : (nth b.turn d.toNat).toNat < b.next.length := by omega
   have hl := nl _ (zan hn)
   have hc : c.toNat < (nth b.next (nth b.turn d.toNat).toNat).length := by omega
   rw [e]
   repeat first|with_reducible refine wV fun _=>?_|simp [go_sem, hdu, hn, hc]
  ·rw [if_neg h1] at e
   have hl := nl _ (zan hdt)
   have hc : c.toNat < (nth b.next d.toNat).length := by omega
   rw [e]
   repeat first|with_reducible refine wV fun _=>?_|simp [go_sem, hdt, hc]
theorem zsG (l : List Int) (n : Int) (hl : l.length ≤ 1099511627776) : zaC Tryz.prog 277 [zas l, .v (.int .i64 n)] (.v (.bool (decide (n ∈ l)))) := by
 refine pF Tryz.func277 ?_
 generalize hr : decide (n ∈ l) = res
 repeat first|with_reducible refine wV fun _=>?_|simp [go_sem]
 refine zBm (zBr (α := Nat) (fun j => ⟨[(0, zas l), (1, .v (.int .i64 n)), (5, .v (.int .i64 j))], [], 0⟩)
  (fun d j => j + d = l.length ∧ res = decide (n ∈ l.drop j)) ?_ l.length 0 ?_) ?_ ?_
 ·rintro d j ⟨i1, i2⟩ hrec
  repeat first|with_reducible refine wV fun _=>?_|simp [go_sem]
  refine zBo (fun hj => ?_) (fun hj => ?_) <;> simp at hj
  ·rw [zfB hj] at i2
   repeat first|with_reducible refine wV fun _=>?_|simp [go_sem, hj]
   refine zBo (fun he => ?_) (fun he => ?_) <;> simp at he
   ·have e : res = true := by rw [i2, he]; simp
    rw [e]
    repeat first|with_reducible refine wV fun _=>?_|simp [go_sem]
   ·have e : res = decide (n ∈ l.drop (j + 1)) := by rw [i2]; simp [Ne.symm he]
    repeat first|with_reducible refine wV fun _=>?_|simp [go_sem]
    refine zBm (hrec (d - 1) (by omega) (j + 1) ⟨by omega, e⟩) ?_ (by simp)
    simp [go_sem, zah]
  ·have e : res = false := by rw [i2, List.drop_eq_nil_of_le hj]; simp
   rw [e]
   repeat first|with_reducible refine wV fun _=>?_|simp [go_sem]
 ·exact ⟨by simp, hr.symm⟩
 ·simp [go_sem, zah]
 ·simp
theorem zjn (b : zaM) (hb : za7 b) (side d c : Int) : zaC Tryz.prog 243 [.agg (zdf b), .v (.int .i64 side), .v (.int .i64 d), .v (.int .i64 c)] (zas (zfL b side d c)) := by
 refine pF Tryz.func243 ?_
 have hbl : ∀ n, (∀ c' ∈ zdf b, Bel n c') = True := fun n => by simp [go_sem]
 have hel : (zdf b).length = 3 := rfl
 have hT : ∀ x, zaC Tryz.prog 241 [.agg (zdf b), .v (.int .i64 side), .v (.int .i64 d), .v (.int .i64 x)] (.v (.int .i64 (toB b side d x))) := fun x => zg3 b hb side d x
 obtain ⟨eb, heb⟩ : ∃ eb, eb = zdf b := ⟨_, rfl⟩
 rw [← heb] at hbl hel hT ⊢
 have hc1 := hb.c1
 have hc0 := hb.c0
 repeat first|with_reducible refine wV fun _=>?_|simp [go_sem, hel]
 refine zBn (hT c) (by simp [go_sem, hbl]) ?_
 repeat first|with_reducible refine wV fun _=>?_|simp [go_sem, hel]
 refine zBm (zBr (α := Int × List Int) (fun a => ⟨[(1, .v (.int .i64 side)), (2, .v (.int .i64 d)), (3, .v (.int .i64 c)), (4, .ref 0 0 3 0 0), (9, .sl 1 a.2.length 1 0 a.2.length), (10, .v (.int .i64 a.1))],
   [(0, .rows true 0 3 [eb]), (1, .rows true a.2.length 1 (a.2.map zb6))], 2⟩)
  (fun f a => f + a.2.length = b.cells.toNat + 1 ∧ a.1 < b.cells ∧ a.2.Nodup ∧ (∀ y ∈ a.2, 0 ≤ y ∧ y < b.cells) ∧ zfL b side d c = zd3 b side d c f a.1 a.2) ?_ (b.cells.toNat + 1) (toB b side d c, []) ?_) ?_ ?_
 ·rintro f ⟨x, seen⟩ ⟨i1, i2, i3, i4, i5⟩ hrec
  simp only at i1 i2 i3 i4 i5
  have hsl : seen.length ≤ b.cells.toNat := zf9 _ _ i3 (fun y hy => by have := i4 y hy; omega)
  obtain ⟨f, rfl⟩ : ∃ f', f = f' + 1 := ⟨f - 1, by omega⟩
  rw [zd3] at i5
  repeat first|with_reducible refine wV fun _=>?_|simp [go_sem, hel]
  refine zBZ [zas seen, .v (.int .i64 x)] (.v (.bool (decide (x ∈ seen)))) (fun _ => zsG seen x (by omega)) (.v _) ?_ (by simp [go_sem]) ?_
  ·refine zai.cons ?_ (zai.cons (.refl _) zai.nil)
   refine LeV.frz rfl ?_ ?_ (zBx ?_) <;> simp [noH, List.take_of_length_le]
  ·repeat first|with_reducible refine wV fun _=>?_|simp [go_sem, hel]
   refine zBo (fun hx => ?_) (fun hx => ?_) <;> simp at hx
   ·rw [if_pos (by simpa [and_assoc] using hx)] at i5
    repeat first|with_reducible refine wV fun _=>?_|simp [go_sem, hel]
    refine zBn (hT x) (by simp [go_sem, hbl]) ?_
    repeat first|with_reducible refine wV fun _=>?_|simp [go_sem, hel]
    refine zBm (hrec f (by omega) (toB b side d x, seen ++ [x]) ⟨by simp only [List.length_append, List.length_singleton]; omega, zfV hb _ _ _, ?_, ?_, i5⟩) ?_ (by simp)
    ·refine List.nodup_append.2 ⟨i3, by simp, ?_⟩
     intro y hy z hz
     simp at hz
     subst hz
     rintro rfl
     exact hx.2 hy
    ·intro y hy
     rcases List.mem_append.1 hy with h | h
     ·exact i4 y h
     ·simp at h; omega
    ·simp [go_sem, zah, hbl]
     (first|done|exact blX)
   ·rw [if_neg (by simpa [and_assoc] using hx)] at i5
    rw [i5]
    repeat first|with_reducible refine wV fun _=>?_|simp [go_sem, hel]
    exact frX
 ·exact ⟨by simp, zfV hb _ _ _, by simp, by simp, rfl⟩
 ·simp [go_sem, zah, hbl]
 ·simp
theorem zjp (n a b : Int) : zaC Tryz.prog 196 [.v (.int .i64 n), .v (.int .i64 a), .v (.int .i64 b)] (.v (.bool (decide (a ≤ n ∧ n ≤ b)))) := by
 refine pF Tryz.func196 ?_
 repeat first|with_reducible refine wV fun _=>?_|simp [go_sem]
theorem zdS (c : Int) : zaC Tryz.prog 150 [.v (.int .i64 c)] (.agg [.v (.int .i64 (zaq c).1), .v (.int .i64 (zaq c).2)]) := by
 refine pF Tryz.func150 ?_
 repeat first|with_reducible refine wV fun _=>?_|simp [go_sem]
 refine zBn (zjp c 1 12) (by simp [go_sem]) ?_
 by_cases h : 1 ≤ c ∧ c ≤ 12
 ·have e : zaq c = ((c - 1).tdiv 2, (c - 1).tmod 2) := by unfold zaq; rw [if_pos h]
  have q : (c - 1).tdiv 2 = (c - 1) / 2 := Int.tdiv_eq_ediv_of_nonneg (by omega)
  rw [e]
  repeat first|with_reducible refine wV fun _=>?_|simp [go_sem, h, q]
 ·have e : zaq c = (-1, -1) := by unfold zaq; rw [if_neg h]
  rw [e]
  repeat first|with_reducible refine wV fun _=>?_|simp [go_sem, h]
theorem zdl (k s : Int) : zaC Tryz.prog 153 [.v (.int .i64 k), .v (.int .i64 s)] (.v (.int .i64 (zaD k s))) := by
 refine pF Tryz.func153 ?_
 repeat first|with_reducible refine wV fun _=>?_|simp [go_sem]
 refine zBn (zjp k 0 5) (by simp [go_sem]) ?_
 repeat first|with_reducible refine wV fun _=>?_|simp [go_sem]
 refine zBQ _ (fun _ => zjp s 0 1) (by simp [go_sem]) ?_
 repeat first|with_reducible refine wV fun _=>?_|simp [go_sem]
 refine zBo (fun h => ?_) (fun h => ?_) <;> simp at h
 ·have e : zaD k s = 0 := by unfold zaD; rw [if_neg (by omega)]
  rw [e]
  repeat first|with_reducible refine wV fun _=>?_|simp [go_sem]
 ·have e : zaD k s = 2 * k + 1 + s := by unfold zaD; rw [if_pos (by omega)]
  rw [e]
  repeat first|with_reducible refine wV fun _=>?_|simp [go_sem]
  exact zBA (by congr 2; omega)
theorem znl (a b : zcu) : zo1 a b = decide (ziu a b < 0) := by
 unfold zo1 ziu zAQ
 by_cases h : zbB a.pos b.pos = 0
 ·rw [if_neg (by simpa using h)]
  simp only [h]
  cases a.took <;> cases b.took <;> simp [zbf]
 ·rw [if_pos h]
  simp [h]
theorem ze3 {x z : zcu} : ∀ {l : List zcu}, z ∈ zbO x l ↔ z = x ∨ z ∈ l
 | [] => by simp [zbO]
 | y :: l => by
  simp only [zbO]
  split
  ·rw [List.mem_cons, ze3, List.mem_cons]
   exact ⟨fun h => by rcases h with h | h | h <;> simp [h], fun h => by rcases h with h | h | h <;> simp [h]⟩
  ·split
   ·simp
   ·rename_i h1 h2
    rw [znl] at h1 h2
    have := zcm.swap x y
    have e := (zcm.eq x y).1 (by simp at h1 h2; omega)
    subst e
    simp
theorem zlY {x : zcu} : ∀ {l : List zcu}, l.Pairwise (fun a b => ziu a b < 0) → (zbO x l).Pairwise (fun a b => ziu a b < 0)
 | [], _ => by simp [zbO]
 | y :: l, h => by
  rw [List.pairwise_cons] at h
  simp only [zbO]
  split
  ·rename_i h1
   rw [znl] at h1
   rw [List.pairwise_cons]
   refine ⟨fun z hz => ?_, zlY h.2⟩
   rcases ze3.1 hz with rfl | hz
   ·simpa using h1
   ·exact h.1 z hz
  ·split
   ·rename_i h1
    rw [znl] at h1
    have hxy : ziu x y < 0 := by simpa using h1
    refine List.pairwise_cons.2 ⟨fun z hz => ?_, List.pairwise_cons.2 h⟩
    rcases List.mem_cons.1 hz with rfl | hz
    ·exact hxy
    ·have hyz := h.1 z hz
     have t := zcm.tr x y z (by omega) (by omega)
     rcases Int.lt_or_eq_of_le t with h | h
     ·exact h
     ·have e := (zcm.eq _ _).1 h
      subst e
      have := zcm.swap x y
      omega
   ·exact List.pairwise_cons.2 h
theorem zfJ : ∀ (l acc : List zcu), acc.Pairwise (fun a b => ziu a b < 0) →
  (l.foldl (fun a x => zbO x a) acc).Pairwise (fun a b => ziu a b < 0) ∧ ∀ z, z ∈ l.foldl (fun a x => zbO x a) acc ↔ z ∈ l ∨ z ∈ acc
 | [], acc, h => ⟨h, fun z => by simp⟩
 | x :: l, acc, h => by
  obtain ⟨h1, h2⟩ := zfJ l (zbO x acc) (zlY h)
  refine ⟨h1, fun z => ?_⟩
  rw [List.foldl_cons, h2, ze3, List.mem_cons]
  exact ⟨fun h => by rcases h with h | h | h <;> simp [h], fun h => by rcases h with (h | h) | h <;> simp [h]⟩
theorem zqR (l : List zcu) : l.foldl (fun a x => zbO x a) [] = zbp ziu l :=
 (zek zcm (zfJ l [] (by simp)).1 (fun z => by rw [(zfJ l [] (by simp)).2]; simp)).symm
def zfX (g : zaf) : zaj → List Int → List zaj
 | p, [] => [p]
 | p, k :: l => if zaH g p = [] then [p] else p :: zfX g (nth (zaH g p) (k.emod (zaH g p).length).toNat) l
structure zk2 where
 cell : List Int
 kind : List Int
 hand : List Int
 rights : Int
 side : Int
structure zjt (x : zk2) : Prop where
 c6 : x.cell.length = 6
 k6 : x.kind.length = 6
 h4 : x.hand.length = 4
 cv : ∀ n ∈ x.cell, U8 n
 kv : ∀ n ∈ x.kind, U8 n
 hv : ∀ n ∈ x.hand, U8 n
 r : U8 x.rights
 s : U8 x.side
def zdp (x : zk2) : List AV := x.cell.map (fun n => .v (.int .u8 n)) ++ (x.kind.map (fun n => .v (.int .u8 n)) ++ (x.hand.map (fun n => .v (.int .u8 n)) ++ [.v (.int .u8 x.rights), .v (.int .u8 x.side)]))
theorem zvF (l : List Int) (r : List AV) (i : Nat) (h : i < l.length) : cel (l.map (fun n => AV.v (.int .u8 n)) ++ r) i = .v (.int .u8 (nth l i)) := by
 unfold cel nth
 rw [List.getD_eq_getElem?_getD, List.getD_eq_getElem?_getD, List.getElem?_append_left (by simpa using h), List.getElem?_map, List.getElem?_eq_getElem h]
 rfl
theorem zqy (l : List Int) (r : List AV) (i : Nat) : cel (l.map (fun n => AV.v (.int .u8 n)) ++ r) (l.length + i) = cel r i := by
 unfold cel
 rw [List.getD_eq_getElem?_getD, List.getD_eq_getElem?_getD, List.getElem?_append_right (by simp)]
 simp
structure RawRow (x : zk2) (er : List AV) : Prop where
 len : er.length = 18
 c : ∀ i, i < 6 → cel er i = .v (.int .u8 (nth x.cell i))
 k : ∀ i, i < 6 → cel er (6 + i) = .v (.int .u8 (nth x.kind i))
 h : ∀ i, i < 4 → cel er (12 + i) = .v (.int .u8 (nth x.hand i))
 r : cel er 16 = .v (.int .u8 x.rights)
 s : cel er 17 = .v (.int .u8 x.side)
 b : ∀ n, (∀ c ∈ er, Bel n c) = True
theorem zsi {x : zk2} (hx : zjt x) : RawRow x (zdp x) := by
 obtain ⟨a, b, c, _, _, _, _, _⟩ := hx
 have e1 : ∀ i, cel (zdp x) (6 + i) = cel (x.kind.map (fun n => AV.v (.int .u8 n)) ++ (x.hand.map (fun n => AV.v (.int .u8 n)) ++ [.v (.int .u8 x.rights), .v (.int .u8 x.side)])) i := fun i => by
  have := zqy x.cell (x.kind.map (fun n => .v (.int .u8 n)) ++ (x.hand.map (fun n => .v (.int .u8 n)) ++ [.v (.int .u8 x.rights), .v (.int .u8 x.side)])) i
  rw [a] at this; exact this
 have e2 : ∀ i, cel (zdp x) (12 + i) = cel (x.hand.map (fun n => AV.v (.int .u8 n)) ++ [.v (.int .u8 x.rights), .v (.int .u8 x.side)]) i := fun i => by
  have := zqy x.kind (x.hand.map (fun n => .v (.int .u8 n)) ++ [.v (.int .u8 x.rights), .v (.int .u8 x.side)]) i
  rw [b] at this
  rw [show 12 + i = 6 + (6 + i) by omega, e1, this]
 have e3 : ∀ i, cel (zdp x) (16 + i) = cel [AV.v (.int .u8 x.rights), .v (.int .u8 x.side)] i := fun i => by
  have := zqy x.hand [.v (.int .u8 x.rights), .v (.int .u8 x.side)] i
  rw [c] at this
  rw [show 16 + i = 12 + (4 + i) by omega, e2, this]
 refine ⟨by simp [zdp, a, b, c], fun i hi => zvF x.cell _ i (by omega), fun i hi => ?_, fun i hi => ?_, e3 0, e3 1, fun n => eq_true ?_⟩
 ·rw [e1]; exact zvF x.kind _ i (by omega)
 ·rw [e2]; exact zvF x.hand _ i (by omega)
 ·intro c hc
  simp only [zdp, List.mem_append, List.mem_map, List.mem_cons, List.not_mem_nil, or_false] at hc
  rcases hc with ⟨_, _, rfl⟩ | ⟨_, _, rfl⟩ | ⟨_, _, rfl⟩ | rfl | rfl <;> exact .v _
def zlB (g : zaf) (x : zk2) (l : List Int) (i : Nat) : List Int :=
 if (nth x.cell i).tmod (g.cells + 1) < g.cells then l.set ((nth x.cell i).tmod (g.cells + 1)).toNat (1 + 2 * (nth x.kind i).tmod g.kinds.length + (i : Int).tmod 2) else l
def zd4 (g : zaf) (x : zk2) (n : Nat) : List Int := (List.range n).foldl (zlB g x) (List.replicate g.cells.toNat 0)
theorem zgL (g : zaf) (x : zk2) (n : Nat) : zd4 g x (n + 1) = zlB g x (zd4 g x n) n := by simp [zd4, List.range_succ]
theorem zth (g : zaf) (x : zk2) (l : List Int) (i : Nat) : (zlB g x l i).length = l.length := by unfold zlB; split <;> simp
theorem zh4 (g : zaf) (x : zk2) (n : Nat) : (zd4 g x n).length = g.cells.toNat := by
 induction n with
 | zero => simp [zd4]
 | succ n ih => rw [zgL, zth, ih]
def zqN (g : zaf) (x : zk2) (s k : Nat) : Int :=
 if (nth g.kinds k).keep = true then (if 250 < nth x.hand (2 * s + k) then 8 else (nth x.hand (2 * s + k)).tmod 3) else 0
def zep (g : zaf) (x : zk2) (s n : Nat) : List Int := (List.range g.kinds.length).map fun j => if j < n then zqN g x s j else 0
theorem zdA (g : zaf) (x : zk2) (s n : Nat) : (zep g x s n).length = g.kinds.length := by simp [zep]
theorem zlU (g : zaf) (x : zk2) (s : Nat) : zep g x s 0 = List.replicate g.kinds.length 0 := by
 unfold zep
 apply List.ext_getElem <;> simp
theorem zlT (g : zaf) (x : zk2) (s n : Nat) : zep g x s (n + 1) = (zep g x s n).set n (zqN g x s n) := by
 apply List.ext_getElem
 ·simp [zep]
 ·intro i h1 h2
  simp only [zep, List.getElem_map, List.getElem_range, List.getElem_set]
  by_cases h : n = i
  ·subst h; simp
  ·rw [if_neg h]
   by_cases h' : i < n
   ·rw [if_pos h', if_pos (by omega)]
   ·rw [if_neg h', if_neg (by omega)]
theorem zlS (g : zaf) (x : zk2) (s n : Nat) (h : zqN g x s n = 0) : zep g x s (n + 1) = zep g x s n := by
 unfold zep
 apply List.map_congr_left
 intro j _
 by_cases h' : j < n
 ·rw [if_pos h', if_pos (by omega)]
 ·rw [if_neg h']
  split
  ·obtain rfl : j = n := by omega
   exact h
  ·rfl
def zer (g : zaf) (x : zk2) : zaj := ⟨zd4 g x 6, zep g x 0 (min g.kinds.length 2), zep g x 1 (min g.kinds.length 2), x.rights.tmod (2 ^ g.rights.toNat), x.side.tmod 2⟩
theorem zl9 {g : zaf} (hg : GOk g) {x : zk2} (hx : zjt x) : POk g (zer g x) := by
 have c1 := hg.c1
 have k1 := hg.k1
 have hat : ∀ n, n ≤ 6 → ∀ c ∈ zd4 g x n, 0 ≤ c ∧ c ≤ 2 * g.kinds.length := by
  intro n
  induction n with
  | zero => intro _ c hc; simp [zd4] at hc; omega
  | succ n ih =>
   intro hn c hc
   rw [zgL] at hc
   unfold zlB at hc
   split at hc
   ·rcases List.mem_or_eq_of_mem_set hc with hc | rfl
    ·exact ih (by omega) c hc
    ·have hkv : U8 (nth x.kind n) := hx.kv _ (zan (by rw [hx.k6]; omega))
     have a := Int.tmod_nonneg (g.kinds.length : Int) hkv.1
     have b := Int.tmod_lt_of_pos (nth x.kind n) (show (0 : Int) < g.kinds.length by omega)
     have c := Int.tmod_nonneg 2 (show (0 : Int) ≤ n by omega)
     have d := Int.tmod_lt_of_pos (n : Int) (show (0 : Int) < 2 by decide)
     omega
   ·exact ih (by omega) c hc
 have hh : ∀ s, s < 2 → zew g (zep g x s (min g.kinds.length 2)) := by
  intro s hs
  refine ⟨zdA _ _ _ _, fun i hi => ?_⟩
  rw [zdA] at hi
  have e : nth (zep g x s (min g.kinds.length 2)) i = if i < min g.kinds.length 2 then zqN g x s i else 0 := by
   unfold zep
   rw [zbg _ _ _ (by simpa using hi)]
   simp [nth, hi]
  rw [e]
  split
  ·have hv : U8 (nth x.hand (2 * s + i)) := hx.hv _ (zan (by rw [hx.h4]; omega))
   have a := Int.tmod_nonneg 3 hv.1
   have b := Int.tmod_lt_of_pos (nth x.hand (2 * s + i)) (show (0 : Int) < 3 by decide)
   unfold zqN
   split
   ·rename_i hk
    split <;> exact ⟨by omega, by omega, fun _ => hk⟩
   ·exact ⟨by omega, by omega, fun h => by omega⟩
  ·exact ⟨by omega, by omega, fun h => by omega⟩
 have hp := zjg hg.r0 hg.r4
 refine ⟨?_, hat 6 (Nat.le_refl _), hh 0 (by omega), hh 1 (by omega), Int.tmod_nonneg _ hx.r.1, Int.tmod_lt_of_pos _ (by omega), ?_⟩
 ·show ((zd4 g x 6).length : Int) = g.cells
  rw [zh4]; omega
 ·have a := Int.tmod_nonneg 2 hx.s.1
  have b := Int.tmod_lt_of_pos x.side (show (0 : Int) < 2 by decide)
  show x.side.tmod 2 = 0 ∨ x.side.tmod 2 = 1
  omega
def zcO (l : List (List za2)) : Nat := (l.map (·.length)).sum
def zbW (l : List (List (List za2))) : Nat := (l.map zcO).sum
def zea (c : zmx) : Nat := zbW c.1 + zbW c.2
def zrb (b : zaM) (side : Int) (p : List (Int × Int)) : Nat := ((List.range b.cells.toNat).map fun (c : Nat) => (zbF b side p c).length).sum
theorem zfe {α : Type} (f g : α → Nat) : ∀ l : List α, (l.map fun x => f x + g x).sum = (l.map f).sum + (l.map g).sum
 | [] => rfl
 | x :: l => by simp [zfe f g l]; omega
theorem ziM {α : Type} : ∀ l : List α, (l.map fun _ => 0).sum = 0
 | [] => rfl
 | x :: l => by simpa using ziM l
theorem zjM (b : zaM) (side : Int) : ∀ progs : List (List (Int × Int)), zcO (zfx b side progs) = (progs.map (zrb b side)).sum
 | [] => by
  unfold zcO zfx zbA
  simp only [List.flatMap_nil, List.map_map, List.map_nil, List.sum_nil]
  exact ziM _
 | p :: progs => by
  have ih := zjM b side progs
  unfold zcO zfx zbA at *
  rw [List.map_map] at ih ⊢
  simp only [List.flatMap_cons, List.map_cons, List.sum_cons, ← ih]
  unfold zrb
  rw [← zfe]
  congr 1
  refine List.map_congr_left fun c _ => ?_
  simp
theorem zlH (g : zaf) (side : Int) : zbW (zbD g side) = (g.kinds.map fun k => (k.progs.map (zrb g.board side)).sum).sum := by
 unfold zbW zbD
 rw [List.map_map]
 congr 1
 refine List.map_congr_left fun k _ => ?_
 exact zjM _ _ _
def zy2 (g : zaf) (p : List (Int × Int)) : Nat := zrb g.board 0 p + zrb g.board 1 p
theorem zvI (g : zaf) : zea (zbH g) = (g.kinds.map fun k => (k.progs.map (zy2 g)).sum).sum := by
 unfold zea zbH
 rw [zlH, zlH, ← zfe]
 congr 1
 refine List.map_congr_left fun k _ => ?_
 rw [← zfe]
 rfl
theorem zsc {g : zaf} (hg : GOk g) (side : Int) {p : List (Int × Int)} (hs : zaI p 2 ≤ 1) : zrb g.board side p ≤ 81 := by
 have c9 := hg.c9
 have c1 := hg.c1
 have := zeP (fun (c : Nat) => (zbF g.board side p c).length) 9 (List.range g.board.cells.toNat) (fun c _ => by
  have h := zic hg.board hg.c1 side p c
  have h2 : g.board.cells.toNat ≤ 9 := by have : g.board.cells = g.cells := rfl; omega
  rcases (show zaI p 2 = 0 ∨ zaI p 2 = 1 by omega) with e | e <;> rw [e] at h <;> simp at h <;> omega)
 have h2 : g.board.cells.toNat ≤ 9 := by have : g.board.cells = g.cells := rfl; omega
 rw [List.length_range] at this
 unfold zrb
 omega
theorem zvJ {g : zaf} (hg : GOk g) (hs : zbm g) : zea (zbH g) ≤ 10000 := by
 rw [zvI]
 have := zeP (fun k : zgh => (k.progs.map (zy2 g)).sum) 1296 g.kinds (fun k hk => by
  have := zeP (zy2 g) 162 k.progs (fun p hp => by
   have a := zsc hg 0 (hs k hk p hp)
   have b := zsc hg 1 (hs k hk p hp)
   unfold zy2; omega)
  have := hg.pn k hk
  omega)
 have := hg.k6
 omega
theorem zp1 (a b : StD) (ha : za0 a.p) (hb : za0 b.p) : zaC Tryz.prog 300 [.agg (zal a), .agg (zal b)] (.v (.bool (decide (a = b)))) := by
 refine pF Tryz.func300 ?_
 have hC := zd8 _ _ ha hb
 have he := zqB (p := a.p) (q := b.p)
 obtain ⟨pa, ka, ca, ta⟩ := a
 obtain ⟨pb, kb, cb, tb⟩ := b
 simp only at hC he
 repeat first|with_reducible refine wV fun _=>?_|simp [go_sem]
 refine zBQ _ (fun _ => hC) (by simp [go_sem]) ?_
 repeat first|with_reducible refine wV fun _=>?_|simp [go_sem]
 refine zBA ?_
 by_cases h1 : pa = pb <;> by_cases h2 : ka = kb <;> by_cases h3 : ca = cb <;> cases ta <;> cases tb <;> simp_all
theorem zpZ (s : StD) (b : Bool) : zaC Tryz.prog 301 [.agg (zal s), .v (.bool b)] (zaQ (zcV s b)) := by
 refine pF Tryz.func301 ?_
 cases b
 ·repeat first|with_reducible refine wV fun _=>?_|simp [go_sem, zcV]
  exact frX
 ·repeat first|with_reducible refine wV fun _=>?_|simp [go_sem, zcV]
  exact frX
theorem znR (g : zaf) (hg : GOk g) (s : StD) (hs : zfn g s) (n : Int) : zaC Tryz.prog 302 [.agg (zab g), .agg (zal s), .v (.int .i64 n)] (zaQ (zkF g.board s n)) := by
 refine pF Tryz.func302 ?_
 have hL := zjn g.board hg.board s.p.side n s.cursor
 have hlm := zeG hg.board (side := s.p.side) (d := n) (c := s.cursor)
 have hll := zkb (b := g.board) (side := s.p.side) (d := n) (c := s.cursor)
 have c9 := hg.c9
 have c1 := hg.c1
 have hal := hs.p.al
 rw [show g.board.cells = g.cells from rfl] at hlm hll
 unfold zkF
 generalize zfL g.board s.p.side n s.cursor = line at *
 generalize hR : zbQ s line = R
 repeat first|with_reducible refine wV fun _=>?_|simp [go_sem]
 refine zBn hL (by simp [go_sem]) ?_
 repeat first|with_reducible refine wV fun _=>?_|simp [go_sem]
 refine zBm (zBr (α := Nat × List StD) (fun a => ⟨[(4, .ref 1 0 8 0 0), (7, .sl 2 a.2.length 8 0 a.2.length), (8, zas line), (9, .v (.int .i64 a.1))], [(1, .rows true 0 8 [zal s]), (2, .rows true a.2.length 8 (a.2.map zal))], 3⟩)
  (fun d a => a.1 + d = line.length ∧ a.2.length = a.1 ∧ R = a.2 ++ zbQ s (line.drop a.1)) ?_ line.length (0, []) ?_) ?_ ?_
 ·rintro d ⟨i, out⟩ ⟨i1, i2, i3⟩ hrec
  simp only at i1 i2 i3
  repeat first|with_reducible refine wV fun _=>?_|simp [go_sem]
  refine zBo (fun hi => ?_) (fun hi => ?_) <;> simp at hi
  ·have hli := hlm _ (zan hi)
   have hlt : (nth line i).toNat < s.p.at_.length := by omega
   rw [zaO hi, zbQ] at i3
   repeat first|with_reducible refine wV fun _=>?_|simp [go_sem, hi, hlt]
   refine zBo (fun hz => ?_) (fun hz => ?_) <;> simp at hz
   ·rw [if_neg (by simpa using hz)] at i3
    repeat first|with_reducible refine wV fun _=>?_|simp [go_sem]
    rw [i3]
    exact frX
   ·rw [if_pos (by simpa using hz)] at i3
    repeat first|with_reducible refine wV fun _=>?_|simp [go_sem]
    refine zBm (hrec (d - 1) (by omega) (i + 1, out ++ [{ s with cursor := nth line i }]) ⟨by simp only; omega, by simp; omega, by simpa using i3⟩) ?_ (by simp)
    simp [go_sem, zah]
  ·rw [List.drop_eq_nil_of_le hi, zbQ] at i3
   repeat first|with_reducible refine wV fun _=>?_|simp [go_sem]
   rw [i3]
   exact frX
 ·simp [hR]
 ·simp [go_sem, zah]
 ·simp
theorem zp2 (g : zaf) (hg : GOk g) (s : StD) (hs : zfn g s) : zaC Tryz.prog 303 [.agg (zab g), .agg (zal s)] (zaQ (znz g s)) := by
 refine pF Tryz.func303 ?_
 have hal := hs.p.al
 have hc0 := hs.c0
 have hc1 := hs.c1
 have hcur : s.cursor.toNat < s.p.at_.length := by omega
 have hO := zdS (nth s.p.at_ s.cursor.toNat)
 have hat := hs.p.at (i := s.cursor.toNat) (by omega)
 have hman := zaU hat.1 hat.2 hg.k6
 have hcp := zdX s.p (hs.p.fits hg)
 unfold znz
 generalize hm : zaq (nth s.p.at_ s.cursor.toNat) = m at *
 obtain ⟨mk, ms⟩ := m
 simp only [Prod.mk.injEq] at hman
 repeat first|with_reducible refine wV fun _=>?_|simp [go_sem, hcur]
 refine zBn hO (by simp [go_sem]) ?_
 repeat first|with_reducible refine wV fun _=>?_|simp [go_sem]
 refine zBo (fun hc => ?_) (fun hc => ?_) <;> simp at hc
 ·rw [if_pos hc]
  repeat first|with_reducible refine wV fun _=>?_|simp [go_sem]
  exact frX
 ·rw [if_neg (by omega)]
  repeat first|with_reducible refine wV fun _=>?_|simp [go_sem]
  refine zBs hcp (by simp [go_sem]) ?_
  have hmk : mk.toNat < g.kinds.length := by omega
  repeat first|with_reducible refine wV fun _=>?_|simp [go_sem, hcur, hmk]
  refine zBo (fun hk => ?_) (fun hk => ?_)
  ·rw [if_pos hk]
   have hl0 := hs.p.h0.len
   have hl1 := hs.p.h1.len
   rcases hs.p.s with hsd | hsd
   ·have hmk0 : mk.toNat < s.p.h0.length := by omega
    have hmk' : 0 ≤ mk := by omega
    have hv := hs.p.h0.v _ hmk0
    repeat first|with_reducible refine wV fun _=>?_|simp [go_sem, hsd, hmk0, hcur]
    refine zBo (fun h8 => ?_) (fun h8 => ?_) <;> simp at h8
    ·rw [if_pos (by simpa [zaj.hand, hsd] using h8)]
     repeat first|with_reducible refine wV fun _=>?_|simp [go_sem]
     exact frX
    ·rw [if_neg (by simpa [zaj.hand, hsd] using h8)]
     repeat first|with_reducible refine wV fun _=>?_|simp [go_sem, hsd, zaj.withHand, zaj.hand, clr]
     (first|done|exact dpX)
   ·have hmk0 : mk.toNat < s.p.h1.length := by omega
    have hmk' : 0 ≤ mk := by omega
    have hv := hs.p.h1.v _ hmk0
    repeat first|with_reducible refine wV fun _=>?_|simp [go_sem, hsd, hmk0, hcur]
    refine zBo (fun h8 => ?_) (fun h8 => ?_) <;> simp at h8
    ·rw [if_pos (by simpa [zaj.hand, hsd] using h8)]
     repeat first|with_reducible refine wV fun _=>?_|simp [go_sem]
     exact frX
    ·rw [if_neg (by simpa [zaj.hand, hsd] using h8)]
     repeat first|with_reducible refine wV fun _=>?_|simp [go_sem, hsd, zaj.withHand, zaj.hand, clr]
     (first|done|exact dpX)
  ·rw [if_neg (by simpa using hk)]
   repeat first|with_reducible refine wV fun _=>?_|simp [go_sem, clr]
   (first|done|exact dpX)
theorem zp0 (g : zaf) (hg : GOk g) (s : StD) (hs : zfn g s) (n : Int) : zaC Tryz.prog 304 [.agg (zab g), .agg (zal s), .v (.int .i64 n)] (zaQ (znu g s n)) := by
 refine pF Tryz.func304 ?_
 have hT := zg3 g.board hg.board s.p.side n s.cursor
 repeat first|with_reducible refine wV fun _=>?_|simp [go_sem]
 refine zBn hT (by simp [go_sem]) ?_
 have hal := hs.p.al
 have hc0 := hs.c0
 have hc1 := hs.c1
 have hcur : s.cursor.toNat < s.p.at_.length := by omega
 have hcp := zdX s.p (hs.p.fits hg)
 have hto := zfV hg.board s.p.side n s.cursor
 rw [show g.board.cells = g.cells from rfl] at hto
 unfold znu
 generalize toB g.board s.p.side n s.cursor = to at *
 by_cases ht : to < 0
 ·rw [if_pos (.inr (.inl ht))]
  have ht0 : to.toNat = 0 := by omega
  have h0l : 0 < s.p.at_.length := by omega
  repeat first|with_reducible refine wV fun _=>?_|simp [go_sem, hcur, ht, ht0, h0l]
  exact frX
 ·have htl : to.toNat < s.p.at_.length := by omega
  have ht' : 0 ≤ to := by omega
  repeat first|with_reducible refine wV fun _=>?_|simp [go_sem, hcur, ht, htl]
  refine zBo (fun hc => ?_) (fun hc => ?_) <;> simp at hc
  ·rw [if_pos (by by_cases h : nth s.p.at_ s.cursor.toNat = 0; exact .inl h; exact .inr (hc.resolve_left h))]
   repeat first|with_reducible refine wV fun _=>?_|simp [go_sem]
   exact frX
  ·rw [if_neg (by rintro (h | h); exact hc.1 h; exact h hc.2)]
   repeat first|with_reducible refine wV fun _=>?_|simp [go_sem, hcur]
   refine zBs hcp (by simp [go_sem]) ?_
   repeat first|with_reducible refine wV fun _=>?_|simp [go_sem, hcur, htl]
   (first|done|exact dpX)
end Go.Av
end
