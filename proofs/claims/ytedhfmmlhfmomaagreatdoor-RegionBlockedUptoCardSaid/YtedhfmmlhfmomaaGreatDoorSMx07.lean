/- Texts of ours, part 7: contracts and facts for this claim. -/
import Derived.Test.YtedhfmmlhfmomaaGreatDoorB07
set_option linter.unusedSimpArgs false
set_option linter.unusedVariables false
set_option maxRecDepth 100000
set_option maxHeartbeats 40000000
section
open Go Go.Proofs
namespace Go.Av
theorem zlS (g : zac) (hg : zhG g) (l : List Int) (hl : l.length ≤ 9223372036854775807) : zaJ Tryz.prog 87 [.agg (zad g), zaj l] (.v (.bool (zdF g l))) := by
 refine pF Tryz.func87 ?_
 unfold zhG at hg
 repeat first|refine wV fun _=>?_|simp [go_sem]
 refine zBj (fun hn => ?_) (fun hn => ?_) <;> simp at hn
 ·have e : zdF g l = false := by simp [zdF]; intro h; omega
  rw [e]
  repeat first|refine wV fun _=>?_|simp [go_sem]
 ·repeat first|refine wV fun _=>?_|simp [go_sem]
  have e : zdF g l = zb1 l g.kinds := by simp [zdF]; intro; omega
  rw [e]
  refine zBh (zBk (α := Nat) (fun j => ⟨[(1, zaj l), (2, .ref 0 0 9 0 0), (5, .v (.int .i64 j))], [(0, .rows true 0 9 [zad g])], 1⟩)
   (fun d j => j + d = l.length ∧ zb1 l g.kinds = zb1 (l.drop j) (g.kinds.drop j)) ?_ l.length 0 ?_) ?_ ?_
  ·rintro d j ⟨i1, i2⟩ hrec
   repeat first|refine wV fun _=>?_|simp [go_sem]
   refine zBj (fun hj => ?_) (fun hj => ?_) <;> simp at hj
   ·have hjk : j < g.kinds.length := by omega
    rw [zaG hj, zaG hjk, zb1] at i2
    generalize hR : zb1 (List.drop (j + 1) l) (List.drop (j + 1) g.kinds) = R at *
    cases hkp : (nth g.kinds j).keep
    ·rw [hkp] at i2
     repeat first|refine wV fun _=>?_|simp [go_sem, hj, hjk, hkp]
     refine zBj (fun hb => ?_) (fun hb => ?_) <;> simp at hb
     ·have e2 : zb1 l g.kinds = false := by rw [i2]; simp; intros; omega
      rw [e2]
      repeat first|refine wV fun _=>?_|simp [go_sem]
     ·have e2 : zb1 l g.kinds = R := by
       rw [i2]
       simp [show 0 ≤ nth l j by omega, show nth l j ≤ 8 by omega, show ¬ 0 < nth l j by omega]
      repeat first|refine wV fun _=>?_|simp [go_sem]
      refine zBh (hrec (d - 1) (by omega) (j + 1) ⟨by omega, by rw [e2, hR]⟩) ?_ (by simp)
      simp [go_sem, zaf]
    ·rw [hkp] at i2
     repeat first|refine wV fun _=>?_|simp [go_sem, hj, hjk, hkp]
     refine zBj (fun hb => ?_) (fun hb => ?_) <;> simp at hb
     ·have e2 : zb1 l g.kinds = false := by rw [i2]; simp; intros; omega
      rw [e2]
      repeat first|refine wV fun _=>?_|simp [go_sem]
     ·have e2 : zb1 l g.kinds = R := by
       rw [i2]
       simp [show 0 ≤ nth l j by omega, show nth l j ≤ 8 by omega]
      repeat first|refine wV fun _=>?_|simp [go_sem]
      refine zBh (hrec (d - 1) (by omega) (j + 1) ⟨by omega, by rw [e2, hR]⟩) ?_ (by simp)
      simp [go_sem, zaf]
   ·rw [List.drop_eq_nil_of_le hj, show ∀ ks, zb1 [] ks = true from fun ks => by simp [zb1]] at i2
    rw [i2]
    repeat first|refine wV fun _=>?_|simp [go_sem]
  ·exact ⟨by simp, rfl⟩
  ·simp [go_sem, zaf]
  ·simp
theorem zpZ (g : zac) (hg : zhG g) (hr : FitsR g) (p : zal) (hp : zbw p) : zaJ Tryz.prog 35 [.agg (zad g), .agg (zag p)] (.v (.bool (zkx g p))) := by
 refine pF Tryz.func35 ?_
 obtain ⟨p1, p2, p3⟩ := hp
 obtain ⟨r1, r2⟩ := hr
 have hpow : (0 : Int) ≤ 2 ^ g.rights.toNat ∧ (2 : Int) ^ g.rights.toNat ≤ 1152921504606846976 := by
  have h1 : g.rights.toNat ≤ 60 := by omega
  have h2 : (2 : Int) ^ g.rights.toNat ≤ 2 ^ 60 := by have := Nat.pow_le_pow_right (n := 2) (by omega) h1; exact_mod_cast this
  exact ⟨Int.pow_nonneg (by omega), by simpa using h2⟩
 unfold zhG at hg
 repeat first|refine wV fun _=>?_|simp [go_sem]
 refine zBt _ (fun _ => zlS g hg p.h0 (by unfold zfk at p2; omega)) (by simp [go_sem]) ?_
 repeat first|refine wV fun _=>?_|simp [go_sem]
 refine zBt _ (fun _ => zlS g hg p.h1 (by unfold zfk at p3; omega)) (by simp [go_sem]) ?_
 generalize hpw : (2 : Int) ^ g.rights.toNat = pw at *
 repeat first|refine wV fun _=>?_|simp [go_sem, hpw]
 unfold zfk at p1
 refine zBj (fun hv => ?_) (fun hv => ?_) <;> simp at hv
 ·have e : zkx g p = false := by
   rw [Bool.eq_false_iff]
   intro h
   obtain ⟨a1, a2, a3, a4, a5, a6, a7⟩ := zhy.1 h
   rw [hpw] at a6
   rw [a3, a4] at hv
   simp at hv
   omega
  rw [e]
  repeat first|refine wV fun _=>?_|simp [go_sem]
 ·have hn : ∀ x : Int, (∀ y ∈ p.at_, 0 ≤ y ∧ y ≤ 2 * g.kinds.length) → zkx g p = true := fun _ h => by
   rw [zhy, hpw]
   obtain ⟨⟨⟨⟨⟨⟨b1, b2⟩, b3⟩, b4⟩, b5⟩, b6⟩, b7⟩ := hv
   exact ⟨b1, h, b2, b3, b4, b5, by omega⟩
  repeat first|refine wV fun _=>?_|simp [go_sem]
  refine zBh (zBk (α := Nat) (fun j => ⟨[(2, .ref 0 0 9 0 0), (3, .ref 1 0 5 0 0), (5, .v (.int .i64 j))], [(0, .rows true 0 9 [zad g]), (1, .rows true 0 5 [zag p])], 2⟩)
   (fun d j => j + d = p.at_.length ∧ ∀ i, i < j → 0 ≤ nth p.at_ i ∧ nth p.at_ i ≤ 2 * g.kinds.length) ?_ p.at_.length 0 ?_) ?_ ?_
  ·rintro d j ⟨i1, i2⟩ hrec
   repeat first|refine wV fun _=>?_|simp [go_sem]
   refine zBj (fun hj => ?_) (fun hj => ?_) <;> simp at hj
   ·repeat first|refine wV fun _=>?_|simp [go_sem, hj]
    refine zBj (fun hb => ?_) (fun hb => ?_) <;> simp at hb
    ·have e : zkx g p = false := by
      rw [Bool.eq_false_iff]
      intro h
      have := (zhy.1 h).2.1 _ (zah hj)
      omega
     rw [e]
     repeat first|refine wV fun _=>?_|simp [go_sem]
    ·repeat first|refine wV fun _=>?_|simp [go_sem]
     refine zBh (hrec (d - 1) (by omega) (j + 1) ⟨by omega, fun i hi => ?_⟩) ?_ (by simp)
     ·rcases Nat.lt_or_ge i j with h | h
      ·exact i2 i h
      ·obtain rfl : i = j := by omega
       exact hb
     ·simp [go_sem, zaf]
   ·have e := hn 0 (fun y hy => by
     obtain ⟨i, hi, rfl⟩ := List.getElem_of_mem hy
     rw [← zaA _ _ hi]
     exact i2 i (by omega))
    rw [e]
    repeat first|refine wV fun _=>?_|simp [go_sem]
  ·exact ⟨by simp, fun i hi => by omega⟩
  ·simp [go_sem, zaf]
  ·simp
end Go.Av
end
