/- Texts of ours, part 12: contracts and facts for this claim. -/
import Derived.Test.YtedhfmmlhfmomaaGreatDoorB12
import Derived.Test.YtedhfmmlhfmomaaGreatDoorSHx08
set_option linter.unusedSimpArgs false
set_option linter.unusedVariables false
set_option maxRecDepth 100000
set_option maxHeartbeats 40000000
section
open Go Go.Proofs
namespace Go.Av
theorem zm4 (l : List zah) (hi : Inc l) (hl : l.length ≤ 17179869184) (hf : ∀ q ∈ l, zaU q) (p : zah) (hp : zaU p) :
  zaL Tryz.prog 93 [zaN l, .agg (zad p), .fn (.func 37) [] []] (.tup [.v (.int .i64 (zmN l p)), .v (.bool (decide (p ∈ l)))]) := by
 refine pF Tryz.func93 ?_
 have hle := zvM l p
 have hmem := zro hi p
 have hiff := fun h hn => zrn hi p (h := h) hn
 generalize zmN l p = w at *
 repeat first|refine wV fun _=>?_|simp [go_sem]
 refine zAr (zAv (α := Nat × Nat) (fun a => ⟨[(0, zaN l), (2, .fn (.func 37) [] []), (4, .ref 0 0 5 0 0), (8, .v (.int .i64 l.length)), (9, .v (.int .i64 a.1)), (10, .v (.int .i64 a.2))], [(0, .rows true 0 5 [zad p])], 1⟩)
  (fun d a => a.2 - a.1 ≤ d ∧ a.1 ≤ w ∧ w ≤ a.2 ∧ a.2 ≤ l.length) ?_ l.length (0, l.length) ?_) ?_ ?_
 ·rintro d ⟨i, j⟩ ⟨i1, i2, i3, i4⟩ hrec
  simp only at i1 i2 i3 i4
  have hdiv : ((i : Int) + j).fdiv 2 = ((i + j) / 2 : Nat) := by rw [Int.fdiv_eq_ediv_of_nonneg _ (by omega)]; omega
  repeat first|refine wV fun _=>?_|simp [go_sem]
  refine zAt (fun hlt => ?_) (fun hlt => ?_) <;> simp at hlt
  ·have hm : (i + j) / 2 < l.length := by omega
   have hm2 : i ≤ (i + j) / 2 ∧ (i + j) / 2 < j := by omega
   generalize hmid : (i + j) / 2 = mid at *
   repeat first|refine wV fun _=>?_|simp [go_sem, hdiv, hm]
   refine zAu (zbG (nth l mid) p (hf _ (zaj hm)) hp) (by simp [go_sem]) ?_
   have hi2 := hiff mid hm
   generalize zbx (nth l mid) p = c at *
   repeat first|refine wV fun _=>?_|simp [go_sem]
   refine zAt (fun hc => ?_) (fun hc => ?_) <;> simp at hc
   ·have := hi2.1 hc
    repeat first|refine wV fun _=>?_|simp [go_sem]
    refine zAr (hrec (d - 1) (by omega) (mid + 1, j) ⟨by simp only; omega, by simp only; omega, by simp only; omega, by simp only; omega⟩) ?_ (by simp)
    simp [go_sem, zaf]
   ·have : ¬ mid < w := fun h => by have := hi2.2 h; omega
    repeat first|refine wV fun _=>?_|simp [go_sem]
    refine zAr (hrec (d - 1) (by omega) (i, mid) ⟨by simp only; omega, by simp only; omega, by simp only; omega, by simp only; omega⟩) ?_ (by simp)
    simp [go_sem, zaf]
  ·obtain rfl : i = w := by omega
   by_cases hw : i < l.length
   ·have hC := zbG (nth l i) p (hf _ (zaj hw)) hp
    have e : decide (p ∈ l) = decide (zbx (nth l i) p = 0) := by
     rw [decide_eq_decide, hmem, za7.eq]
     exact ⟨fun h => h.2, fun h => ⟨hw, h⟩⟩
    rw [e]
    generalize zbx (nth l i) p = c at *
    repeat first|refine wV fun _=>?_|simp [go_sem, hw]
    refine zAD _ (fun _ => hC) (by simp [go_sem]) ?_
    repeat first|refine wV fun _=>?_|simp [go_sem, hw]
   ·have e : decide (p ∈ l) = false := decide_eq_false fun h => hw (hmem.1 h).1
    rw [e]
    repeat first|refine wV fun _=>?_|simp [go_sem, hw]
    refine dGC.skip (.v (.int .i64 0)) ?_
    repeat first|refine wV fun _=>?_|simp [go_sem, hw]
 ·exact ⟨by simp, by simp, hle, by simp⟩
 ·simp [go_sem, zaf]
 ·simp
theorem ztt (l : List zah) (hi : Inc l) (hl : l.length ≤ 17179869184) (hf : ∀ q ∈ l, zaU q) (p : zah) (hp : zaU p) :
  zaL Tryz.prog 38 [zaN l, .agg (zad p)] (.v (.int .i64 (zyJ l p))) := by
 refine pF Tryz.func38 ?_
 have hB := zm4 l hi hl hf p hp
 rw [zxI hi]
 repeat first|refine wV fun _=>?_|simp [go_sem]
 refine zAs hB (by simp [go_sem]) ?_
 repeat first|refine wV fun _=>?_|simp [go_sem]
 by_cases h : p ∈ l
 ·rw [if_pos h]
  repeat first|refine wV fun _=>?_|simp [go_sem, h]
 ·rw [if_neg h]
  repeat first|refine wV fun _=>?_|simp [go_sem, h]
end Go.Av
end
