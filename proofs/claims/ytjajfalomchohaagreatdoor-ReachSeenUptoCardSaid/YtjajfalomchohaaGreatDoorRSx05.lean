/- Texts of ours, part 5: contracts and facts for this claim. -/
import Derived.Test.YtjajfalomchohaaGreatDoorB05
set_option linter.unusedSimpArgs false
set_option linter.unusedVariables false
set_option maxRecDepth 100000
set_option maxHeartbeats 40000000
section
open Go Go.Proofs
namespace Go.Av
def sortedP : List PosD → Bool
 | a :: b :: l => decide (cmpP a b < 0) && sortedP (b :: l)
 | _ => true
theorem Sorted_pure (l : List PosD) (hl : l.length ≤ 1099511627776) (hf : ∀ p ∈ l, FitsP p) : Pure Tryz.prog 30 [encPs l] (.v (.bool (sortedP l))) := by
 refine pF Tryz.func30 ?_
 (repeat (first|with_reducible (first|refine wV fun _=>?_|refine wE ?_)|simp [go_sem]))
 refine ALoop.start (ALoop.ind (α := Nat) (fun j => ⟨[(0, encPs l), (3, .v (.int .i64 ((j : Int) + 1)))], [], 0⟩)
  (fun d j => j + d = l.length ∧ sortedP l = sortedP (l.drop j)) ?_ l.length 0 ?_) ?_ ?_
 ·rintro d j ⟨i1, i2⟩ hrec
  (repeat (first|with_reducible (first|refine wV fun _=>?_|refine wE ?_)|simp [go_sem]))
  refine aIf.mkL (fun hj => ?_) (fun hj => ?_) <;> simp at hj
  ·have h0 : j < l.length := by omega
   have h1 : j + 1 < l.length := by omega
   rw [dropG_cons h0, dropG_cons h1, sortedP, ← dropG_cons h1] at i2
   have e1 : ((j : Int) + 1).toNat = j + 1 := by omega
   (repeat (first|with_reducible (first|refine wV fun _=>?_|refine wE ?_)|simp [go_sem, h0, h1, e1]))
   refine dCall.plain (Compare_pure (nth l j) (nth l (j + 1)) (hf _ (nth_mem h0)) (hf _ (nth_mem h1))) (by simp [go_sem]) ?_
   generalize hc : cmpP (nth l j) (nth l (j + 1)) = c at *
   (repeat (first|with_reducible (first|refine wV fun _=>?_|refine wE ?_)|simp [go_sem]))
   refine aIf.mkL (fun hb => ?_) (fun hb => ?_) <;> simp at hb
   ·have e : sortedP l = false := by rw [i2]; simp; omega
    rw [e]
    (repeat (first|with_reducible (first|refine wV fun _=>?_|refine wE ?_)|simp [go_sem]))
   ·have e : sortedP l = sortedP (l.drop (j + 1)) := by rw [i2]; simp; omega
    (repeat (first|with_reducible (first|refine wV fun _=>?_|refine wE ?_)|simp [go_sem]))
    refine ALoop.start (hrec (d - 1) (by omega) (j + 1) ⟨by omega, e⟩) ?_ (by simp)
    simp [go_sem, Wk_eq]
  ·have e : sortedP l = true := by
    rw [i2]
    cases h : l.drop j with
    | nil => rfl
    | cons a t =>
     have : (l.drop j).length = (a :: t).length := by rw [h]
     simp at this
     have : t = [] := List.eq_nil_of_length_eq_zero (by omega)
     subst this; rfl
   rw [e]
   (repeat (first|with_reducible (first|refine wV fun _=>?_|refine wE ?_)|simp [go_sem]))
 ·exact ⟨by simp, rfl⟩
 ·simp [go_sem, Wk_eq]
 ·simp
end Go.Av
end
