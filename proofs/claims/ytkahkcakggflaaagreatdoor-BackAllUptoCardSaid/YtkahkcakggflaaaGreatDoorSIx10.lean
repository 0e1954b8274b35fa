/- Texts of ours, part 10: contracts and facts for this claim. -/
import Derived.Test.YtkahkcakggflaaaGreatDoorB10
import Derived.Test.YtkahkcakggflaaaGreatDoorSIx08
set_option linter.unusedSimpArgs false
set_option linter.unusedVariables false
set_option maxRecDepth 100000
set_option maxHeartbeats 40000000
section
open Go Go.Proofs
namespace Go.Av
theorem zfz (p : zaj) (ha : za0 p) : zgp Tryz.prog 97 [.agg (zad p)] (fun n => zpm n p) (fun n => zkq n p) 9 := by
 refine ⟨zBp (by kernel_rfl) Tryz.func97 rfl rfl (Nat.le_of_ble_eq_true rfl) (by kernel_rfl) ?_, fun n => ⟨by simp [go_sem], by simp [go_sem]⟩⟩
 obtain ⟨a1, a2, a3⟩ := ha
 unfold zeS at a1 a2 a3
 repeat first|with_reducible refine wV fun _=>?_|simp [go_sem]
 simp [go_sem, zah]
end Go.Av
end
