/- Texts of ours, part 6: contracts and facts for this claim. -/
import Derived.Test.YtkahkcakggflaaaGreatDoorB06
set_option linter.unusedSimpArgs false
set_option linter.unusedVariables false
set_option maxRecDepth 100000
set_option maxHeartbeats 40000000
section
open Go Go.Proofs
namespace Go.Av
theorem zdX (p : zaj) (ha : za0 p) : zgp Tryz.prog 169 [.agg (zad p)] (fun n => zpm n p) (fun n => zkq n p) 9 := by
 refine ⟨zBp (by kernel_rfl) Tryz.func169 rfl rfl (Nat.le_of_ble_eq_true rfl) (by kernel_rfl) ?_, fun n => ⟨?_, ?_⟩⟩
 ·obtain ⟨a1, a2, a3⟩ := ha
  unfold zeS at a1 a2 a3
  simp [go_sem]
  refine zBK (by omega) fun _ => ?_
  simp [go_sem]
  try ((with_reducible refine wZ ?_); (try simp [go_sem]))
  refine zBO (by omega) fun _ => ?_
  simp [go_sem]
  try ((with_reducible refine wZ ?_); (try simp [go_sem]))
  refine zBO (by omega) fun _ => ?_
  simp [go_sem]
  try ((with_reducible refine wZ ?_); (try simp [go_sem]))
  refine zkY.mk (by kernel_rfl) ?_
  simp [go_sem, zah]
 ·simp [go_sem]
 ·simp [go_sem]
end Go.Av
end
