/- Where what it reads is of bulk at most 1048576, and the listed variables hold what the text of the program lays, the function SumRefuses gives true and leaves its input as it was. -/
import Derived.Test.YtgdfnfffibhkjaaGreatDoorSRa
import Derived.JoinedCond
import Derived.Handed
import Derived.HandedShaped
import Derived.Deep.DeepHandedRow
import Derived.LaidHandle
import Derived.LaidMore
set_option linter.unusedSimpArgs false
set_option linter.unusedVariables false
set_option maxRecDepth 100000
set_option maxHeartbeats 40000000
section
open Go Go.Proofs Go.Av Go.ChangeShapes Go.RowKit
namespace Go.Proofs.YtgdfnfffibhkjaaGreatDoor
theorem sum_refuses_said:Rows.SumRefusesUptoCardSaid:=
 Claim7.holds_tied_plain_at .later [] _ _ _ _ sum_refuses_row (λ _ h=>by cases h) (by as_aux_lemma=>kernel_rfl) (λ _ h=>by cases h) sumRefusesUpto_row_tie rfl ⟨rfl,rfl⟩ (by as_aux_lemma=>kernel_rfl) rfl sum_refuses_plain (by as_aux_lemma=>kernel_rfl)
end Go.Proofs.YtgdfnfffibhkjaaGreatDoor
end
