/- Where what it reads is of bulk at most 1048576, and the listed variables hold what the text of the program lays, the function TopDiagrams gives true and leaves its input as it was. -/
import Derived.Test.YtnjjmmhiaaplmaaGreatDoorSQa
import Derived.JoinedCond
import Derived.Handed
import Derived.HandedShaped
import Derived.Deep.DeepHandedRow
import Derived.LaidHandle
import Derived.LaidMore
set_option linter.unusedSimpArgs false
set_option linter.unusedVariables false
set_option maxRecDepth 100000
set_option maxHeartbeats 40000000
section
open Go Go.Proofs Go.Av Go.ChangeShapes Go.RowKit
namespace Go.Proofs.YtnjjmmhiaaplmaaGreatDoor
theorem top_diagrams_said:Rows.TopDiagramsUptoCardSaid:=
 Claim7.holds_tied_plain_at .later [] _ _ _ _ top_diagrams_row (fun _ h=>by cases h) (by as_aux_lemma=>kernel_rfl) (fun _ h=>by cases h) topDiagramsUpto_row_tie rfl ⟨rfl,rfl⟩ (by as_aux_lemma=>kernel_rfl) rfl top_diagrams_plain (by as_aux_lemma=>kernel_rfl)
end Go.Proofs.YtnjjmmhiaaplmaaGreatDoor
end
