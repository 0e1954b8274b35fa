/- Texts of ours, part 8: contracts and facts for this claim. -/
import Derived.Test.YtedhfmmlhfmomaaGreatDoorB08
set_option linter.unusedSimpArgs false
set_option linter.unusedVariables false
set_option maxRecDepth 100000
set_option maxHeartbeats 40000000
section
open Go Go.Proofs
namespace Go.Av
theorem zgw {g : zae} {p : zah} (h : 0 ≤ zch g p) : zaK g p = [] := if_pos h
end Go.Av
end
