/- Texts of ours, part 12: contracts and facts for this claim. -/
import Derived.Test.YtedhfmmlhfmomaaGreatDoorB12
import Derived.Test.YtedhfmmlhfmomaaGreatDoorSGx10
set_option linter.unusedSimpArgs false
set_option linter.unusedVariables false
set_option maxRecDepth 100000
set_option maxHeartbeats 40000000
section
open Go Go.Proofs
namespace Go.Av
theorem znG (g : zae) (p : zah) : (zbQ g p).1.length ≤ 4000 := by
 unfold zbQ
 split
 ·simp
 ·simp only; omega
theorem znH {g : zae} {p q : zah} (h : q ∈ (zbQ g p).1) : q ∈ zaM g p := by
 unfold zbQ at h
 split at h
 ·cases h
 ·exact h
end Go.Av
end
