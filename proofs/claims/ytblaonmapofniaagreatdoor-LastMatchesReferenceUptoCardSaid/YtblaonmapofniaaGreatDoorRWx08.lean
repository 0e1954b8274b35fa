/- Texts of ours, part 8: contracts and facts for this claim. -/
import Derived.Test.YtblaonmapofniaaGreatDoorB08
set_option linter.unusedSimpArgs false
set_option linter.unusedVariables false
set_option maxRecDepth 100000
set_option maxHeartbeats 40000000
section
open Go Go.Proofs
namespace Go.Av
theorem layersP_zero (g : GameD) (b : Int) (f : Nat) (known now : List PosD) : (nth (layersP g b (f + 1) known now) 0).1 = now := by
 rw [layersP]
 split
 ·rfl
 ·split <;> rfl
end Go.Av
end
