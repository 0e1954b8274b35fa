/-
  DERIVED. GIVEN WITH THE SEED: THE PROGRAM's TIES (one call each: nine closed facts by the kernel) AND EACH ROW's TIE, after the 31st guide's Derived/Test/Toyas{Tie, Card}.lean. No idea stands in it: it is a product of the set-up. Laid BY PROGRAM, IN A SANDBOX (cutbox-door.mjs). By AI agents, Wed Nov 11 2026. No macro, syntax, notation, axiom, sorry.
-/
import Derived.Test.YtgdfnfffibhkjaaGreatDoorRows
import Derived.LaidByTextLater
import Derived.SevenTiedAt
import Derived.LaidSub
import Derived.LaidOnce
namespace Go.Proofs.YtgdfnfffibhkjaaGreatDoor
open Go
set_option maxRecDepth 100000
theorem seatTie1 : Tryz.prog.laidByTextLater [("math/bits.deBruijn32tab", Rows.laid_math_bits_deBruijn32tab), ("math/bits.deBruijn64tab", Rows.laid_math_bits_deBruijn64tab), ("internal/strconv.uint64pow10", Rows.laid_internal_strconv_uint64pow10), ("skewer/play.conditions", Rows.laid_skewer_play_conditions)] [.data, .data, .data, .funcs] true :=
  Program.laidByTextLater_by_one 29 8 65 (by kernel_rfl) (by kernel_rfl) (by kernel_rfl) (by kernel_rfl) (by kernel_rfl) (by kernel_rfl) (fun _ _ => by kernel_rfl)
theorem noOwnUnsafe : Tryz.pinned.checked.prog.headLifts.contains "ownunsafe" = false := by kernel_rfl
theorem tie : Tryz.prog.laidByTextLater [("math/bits.deBruijn32tab", Rows.laid_math_bits_deBruijn32tab), ("math/bits.deBruijn64tab", Rows.laid_math_bits_deBruijn64tab), ("internal/strconv.uint64pow10", Rows.laid_internal_strconv_uint64pow10), ("skewer/play.conditions", Rows.laid_skewer_play_conditions)] [.data, .data, .data, .funcs] true :=
  Program.laidByTextLater.sub seatTie1 ["math/bits.deBruijn32tab", "math/bits.deBruijn64tab", "internal/strconv.uint64pow10", "skewer/play.conditions"] (by kernel_rfl) (by kernel_rfl)
theorem sumMatchesReference_row_tie : Rows.sumMatchesReferenceRow.laidByTextAt .later Tryz.pinned [.data, .data, .data, .funcs] true :=
  OpenClaim.laidByTextAt_later rfl rfl tie noOwnUnsafe
theorem sumForms_row_tie : Rows.sumFormsRow.laidByTextAt .later Tryz.pinned [.data, .data, .data, .funcs] true :=
  OpenClaim.laidByTextAt_later rfl rfl tie noOwnUnsafe
theorem sumTotals_row_tie : Rows.sumTotalsRow.laidByTextAt .later Tryz.pinned [.data, .data, .data, .funcs] true :=
  OpenClaim.laidByTextAt_later rfl rfl tie noOwnUnsafe
theorem sumWinners_row_tie : Rows.sumWinnersRow.laidByTextAt .later Tryz.pinned [.data, .data, .data, .funcs] true :=
  OpenClaim.laidByTextAt_later rfl rfl tie noOwnUnsafe
theorem sumBest_row_tie : Rows.sumBestRow.laidByTextAt .later Tryz.pinned [.data, .data, .data, .funcs] true :=
  OpenClaim.laidByTextAt_later rfl rfl tie noOwnUnsafe
theorem sumRefuses_row_tie : Rows.sumRefusesRow.laidByTextAt .later Tryz.pinned [.data, .data, .data, .funcs] true :=
  OpenClaim.laidByTextAt_later rfl rfl tie noOwnUnsafe
theorem sumMatchesReferenceUpto_row_tie : Rows.sumMatchesReferenceUptoRow.laidByTextAt .later Tryz.pinned [.data, .data, .data, .funcs] true :=
  OpenClaim.laidByTextAt_later rfl rfl tie noOwnUnsafe
theorem sumFormsUpto_row_tie : Rows.sumFormsUptoRow.laidByTextAt .later Tryz.pinned [.data, .data, .data, .funcs] true :=
  OpenClaim.laidByTextAt_later rfl rfl tie noOwnUnsafe
theorem sumTotalsUpto_row_tie : Rows.sumTotalsUptoRow.laidByTextAt .later Tryz.pinned [.data, .data, .data, .funcs] true :=
  OpenClaim.laidByTextAt_later rfl rfl tie noOwnUnsafe
theorem sumWinnersUpto_row_tie : Rows.sumWinnersUptoRow.laidByTextAt .later Tryz.pinned [.data, .data, .data, .funcs] true :=
  OpenClaim.laidByTextAt_later rfl rfl tie noOwnUnsafe
theorem sumBestUpto_row_tie : Rows.sumBestUptoRow.laidByTextAt .later Tryz.pinned [.data, .data, .data, .funcs] true :=
  OpenClaim.laidByTextAt_later rfl rfl tie noOwnUnsafe
theorem sumRefusesUpto_row_tie : Rows.sumRefusesUptoRow.laidByTextAt .later Tryz.pinned [.data, .data, .data, .funcs] true :=
  OpenClaim.laidByTextAt_later rfl rfl tie noOwnUnsafe
end Go.Proofs.YtgdfnfffibhkjaaGreatDoor
