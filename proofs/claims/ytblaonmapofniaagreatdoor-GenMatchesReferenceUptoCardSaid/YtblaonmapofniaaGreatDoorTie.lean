/-
  DERIVED. GIVEN WITH THE SEED: THE PROGRAM's TIES (one call each: nine closed facts by the kernel) AND EACH ROW's TIE, after the 31st guide's Derived/Test/Toyas{Tie, Card}.lean. No idea stands in it: it is a product of the set-up. Laid BY PROGRAM, IN A SANDBOX (cutbox-door.mjs). By AI agents, Wed Nov 11 2026. No macro, syntax, notation, axiom, sorry.
-/
import Derived.Test.YtblaonmapofniaaGreatDoorRows
import Derived.LaidByTextLater
import Derived.SevenTiedAt
import Derived.LaidSub
import Derived.LaidOnce
namespace Go.Proofs.YtblaonmapofniaaGreatDoor
open Go
set_option maxRecDepth 100000
theorem seatTie1 : Tryz.prog.laidByTextLater [("math/bits.deBruijn32tab", Rows.laid_math_bits_deBruijn32tab), ("math/bits.deBruijn64tab", Rows.laid_math_bits_deBruijn64tab), ("internal/strconv.uint64pow10", Rows.laid_internal_strconv_uint64pow10), ("skewer/play.conditions", Rows.laid_skewer_play_conditions)] [.data, .data, .data, .funcs] true :=
  Program.laidByTextLater_by_one 29 8 65 (by kernel_rfl) (by kernel_rfl) (by kernel_rfl) (by kernel_rfl) (by kernel_rfl) (by kernel_rfl) (fun _ _ => by kernel_rfl)
theorem noOwnUnsafe : Tryz.pinned.checked.prog.headLifts.contains "ownunsafe" = false := by kernel_rfl
theorem tie : Tryz.prog.laidByTextLater [("math/bits.deBruijn32tab", Rows.laid_math_bits_deBruijn32tab), ("math/bits.deBruijn64tab", Rows.laid_math_bits_deBruijn64tab), ("internal/strconv.uint64pow10", Rows.laid_internal_strconv_uint64pow10), ("skewer/play.conditions", Rows.laid_skewer_play_conditions)] [.data, .data, .data, .funcs] true :=
  Program.laidByTextLater.sub seatTie1 ["math/bits.deBruijn32tab", "math/bits.deBruijn64tab", "internal/strconv.uint64pow10", "skewer/play.conditions"] (by kernel_rfl) (by kernel_rfl)
theorem playPrograms_row_tie : Rows.playProgramsRow.laidByTextAt .later Tryz.pinned [.data, .data, .data, .funcs] true :=
  OpenClaim.laidByTextAt_later rfl rfl tie noOwnUnsafe
theorem reachChecks_row_tie : Rows.reachChecksRow.laidByTextAt .later Tryz.pinned [.data, .data, .data, .funcs] true :=
  OpenClaim.laidByTextAt_later rfl rfl tie noOwnUnsafe
theorem lastMatchesReference_row_tie : Rows.lastMatchesReferenceRow.laidByTextAt .later Tryz.pinned [.data, .data, .data, .funcs] true :=
  OpenClaim.laidByTextAt_later rfl rfl tie noOwnUnsafe
theorem lastRights_row_tie : Rows.lastRightsRow.laidByTextAt .later Tryz.pinned [.data, .data, .data, .funcs] true :=
  OpenClaim.laidByTextAt_later rfl rfl tie noOwnUnsafe
theorem lastLooks_row_tie : Rows.lastLooksRow.laidByTextAt .later Tryz.pinned [.data, .data, .data, .funcs] true :=
  OpenClaim.laidByTextAt_later rfl rfl tie noOwnUnsafe
theorem lastBudgets_row_tie : Rows.lastBudgetsRow.laidByTextAt .later Tryz.pinned [.data, .data, .data, .funcs] true :=
  OpenClaim.laidByTextAt_later rfl rfl tie noOwnUnsafe
theorem lastMoves_row_tie : Rows.lastMovesRow.laidByTextAt .later Tryz.pinned [.data, .data, .data, .funcs] true :=
  OpenClaim.laidByTextAt_later rfl rfl tie noOwnUnsafe
theorem lastGames_row_tie : Rows.lastGamesRow.laidByTextAt .later Tryz.pinned [.data, .data, .data, .funcs] true :=
  OpenClaim.laidByTextAt_later rfl rfl tie noOwnUnsafe
theorem indexMoves_row_tie : Rows.indexMovesRow.laidByTextAt .later Tryz.pinned [.data, .data, .data, .funcs] true :=
  OpenClaim.laidByTextAt_later rfl rfl tie noOwnUnsafe
theorem genMatchesReference_row_tie : Rows.genMatchesReferenceRow.laidByTextAt .later Tryz.pinned [.data, .data, .data, .funcs] true :=
  OpenClaim.laidByTextAt_later rfl rfl tie noOwnUnsafe
theorem genMoves_row_tie : Rows.genMovesRow.laidByTextAt .later Tryz.pinned [.data, .data, .data, .funcs] true :=
  OpenClaim.laidByTextAt_later rfl rfl tie noOwnUnsafe
theorem tie2 : Tryz.prog.laidByTextLater [("math/bits.deBruijn32tab", Rows.laid_math_bits_deBruijn32tab), ("math/bits.deBruijn64tab", Rows.laid_math_bits_deBruijn64tab), ("internal/strconv.uint64pow10", Rows.laid_internal_strconv_uint64pow10)] [.data, .data, .data] true :=
  Program.laidByTextLater.sub seatTie1 ["math/bits.deBruijn32tab", "math/bits.deBruijn64tab", "internal/strconv.uint64pow10"] (by kernel_rfl) (by kernel_rfl)
theorem regionPaths_row_tie : Rows.regionPathsRow.laidByTextAt .later Tryz.pinned [.data, .data, .data] true :=
  OpenClaim.laidByTextAt_later rfl rfl tie2 noOwnUnsafe
theorem playProgramsUpto_row_tie : Rows.playProgramsUptoRow.laidByTextAt .later Tryz.pinned [.data, .data, .data, .funcs] true :=
  OpenClaim.laidByTextAt_later rfl rfl tie noOwnUnsafe
theorem reachChecksUpto_row_tie : Rows.reachChecksUptoRow.laidByTextAt .later Tryz.pinned [.data, .data, .data, .funcs] true :=
  OpenClaim.laidByTextAt_later rfl rfl tie noOwnUnsafe
theorem lastMatchesReferenceUpto_row_tie : Rows.lastMatchesReferenceUptoRow.laidByTextAt .later Tryz.pinned [.data, .data, .data, .funcs] true :=
  OpenClaim.laidByTextAt_later rfl rfl tie noOwnUnsafe
theorem lastRightsUpto_row_tie : Rows.lastRightsUptoRow.laidByTextAt .later Tryz.pinned [.data, .data, .data, .funcs] true :=
  OpenClaim.laidByTextAt_later rfl rfl tie noOwnUnsafe
theorem lastLooksUpto_row_tie : Rows.lastLooksUptoRow.laidByTextAt .later Tryz.pinned [.data, .data, .data, .funcs] true :=
  OpenClaim.laidByTextAt_later rfl rfl tie noOwnUnsafe
theorem lastBudgetsUpto_row_tie : Rows.lastBudgetsUptoRow.laidByTextAt .later Tryz.pinned [.data, .data, .data, .funcs] true :=
  OpenClaim.laidByTextAt_later rfl rfl tie noOwnUnsafe
theorem lastMovesUpto_row_tie : Rows.lastMovesUptoRow.laidByTextAt .later Tryz.pinned [.data, .data, .data, .funcs] true :=
  OpenClaim.laidByTextAt_later rfl rfl tie noOwnUnsafe
theorem lastGamesUpto_row_tie : Rows.lastGamesUptoRow.laidByTextAt .later Tryz.pinned [.data, .data, .data, .funcs] true :=
  OpenClaim.laidByTextAt_later rfl rfl tie noOwnUnsafe
theorem indexMovesUpto_row_tie : Rows.indexMovesUptoRow.laidByTextAt .later Tryz.pinned [.data, .data, .data, .funcs] true :=
  OpenClaim.laidByTextAt_later rfl rfl tie noOwnUnsafe
theorem genMatchesReferenceUpto_row_tie : Rows.genMatchesReferenceUptoRow.laidByTextAt .later Tryz.pinned [.data, .data, .data, .funcs] true :=
  OpenClaim.laidByTextAt_later rfl rfl tie noOwnUnsafe
theorem genMovesUpto_row_tie : Rows.genMovesUptoRow.laidByTextAt .later Tryz.pinned [.data, .data, .data, .funcs] true :=
  OpenClaim.laidByTextAt_later rfl rfl tie noOwnUnsafe
theorem regionPathsUpto_row_tie : Rows.regionPathsUptoRow.laidByTextAt .later Tryz.pinned [.data, .data, .data] true :=
  OpenClaim.laidByTextAt_later rfl rfl tie2 noOwnUnsafe
end Go.Proofs.YtblaonmapofniaaGreatDoor
