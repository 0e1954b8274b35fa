/-
  DERIVED. GIVEN WITH THE SEED: THE PROGRAM's TIES (one call each: nine closed facts by the kernel) AND EACH ROW's TIE, after the 31st guide's Derived/Test/Toyas{Tie, Card}.lean. No idea stands in it: it is a product of the set-up. Laid BY PROGRAM, IN A SANDBOX (cutbox-door.mjs). By AI agents, Wed Nov 11 2026. No macro, syntax, notation, axiom, sorry.
-/
import Derived.Test.YtedhfmmlhfmomaaGreatDoorRows
import Derived.LaidByTextLater
import Derived.SevenTiedAt
import Derived.LaidSub
import Derived.LaidOnce
namespace Go.Proofs.YtedhfmmlhfmomaaGreatDoor
open Go
set_option maxRecDepth 100000
theorem seatTie1 : Tryz.prog.laidByTextLater [("math/bits.deBruijn32tab", Rows.laid_math_bits_deBruijn32tab), ("math/bits.deBruijn64tab", Rows.laid_math_bits_deBruijn64tab), ("internal/strconv.uint64pow10", Rows.laid_internal_strconv_uint64pow10), ("skewer/play.conditions", Rows.laid_skewer_play_conditions)] [.data, .data, .data, .funcs] true :=
  Program.laidByTextLater_by_one 29 8 65 (by kernel_rfl) (by kernel_rfl) (by kernel_rfl) (by kernel_rfl) (by kernel_rfl) (by kernel_rfl) (fun _ _ => by kernel_rfl)
theorem noOwnUnsafe : Tryz.pinned.checked.prog.headLifts.contains "ownunsafe" = false := by kernel_rfl
theorem tie : Tryz.prog.laidByTextLater [("math/bits.deBruijn32tab", Rows.laid_math_bits_deBruijn32tab), ("math/bits.deBruijn64tab", Rows.laid_math_bits_deBruijn64tab), ("internal/strconv.uint64pow10", Rows.laid_internal_strconv_uint64pow10), ("skewer/play.conditions", Rows.laid_skewer_play_conditions)] [.data, .data, .data, .funcs] true :=
  Program.laidByTextLater.sub seatTie1 ["math/bits.deBruijn32tab", "math/bits.deBruijn64tab", "internal/strconv.uint64pow10", "skewer/play.conditions"] (by kernel_rfl) (by kernel_rfl)
theorem regionMoves_row_tie : Rows.regionMovesRow.laidByTextAt .later Tryz.pinned [.data, .data, .data, .funcs] true :=
  OpenClaim.laidByTextAt_later rfl rfl tie noOwnUnsafe
theorem regionInfluence_row_tie : Rows.regionInfluenceRow.laidByTextAt .later Tryz.pinned [.data, .data, .data, .funcs] true :=
  OpenClaim.laidByTextAt_later rfl rfl tie noOwnUnsafe
theorem regionBlocked_row_tie : Rows.regionBlockedRow.laidByTextAt .later Tryz.pinned [.data, .data, .data, .funcs] true :=
  OpenClaim.laidByTextAt_later rfl rfl tie noOwnUnsafe
theorem backMatchesReference_row_tie : Rows.backMatchesReferenceRow.laidByTextAt .later Tryz.pinned [.data, .data, .data, .funcs] true :=
  OpenClaim.laidByTextAt_later rfl rfl tie noOwnUnsafe
theorem backRefuses_row_tie : Rows.backRefusesRow.laidByTextAt .later Tryz.pinned [.data, .data, .data, .funcs] true :=
  OpenClaim.laidByTextAt_later rfl rfl tie noOwnUnsafe
theorem backLeads_row_tie : Rows.backLeadsRow.laidByTextAt .later Tryz.pinned [.data, .data, .data, .funcs] true :=
  OpenClaim.laidByTextAt_later rfl rfl tie noOwnUnsafe
theorem backForth_row_tie : Rows.backForthRow.laidByTextAt .later Tryz.pinned [.data, .data, .data, .funcs] true :=
  OpenClaim.laidByTextAt_later rfl rfl tie noOwnUnsafe
theorem backChains_row_tie : Rows.backChainsRow.laidByTextAt .later Tryz.pinned [.data, .data, .data, .funcs] true :=
  OpenClaim.laidByTextAt_later rfl rfl tie noOwnUnsafe
theorem lastBack_row_tie : Rows.lastBackRow.laidByTextAt .later Tryz.pinned [.data, .data, .data, .funcs] true :=
  OpenClaim.laidByTextAt_later rfl rfl tie noOwnUnsafe
theorem topDiagrams_row_tie : Rows.topDiagramsRow.laidByTextAt .later Tryz.pinned [.data, .data, .data, .funcs] true :=
  OpenClaim.laidByTextAt_later rfl rfl tie noOwnUnsafe
theorem regionMovesUpto_row_tie : Rows.regionMovesUptoRow.laidByTextAt .later Tryz.pinned [.data, .data, .data, .funcs] true :=
  OpenClaim.laidByTextAt_later rfl rfl tie noOwnUnsafe
theorem regionInfluenceUpto_row_tie : Rows.regionInfluenceUptoRow.laidByTextAt .later Tryz.pinned [.data, .data, .data, .funcs] true :=
  OpenClaim.laidByTextAt_later rfl rfl tie noOwnUnsafe
theorem regionBlockedUpto_row_tie : Rows.regionBlockedUptoRow.laidByTextAt .later Tryz.pinned [.data, .data, .data, .funcs] true :=
  OpenClaim.laidByTextAt_later rfl rfl tie noOwnUnsafe
theorem backMatchesReferenceUpto_row_tie : Rows.backMatchesReferenceUptoRow.laidByTextAt .later Tryz.pinned [.data, .data, .data, .funcs] true :=
  OpenClaim.laidByTextAt_later rfl rfl tie noOwnUnsafe
theorem backRefusesUpto_row_tie : Rows.backRefusesUptoRow.laidByTextAt .later Tryz.pinned [.data, .data, .data, .funcs] true :=
  OpenClaim.laidByTextAt_later rfl rfl tie noOwnUnsafe
theorem backLeadsUpto_row_tie : Rows.backLeadsUptoRow.laidByTextAt .later Tryz.pinned [.data, .data, .data, .funcs] true :=
  OpenClaim.laidByTextAt_later rfl rfl tie noOwnUnsafe
theorem backForthUpto_row_tie : Rows.backForthUptoRow.laidByTextAt .later Tryz.pinned [.data, .data, .data, .funcs] true :=
  OpenClaim.laidByTextAt_later rfl rfl tie noOwnUnsafe
theorem backChainsUpto_row_tie : Rows.backChainsUptoRow.laidByTextAt .later Tryz.pinned [.data, .data, .data, .funcs] true :=
  OpenClaim.laidByTextAt_later rfl rfl tie noOwnUnsafe
theorem lastBackUpto_row_tie : Rows.lastBackUptoRow.laidByTextAt .later Tryz.pinned [.data, .data, .data, .funcs] true :=
  OpenClaim.laidByTextAt_later rfl rfl tie noOwnUnsafe
theorem topDiagramsUpto_row_tie : Rows.topDiagramsUptoRow.laidByTextAt .later Tryz.pinned [.data, .data, .data, .funcs] true :=
  OpenClaim.laidByTextAt_later rfl rfl tie noOwnUnsafe
end Go.Proofs.YtedhfmmlhfmomaaGreatDoor
