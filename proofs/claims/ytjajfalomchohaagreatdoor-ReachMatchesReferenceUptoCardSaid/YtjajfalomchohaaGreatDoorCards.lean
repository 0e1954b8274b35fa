/-
  DERIVED. GIVEN WITH THE SEED: THE CARDS: each row of YtjajfalomchohaaGreatDoorRows.lean that lists a variable, with what it lists TIED to the program's text (the seventh form; the later family's looks); each row that meets fmt, with fmt's text TOLD by the authors' own Lean function (tested against real Go, not proved from fmt's source: count such statements apart). THE CARD IS WHAT COUNTS. Prove the row's statement (the work); the ties are given (YtjajfalomchohaaGreatDoorTie.lean); close each card by the builder's one call (the guide's Derived/Test/ToyasCard.lean, 'card_holds'). Laid BY PROGRAM, IN A SANDBOX (cutbox-door.mjs). By AI agents, Wed Nov 11 2026. No macro, syntax, notation, axiom, sorry.
-/
import Derived.Test.YtjajfalomchohaaGreatDoorRows
import GoSem.ClaimSeven
namespace Go.Proofs.YtjajfalomchohaaGreatDoor
namespace Rows

/-- THE TIED CARD OF 'skewerlaw06.PlayPrograms'. -/
def playProgramsCard : Claim7 := { stood := { row := playProgramsRow, standIns := [], harness := (true, "ac3edc5dfb9ac231795ff2b040068fc8e4095f86defa9f4adbc6d73c05a84bf2"), looks := false }, kinds := [], alts := [], laidByText := true, laidKinds := [.data, .data, .data, .funcs], laidTests := true, laidLooks := .later }
def PlayProgramsCardSaid : Prop := Claim7.holds Tryz.pinned (.plain (OpenSpec.ofChange playProgramsSpec)) playProgramsCard

/-- THE TIED CARD OF 'skewerlaw27.ReachMatchesReference'. -/
def reachMatchesReferenceCard : Claim7 := { stood := { row := reachMatchesReferenceRow, standIns := [], harness := (true, "ac3edc5dfb9ac231795ff2b040068fc8e4095f86defa9f4adbc6d73c05a84bf2"), looks := false }, kinds := [], alts := [], laidByText := true, laidKinds := [.data, .data, .data, .funcs], laidTests := true, laidLooks := .later }
def ReachMatchesReferenceCardSaid : Prop := Claim7.holds Tryz.pinned (.plain (OpenSpec.ofChange reachMatchesReferenceSpec)) reachMatchesReferenceCard

/-- THE TIED CARD OF 'skewerlaw27.ReachGames'. -/
def reachGamesCard : Claim7 := { stood := { row := reachGamesRow, standIns := [], harness := (true, "ac3edc5dfb9ac231795ff2b040068fc8e4095f86defa9f4adbc6d73c05a84bf2"), looks := false }, kinds := [], alts := [], laidByText := true, laidKinds := [.data, .data, .data, .funcs], laidTests := true, laidLooks := .later }
def ReachGamesCardSaid : Prop := Claim7.holds Tryz.pinned (.plain (OpenSpec.ofChange reachGamesSpec)) reachGamesCard

/-- THE TIED CARD OF 'skewerlaw27.ReachSeen'. -/
def reachSeenCard : Claim7 := { stood := { row := reachSeenRow, standIns := [], harness := (true, "ac3edc5dfb9ac231795ff2b040068fc8e4095f86defa9f4adbc6d73c05a84bf2"), looks := false }, kinds := [], alts := [], laidByText := true, laidKinds := [.data, .data, .data, .funcs], laidTests := true, laidLooks := .later }
def ReachSeenCardSaid : Prop := Claim7.holds Tryz.pinned (.plain (OpenSpec.ofChange reachSeenSpec)) reachSeenCard

/-- THE TIED CARD OF 'skewerlaw27.ReachBudgets'. -/
def reachBudgetsCard : Claim7 := { stood := { row := reachBudgetsRow, standIns := [], harness := (true, "ac3edc5dfb9ac231795ff2b040068fc8e4095f86defa9f4adbc6d73c05a84bf2"), looks := false }, kinds := [], alts := [], laidByText := true, laidKinds := [.data, .data, .data, .funcs], laidTests := true, laidLooks := .later }
def ReachBudgetsCardSaid : Prop := Claim7.holds Tryz.pinned (.plain (OpenSpec.ofChange reachBudgetsSpec)) reachBudgetsCard

/-- THE TIED CARD OF 'skewerlaw27.ReachChecks'. -/
def reachChecksCard : Claim7 := { stood := { row := reachChecksRow, standIns := [], harness := (true, "ac3edc5dfb9ac231795ff2b040068fc8e4095f86defa9f4adbc6d73c05a84bf2"), looks := false }, kinds := [], alts := [], laidByText := true, laidKinds := [.data, .data, .data, .funcs], laidTests := true, laidLooks := .later }
def ReachChecksCardSaid : Prop := Claim7.holds Tryz.pinned (.plain (OpenSpec.ofChange reachChecksSpec)) reachChecksCard

/-- THE TIED CARD OF 'skewerlaw27.ReachShortest'. -/
def reachShortestCard : Claim7 := { stood := { row := reachShortestRow, standIns := [], harness := (true, "ac3edc5dfb9ac231795ff2b040068fc8e4095f86defa9f4adbc6d73c05a84bf2"), looks := false }, kinds := [], alts := [], laidByText := true, laidKinds := [.data, .data, .data, .funcs], laidTests := true, laidLooks := .later }
def ReachShortestCardSaid : Prop := Claim7.holds Tryz.pinned (.plain (OpenSpec.ofChange reachShortestSpec)) reachShortestCard

/-- THE TIED CARD OF 'skewerlaw14.IndexMoves'. -/
def indexMovesCard : Claim7 := { stood := { row := indexMovesRow, standIns := [], harness := (true, "ac3edc5dfb9ac231795ff2b040068fc8e4095f86defa9f4adbc6d73c05a84bf2"), looks := false }, kinds := [], alts := [], laidByText := true, laidKinds := [.data, .data, .data, .funcs], laidTests := true, laidLooks := .later }
def IndexMovesCardSaid : Prop := Claim7.holds Tryz.pinned (.plain (OpenSpec.ofChange indexMovesSpec)) indexMovesCard

/-- THE TIED CARD OF 'skewerlaw08.GenMatchesReference'. -/
def genMatchesReferenceCard : Claim7 := { stood := { row := genMatchesReferenceRow, standIns := [], harness := (true, "ac3edc5dfb9ac231795ff2b040068fc8e4095f86defa9f4adbc6d73c05a84bf2"), looks := false }, kinds := [], alts := [], laidByText := true, laidKinds := [.data, .data, .data, .funcs], laidTests := true, laidLooks := .later }
def GenMatchesReferenceCardSaid : Prop := Claim7.holds Tryz.pinned (.plain (OpenSpec.ofChange genMatchesReferenceSpec)) genMatchesReferenceCard

/-- THE TIED CARD OF 'skewerlaw08.GenMoves'. -/
def genMovesCard : Claim7 := { stood := { row := genMovesRow, standIns := [], harness := (true, "ac3edc5dfb9ac231795ff2b040068fc8e4095f86defa9f4adbc6d73c05a84bf2"), looks := false }, kinds := [], alts := [], laidByText := true, laidKinds := [.data, .data, .data, .funcs], laidTests := true, laidLooks := .later }
def GenMovesCardSaid : Prop := Claim7.holds Tryz.pinned (.plain (OpenSpec.ofChange genMovesSpec)) genMovesCard

/-- THE TIED CARD OF 'skewerlaw22.RegionPaths'. -/
def regionPathsCard : Claim7 := { stood := { row := regionPathsRow, standIns := [], harness := (true, "ac3edc5dfb9ac231795ff2b040068fc8e4095f86defa9f4adbc6d73c05a84bf2"), looks := false }, kinds := [], alts := [], laidByText := true, laidKinds := [.data, .data, .data], laidTests := true, laidLooks := .later }
def RegionPathsCardSaid : Prop := Claim7.holds Tryz.pinned (.plain (OpenSpec.ofChange regionPathsSpec)) regionPathsCard

/-- THE SECOND FORM's CARD OF 'skewerlaw06.PlayPrograms'. -/
def playProgramsUptoCard : Claim7 := { stood := { row := playProgramsUptoRow, standIns := [], harness := (true, "ac3edc5dfb9ac231795ff2b040068fc8e4095f86defa9f4adbc6d73c05a84bf2"), looks := false }, kinds := [], alts := [], laidByText := true, laidKinds := [.data, .data, .data, .funcs], laidTests := true, laidLooks := .later }
def PlayProgramsUptoCardSaid : Prop := Claim7.holds Tryz.pinned (.plain (OpenSpec.upto playProgramsSpec)) playProgramsUptoCard

/-- THE SECOND FORM's CARD OF 'skewerlaw27.ReachMatchesReference'. -/
def reachMatchesReferenceUptoCard : Claim7 := { stood := { row := reachMatchesReferenceUptoRow, standIns := [], harness := (true, "ac3edc5dfb9ac231795ff2b040068fc8e4095f86defa9f4adbc6d73c05a84bf2"), looks := false }, kinds := [], alts := [], laidByText := true, laidKinds := [.data, .data, .data, .funcs], laidTests := true, laidLooks := .later }
def ReachMatchesReferenceUptoCardSaid : Prop := Claim7.holds Tryz.pinned (.plain (OpenSpec.upto reachMatchesReferenceSpec)) reachMatchesReferenceUptoCard

/-- THE SECOND FORM's CARD OF 'skewerlaw27.ReachGames'. -/
def reachGamesUptoCard : Claim7 := { stood := { row := reachGamesUptoRow, standIns := [], harness := (true, "ac3edc5dfb9ac231795ff2b040068fc8e4095f86defa9f4adbc6d73c05a84bf2"), looks := false }, kinds := [], alts := [], laidByText := true, laidKinds := [.data, .data, .data, .funcs], laidTests := true, laidLooks := .later }
def ReachGamesUptoCardSaid : Prop := Claim7.holds Tryz.pinned (.plain (OpenSpec.upto reachGamesSpec)) reachGamesUptoCard

/-- THE SECOND FORM's CARD OF 'skewerlaw27.ReachSeen'. -/
def reachSeenUptoCard : Claim7 := { stood := { row := reachSeenUptoRow, standIns := [], harness := (true, "ac3edc5dfb9ac231795ff2b040068fc8e4095f86defa9f4adbc6d73c05a84bf2"), looks := false }, kinds := [], alts := [], laidByText := true, laidKinds := [.data, .data, .data, .funcs], laidTests := true, laidLooks := .later }
def ReachSeenUptoCardSaid : Prop := Claim7.holds Tryz.pinned (.plain (OpenSpec.upto reachSeenSpec)) reachSeenUptoCard

/-- THE SECOND FORM's CARD OF 'skewerlaw27.ReachBudgets'. -/
def reachBudgetsUptoCard : Claim7 := { stood := { row := reachBudgetsUptoRow, standIns := [], harness := (true, "ac3edc5dfb9ac231795ff2b040068fc8e4095f86defa9f4adbc6d73c05a84bf2"), looks := false }, kinds := [], alts := [], laidByText := true, laidKinds := [.data, .data, .data, .funcs], laidTests := true, laidLooks := .later }
def ReachBudgetsUptoCardSaid : Prop := Claim7.holds Tryz.pinned (.plain (OpenSpec.upto reachBudgetsSpec)) reachBudgetsUptoCard

/-- THE SECOND FORM's CARD OF 'skewerlaw27.ReachChecks'. -/
def reachChecksUptoCard : Claim7 := { stood := { row := reachChecksUptoRow, standIns := [], harness := (true, "ac3edc5dfb9ac231795ff2b040068fc8e4095f86defa9f4adbc6d73c05a84bf2"), looks := false }, kinds := [], alts := [], laidByText := true, laidKinds := [.data, .data, .data, .funcs], laidTests := true, laidLooks := .later }
def ReachChecksUptoCardSaid : Prop := Claim7.holds Tryz.pinned (.plain (OpenSpec.upto reachChecksSpec)) reachChecksUptoCard

/-- THE SECOND FORM's CARD OF 'skewerlaw27.ReachShortest'. -/
def reachShortestUptoCard : Claim7 := { stood := { row := reachShortestUptoRow, standIns := [], harness := (true, "ac3edc5dfb9ac231795ff2b040068fc8e4095f86defa9f4adbc6d73c05a84bf2"), looks := false }, kinds := [], alts := [], laidByText := true, laidKinds := [.data, .data, .data, .funcs], laidTests := true, laidLooks := .later }
def ReachShortestUptoCardSaid : Prop := Claim7.holds Tryz.pinned (.plain (OpenSpec.upto reachShortestSpec)) reachShortestUptoCard

/-- THE SECOND FORM's CARD OF 'skewerlaw14.IndexMoves'. -/
def indexMovesUptoCard : Claim7 := { stood := { row := indexMovesUptoRow, standIns := [], harness := (true, "ac3edc5dfb9ac231795ff2b040068fc8e4095f86defa9f4adbc6d73c05a84bf2"), looks := false }, kinds := [], alts := [], laidByText := true, laidKinds := [.data, .data, .data, .funcs], laidTests := true, laidLooks := .later }
def IndexMovesUptoCardSaid : Prop := Claim7.holds Tryz.pinned (.plain (OpenSpec.upto indexMovesSpec)) indexMovesUptoCard

/-- THE SECOND FORM's CARD OF 'skewerlaw08.GenMatchesReference'. -/
def genMatchesReferenceUptoCard : Claim7 := { stood := { row := genMatchesReferenceUptoRow, standIns := [], harness := (true, "ac3edc5dfb9ac231795ff2b040068fc8e4095f86defa9f4adbc6d73c05a84bf2"), looks := false }, kinds := [], alts := [], laidByText := true, laidKinds := [.data, .data, .data, .funcs], laidTests := true, laidLooks := .later }
def GenMatchesReferenceUptoCardSaid : Prop := Claim7.holds Tryz.pinned (.plain (OpenSpec.upto genMatchesReferenceSpec)) genMatchesReferenceUptoCard

/-- THE SECOND FORM's CARD OF 'skewerlaw08.GenMoves'. -/
def genMovesUptoCard : Claim7 := { stood := { row := genMovesUptoRow, standIns := [], harness := (true, "ac3edc5dfb9ac231795ff2b040068fc8e4095f86defa9f4adbc6d73c05a84bf2"), looks := false }, kinds := [], alts := [], laidByText := true, laidKinds := [.data, .data, .data, .funcs], laidTests := true, laidLooks := .later }
def GenMovesUptoCardSaid : Prop := Claim7.holds Tryz.pinned (.plain (OpenSpec.upto genMovesSpec)) genMovesUptoCard

/-- THE SECOND FORM's CARD OF 'skewerlaw22.RegionPaths'. -/
def regionPathsUptoCard : Claim7 := { stood := { row := regionPathsUptoRow, standIns := [], harness := (true, "ac3edc5dfb9ac231795ff2b040068fc8e4095f86defa9f4adbc6d73c05a84bf2"), looks := false }, kinds := [], alts := [], laidByText := true, laidKinds := [.data, .data, .data], laidTests := true, laidLooks := .later }
def RegionPathsUptoCardSaid : Prop := Claim7.holds Tryz.pinned (.plain (OpenSpec.upto regionPathsSpec)) regionPathsUptoCard
end Rows
end Go.Proofs.YtjajfalomchohaaGreatDoor
