/-
  DERIVED. GIVEN WITH THE SEED: THE CARDS: each row of YtblaonmapofniaaGreatDoorRows.lean that lists a variable, with what it lists TIED to the program's text (the seventh form; the later family's looks); each row that meets fmt, with fmt's text TOLD by the authors' own Lean function (tested against real Go, not proved from fmt's source: count such statements apart). THE CARD IS WHAT COUNTS. Prove the row's statement (the work); the ties are given (YtblaonmapofniaaGreatDoorTie.lean); close each card by the builder's one call (the guide's Derived/Test/ToyasCard.lean, 'card_holds'). Laid BY PROGRAM, IN A SANDBOX (cutbox-door.mjs). By AI agents, Wed Nov 11 2026. No macro, syntax, notation, axiom, sorry.
-/
import Derived.Test.YtblaonmapofniaaGreatDoorRows
import GoSem.ClaimSeven
namespace Go.Proofs.YtblaonmapofniaaGreatDoor
namespace Rows

/-- THE TIED CARD OF 'skewerlaw06.PlayPrograms'. -/
def playProgramsCard : Claim7 := { stood := { row := playProgramsRow, standIns := [], harness := (true, "ffa0e988a03ae4f1a5e13a83e5f51229641af75110e09435a7b3d0bff5c0f2a1"), looks := false }, kinds := [], alts := [], laidByText := true, laidKinds := [.data, .data, .data, .funcs], laidTests := true, laidLooks := .later }
def PlayProgramsCardSaid : Prop := Claim7.holds Tryz.pinned (.plain (OpenSpec.ofChange playProgramsSpec)) playProgramsCard

/-- THE TIED CARD OF 'skewerlaw27.ReachChecks'. -/
def reachChecksCard : Claim7 := { stood := { row := reachChecksRow, standIns := [], harness := (true, "ffa0e988a03ae4f1a5e13a83e5f51229641af75110e09435a7b3d0bff5c0f2a1"), looks := false }, kinds := [], alts := [], laidByText := true, laidKinds := [.data, .data, .data, .funcs], laidTests := true, laidLooks := .later }
def ReachChecksCardSaid : Prop := Claim7.holds Tryz.pinned (.plain (OpenSpec.ofChange reachChecksSpec)) reachChecksCard

/-- THE TIED CARD OF 'skewerlaw29.LastMatchesReference'. -/
def lastMatchesReferenceCard : Claim7 := { stood := { row := lastMatchesReferenceRow, standIns := [], harness := (true, "ffa0e988a03ae4f1a5e13a83e5f51229641af75110e09435a7b3d0bff5c0f2a1"), looks := false }, kinds := [], alts := [], laidByText := true, laidKinds := [.data, .data, .data, .funcs], laidTests := true, laidLooks := .later }
def LastMatchesReferenceCardSaid : Prop := Claim7.holds Tryz.pinned (.plain (OpenSpec.ofChange lastMatchesReferenceSpec)) lastMatchesReferenceCard

/-- THE TIED CARD OF 'skewerlaw29.LastRights'. -/
def lastRightsCard : Claim7 := { stood := { row := lastRightsRow, standIns := [], harness := (true, "ffa0e988a03ae4f1a5e13a83e5f51229641af75110e09435a7b3d0bff5c0f2a1"), looks := false }, kinds := [], alts := [], laidByText := true, laidKinds := [.data, .data, .data, .funcs], laidTests := true, laidLooks := .later }
def LastRightsCardSaid : Prop := Claim7.holds Tryz.pinned (.plain (OpenSpec.ofChange lastRightsSpec)) lastRightsCard

/-- THE TIED CARD OF 'skewerlaw29.LastLooks'. -/
def lastLooksCard : Claim7 := { stood := { row := lastLooksRow, standIns := [], harness := (true, "ffa0e988a03ae4f1a5e13a83e5f51229641af75110e09435a7b3d0bff5c0f2a1"), looks := false }, kinds := [], alts := [], laidByText := true, laidKinds := [.data, .data, .data, .funcs], laidTests := true, laidLooks := .later }
def LastLooksCardSaid : Prop := Claim7.holds Tryz.pinned (.plain (OpenSpec.ofChange lastLooksSpec)) lastLooksCard

/-- THE TIED CARD OF 'skewerlaw29.LastBudgets'. -/
def lastBudgetsCard : Claim7 := { stood := { row := lastBudgetsRow, standIns := [], harness := (true, "ffa0e988a03ae4f1a5e13a83e5f51229641af75110e09435a7b3d0bff5c0f2a1"), looks := false }, kinds := [], alts := [], laidByText := true, laidKinds := [.data, .data, .data, .funcs], laidTests := true, laidLooks := .later }
def LastBudgetsCardSaid : Prop := Claim7.holds Tryz.pinned (.plain (OpenSpec.ofChange lastBudgetsSpec)) lastBudgetsCard

/-- THE TIED CARD OF 'skewerlaw29.LastMoves'. -/
def lastMovesCard : Claim7 := { stood := { row := lastMovesRow, standIns := [], harness := (true, "ffa0e988a03ae4f1a5e13a83e5f51229641af75110e09435a7b3d0bff5c0f2a1"), looks := false }, kinds := [], alts := [], laidByText := true, laidKinds := [.data, .data, .data, .funcs], laidTests := true, laidLooks := .later }
def LastMovesCardSaid : Prop := Claim7.holds Tryz.pinned (.plain (OpenSpec.ofChange lastMovesSpec)) lastMovesCard

/-- THE TIED CARD OF 'skewerlaw29.LastGames'. -/
def lastGamesCard : Claim7 := { stood := { row := lastGamesRow, standIns := [], harness := (true, "ffa0e988a03ae4f1a5e13a83e5f51229641af75110e09435a7b3d0bff5c0f2a1"), looks := false }, kinds := [], alts := [], laidByText := true, laidKinds := [.data, .data, .data, .funcs], laidTests := true, laidLooks := .later }
def LastGamesCardSaid : Prop := Claim7.holds Tryz.pinned (.plain (OpenSpec.ofChange lastGamesSpec)) lastGamesCard

/-- THE TIED CARD OF 'skewerlaw14.IndexMoves'. -/
def indexMovesCard : Claim7 := { stood := { row := indexMovesRow, standIns := [], harness := (true, "ffa0e988a03ae4f1a5e13a83e5f51229641af75110e09435a7b3d0bff5c0f2a1"), looks := false }, kinds := [], alts := [], laidByText := true, laidKinds := [.data, .data, .data, .funcs], laidTests := true, laidLooks := .later }
def IndexMovesCardSaid : Prop := Claim7.holds Tryz.pinned (.plain (OpenSpec.ofChange indexMovesSpec)) indexMovesCard

/-- THE TIED CARD OF 'skewerlaw08.GenMatchesReference'. -/
def genMatchesReferenceCard : Claim7 := { stood := { row := genMatchesReferenceRow, standIns := [], harness := (true, "ffa0e988a03ae4f1a5e13a83e5f51229641af75110e09435a7b3d0bff5c0f2a1"), looks := false }, kinds := [], alts := [], laidByText := true, laidKinds := [.data, .data, .data, .funcs], laidTests := true, laidLooks := .later }
def GenMatchesReferenceCardSaid : Prop := Claim7.holds Tryz.pinned (.plain (OpenSpec.ofChange genMatchesReferenceSpec)) genMatchesReferenceCard

/-- THE TIED CARD OF 'skewerlaw08.GenMoves'. -/
def genMovesCard : Claim7 := { stood := { row := genMovesRow, standIns := [], harness := (true, "ffa0e988a03ae4f1a5e13a83e5f51229641af75110e09435a7b3d0bff5c0f2a1"), looks := false }, kinds := [], alts := [], laidByText := true, laidKinds := [.data, .data, .data, .funcs], laidTests := true, laidLooks := .later }
def GenMovesCardSaid : Prop := Claim7.holds Tryz.pinned (.plain (OpenSpec.ofChange genMovesSpec)) genMovesCard

/-- THE TIED CARD OF 'skewerlaw22.RegionPaths'. -/
def regionPathsCard : Claim7 := { stood := { row := regionPathsRow, standIns := [], harness := (true, "ffa0e988a03ae4f1a5e13a83e5f51229641af75110e09435a7b3d0bff5c0f2a1"), looks := false }, kinds := [], alts := [], laidByText := true, laidKinds := [.data, .data, .data], laidTests := true, laidLooks := .later }
def RegionPathsCardSaid : Prop := Claim7.holds Tryz.pinned (.plain (OpenSpec.ofChange regionPathsSpec)) regionPathsCard

/-- THE SECOND FORM's CARD OF 'skewerlaw06.PlayPrograms'. -/
def playProgramsUptoCard : Claim7 := { stood := { row := playProgramsUptoRow, standIns := [], harness := (true, "ffa0e988a03ae4f1a5e13a83e5f51229641af75110e09435a7b3d0bff5c0f2a1"), looks := false }, kinds := [], alts := [], laidByText := true, laidKinds := [.data, .data, .data, .funcs], laidTests := true, laidLooks := .later }
def PlayProgramsUptoCardSaid : Prop := Claim7.holds Tryz.pinned (.plain (OpenSpec.upto playProgramsSpec)) playProgramsUptoCard

/-- THE SECOND FORM's CARD OF 'skewerlaw27.ReachChecks'. -/
def reachChecksUptoCard : Claim7 := { stood := { row := reachChecksUptoRow, standIns := [], harness := (true, "ffa0e988a03ae4f1a5e13a83e5f51229641af75110e09435a7b3d0bff5c0f2a1"), looks := false }, kinds := [], alts := [], laidByText := true, laidKinds := [.data, .data, .data, .funcs], laidTests := true, laidLooks := .later }
def ReachChecksUptoCardSaid : Prop := Claim7.holds Tryz.pinned (.plain (OpenSpec.upto reachChecksSpec)) reachChecksUptoCard

/-- THE SECOND FORM's CARD OF 'skewerlaw29.LastMatchesReference'. -/
def lastMatchesReferenceUptoCard : Claim7 := { stood := { row := lastMatchesReferenceUptoRow, standIns := [], harness := (true, "ffa0e988a03ae4f1a5e13a83e5f51229641af75110e09435a7b3d0bff5c0f2a1"), looks := false }, kinds := [], alts := [], laidByText := true, laidKinds := [.data, .data, .data, .funcs], laidTests := true, laidLooks := .later }
def LastMatchesReferenceUptoCardSaid : Prop := Claim7.holds Tryz.pinned (.plain (OpenSpec.upto lastMatchesReferenceSpec)) lastMatchesReferenceUptoCard

/-- THE SECOND FORM's CARD OF 'skewerlaw29.LastRights'. -/
def lastRightsUptoCard : Claim7 := { stood := { row := lastRightsUptoRow, standIns := [], harness := (true, "ffa0e988a03ae4f1a5e13a83e5f51229641af75110e09435a7b3d0bff5c0f2a1"), looks := false }, kinds := [], alts := [], laidByText := true, laidKinds := [.data, .data, .data, .funcs], laidTests := true, laidLooks := .later }
def LastRightsUptoCardSaid : Prop := Claim7.holds Tryz.pinned (.plain (OpenSpec.upto lastRightsSpec)) lastRightsUptoCard

/-- THE SECOND FORM's CARD OF 'skewerlaw29.LastLooks'. -/
def lastLooksUptoCard : Claim7 := { stood := { row := lastLooksUptoRow, standIns := [], harness := (true, "ffa0e988a03ae4f1a5e13a83e5f51229641af75110e09435a7b3d0bff5c0f2a1"), looks := false }, kinds := [], alts := [], laidByText := true, laidKinds := [.data, .data, .data, .funcs], laidTests := true, laidLooks := .later }
def LastLooksUptoCardSaid : Prop := Claim7.holds Tryz.pinned (.plain (OpenSpec.upto lastLooksSpec)) lastLooksUptoCard

/-- THE SECOND FORM's CARD OF 'skewerlaw29.LastBudgets'. -/
def lastBudgetsUptoCard : Claim7 := { stood := { row := lastBudgetsUptoRow, standIns := [], harness := (true, "ffa0e988a03ae4f1a5e13a83e5f51229641af75110e09435a7b3d0bff5c0f2a1"), looks := false }, kinds := [], alts := [], laidByText := true, laidKinds := [.data, .data, .data, .funcs], laidTests := true, laidLooks := .later }
def LastBudgetsUptoCardSaid : Prop := Claim7.holds Tryz.pinned (.plain (OpenSpec.upto lastBudgetsSpec)) lastBudgetsUptoCard

/-- THE SECOND FORM's CARD OF 'skewerlaw29.LastMoves'. -/
def lastMovesUptoCard : Claim7 := { stood := { row := lastMovesUptoRow, standIns := [], harness := (true, "ffa0e988a03ae4f1a5e13a83e5f51229641af75110e09435a7b3d0bff5c0f2a1"), looks := false }, kinds := [], alts := [], laidByText := true, laidKinds := [.data, .data, .data, .funcs], laidTests := true, laidLooks := .later }
def LastMovesUptoCardSaid : Prop := Claim7.holds Tryz.pinned (.plain (OpenSpec.upto lastMovesSpec)) lastMovesUptoCard

/-- THE SECOND FORM's CARD OF 'skewerlaw29.LastGames'. -/
def lastGamesUptoCard : Claim7 := { stood := { row := lastGamesUptoRow, standIns := [], harness := (true, "ffa0e988a03ae4f1a5e13a83e5f51229641af75110e09435a7b3d0bff5c0f2a1"), looks := false }, kinds := [], alts := [], laidByText := true, laidKinds := [.data, .data, .data, .funcs], laidTests := true, laidLooks := .later }
def LastGamesUptoCardSaid : Prop := Claim7.holds Tryz.pinned (.plain (OpenSpec.upto lastGamesSpec)) lastGamesUptoCard

/-- THE SECOND FORM's CARD OF 'skewerlaw14.IndexMoves'. -/
def indexMovesUptoCard : Claim7 := { stood := { row := indexMovesUptoRow, standIns := [], harness := (true, "ffa0e988a03ae4f1a5e13a83e5f51229641af75110e09435a7b3d0bff5c0f2a1"), looks := false }, kinds := [], alts := [], laidByText := true, laidKinds := [.data, .data, .data, .funcs], laidTests := true, laidLooks := .later }
def IndexMovesUptoCardSaid : Prop := Claim7.holds Tryz.pinned (.plain (OpenSpec.upto indexMovesSpec)) indexMovesUptoCard

/-- THE SECOND FORM's CARD OF 'skewerlaw08.GenMatchesReference'. -/
def genMatchesReferenceUptoCard : Claim7 := { stood := { row := genMatchesReferenceUptoRow, standIns := [], harness := (true, "ffa0e988a03ae4f1a5e13a83e5f51229641af75110e09435a7b3d0bff5c0f2a1"), looks := false }, kinds := [], alts := [], laidByText := true, laidKinds := [.data, .data, .data, .funcs], laidTests := true, laidLooks := .later }
def GenMatchesReferenceUptoCardSaid : Prop := Claim7.holds Tryz.pinned (.plain (OpenSpec.upto genMatchesReferenceSpec)) genMatchesReferenceUptoCard

/-- THE SECOND FORM's CARD OF 'skewerlaw08.GenMoves'. -/
def genMovesUptoCard : Claim7 := { stood := { row := genMovesUptoRow, standIns := [], harness := (true, "ffa0e988a03ae4f1a5e13a83e5f51229641af75110e09435a7b3d0bff5c0f2a1"), looks := false }, kinds := [], alts := [], laidByText := true, laidKinds := [.data, .data, .data, .funcs], laidTests := true, laidLooks := .later }
def GenMovesUptoCardSaid : Prop := Claim7.holds Tryz.pinned (.plain (OpenSpec.upto genMovesSpec)) genMovesUptoCard

/-- THE SECOND FORM's CARD OF 'skewerlaw22.RegionPaths'. -/
def regionPathsUptoCard : Claim7 := { stood := { row := regionPathsUptoRow, standIns := [], harness := (true, "ffa0e988a03ae4f1a5e13a83e5f51229641af75110e09435a7b3d0bff5c0f2a1"), looks := false }, kinds := [], alts := [], laidByText := true, laidKinds := [.data, .data, .data], laidTests := true, laidLooks := .later }
def RegionPathsUptoCardSaid : Prop := Claim7.holds Tryz.pinned (.plain (OpenSpec.upto regionPathsSpec)) regionPathsUptoCard
end Rows
end Go.Proofs.YtblaonmapofniaaGreatDoor
