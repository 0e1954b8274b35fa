/-
  DERIVED. GIVEN WITH THE SEED: THE CARDS: each row of YtodgjebghpgjbaaGreatDoorRows.lean that lists a variable, with what it lists TIED to the program's text (the seventh form; the later family's looks); each row that meets fmt, with fmt's text TOLD by the authors' own Lean function (tested against real Go, not proved from fmt's source: count such statements apart). THE CARD IS WHAT COUNTS. Prove the row's statement (the work); the ties are given (YtodgjebghpgjbaaGreatDoorTie.lean); close each card by the builder's one call (the guide's Derived/Test/ToyasCard.lean, 'card_holds'). Laid BY PROGRAM, IN A SANDBOX (cutbox-door.mjs). By AI agents, Wed Nov 11 2026. No macro, syntax, notation, axiom, sorry.
-/
import Derived.Test.YtodgjebghpgjbaaGreatDoorRows
import GoSem.ClaimSeven
namespace Go.Proofs.YtodgjebghpgjbaaGreatDoor
namespace Rows

/-- THE TIED CARD OF 'skewerlaw06.PlayMatchesReference'. -/
def playMatchesReferenceCard : Claim7 := { stood := { row := playMatchesReferenceRow, standIns := [], harness := (true, "33bf9d46a0ac21e4aeb14832c85e41155727b5ca39ef909da46daba301f99fe1"), looks := false }, kinds := [], alts := [], laidByText := true, laidKinds := [.data, .data, .data, .funcs], laidTests := true, laidLooks := .later }
def PlayMatchesReferenceCardSaid : Prop := Claim7.holds Tryz.pinned (.plain (OpenSpec.ofChange playMatchesReferenceSpec)) playMatchesReferenceCard

/-- THE TIED CARD OF 'skewerlaw06.PlayEnds'. -/
def playEndsCard : Claim7 := { stood := { row := playEndsRow, standIns := [], harness := (true, "33bf9d46a0ac21e4aeb14832c85e41155727b5ca39ef909da46daba301f99fe1"), looks := false }, kinds := [], alts := [], laidByText := true, laidKinds := [.data, .data, .data, .funcs], laidTests := true, laidLooks := .later }
def PlayEndsCardSaid : Prop := Claim7.holds Tryz.pinned (.plain (OpenSpec.ofChange playEndsSpec)) playEndsCard

/-- THE TIED CARD OF 'skewerlaw06.PlayClauses'. -/
def playClausesCard : Claim7 := { stood := { row := playClausesRow, standIns := [], harness := (true, "33bf9d46a0ac21e4aeb14832c85e41155727b5ca39ef909da46daba301f99fe1"), looks := false }, kinds := [], alts := [], laidByText := true, laidKinds := [.data, .data, .data, .funcs], laidTests := true, laidLooks := .later }
def PlayClausesCardSaid : Prop := Claim7.holds Tryz.pinned (.plain (OpenSpec.ofChange playClausesSpec)) playClausesCard

/-- THE TIED CARD OF 'skewerlaw06.PlayWalks'. -/
def playWalksCard : Claim7 := { stood := { row := playWalksRow, standIns := [], harness := (true, "33bf9d46a0ac21e4aeb14832c85e41155727b5ca39ef909da46daba301f99fe1"), looks := false }, kinds := [], alts := [], laidByText := true, laidKinds := [.data, .data, .data, .funcs], laidTests := true, laidLooks := .later }
def PlayWalksCardSaid : Prop := Claim7.holds Tryz.pinned (.plain (OpenSpec.ofChange playWalksSpec)) playWalksCard

/-- THE TIED CARD OF 'skewerlaw06.PlayMen'. -/
def playMenCard : Claim7 := { stood := { row := playMenRow, standIns := [], harness := (true, "33bf9d46a0ac21e4aeb14832c85e41155727b5ca39ef909da46daba301f99fe1"), looks := false }, kinds := [], alts := [], laidByText := true, laidKinds := [.data, .data, .data, .funcs], laidTests := true, laidLooks := .later }
def PlayMenCardSaid : Prop := Claim7.holds Tryz.pinned (.plain (OpenSpec.ofChange playMenSpec)) playMenCard

/-- THE TIED CARD OF 'skewerlaw06.PlayPrograms'. -/
def playProgramsCard : Claim7 := { stood := { row := playProgramsRow, standIns := [], harness := (true, "33bf9d46a0ac21e4aeb14832c85e41155727b5ca39ef909da46daba301f99fe1"), looks := false }, kinds := [], alts := [], laidByText := true, laidKinds := [.data, .data, .data, .funcs], laidTests := true, laidLooks := .later }
def PlayProgramsCardSaid : Prop := Claim7.holds Tryz.pinned (.plain (OpenSpec.ofChange playProgramsSpec)) playProgramsCard

/-- THE TIED CARD OF 'skewerlaw06.PlayMoves'. -/
def playMovesCard : Claim7 := { stood := { row := playMovesRow, standIns := [], harness := (true, "33bf9d46a0ac21e4aeb14832c85e41155727b5ca39ef909da46daba301f99fe1"), looks := false }, kinds := [], alts := [], laidByText := true, laidKinds := [.data, .data, .data, .funcs], laidTests := true, laidLooks := .later }
def PlayMovesCardSaid : Prop := Claim7.holds Tryz.pinned (.plain (OpenSpec.ofChange playMovesSpec)) playMovesCard

/-- THE TIED CARD OF 'skewerlaw27.ReachMatchesReference'. -/
def reachMatchesReferenceCard : Claim7 := { stood := { row := reachMatchesReferenceRow, standIns := [], harness := (true, "33bf9d46a0ac21e4aeb14832c85e41155727b5ca39ef909da46daba301f99fe1"), looks := false }, kinds := [], alts := [], laidByText := true, laidKinds := [.data, .data, .data, .funcs], laidTests := true, laidLooks := .later }
def ReachMatchesReferenceCardSaid : Prop := Claim7.holds Tryz.pinned (.plain (OpenSpec.ofChange reachMatchesReferenceSpec)) reachMatchesReferenceCard

/-- THE TIED CARD OF 'skewerlaw27.ReachGames'. -/
def reachGamesCard : Claim7 := { stood := { row := reachGamesRow, standIns := [], harness := (true, "33bf9d46a0ac21e4aeb14832c85e41155727b5ca39ef909da46daba301f99fe1"), looks := false }, kinds := [], alts := [], laidByText := true, laidKinds := [.data, .data, .data, .funcs], laidTests := true, laidLooks := .later }
def ReachGamesCardSaid : Prop := Claim7.holds Tryz.pinned (.plain (OpenSpec.ofChange reachGamesSpec)) reachGamesCard

/-- THE TIED CARD OF 'skewerlaw27.ReachSeen'. -/
def reachSeenCard : Claim7 := { stood := { row := reachSeenRow, standIns := [], harness := (true, "33bf9d46a0ac21e4aeb14832c85e41155727b5ca39ef909da46daba301f99fe1"), looks := false }, kinds := [], alts := [], laidByText := true, laidKinds := [.data, .data, .data, .funcs], laidTests := true, laidLooks := .later }
def ReachSeenCardSaid : Prop := Claim7.holds Tryz.pinned (.plain (OpenSpec.ofChange reachSeenSpec)) reachSeenCard

/-- THE TIED CARD OF 'skewerlaw27.ReachBudgets'. -/
def reachBudgetsCard : Claim7 := { stood := { row := reachBudgetsRow, standIns := [], harness := (true, "33bf9d46a0ac21e4aeb14832c85e41155727b5ca39ef909da46daba301f99fe1"), looks := false }, kinds := [], alts := [], laidByText := true, laidKinds := [.data, .data, .data, .funcs], laidTests := true, laidLooks := .later }
def ReachBudgetsCardSaid : Prop := Claim7.holds Tryz.pinned (.plain (OpenSpec.ofChange reachBudgetsSpec)) reachBudgetsCard

/-- THE TIED CARD OF 'skewerlaw27.ReachChecks'. -/
def reachChecksCard : Claim7 := { stood := { row := reachChecksRow, standIns := [], harness := (true, "33bf9d46a0ac21e4aeb14832c85e41155727b5ca39ef909da46daba301f99fe1"), looks := false }, kinds := [], alts := [], laidByText := true, laidKinds := [.data, .data, .data, .funcs], laidTests := true, laidLooks := .later }
def ReachChecksCardSaid : Prop := Claim7.holds Tryz.pinned (.plain (OpenSpec.ofChange reachChecksSpec)) reachChecksCard

/-- THE TIED CARD OF 'skewerlaw27.ReachShortest'. -/
def reachShortestCard : Claim7 := { stood := { row := reachShortestRow, standIns := [], harness := (true, "33bf9d46a0ac21e4aeb14832c85e41155727b5ca39ef909da46daba301f99fe1"), looks := false }, kinds := [], alts := [], laidByText := true, laidKinds := [.data, .data, .data, .funcs], laidTests := true, laidLooks := .later }
def ReachShortestCardSaid : Prop := Claim7.holds Tryz.pinned (.plain (OpenSpec.ofChange reachShortestSpec)) reachShortestCard

/-- THE SECOND FORM's CARD OF 'skewerlaw06.PlayMatchesReference'. -/
def playMatchesReferenceUptoCard : Claim7 := { stood := { row := playMatchesReferenceUptoRow, standIns := [], harness := (true, "33bf9d46a0ac21e4aeb14832c85e41155727b5ca39ef909da46daba301f99fe1"), looks := false }, kinds := [], alts := [], laidByText := true, laidKinds := [.data, .data, .data, .funcs], laidTests := true, laidLooks := .later }
def PlayMatchesReferenceUptoCardSaid : Prop := Claim7.holds Tryz.pinned (.plain (OpenSpec.upto playMatchesReferenceSpec)) playMatchesReferenceUptoCard

/-- THE SECOND FORM's CARD OF 'skewerlaw06.PlayEnds'. -/
def playEndsUptoCard : Claim7 := { stood := { row := playEndsUptoRow, standIns := [], harness := (true, "33bf9d46a0ac21e4aeb14832c85e41155727b5ca39ef909da46daba301f99fe1"), looks := false }, kinds := [], alts := [], laidByText := true, laidKinds := [.data, .data, .data, .funcs], laidTests := true, laidLooks := .later }
def PlayEndsUptoCardSaid : Prop := Claim7.holds Tryz.pinned (.plain (OpenSpec.upto playEndsSpec)) playEndsUptoCard

/-- THE SECOND FORM's CARD OF 'skewerlaw06.PlayClauses'. -/
def playClausesUptoCard : Claim7 := { stood := { row := playClausesUptoRow, standIns := [], harness := (true, "33bf9d46a0ac21e4aeb14832c85e41155727b5ca39ef909da46daba301f99fe1"), looks := false }, kinds := [], alts := [], laidByText := true, laidKinds := [.data, .data, .data, .funcs], laidTests := true, laidLooks := .later }
def PlayClausesUptoCardSaid : Prop := Claim7.holds Tryz.pinned (.plain (OpenSpec.upto playClausesSpec)) playClausesUptoCard

/-- THE SECOND FORM's CARD OF 'skewerlaw06.PlayWalks'. -/
def playWalksUptoCard : Claim7 := { stood := { row := playWalksUptoRow, standIns := [], harness := (true, "33bf9d46a0ac21e4aeb14832c85e41155727b5ca39ef909da46daba301f99fe1"), looks := false }, kinds := [], alts := [], laidByText := true, laidKinds := [.data, .data, .data, .funcs], laidTests := true, laidLooks := .later }
def PlayWalksUptoCardSaid : Prop := Claim7.holds Tryz.pinned (.plain (OpenSpec.upto playWalksSpec)) playWalksUptoCard

/-- THE SECOND FORM's CARD OF 'skewerlaw06.PlayMen'. -/
def playMenUptoCard : Claim7 := { stood := { row := playMenUptoRow, standIns := [], harness := (true, "33bf9d46a0ac21e4aeb14832c85e41155727b5ca39ef909da46daba301f99fe1"), looks := false }, kinds := [], alts := [], laidByText := true, laidKinds := [.data, .data, .data, .funcs], laidTests := true, laidLooks := .later }
def PlayMenUptoCardSaid : Prop := Claim7.holds Tryz.pinned (.plain (OpenSpec.upto playMenSpec)) playMenUptoCard

/-- THE SECOND FORM's CARD OF 'skewerlaw06.PlayPrograms'. -/
def playProgramsUptoCard : Claim7 := { stood := { row := playProgramsUptoRow, standIns := [], harness := (true, "33bf9d46a0ac21e4aeb14832c85e41155727b5ca39ef909da46daba301f99fe1"), looks := false }, kinds := [], alts := [], laidByText := true, laidKinds := [.data, .data, .data, .funcs], laidTests := true, laidLooks := .later }
def PlayProgramsUptoCardSaid : Prop := Claim7.holds Tryz.pinned (.plain (OpenSpec.upto playProgramsSpec)) playProgramsUptoCard

/-- THE SECOND FORM's CARD OF 'skewerlaw06.PlayMoves'. -/
def playMovesUptoCard : Claim7 := { stood := { row := playMovesUptoRow, standIns := [], harness := (true, "33bf9d46a0ac21e4aeb14832c85e41155727b5ca39ef909da46daba301f99fe1"), looks := false }, kinds := [], alts := [], laidByText := true, laidKinds := [.data, .data, .data, .funcs], laidTests := true, laidLooks := .later }
def PlayMovesUptoCardSaid : Prop := Claim7.holds Tryz.pinned (.plain (OpenSpec.upto playMovesSpec)) playMovesUptoCard

/-- THE SECOND FORM's CARD OF 'skewerlaw27.ReachMatchesReference'. -/
def reachMatchesReferenceUptoCard : Claim7 := { stood := { row := reachMatchesReferenceUptoRow, standIns := [], harness := (true, "33bf9d46a0ac21e4aeb14832c85e41155727b5ca39ef909da46daba301f99fe1"), looks := false }, kinds := [], alts := [], laidByText := true, laidKinds := [.data, .data, .data, .funcs], laidTests := true, laidLooks := .later }
def ReachMatchesReferenceUptoCardSaid : Prop := Claim7.holds Tryz.pinned (.plain (OpenSpec.upto reachMatchesReferenceSpec)) reachMatchesReferenceUptoCard

/-- THE SECOND FORM's CARD OF 'skewerlaw27.ReachGames'. -/
def reachGamesUptoCard : Claim7 := { stood := { row := reachGamesUptoRow, standIns := [], harness := (true, "33bf9d46a0ac21e4aeb14832c85e41155727b5ca39ef909da46daba301f99fe1"), looks := false }, kinds := [], alts := [], laidByText := true, laidKinds := [.data, .data, .data, .funcs], laidTests := true, laidLooks := .later }
def ReachGamesUptoCardSaid : Prop := Claim7.holds Tryz.pinned (.plain (OpenSpec.upto reachGamesSpec)) reachGamesUptoCard

/-- THE SECOND FORM's CARD OF 'skewerlaw27.ReachSeen'. -/
def reachSeenUptoCard : Claim7 := { stood := { row := reachSeenUptoRow, standIns := [], harness := (true, "33bf9d46a0ac21e4aeb14832c85e41155727b5ca39ef909da46daba301f99fe1"), looks := false }, kinds := [], alts := [], laidByText := true, laidKinds := [.data, .data, .data, .funcs], laidTests := true, laidLooks := .later }
def ReachSeenUptoCardSaid : Prop := Claim7.holds Tryz.pinned (.plain (OpenSpec.upto reachSeenSpec)) reachSeenUptoCard

/-- THE SECOND FORM's CARD OF 'skewerlaw27.ReachBudgets'. -/
def reachBudgetsUptoCard : Claim7 := { stood := { row := reachBudgetsUptoRow, standIns := [], harness := (true, "33bf9d46a0ac21e4aeb14832c85e41155727b5ca39ef909da46daba301f99fe1"), looks := false }, kinds := [], alts := [], laidByText := true, laidKinds := [.data, .data, .data, .funcs], laidTests := true, laidLooks := .later }
def ReachBudgetsUptoCardSaid : Prop := Claim7.holds Tryz.pinned (.plain (OpenSpec.upto reachBudgetsSpec)) reachBudgetsUptoCard

/-- THE SECOND FORM's CARD OF 'skewerlaw27.ReachChecks'. -/
def reachChecksUptoCard : Claim7 := { stood := { row := reachChecksUptoRow, standIns := [], harness := (true, "33bf9d46a0ac21e4aeb14832c85e41155727b5ca39ef909da46daba301f99fe1"), looks := false }, kinds := [], alts := [], laidByText := true, laidKinds := [.data, .data, .data, .funcs], laidTests := true, laidLooks := .later }
def ReachChecksUptoCardSaid : Prop := Claim7.holds Tryz.pinned (.plain (OpenSpec.upto reachChecksSpec)) reachChecksUptoCard

/-- THE SECOND FORM's CARD OF 'skewerlaw27.ReachShortest'. -/
def reachShortestUptoCard : Claim7 := { stood := { row := reachShortestUptoRow, standIns := [], harness := (true, "33bf9d46a0ac21e4aeb14832c85e41155727b5ca39ef909da46daba301f99fe1"), looks := false }, kinds := [], alts := [], laidByText := true, laidKinds := [.data, .data, .data, .funcs], laidTests := true, laidLooks := .later }
def ReachShortestUptoCardSaid : Prop := Claim7.holds Tryz.pinned (.plain (OpenSpec.upto reachShortestSpec)) reachShortestUptoCard
end Rows
end Go.Proofs.YtodgjebghpgjbaaGreatDoor
