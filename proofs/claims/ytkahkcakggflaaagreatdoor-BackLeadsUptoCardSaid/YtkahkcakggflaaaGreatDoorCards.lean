/-
  DERIVED. GIVEN WITH THE SEED: THE CARDS: each row of YtkahkcakggflaaaGreatDoorRows.lean that lists a variable, with what it lists TIED to the program's text (the seventh form; the later family's looks); each row that meets fmt, with fmt's text TOLD by the authors' own Lean function (tested against real Go, not proved from fmt's source: count such statements apart). THE CARD IS WHAT COUNTS. Prove the row's statement (the work); the ties are given (YtkahkcakggflaaaGreatDoorTie.lean); close each card by the builder's one call (the guide's Derived/Test/ToyasCard.lean, 'card_holds'). Laid BY PROGRAM, IN A SANDBOX (cutbox-door.mjs). By AI agents, Wed Nov 11 2026. No macro, syntax, notation, axiom, sorry.
-/
import Derived.Test.YtkahkcakggflaaaGreatDoorRows
import GoSem.ClaimSeven
namespace Go.Proofs.YtkahkcakggflaaaGreatDoor
namespace Rows

/-- THE TIED CARD OF 'skewerlaw22.RegionMoves'. -/
def regionMovesCard : Claim7 := { stood := { row := regionMovesRow, standIns := [], harness := (true, "c5a0ea39bddc71bfce067eb59a12fae1ef2f414117b5c4790a074079ded256bb"), looks := false }, kinds := [], alts := [], laidByText := true, laidKinds := [.data, .data, .data, .funcs], laidTests := true, laidLooks := .later }
def RegionMovesCardSaid : Prop := Claim7.holds Tryz.pinned (.plain (OpenSpec.ofChange regionMovesSpec)) regionMovesCard

/-- THE TIED CARD OF 'skewerlaw22.RegionInfluence'. -/
def regionInfluenceCard : Claim7 := { stood := { row := regionInfluenceRow, standIns := [], harness := (true, "c5a0ea39bddc71bfce067eb59a12fae1ef2f414117b5c4790a074079ded256bb"), looks := false }, kinds := [], alts := [], laidByText := true, laidKinds := [.data, .data, .data, .funcs], laidTests := true, laidLooks := .later }
def RegionInfluenceCardSaid : Prop := Claim7.holds Tryz.pinned (.plain (OpenSpec.ofChange regionInfluenceSpec)) regionInfluenceCard

/-- THE TIED CARD OF 'skewerlaw22.RegionBlocked'. -/
def regionBlockedCard : Claim7 := { stood := { row := regionBlockedRow, standIns := [], harness := (true, "c5a0ea39bddc71bfce067eb59a12fae1ef2f414117b5c4790a074079ded256bb"), looks := false }, kinds := [], alts := [], laidByText := true, laidKinds := [.data, .data, .data, .funcs], laidTests := true, laidLooks := .later }
def RegionBlockedCardSaid : Prop := Claim7.holds Tryz.pinned (.plain (OpenSpec.ofChange regionBlockedSpec)) regionBlockedCard

/-- THE TIED CARD OF 'skewerlaw09.BackMatchesReference'. -/
def backMatchesReferenceCard : Claim7 := { stood := { row := backMatchesReferenceRow, standIns := [], harness := (true, "c5a0ea39bddc71bfce067eb59a12fae1ef2f414117b5c4790a074079ded256bb"), looks := false }, kinds := [], alts := [], laidByText := true, laidKinds := [.data, .data, .data, .funcs], laidTests := true, laidLooks := .later }
def BackMatchesReferenceCardSaid : Prop := Claim7.holds Tryz.pinned (.plain (OpenSpec.ofChange backMatchesReferenceSpec)) backMatchesReferenceCard

/-- THE TIED CARD OF 'skewerlaw09.BackMen'. -/
def backMenCard : Claim7 := { stood := { row := backMenRow, standIns := [], harness := (true, "c5a0ea39bddc71bfce067eb59a12fae1ef2f414117b5c4790a074079ded256bb"), looks := false }, kinds := [], alts := [], laidByText := true, laidKinds := [.data, .data, .data, .funcs], laidTests := true, laidLooks := .later }
def BackMenCardSaid : Prop := Claim7.holds Tryz.pinned (.plain (OpenSpec.ofChange backMenSpec)) backMenCard

/-- THE TIED CARD OF 'skewerlaw09.BackRefuses'. -/
def backRefusesCard : Claim7 := { stood := { row := backRefusesRow, standIns := [], harness := (true, "c5a0ea39bddc71bfce067eb59a12fae1ef2f414117b5c4790a074079ded256bb"), looks := false }, kinds := [], alts := [], laidByText := true, laidKinds := [.data, .data, .data, .funcs], laidTests := true, laidLooks := .later }
def BackRefusesCardSaid : Prop := Claim7.holds Tryz.pinned (.plain (OpenSpec.ofChange backRefusesSpec)) backRefusesCard

/-- THE TIED CARD OF 'skewerlaw09.BackLeads'. -/
def backLeadsCard : Claim7 := { stood := { row := backLeadsRow, standIns := [], harness := (true, "c5a0ea39bddc71bfce067eb59a12fae1ef2f414117b5c4790a074079ded256bb"), looks := false }, kinds := [], alts := [], laidByText := true, laidKinds := [.data, .data, .data, .funcs], laidTests := true, laidLooks := .later }
def BackLeadsCardSaid : Prop := Claim7.holds Tryz.pinned (.plain (OpenSpec.ofChange backLeadsSpec)) backLeadsCard

/-- THE TIED CARD OF 'skewerlaw09.BackAll'. -/
def backAllCard : Claim7 := { stood := { row := backAllRow, standIns := [], harness := (true, "c5a0ea39bddc71bfce067eb59a12fae1ef2f414117b5c4790a074079ded256bb"), looks := false }, kinds := [], alts := [], laidByText := true, laidKinds := [.data, .data, .data, .funcs], laidTests := true, laidLooks := .later }
def BackAllCardSaid : Prop := Claim7.holds Tryz.pinned (.plain (OpenSpec.ofChange backAllSpec)) backAllCard

/-- THE TIED CARD OF 'skewerlaw09.BackForth'. -/
def backForthCard : Claim7 := { stood := { row := backForthRow, standIns := [], harness := (true, "c5a0ea39bddc71bfce067eb59a12fae1ef2f414117b5c4790a074079ded256bb"), looks := false }, kinds := [], alts := [], laidByText := true, laidKinds := [.data, .data, .data, .funcs], laidTests := true, laidLooks := .later }
def BackForthCardSaid : Prop := Claim7.holds Tryz.pinned (.plain (OpenSpec.ofChange backForthSpec)) backForthCard

/-- THE TIED CARD OF 'skewerlaw09.BackChains'. -/
def backChainsCard : Claim7 := { stood := { row := backChainsRow, standIns := [], harness := (true, "c5a0ea39bddc71bfce067eb59a12fae1ef2f414117b5c4790a074079ded256bb"), looks := false }, kinds := [], alts := [], laidByText := true, laidKinds := [.data, .data, .data, .funcs], laidTests := true, laidLooks := .later }
def BackChainsCardSaid : Prop := Claim7.holds Tryz.pinned (.plain (OpenSpec.ofChange backChainsSpec)) backChainsCard

/-- THE TIED CARD OF 'skewerlaw29.LastBack'. -/
def lastBackCard : Claim7 := { stood := { row := lastBackRow, standIns := [], harness := (true, "c5a0ea39bddc71bfce067eb59a12fae1ef2f414117b5c4790a074079ded256bb"), looks := false }, kinds := [], alts := [], laidByText := true, laidKinds := [.data, .data, .data, .funcs], laidTests := true, laidLooks := .later }
def LastBackCardSaid : Prop := Claim7.holds Tryz.pinned (.plain (OpenSpec.ofChange lastBackSpec)) lastBackCard

/-- THE TIED CARD OF 'skewerlaw14.IndexMoves'. -/
def indexMovesCard : Claim7 := { stood := { row := indexMovesRow, standIns := [], harness := (true, "c5a0ea39bddc71bfce067eb59a12fae1ef2f414117b5c4790a074079ded256bb"), looks := false }, kinds := [], alts := [], laidByText := true, laidKinds := [.data, .data, .data, .funcs], laidTests := true, laidLooks := .later }
def IndexMovesCardSaid : Prop := Claim7.holds Tryz.pinned (.plain (OpenSpec.ofChange indexMovesSpec)) indexMovesCard

/-- THE TIED CARD OF 'skewerlaw22.RegionPaths'. -/
def regionPathsCard : Claim7 := { stood := { row := regionPathsRow, standIns := [], harness := (true, "c5a0ea39bddc71bfce067eb59a12fae1ef2f414117b5c4790a074079ded256bb"), looks := false }, kinds := [], alts := [], laidByText := true, laidKinds := [.data, .data, .data], laidTests := true, laidLooks := .later }
def RegionPathsCardSaid : Prop := Claim7.holds Tryz.pinned (.plain (OpenSpec.ofChange regionPathsSpec)) regionPathsCard

/-- THE TIED CARD OF 'skewerlaw06.PlayPrograms'. -/
def playProgramsCard : Claim7 := { stood := { row := playProgramsRow, standIns := [], harness := (true, "c5a0ea39bddc71bfce067eb59a12fae1ef2f414117b5c4790a074079ded256bb"), looks := false }, kinds := [], alts := [], laidByText := true, laidKinds := [.data, .data, .data, .funcs], laidTests := true, laidLooks := .later }
def PlayProgramsCardSaid : Prop := Claim7.holds Tryz.pinned (.plain (OpenSpec.ofChange playProgramsSpec)) playProgramsCard

/-- THE SECOND FORM's CARD OF 'skewerlaw22.RegionMoves'. -/
def regionMovesUptoCard : Claim7 := { stood := { row := regionMovesUptoRow, standIns := [], harness := (true, "c5a0ea39bddc71bfce067eb59a12fae1ef2f414117b5c4790a074079ded256bb"), looks := false }, kinds := [], alts := [], laidByText := true, laidKinds := [.data, .data, .data, .funcs], laidTests := true, laidLooks := .later }
def RegionMovesUptoCardSaid : Prop := Claim7.holds Tryz.pinned (.plain (OpenSpec.upto regionMovesSpec)) regionMovesUptoCard

/-- THE SECOND FORM's CARD OF 'skewerlaw22.RegionInfluence'. -/
def regionInfluenceUptoCard : Claim7 := { stood := { row := regionInfluenceUptoRow, standIns := [], harness := (true, "c5a0ea39bddc71bfce067eb59a12fae1ef2f414117b5c4790a074079ded256bb"), looks := false }, kinds := [], alts := [], laidByText := true, laidKinds := [.data, .data, .data, .funcs], laidTests := true, laidLooks := .later }
def RegionInfluenceUptoCardSaid : Prop := Claim7.holds Tryz.pinned (.plain (OpenSpec.upto regionInfluenceSpec)) regionInfluenceUptoCard

/-- THE SECOND FORM's CARD OF 'skewerlaw22.RegionBlocked'. -/
def regionBlockedUptoCard : Claim7 := { stood := { row := regionBlockedUptoRow, standIns := [], harness := (true, "c5a0ea39bddc71bfce067eb59a12fae1ef2f414117b5c4790a074079ded256bb"), looks := false }, kinds := [], alts := [], laidByText := true, laidKinds := [.data, .data, .data, .funcs], laidTests := true, laidLooks := .later }
def RegionBlockedUptoCardSaid : Prop := Claim7.holds Tryz.pinned (.plain (OpenSpec.upto regionBlockedSpec)) regionBlockedUptoCard

/-- THE SECOND FORM's CARD OF 'skewerlaw09.BackMatchesReference'. -/
def backMatchesReferenceUptoCard : Claim7 := { stood := { row := backMatchesReferenceUptoRow, standIns := [], harness := (true, "c5a0ea39bddc71bfce067eb59a12fae1ef2f414117b5c4790a074079ded256bb"), looks := false }, kinds := [], alts := [], laidByText := true, laidKinds := [.data, .data, .data, .funcs], laidTests := true, laidLooks := .later }
def BackMatchesReferenceUptoCardSaid : Prop := Claim7.holds Tryz.pinned (.plain (OpenSpec.upto backMatchesReferenceSpec)) backMatchesReferenceUptoCard

/-- THE SECOND FORM's CARD OF 'skewerlaw09.BackMen'. -/
def backMenUptoCard : Claim7 := { stood := { row := backMenUptoRow, standIns := [], harness := (true, "c5a0ea39bddc71bfce067eb59a12fae1ef2f414117b5c4790a074079ded256bb"), looks := false }, kinds := [], alts := [], laidByText := true, laidKinds := [.data, .data, .data, .funcs], laidTests := true, laidLooks := .later }
def BackMenUptoCardSaid : Prop := Claim7.holds Tryz.pinned (.plain (OpenSpec.upto backMenSpec)) backMenUptoCard

/-- THE SECOND FORM's CARD OF 'skewerlaw09.BackRefuses'. -/
def backRefusesUptoCard : Claim7 := { stood := { row := backRefusesUptoRow, standIns := [], harness := (true, "c5a0ea39bddc71bfce067eb59a12fae1ef2f414117b5c4790a074079ded256bb"), looks := false }, kinds := [], alts := [], laidByText := true, laidKinds := [.data, .data, .data, .funcs], laidTests := true, laidLooks := .later }
def BackRefusesUptoCardSaid : Prop := Claim7.holds Tryz.pinned (.plain (OpenSpec.upto backRefusesSpec)) backRefusesUptoCard

/-- THE SECOND FORM's CARD OF 'skewerlaw09.BackLeads'. -/
def backLeadsUptoCard : Claim7 := { stood := { row := backLeadsUptoRow, standIns := [], harness := (true, "c5a0ea39bddc71bfce067eb59a12fae1ef2f414117b5c4790a074079ded256bb"), looks := false }, kinds := [], alts := [], laidByText := true, laidKinds := [.data, .data, .data, .funcs], laidTests := true, laidLooks := .later }
def BackLeadsUptoCardSaid : Prop := Claim7.holds Tryz.pinned (.plain (OpenSpec.upto backLeadsSpec)) backLeadsUptoCard

/-- THE SECOND FORM's CARD OF 'skewerlaw09.BackAll'. -/
def backAllUptoCard : Claim7 := { stood := { row := backAllUptoRow, standIns := [], harness := (true, "c5a0ea39bddc71bfce067eb59a12fae1ef2f414117b5c4790a074079ded256bb"), looks := false }, kinds := [], alts := [], laidByText := true, laidKinds := [.data, .data, .data, .funcs], laidTests := true, laidLooks := .later }
def BackAllUptoCardSaid : Prop := Claim7.holds Tryz.pinned (.plain (OpenSpec.upto backAllSpec)) backAllUptoCard

/-- THE SECOND FORM's CARD OF 'skewerlaw09.BackForth'. -/
def backForthUptoCard : Claim7 := { stood := { row := backForthUptoRow, standIns := [], harness := (true, "c5a0ea39bddc71bfce067eb59a12fae1ef2f414117b5c4790a074079ded256bb"), looks := false }, kinds := [], alts := [], laidByText := true, laidKinds := [.data, .data, .data, .funcs], laidTests := true, laidLooks := .later }
def BackForthUptoCardSaid : Prop := Claim7.holds Tryz.pinned (.plain (OpenSpec.upto backForthSpec)) backForthUptoCard

/-- THE SECOND FORM's CARD OF 'skewerlaw09.BackChains'. -/
def backChainsUptoCard : Claim7 := { stood := { row := backChainsUptoRow, standIns := [], harness := (true, "c5a0ea39bddc71bfce067eb59a12fae1ef2f414117b5c4790a074079ded256bb"), looks := false }, kinds := [], alts := [], laidByText := true, laidKinds := [.data, .data, .data, .funcs], laidTests := true, laidLooks := .later }
def BackChainsUptoCardSaid : Prop := Claim7.holds Tryz.pinned (.plain (OpenSpec.upto backChainsSpec)) backChainsUptoCard

/-- THE SECOND FORM's CARD OF 'skewerlaw29.LastBack'. -/
def lastBackUptoCard : Claim7 := { stood := { row := lastBackUptoRow, standIns := [], harness := (true, "c5a0ea39bddc71bfce067eb59a12fae1ef2f414117b5c4790a074079ded256bb"), looks := false }, kinds := [], alts := [], laidByText := true, laidKinds := [.data, .data, .data, .funcs], laidTests := true, laidLooks := .later }
def LastBackUptoCardSaid : Prop := Claim7.holds Tryz.pinned (.plain (OpenSpec.upto lastBackSpec)) lastBackUptoCard

/-- THE SECOND FORM's CARD OF 'skewerlaw14.IndexMoves'. -/
def indexMovesUptoCard : Claim7 := { stood := { row := indexMovesUptoRow, standIns := [], harness := (true, "c5a0ea39bddc71bfce067eb59a12fae1ef2f414117b5c4790a074079ded256bb"), looks := false }, kinds := [], alts := [], laidByText := true, laidKinds := [.data, .data, .data, .funcs], laidTests := true, laidLooks := .later }
def IndexMovesUptoCardSaid : Prop := Claim7.holds Tryz.pinned (.plain (OpenSpec.upto indexMovesSpec)) indexMovesUptoCard

/-- THE SECOND FORM's CARD OF 'skewerlaw22.RegionPaths'. -/
def regionPathsUptoCard : Claim7 := { stood := { row := regionPathsUptoRow, standIns := [], harness := (true, "c5a0ea39bddc71bfce067eb59a12fae1ef2f414117b5c4790a074079ded256bb"), looks := false }, kinds := [], alts := [], laidByText := true, laidKinds := [.data, .data, .data], laidTests := true, laidLooks := .later }
def RegionPathsUptoCardSaid : Prop := Claim7.holds Tryz.pinned (.plain (OpenSpec.upto regionPathsSpec)) regionPathsUptoCard

/-- THE SECOND FORM's CARD OF 'skewerlaw06.PlayPrograms'. -/
def playProgramsUptoCard : Claim7 := { stood := { row := playProgramsUptoRow, standIns := [], harness := (true, "c5a0ea39bddc71bfce067eb59a12fae1ef2f414117b5c4790a074079ded256bb"), looks := false }, kinds := [], alts := [], laidByText := true, laidKinds := [.data, .data, .data, .funcs], laidTests := true, laidLooks := .later }
def PlayProgramsUptoCardSaid : Prop := Claim7.holds Tryz.pinned (.plain (OpenSpec.upto playProgramsSpec)) playProgramsUptoCard
end Rows
end Go.Proofs.YtkahkcakggflaaaGreatDoor
