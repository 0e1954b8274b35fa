/-
  DERIVED. GIVEN WITH THE SEED: THE CARDS: each row of YtedhfmmlhfmomaaGreatDoorRows.lean that lists a variable, with what it lists TIED to the program's text (the seventh form; the later family's looks); each row that meets fmt, with fmt's text TOLD by the authors' own Lean function (tested against real Go, not proved from fmt's source: count such statements apart). THE CARD IS WHAT COUNTS. Prove the row's statement (the work); the ties are given (YtedhfmmlhfmomaaGreatDoorTie.lean); close each card by the builder's one call (the guide's Derived/Test/ToyasCard.lean, 'card_holds'). Laid BY PROGRAM, IN A SANDBOX (cutbox-door.mjs). By AI agents, Wed Nov 11 2026. No macro, syntax, notation, axiom, sorry.
-/
import Derived.Test.YtedhfmmlhfmomaaGreatDoorRows
import GoSem.ClaimSeven
namespace Go.Proofs.YtedhfmmlhfmomaaGreatDoor
namespace Rows

/-- THE TIED CARD OF 'skewerlaw22.RegionMoves'. -/
def regionMovesCard : Claim7 := { stood := { row := regionMovesRow, standIns := [], harness := (true, "cddcf5bf3efc06a244d079ee2319861710d76464c41ef8c65feff040cf3bf7ae"), looks := false }, kinds := [], alts := [], laidByText := true, laidKinds := [.data, .data, .data, .funcs], laidTests := true, laidLooks := .later }
def RegionMovesCardSaid : Prop := Claim7.holds Tryz.pinned (.plain (OpenSpec.ofChange regionMovesSpec)) regionMovesCard

/-- THE TIED CARD OF 'skewerlaw22.RegionInfluence'. -/
def regionInfluenceCard : Claim7 := { stood := { row := regionInfluenceRow, standIns := [], harness := (true, "cddcf5bf3efc06a244d079ee2319861710d76464c41ef8c65feff040cf3bf7ae"), looks := false }, kinds := [], alts := [], laidByText := true, laidKinds := [.data, .data, .data, .funcs], laidTests := true, laidLooks := .later }
def RegionInfluenceCardSaid : Prop := Claim7.holds Tryz.pinned (.plain (OpenSpec.ofChange regionInfluenceSpec)) regionInfluenceCard

/-- THE TIED CARD OF 'skewerlaw22.RegionBlocked'. -/
def regionBlockedCard : Claim7 := { stood := { row := regionBlockedRow, standIns := [], harness := (true, "cddcf5bf3efc06a244d079ee2319861710d76464c41ef8c65feff040cf3bf7ae"), looks := false }, kinds := [], alts := [], laidByText := true, laidKinds := [.data, .data, .data, .funcs], laidTests := true, laidLooks := .later }
def RegionBlockedCardSaid : Prop := Claim7.holds Tryz.pinned (.plain (OpenSpec.ofChange regionBlockedSpec)) regionBlockedCard

/-- THE TIED CARD OF 'skewerlaw09.BackMatchesReference'. -/
def backMatchesReferenceCard : Claim7 := { stood := { row := backMatchesReferenceRow, standIns := [], harness := (true, "cddcf5bf3efc06a244d079ee2319861710d76464c41ef8c65feff040cf3bf7ae"), looks := false }, kinds := [], alts := [], laidByText := true, laidKinds := [.data, .data, .data, .funcs], laidTests := true, laidLooks := .later }
def BackMatchesReferenceCardSaid : Prop := Claim7.holds Tryz.pinned (.plain (OpenSpec.ofChange backMatchesReferenceSpec)) backMatchesReferenceCard

/-- THE TIED CARD OF 'skewerlaw09.BackRefuses'. -/
def backRefusesCard : Claim7 := { stood := { row := backRefusesRow, standIns := [], harness := (true, "cddcf5bf3efc06a244d079ee2319861710d76464c41ef8c65feff040cf3bf7ae"), looks := false }, kinds := [], alts := [], laidByText := true, laidKinds := [.data, .data, .data, .funcs], laidTests := true, laidLooks := .later }
def BackRefusesCardSaid : Prop := Claim7.holds Tryz.pinned (.plain (OpenSpec.ofChange backRefusesSpec)) backRefusesCard

/-- THE TIED CARD OF 'skewerlaw09.BackLeads'. -/
def backLeadsCard : Claim7 := { stood := { row := backLeadsRow, standIns := [], harness := (true, "cddcf5bf3efc06a244d079ee2319861710d76464c41ef8c65feff040cf3bf7ae"), looks := false }, kinds := [], alts := [], laidByText := true, laidKinds := [.data, .data, .data, .funcs], laidTests := true, laidLooks := .later }
def BackLeadsCardSaid : Prop := Claim7.holds Tryz.pinned (.plain (OpenSpec.ofChange backLeadsSpec)) backLeadsCard

/-- THE TIED CARD OF 'skewerlaw09.BackForth'. -/
def backForthCard : Claim7 := { stood := { row := backForthRow, standIns := [], harness := (true, "cddcf5bf3efc06a244d079ee2319861710d76464c41ef8c65feff040cf3bf7ae"), looks := false }, kinds := [], alts := [], laidByText := true, laidKinds := [.data, .data, .data, .funcs], laidTests := true, laidLooks := .later }
def BackForthCardSaid : Prop := Claim7.holds Tryz.pinned (.plain (OpenSpec.ofChange backForthSpec)) backForthCard

/-- THE TIED CARD OF 'skewerlaw09.BackChains'. -/
def backChainsCard : Claim7 := { stood := { row := backChainsRow, standIns := [], harness := (true, "cddcf5bf3efc06a244d079ee2319861710d76464c41ef8c65feff040cf3bf7ae"), looks := false }, kinds := [], alts := [], laidByText := true, laidKinds := [.data, .data, .data, .funcs], laidTests := true, laidLooks := .later }
def BackChainsCardSaid : Prop := Claim7.holds Tryz.pinned (.plain (OpenSpec.ofChange backChainsSpec)) backChainsCard

/-- THE TIED CARD OF 'skewerlaw29.LastBack'. -/
def lastBackCard : Claim7 := { stood := { row := lastBackRow, standIns := [], harness := (true, "cddcf5bf3efc06a244d079ee2319861710d76464c41ef8c65feff040cf3bf7ae"), looks := false }, kinds := [], alts := [], laidByText := true, laidKinds := [.data, .data, .data, .funcs], laidTests := true, laidLooks := .later }
def LastBackCardSaid : Prop := Claim7.holds Tryz.pinned (.plain (OpenSpec.ofChange lastBackSpec)) lastBackCard

/-- THE TIED CARD OF 'skewertop.TopDiagrams'. -/
def topDiagramsCard : Claim7 := { stood := { row := topDiagramsRow, standIns := [], harness := (true, "cddcf5bf3efc06a244d079ee2319861710d76464c41ef8c65feff040cf3bf7ae"), looks := false }, kinds := [], alts := [], laidByText := true, laidKinds := [.data, .data, .data, .funcs], laidTests := true, laidLooks := .later }
def TopDiagramsCardSaid : Prop := Claim7.holds Tryz.pinned (.plain (OpenSpec.ofChange topDiagramsSpec)) topDiagramsCard

/-- THE SECOND FORM's CARD OF 'skewerlaw22.RegionMoves'. -/
def regionMovesUptoCard : Claim7 := { stood := { row := regionMovesUptoRow, standIns := [], harness := (true, "cddcf5bf3efc06a244d079ee2319861710d76464c41ef8c65feff040cf3bf7ae"), looks := false }, kinds := [], alts := [], laidByText := true, laidKinds := [.data, .data, .data, .funcs], laidTests := true, laidLooks := .later }
def RegionMovesUptoCardSaid : Prop := Claim7.holds Tryz.pinned (.plain (OpenSpec.upto regionMovesSpec)) regionMovesUptoCard

/-- THE SECOND FORM's CARD OF 'skewerlaw22.RegionInfluence'. -/
def regionInfluenceUptoCard : Claim7 := { stood := { row := regionInfluenceUptoRow, standIns := [], harness := (true, "cddcf5bf3efc06a244d079ee2319861710d76464c41ef8c65feff040cf3bf7ae"), looks := false }, kinds := [], alts := [], laidByText := true, laidKinds := [.data, .data, .data, .funcs], laidTests := true, laidLooks := .later }
def RegionInfluenceUptoCardSaid : Prop := Claim7.holds Tryz.pinned (.plain (OpenSpec.upto regionInfluenceSpec)) regionInfluenceUptoCard

/-- THE SECOND FORM's CARD OF 'skewerlaw22.RegionBlocked'. -/
def regionBlockedUptoCard : Claim7 := { stood := { row := regionBlockedUptoRow, standIns := [], harness := (true, "cddcf5bf3efc06a244d079ee2319861710d76464c41ef8c65feff040cf3bf7ae"), looks := false }, kinds := [], alts := [], laidByText := true, laidKinds := [.data, .data, .data, .funcs], laidTests := true, laidLooks := .later }
def RegionBlockedUptoCardSaid : Prop := Claim7.holds Tryz.pinned (.plain (OpenSpec.upto regionBlockedSpec)) regionBlockedUptoCard

/-- THE SECOND FORM's CARD OF 'skewerlaw09.BackMatchesReference'. -/
def backMatchesReferenceUptoCard : Claim7 := { stood := { row := backMatchesReferenceUptoRow, standIns := [], harness := (true, "cddcf5bf3efc06a244d079ee2319861710d76464c41ef8c65feff040cf3bf7ae"), looks := false }, kinds := [], alts := [], laidByText := true, laidKinds := [.data, .data, .data, .funcs], laidTests := true, laidLooks := .later }
def BackMatchesReferenceUptoCardSaid : Prop := Claim7.holds Tryz.pinned (.plain (OpenSpec.upto backMatchesReferenceSpec)) backMatchesReferenceUptoCard

/-- THE SECOND FORM's CARD OF 'skewerlaw09.BackRefuses'. -/
def backRefusesUptoCard : Claim7 := { stood := { row := backRefusesUptoRow, standIns := [], harness := (true, "cddcf5bf3efc06a244d079ee2319861710d76464c41ef8c65feff040cf3bf7ae"), looks := false }, kinds := [], alts := [], laidByText := true, laidKinds := [.data, .data, .data, .funcs], laidTests := true, laidLooks := .later }
def BackRefusesUptoCardSaid : Prop := Claim7.holds Tryz.pinned (.plain (OpenSpec.upto backRefusesSpec)) backRefusesUptoCard

/-- THE SECOND FORM's CARD OF 'skewerlaw09.BackLeads'. -/
def backLeadsUptoCard : Claim7 := { stood := { row := backLeadsUptoRow, standIns := [], harness := (true, "cddcf5bf3efc06a244d079ee2319861710d76464c41ef8c65feff040cf3bf7ae"), looks := false }, kinds := [], alts := [], laidByText := true, laidKinds := [.data, .data, .data, .funcs], laidTests := true, laidLooks := .later }
def BackLeadsUptoCardSaid : Prop := Claim7.holds Tryz.pinned (.plain (OpenSpec.upto backLeadsSpec)) backLeadsUptoCard

/-- THE SECOND FORM's CARD OF 'skewerlaw09.BackForth'. -/
def backForthUptoCard : Claim7 := { stood := { row := backForthUptoRow, standIns := [], harness := (true, "cddcf5bf3efc06a244d079ee2319861710d76464c41ef8c65feff040cf3bf7ae"), looks := false }, kinds := [], alts := [], laidByText := true, laidKinds := [.data, .data, .data, .funcs], laidTests := true, laidLooks := .later }
def BackForthUptoCardSaid : Prop := Claim7.holds Tryz.pinned (.plain (OpenSpec.upto backForthSpec)) backForthUptoCard

/-- THE SECOND FORM's CARD OF 'skewerlaw09.BackChains'. -/
def backChainsUptoCard : Claim7 := { stood := { row := backChainsUptoRow, standIns := [], harness := (true, "cddcf5bf3efc06a244d079ee2319861710d76464c41ef8c65feff040cf3bf7ae"), looks := false }, kinds := [], alts := [], laidByText := true, laidKinds := [.data, .data, .data, .funcs], laidTests := true, laidLooks := .later }
def BackChainsUptoCardSaid : Prop := Claim7.holds Tryz.pinned (.plain (OpenSpec.upto backChainsSpec)) backChainsUptoCard

/-- THE SECOND FORM's CARD OF 'skewerlaw29.LastBack'. -/
def lastBackUptoCard : Claim7 := { stood := { row := lastBackUptoRow, standIns := [], harness := (true, "cddcf5bf3efc06a244d079ee2319861710d76464c41ef8c65feff040cf3bf7ae"), looks := false }, kinds := [], alts := [], laidByText := true, laidKinds := [.data, .data, .data, .funcs], laidTests := true, laidLooks := .later }
def LastBackUptoCardSaid : Prop := Claim7.holds Tryz.pinned (.plain (OpenSpec.upto lastBackSpec)) lastBackUptoCard

/-- THE SECOND FORM's CARD OF 'skewertop.TopDiagrams'. -/
def topDiagramsUptoCard : Claim7 := { stood := { row := topDiagramsUptoRow, standIns := [], harness := (true, "cddcf5bf3efc06a244d079ee2319861710d76464c41ef8c65feff040cf3bf7ae"), looks := false }, kinds := [], alts := [], laidByText := true, laidKinds := [.data, .data, .data, .funcs], laidTests := true, laidLooks := .later }
def TopDiagramsUptoCardSaid : Prop := Claim7.holds Tryz.pinned (.plain (OpenSpec.upto topDiagramsSpec)) topDiagramsUptoCard
end Rows
end Go.Proofs.YtedhfmmlhfmomaaGreatDoor
