/-
  DERIVED. GIVEN WITH THE SEED: THE CARDS: each row of YtgdfnfffibhkjaaGreatDoorRows.lean that lists a variable, with what it lists TIED to the program's text (the seventh form; the later family's looks); each row that meets fmt, with fmt's text TOLD by the authors' own Lean function (tested against real Go, not proved from fmt's source: count such statements apart). THE CARD IS WHAT COUNTS. Prove the row's statement (the work); the ties are given (YtgdfnfffibhkjaaGreatDoorTie.lean); close each card by the builder's one call (the guide's Derived/Test/ToyasCard.lean, 'card_holds'). Laid BY PROGRAM, IN A SANDBOX (cutbox-door.mjs). By AI agents, Wed Nov 11 2026. No macro, syntax, notation, axiom, sorry.
-/
import Derived.Test.YtgdfnfffibhkjaaGreatDoorRows
import GoSem.ClaimSeven
namespace Go.Proofs.YtgdfnfffibhkjaaGreatDoor
namespace Rows

/-- THE TIED CARD OF 'skewerlaw23.SumMatchesReference'. -/
def sumMatchesReferenceCard : Claim7 := { stood := { row := sumMatchesReferenceRow, standIns := [], harness := (true, "0a486e1e5cf504138cdc1c0cced362a0f09810883be3994cd63766a4875944d7"), looks := false }, kinds := [], alts := [], laidByText := true, laidKinds := [.data, .data, .data, .funcs], laidTests := true, laidLooks := .later }
def SumMatchesReferenceCardSaid : Prop := Claim7.holds Tryz.pinned (.plain (OpenSpec.ofChange sumMatchesReferenceSpec)) sumMatchesReferenceCard

/-- THE TIED CARD OF 'skewerlaw23.SumForms'. -/
def sumFormsCard : Claim7 := { stood := { row := sumFormsRow, standIns := [], harness := (true, "0a486e1e5cf504138cdc1c0cced362a0f09810883be3994cd63766a4875944d7"), looks := false }, kinds := [], alts := [], laidByText := true, laidKinds := [.data, .data, .data, .funcs], laidTests := true, laidLooks := .later }
def SumFormsCardSaid : Prop := Claim7.holds Tryz.pinned (.plain (OpenSpec.ofChange sumFormsSpec)) sumFormsCard

/-- THE TIED CARD OF 'skewerlaw23.SumTotals'. -/
def sumTotalsCard : Claim7 := { stood := { row := sumTotalsRow, standIns := [], harness := (true, "0a486e1e5cf504138cdc1c0cced362a0f09810883be3994cd63766a4875944d7"), looks := false }, kinds := [], alts := [], laidByText := true, laidKinds := [.data, .data, .data, .funcs], laidTests := true, laidLooks := .later }
def SumTotalsCardSaid : Prop := Claim7.holds Tryz.pinned (.plain (OpenSpec.ofChange sumTotalsSpec)) sumTotalsCard

/-- THE TIED CARD OF 'skewerlaw23.SumWinners'. -/
def sumWinnersCard : Claim7 := { stood := { row := sumWinnersRow, standIns := [], harness := (true, "0a486e1e5cf504138cdc1c0cced362a0f09810883be3994cd63766a4875944d7"), looks := false }, kinds := [], alts := [], laidByText := true, laidKinds := [.data, .data, .data, .funcs], laidTests := true, laidLooks := .later }
def SumWinnersCardSaid : Prop := Claim7.holds Tryz.pinned (.plain (OpenSpec.ofChange sumWinnersSpec)) sumWinnersCard

/-- THE TIED CARD OF 'skewerlaw23.SumBest'. -/
def sumBestCard : Claim7 := { stood := { row := sumBestRow, standIns := [], harness := (true, "0a486e1e5cf504138cdc1c0cced362a0f09810883be3994cd63766a4875944d7"), looks := false }, kinds := [], alts := [], laidByText := true, laidKinds := [.data, .data, .data, .funcs], laidTests := true, laidLooks := .later }
def SumBestCardSaid : Prop := Claim7.holds Tryz.pinned (.plain (OpenSpec.ofChange sumBestSpec)) sumBestCard

/-- THE TIED CARD OF 'skewerlaw23.SumRefuses'. -/
def sumRefusesCard : Claim7 := { stood := { row := sumRefusesRow, standIns := [], harness := (true, "0a486e1e5cf504138cdc1c0cced362a0f09810883be3994cd63766a4875944d7"), looks := false }, kinds := [], alts := [], laidByText := true, laidKinds := [.data, .data, .data, .funcs], laidTests := true, laidLooks := .later }
def SumRefusesCardSaid : Prop := Claim7.holds Tryz.pinned (.plain (OpenSpec.ofChange sumRefusesSpec)) sumRefusesCard

/-- THE SECOND FORM's CARD OF 'skewerlaw23.SumMatchesReference'. -/
def sumMatchesReferenceUptoCard : Claim7 := { stood := { row := sumMatchesReferenceUptoRow, standIns := [], harness := (true, "0a486e1e5cf504138cdc1c0cced362a0f09810883be3994cd63766a4875944d7"), looks := false }, kinds := [], alts := [], laidByText := true, laidKinds := [.data, .data, .data, .funcs], laidTests := true, laidLooks := .later }
def SumMatchesReferenceUptoCardSaid : Prop := Claim7.holds Tryz.pinned (.plain (OpenSpec.upto sumMatchesReferenceSpec)) sumMatchesReferenceUptoCard

/-- THE SECOND FORM's CARD OF 'skewerlaw23.SumForms'. -/
def sumFormsUptoCard : Claim7 := { stood := { row := sumFormsUptoRow, standIns := [], harness := (true, "0a486e1e5cf504138cdc1c0cced362a0f09810883be3994cd63766a4875944d7"), looks := false }, kinds := [], alts := [], laidByText := true, laidKinds := [.data, .data, .data, .funcs], laidTests := true, laidLooks := .later }
def SumFormsUptoCardSaid : Prop := Claim7.holds Tryz.pinned (.plain (OpenSpec.upto sumFormsSpec)) sumFormsUptoCard

/-- THE SECOND FORM's CARD OF 'skewerlaw23.SumTotals'. -/
def sumTotalsUptoCard : Claim7 := { stood := { row := sumTotalsUptoRow, standIns := [], harness := (true, "0a486e1e5cf504138cdc1c0cced362a0f09810883be3994cd63766a4875944d7"), looks := false }, kinds := [], alts := [], laidByText := true, laidKinds := [.data, .data, .data, .funcs], laidTests := true, laidLooks := .later }
def SumTotalsUptoCardSaid : Prop := Claim7.holds Tryz.pinned (.plain (OpenSpec.upto sumTotalsSpec)) sumTotalsUptoCard

/-- THE SECOND FORM's CARD OF 'skewerlaw23.SumWinners'. -/
def sumWinnersUptoCard : Claim7 := { stood := { row := sumWinnersUptoRow, standIns := [], harness := (true, "0a486e1e5cf504138cdc1c0cced362a0f09810883be3994cd63766a4875944d7"), looks := false }, kinds := [], alts := [], laidByText := true, laidKinds := [.data, .data, .data, .funcs], laidTests := true, laidLooks := .later }
def SumWinnersUptoCardSaid : Prop := Claim7.holds Tryz.pinned (.plain (OpenSpec.upto sumWinnersSpec)) sumWinnersUptoCard

/-- THE SECOND FORM's CARD OF 'skewerlaw23.SumBest'. -/
def sumBestUptoCard : Claim7 := { stood := { row := sumBestUptoRow, standIns := [], harness := (true, "0a486e1e5cf504138cdc1c0cced362a0f09810883be3994cd63766a4875944d7"), looks := false }, kinds := [], alts := [], laidByText := true, laidKinds := [.data, .data, .data, .funcs], laidTests := true, laidLooks := .later }
def SumBestUptoCardSaid : Prop := Claim7.holds Tryz.pinned (.plain (OpenSpec.upto sumBestSpec)) sumBestUptoCard

/-- THE SECOND FORM's CARD OF 'skewerlaw23.SumRefuses'. -/
def sumRefusesUptoCard : Claim7 := { stood := { row := sumRefusesUptoRow, standIns := [], harness := (true, "0a486e1e5cf504138cdc1c0cced362a0f09810883be3994cd63766a4875944d7"), looks := false }, kinds := [], alts := [], laidByText := true, laidKinds := [.data, .data, .data, .funcs], laidTests := true, laidLooks := .later }
def SumRefusesUptoCardSaid : Prop := Claim7.holds Tryz.pinned (.plain (OpenSpec.upto sumRefusesSpec)) sumRefusesUptoCard
end Rows
end Go.Proofs.YtgdfnfffibhkjaaGreatDoor
