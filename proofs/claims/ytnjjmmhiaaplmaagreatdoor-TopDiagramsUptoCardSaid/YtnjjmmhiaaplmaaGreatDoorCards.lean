/-
  DERIVED. GIVEN WITH THE SEED: THE CARDS: each row of YtnjjmmhiaaplmaaGreatDoorRows.lean that lists a variable, with what it lists TIED to the program's text (the seventh form; the later family's looks); each row that meets fmt, with fmt's text TOLD by the authors' own Lean function (tested against real Go, not proved from fmt's source: count such statements apart). THE CARD IS WHAT COUNTS. Prove the row's statement (the work); the ties are given (YtnjjmmhiaaplmaaGreatDoorTie.lean); close each card by the builder's one call (the guide's Derived/Test/ToyasCard.lean, 'card_holds'). Laid BY PROGRAM, IN A SANDBOX (cutbox-door.mjs). By AI agents, Wed Nov 11 2026. No macro, syntax, notation, axiom, sorry.
-/
import Derived.Test.YtnjjmmhiaaplmaaGreatDoorRows
import GoSem.ClaimSeven
namespace Go.Proofs.YtnjjmmhiaaplmaaGreatDoor
namespace Rows

/-- THE TIED CARD OF 'skewertop.TopDiagrams'. -/
def topDiagramsCard : Claim7 := { stood := { row := topDiagramsRow, standIns := [], harness := (true, "e3c0123375e2c078b8c45deaf8d9d7fd5f6f37cd7fe9d62e4c07399be8fe2df4"), looks := false }, kinds := [], alts := [], laidByText := true, laidKinds := [.data, .data, .data, .funcs], laidTests := true, laidLooks := .later }
def TopDiagramsCardSaid : Prop := Claim7.holds Tryz.pinned (.plain (OpenSpec.ofChange topDiagramsSpec)) topDiagramsCard

/-- THE SECOND FORM's CARD OF 'skewertop.TopDiagrams'. -/
def topDiagramsUptoCard : Claim7 := { stood := { row := topDiagramsUptoRow, standIns := [], harness := (true, "e3c0123375e2c078b8c45deaf8d9d7fd5f6f37cd7fe9d62e4c07399be8fe2df4"), looks := false }, kinds := [], alts := [], laidByText := true, laidKinds := [.data, .data, .data, .funcs], laidTests := true, laidLooks := .later }
def TopDiagramsUptoCardSaid : Prop := Claim7.holds Tryz.pinned (.plain (OpenSpec.upto topDiagramsSpec)) topDiagramsUptoCard
end Rows
end Go.Proofs.YtnjjmmhiaaplmaaGreatDoor
