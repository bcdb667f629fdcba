/-
  DERIVED. GIVEN WITH THE SEED: THE CARDS: each row of YtdgeodnfacnnmaaGreatDoorRows.lean that lists a variable, with what it lists TIED to the program's text (the seventh form; the later family's looks); each row that meets fmt, with fmt's text TOLD by the authors' own Lean function (tested against real Go, not proved from fmt's source: count such statements apart). THE CARD IS WHAT COUNTS. Prove the row's statement (the work); the ties are given (YtdgeodnfacnnmaaGreatDoorTie.lean); close each card by the builder's one call (the guide's Derived/Test/ToyasCard.lean, 'card_holds'). Laid BY PROGRAM, IN A SANDBOX (cutbox-door.mjs). By AI agents, Wed Nov 11 2026. No macro, syntax, notation, axiom, sorry.
-/
import Derived.Test.YtdgeodnfacnnmaaGreatDoorRows
import GoSem.ClaimSeven
namespace Go.Proofs.YtdgeodnfacnnmaaGreatDoor
namespace Rows

/-- THE TIED CARD OF 'dowellaw05.MatrixReduces'. -/
def matrixReducesCard : Claim7 := { stood := { row := matrixReducesRow, standIns := [], harness := (true, "c74a02fa31629783a3c1b2caad9aa145cb5f837d2d2476f0afb683f979b95ebd"), looks := true }, kinds := [], alts := [], laidByText := true, laidKinds := [.data, .data, .data, .data, .sentinel, .sentinel, .pinned], laidTests := true, laidLooks := .later }
def MatrixReducesCardSaid : Prop := Claim7.holds Tryz.pinned (.plain (OpenSpec.ofChange matrixReducesSpec)) matrixReducesCard

/-- THE SECOND FORM's CARD OF 'dowellaw05.MatrixReduces'. -/
def matrixReducesUptoCard : Claim7 := { stood := { row := matrixReducesUptoRow, standIns := [], harness := (true, "c74a02fa31629783a3c1b2caad9aa145cb5f837d2d2476f0afb683f979b95ebd"), looks := true }, kinds := [], alts := [], laidByText := true, laidKinds := [.data, .data, .data, .data, .sentinel, .sentinel, .pinned], laidTests := true, laidLooks := .later }
def MatrixReducesUptoCardSaid : Prop := Claim7.holds Tryz.pinned (.plain (OpenSpec.upto matrixReducesSpec)) matrixReducesUptoCard
end Rows
end Go.Proofs.YtdgeodnfacnnmaaGreatDoor
