/-
  DERIVED. GIVEN WITH THE SEED: THE CARDS: each row of YtkdnebalpdebeaaGreatDoorRows.lean that lists a variable, with what it lists TIED to the program's text (the seventh form; the later family's looks); each row that meets fmt, with fmt's text TOLD by the authors' own Lean function (tested against real Go, not proved from fmt's source: count such statements apart). THE CARD IS WHAT COUNTS. Prove the row's statement (the work); the ties are given (YtkdnebalpdebeaaGreatDoorTie.lean); close each card by the builder's one call (the guide's Derived/Test/ToyasCard.lean, 'card_holds'). Laid BY PROGRAM, IN A SANDBOX (cutbox-door.mjs). By AI agents, Wed Nov 11 2026. No macro, syntax, notation, axiom, sorry.
-/
import Derived.Test.YtkdnebalpdebeaaGreatDoorRows
import GoSem.ClaimSeven
namespace Go.Proofs.YtkdnebalpdebeaaGreatDoor
namespace Rows

/-- THE TIED CARD OF 'passbooktop.TopFormula'. -/
def topFormulaCard : Claim7 := { stood := { row := topFormulaRow, standIns := [], harness := (true, "1365792c18511f6cf1898268a8cef017d44d1d0484a358129561038145e1dda0"), looks := true }, kinds := [], alts := [], laidByText := true, laidKinds := [.sentinel], laidTests := true, laidLooks := .later }
def TopFormulaCardSaid : Prop := Claim7.holds Tryz.pinned (.plain (OpenSpec.ofChange topFormulaSpec)) topFormulaCard

/-- THE SECOND FORM's CARD OF 'passbooktop.TopFormula'. -/
def topFormulaUptoCard : Claim7 := { stood := { row := topFormulaUptoRow, standIns := [], harness := (true, "1365792c18511f6cf1898268a8cef017d44d1d0484a358129561038145e1dda0"), looks := true }, kinds := [], alts := [], laidByText := true, laidKinds := [.sentinel], laidTests := true, laidLooks := .later }
def TopFormulaUptoCardSaid : Prop := Claim7.holds Tryz.pinned (.plain (OpenSpec.upto topFormulaSpec)) topFormulaUptoCard
end Rows
end Go.Proofs.YtkdnebalpdebeaaGreatDoor
