/-
  DERIVED. GIVEN WITH THE SEED: THE CARDS: each row of YtlfomhdphbchpaaGreatDoorRows.lean that lists a variable, with what it lists TIED to the program's text (the seventh form; the later family's looks); each row that meets fmt, with fmt's text TOLD by the authors' own Lean function (tested against real Go, not proved from fmt's source: count such statements apart). THE CARD IS WHAT COUNTS. Prove the row's statement (the work); the ties are given (YtlfomhdphbchpaaGreatDoorTie.lean); close each card by the builder's one call (the guide's Derived/Test/ToyasCard.lean, 'card_holds'). Laid BY PROGRAM, IN A SANDBOX (cutbox-door.mjs). By AI agents, Wed Nov 11 2026. No macro, syntax, notation, axiom, sorry.
-/
import Derived.Test.YtlfomhdphbchpaaGreatDoorRows
import GoSem.ClaimSeven
namespace Go.Proofs.YtlfomhdphbchpaaGreatDoor
namespace Rows

/-- THE TIED CARD OF 'passbooktop.TopMonths'. -/
def topMonthsCard : Claim7 := { stood := { row := topMonthsRow, standIns := [], harness := (true, "8f0cc360df875209a1bcaa80e310a322e84d6a64b2a551700e07ce323996cf0e"), looks := true }, kinds := [], alts := [], laidByText := true, laidKinds := [.sentinel], laidTests := true, laidLooks := .later }
def TopMonthsCardSaid : Prop := Claim7.holds Tryz.pinned (.plain (OpenSpec.ofChange topMonthsSpec)) topMonthsCard

/-- THE SECOND FORM's CARD OF 'passbooktop.TopMonths'. -/
def topMonthsUptoCard : Claim7 := { stood := { row := topMonthsUptoRow, standIns := [], harness := (true, "8f0cc360df875209a1bcaa80e310a322e84d6a64b2a551700e07ce323996cf0e"), looks := true }, kinds := [], alts := [], laidByText := true, laidKinds := [.sentinel], laidTests := true, laidLooks := .later }
def TopMonthsUptoCardSaid : Prop := Claim7.holds Tryz.pinned (.plain (OpenSpec.upto topMonthsSpec)) topMonthsUptoCard
end Rows
end Go.Proofs.YtlfomhdphbchpaaGreatDoor
