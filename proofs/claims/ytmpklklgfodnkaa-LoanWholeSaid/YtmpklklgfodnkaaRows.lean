/-
  No cell of these rows narrows 'for every input' (looked for: loops, veiled, ifaces, maps, wideKeys, modest, calm, conditions, laid).
  DERIVED. THE GIVEN ROWS OF THIS SEAT. 4 by the template 'for every input the law returns true; each argument reads behind the call as it read before'; 0 by the template 'total and deterministic' (their statements: YtmpklklgfodnkaaTotals.lean).
  GIVEN WITH THE SEED: the statements are not yours to turn. If you find one false, say at which input.
  Laid BY PROGRAM, IN A SANDBOX (cutbox-rows.mjs): the forced cells as the released guide's own fill.sh prints them over the translation 971bd77ed57b3192… (all of the seat's roots in one cut). By AI agents, Wed Nov 11 2026. No macro, syntax, notation, axiom, sorry.
-/
import Derived.Test.YtmpklklgfodnkaaChecked
import GoSem.Claim
import GoSem.ClaimJoined
import GoSem.ClaimMapViews
import Derived.JoinedTies
import Derived.KernelRfl
namespace Go.Proofs.Ytmpklklgfodnkaa
/- THE CELL 'sum', in the pinned program and in every row, IS THE sha256 OF THE DUMP (.gsa) THAT YtmpklklgfodnkaaProg.lean LOADS. Nothing in Lean hashes anything: it is a label: what it is worth is what the hold of that sum in a sandbox is worth. -/
noncomputable def Try.pinned : Pinned := { name := "ytmpklklgfodnkaa", sum := "971bd77ed57b31928d679df1489037dced79a9bf24fa994a7b21fbc8ebb6681b", checked := Try.checked }
namespace Rows
def none {H : Type} : Left H := { results := [], args := [] }

/-- 'passbooklaw15.LoanPays': WHATEVER THE INPUT: true; the input reads as it did. -/
def loanPaysSpec : ChangeSpec := { name := "loanPays", fn := fun _ => fun
  | [d1, d2, d3, d4] => { results := [.lit (.bool true)], args := [d1, d2, d3, d4] }
  | _ => none }
def loanPaysRow : OpenClaim := { program := "ytmpklklgfodnkaa", sum := "971bd77ed57b31928d679df1489037dced79a9bf24fa994a7b21fbc8ebb6681b", func := "passbook/passbooklaw15.LoanPays", spec := "loanPays", apart := false }
def LoanPaysSaid : Prop := loanPaysRow.holds Try.pinned (OpenSpec.ofChange loanPaysSpec)

/-- ITS FALSE NEIGHBOUR: 'it returns false'. Refute it at one input. -/
def loanPaysWrong : ChangeSpec := { name := "loanPays", fn := fun _ => fun
  | [d1, d2, d3, d4] => { results := [.lit (.bool false)], args := [d1, d2, d3, d4] }
  | _ => none }
def LoanPaysWrongFalsely : Prop := loanPaysRow.holds Try.pinned (OpenSpec.ofChange loanPaysWrong)

/-- 'passbooklaw15.LoanNothingLost': WHATEVER THE INPUT: true; the input reads as it did. -/
def loanNothingLostSpec : ChangeSpec := { name := "loanNothingLost", fn := fun _ => fun
  | [d1, d2, d3, d4] => { results := [.lit (.bool true)], args := [d1, d2, d3, d4] }
  | _ => none }
def loanNothingLostRow : OpenClaim := { program := "ytmpklklgfodnkaa", sum := "971bd77ed57b31928d679df1489037dced79a9bf24fa994a7b21fbc8ebb6681b", func := "passbook/passbooklaw15.LoanNothingLost", spec := "loanNothingLost", apart := false }
def LoanNothingLostSaid : Prop := loanNothingLostRow.holds Try.pinned (OpenSpec.ofChange loanNothingLostSpec)

/-- ITS FALSE NEIGHBOUR: 'it returns false'. Refute it at one input. -/
def loanNothingLostWrong : ChangeSpec := { name := "loanNothingLost", fn := fun _ => fun
  | [d1, d2, d3, d4] => { results := [.lit (.bool false)], args := [d1, d2, d3, d4] }
  | _ => none }
def LoanNothingLostWrongFalsely : Prop := loanNothingLostRow.holds Try.pinned (OpenSpec.ofChange loanNothingLostWrong)

/-- 'passbooklaw15.LoanWhole': WHATEVER THE INPUT: true; the input reads as it did. -/
def loanWholeSpec : ChangeSpec := { name := "loanWhole", fn := fun _ => fun
  | [d1, d2] => { results := [.lit (.bool true)], args := [d1, d2] }
  | _ => none }
def loanWholeRow : OpenClaim := { program := "ytmpklklgfodnkaa", sum := "971bd77ed57b31928d679df1489037dced79a9bf24fa994a7b21fbc8ebb6681b", func := "passbook/passbooklaw15.LoanWhole", spec := "loanWhole", apart := false }
def LoanWholeSaid : Prop := loanWholeRow.holds Try.pinned (OpenSpec.ofChange loanWholeSpec)

/-- ITS FALSE NEIGHBOUR: 'it returns false'. Refute it at one input. -/
def loanWholeWrong : ChangeSpec := { name := "loanWhole", fn := fun _ => fun
  | [d1, d2] => { results := [.lit (.bool false)], args := [d1, d2] }
  | _ => none }
def LoanWholeWrongFalsely : Prop := loanWholeRow.holds Try.pinned (OpenSpec.ofChange loanWholeWrong)

/-- 'passbooklaw15.LoanFalls': WHATEVER THE INPUT: true; the input reads as it did. -/
def loanFallsSpec : ChangeSpec := { name := "loanFalls", fn := fun _ => fun
  | [d1, d2, d3, d4, d5] => { results := [.lit (.bool true)], args := [d1, d2, d3, d4, d5] }
  | _ => none }
def loanFallsRow : OpenClaim := { program := "ytmpklklgfodnkaa", sum := "971bd77ed57b31928d679df1489037dced79a9bf24fa994a7b21fbc8ebb6681b", func := "passbook/passbooklaw15.LoanFalls", spec := "loanFalls", apart := false }
def LoanFallsSaid : Prop := loanFallsRow.holds Try.pinned (OpenSpec.ofChange loanFallsSpec)

/-- ITS FALSE NEIGHBOUR: 'it returns false'. Refute it at one input. -/
def loanFallsWrong : ChangeSpec := { name := "loanFalls", fn := fun _ => fun
  | [d1, d2, d3, d4, d5] => { results := [.lit (.bool false)], args := [d1, d2, d3, d4, d5] }
  | _ => none }
def LoanFallsWrongFalsely : Prop := loanFallsRow.holds Try.pinned (OpenSpec.ofChange loanFallsWrong)

/- THE SECOND FORM. 'bulk': how many values and letters a reading holds, each counted each time it is reached (what is shared counts as often as it is met; a slice's spare places count too). A statement '..UptoSaid' is the law's where the arguments, and the package variables that the reading takes, are together of bulk at most 1048576: NARROWER than '..Said'. Prove '..Said' where nothing that the law and all that it calls make is longer than what came in: it says more and counts as full. Else prove '..UptoSaid'. A law counts once. -/
mutual
def uptoBulk {H : Type} : DataW H → Nat
  | .lit (.string bytes) => bytes.length + 1
  | .lit _ => 1
  | .nil => 1
  | .ptr d => uptoBulk d + 1
  | .slice elems spare => uptoBulkAll elems + uptoBulkAll spare + 1
  | .agg parts => uptoBulkAll parts + 1
  | .iface _ d => uptoBulk d + 1
  | .map entries => uptoBulkEntries entries + 1
  | .held _ => 1
def uptoBulkAll {H : Type} : List (DataW H) → Nat
  | [] => 0
  | d :: r => uptoBulk d + uptoBulkAll r
def uptoBulkEntries {H : Type} : List (Lit × DataW H) → Nat
  | [] => 0
  | x :: r => uptoBulkEntry x + uptoBulkEntries r
def uptoBulkEntry {H : Type} : Lit × DataW H → Nat
  | (.string bytes, d) => bytes.length + uptoBulk d + 1
  | (_, d) => uptoBulk d + 1
 end
def uptoSmall : (H : Type) → List (DataW H) → Bool := fun _ ds => decide (uptoBulkAll ds ≤ 1048576)
def OpenSpec.upto (s : _root_.Go.ChangeSpec) : _root_.Go.OpenSpec := { _root_.Go.OpenSpec.ofChange s with cond := some uptoSmall }

/-- 'passbooklaw15.LoanPays', WHERE WHAT IT READS IS OF BULK AT MOST 1048576: true; the input reads as it did. -/
def loanPaysUptoRow : OpenClaim := { program := "ytmpklklgfodnkaa", sum := "971bd77ed57b31928d679df1489037dced79a9bf24fa994a7b21fbc8ebb6681b", func := "passbook/passbooklaw15.LoanPays", spec := "loanPays", apart := false, narrowed := true }
def LoanPaysUptoSaid : Prop := loanPaysUptoRow.holds Try.pinned (OpenSpec.upto loanPaysSpec)

/-- 'passbooklaw15.LoanNothingLost', WHERE WHAT IT READS IS OF BULK AT MOST 1048576: true; the input reads as it did. -/
def loanNothingLostUptoRow : OpenClaim := { program := "ytmpklklgfodnkaa", sum := "971bd77ed57b31928d679df1489037dced79a9bf24fa994a7b21fbc8ebb6681b", func := "passbook/passbooklaw15.LoanNothingLost", spec := "loanNothingLost", apart := false, narrowed := true }
def LoanNothingLostUptoSaid : Prop := loanNothingLostUptoRow.holds Try.pinned (OpenSpec.upto loanNothingLostSpec)

/-- 'passbooklaw15.LoanWhole', WHERE WHAT IT READS IS OF BULK AT MOST 1048576: true; the input reads as it did. -/
def loanWholeUptoRow : OpenClaim := { program := "ytmpklklgfodnkaa", sum := "971bd77ed57b31928d679df1489037dced79a9bf24fa994a7b21fbc8ebb6681b", func := "passbook/passbooklaw15.LoanWhole", spec := "loanWhole", apart := false, narrowed := true }
def LoanWholeUptoSaid : Prop := loanWholeUptoRow.holds Try.pinned (OpenSpec.upto loanWholeSpec)

/-- 'passbooklaw15.LoanFalls', WHERE WHAT IT READS IS OF BULK AT MOST 1048576: true; the input reads as it did. -/
def loanFallsUptoRow : OpenClaim := { program := "ytmpklklgfodnkaa", sum := "971bd77ed57b31928d679df1489037dced79a9bf24fa994a7b21fbc8ebb6681b", func := "passbook/passbooklaw15.LoanFalls", spec := "loanFalls", apart := false, narrowed := true }
def LoanFallsUptoSaid : Prop := loanFallsUptoRow.holds Try.pinned (OpenSpec.upto loanFallsSpec)

end Rows
end Go.Proofs.Ytmpklklgfodnkaa
