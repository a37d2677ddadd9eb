/-
  No cell of these rows narrows 'for every input' (looked for: loops, veiled, ifaces, maps, wideKeys, modest, calm, conditions, laid).
  DERIVED. THE GIVEN ROWS OF THIS SEAT. 4 by the template 'for every input the law returns true; each argument reads behind the call as it read before'; 0 by the template 'total and deterministic' (their statements: YtkcfeaonkgpbdaaTotals.lean).
  GIVEN WITH THE SEED: the statements are not yours to turn. If you find one false, say at which input.
  Laid BY PROGRAM, IN A SANDBOX (cutbox-rows.mjs): the forced cells as the released guide's own fill.sh prints them over the translation e789e2adfac5951f… (all of the seat's roots in one cut). By AI agents, Wed Nov 11 2026. No macro, syntax, notation, axiom, sorry.
-/
import Derived.Test.YtkcfeaonkgpbdaaChecked
import GoSem.Claim
import GoSem.ClaimJoined
import GoSem.ClaimMapViews
import Derived.JoinedTies
import Derived.KernelRfl
namespace Go.Proofs.Ytkcfeaonkgpbdaa
/- THE CELL 'sum', in the pinned program and in every row, IS THE sha256 OF THE DUMP (.gsa) THAT YtkcfeaonkgpbdaaProg.lean LOADS. Nothing in Lean hashes anything: it is a label: what it is worth is what the hold of that sum in a sandbox is worth. -/
noncomputable def Try.pinned : Pinned := { name := "ytkcfeaonkgpbdaa", sum := "e789e2adfac5951f1e8bae8c20cc4e3292d0bdec882e370de572f84e28224948", checked := Try.checked }
namespace Rows
def none {H : Type} : Left H := { results := [], args := [] }

/-- 'passbooklaw08.EventWrites': WHATEVER THE INPUT: true; the input reads as it did. -/
def eventWritesSpec : ChangeSpec := { name := "eventWrites", fn := fun _ => fun
  | [d] => { results := [.lit (.bool true)], args := [d] }
  | _ => none }
def eventWritesRow : OpenClaim := { program := "ytkcfeaonkgpbdaa", sum := "e789e2adfac5951f1e8bae8c20cc4e3292d0bdec882e370de572f84e28224948", func := "passbook/passbooklaw08.EventWrites", spec := "eventWrites", apart := false }
def EventWritesSaid : Prop := eventWritesRow.holds Try.pinned (OpenSpec.ofChange eventWritesSpec)

/-- ITS FALSE NEIGHBOUR: 'it returns false'. Refute it at one input. -/
def eventWritesWrong : ChangeSpec := { name := "eventWrites", fn := fun _ => fun
  | [d] => { results := [.lit (.bool false)], args := [d] }
  | _ => none }
def EventWritesWrongFalsely : Prop := eventWritesRow.holds Try.pinned (OpenSpec.ofChange eventWritesWrong)

/-- 'passbooklaw08.EventReads': WHATEVER THE INPUT: true; the input reads as it did. -/
def eventReadsSpec : ChangeSpec := { name := "eventReads", fn := fun _ => fun
  | [d] => { results := [.lit (.bool true)], args := [d] }
  | _ => none }
def eventReadsRow : OpenClaim := { program := "ytkcfeaonkgpbdaa", sum := "e789e2adfac5951f1e8bae8c20cc4e3292d0bdec882e370de572f84e28224948", func := "passbook/passbooklaw08.EventReads", spec := "eventReads", apart := false }
def EventReadsSaid : Prop := eventReadsRow.holds Try.pinned (OpenSpec.ofChange eventReadsSpec)

/-- ITS FALSE NEIGHBOUR: 'it returns false'. Refute it at one input. -/
def eventReadsWrong : ChangeSpec := { name := "eventReads", fn := fun _ => fun
  | [d] => { results := [.lit (.bool false)], args := [d] }
  | _ => none }
def EventReadsWrongFalsely : Prop := eventReadsRow.holds Try.pinned (OpenSpec.ofChange eventReadsWrong)

/-- 'passbooklaw08.EventOne': WHATEVER THE INPUT: true; the input reads as it did. -/
def eventOneSpec : ChangeSpec := { name := "eventOne", fn := fun _ => fun
  | [d1, d2, d3, d4] => { results := [.lit (.bool true)], args := [d1, d2, d3, d4] }
  | _ => none }
def eventOneRow : OpenClaim := { program := "ytkcfeaonkgpbdaa", sum := "e789e2adfac5951f1e8bae8c20cc4e3292d0bdec882e370de572f84e28224948", func := "passbook/passbooklaw08.EventOne", spec := "eventOne", apart := false }
def EventOneSaid : Prop := eventOneRow.holds Try.pinned (OpenSpec.ofChange eventOneSpec)

/-- ITS FALSE NEIGHBOUR: 'it returns false'. Refute it at one input. -/
def eventOneWrong : ChangeSpec := { name := "eventOne", fn := fun _ => fun
  | [d1, d2, d3, d4] => { results := [.lit (.bool false)], args := [d1, d2, d3, d4] }
  | _ => none }
def EventOneWrongFalsely : Prop := eventOneRow.holds Try.pinned (OpenSpec.ofChange eventOneWrong)

/-- 'passbooklaw08.EventNumbers': WHATEVER THE INPUT: true; the input reads as it did. -/
def eventNumbersSpec : ChangeSpec := { name := "eventNumbers", fn := fun _ => fun
  | [d1, d2, d3] => { results := [.lit (.bool true)], args := [d1, d2, d3] }
  | _ => none }
def eventNumbersRow : OpenClaim := { program := "ytkcfeaonkgpbdaa", sum := "e789e2adfac5951f1e8bae8c20cc4e3292d0bdec882e370de572f84e28224948", func := "passbook/passbooklaw08.EventNumbers", spec := "eventNumbers", apart := false }
def EventNumbersSaid : Prop := eventNumbersRow.holds Try.pinned (OpenSpec.ofChange eventNumbersSpec)

/-- ITS FALSE NEIGHBOUR: 'it returns false'. Refute it at one input. -/
def eventNumbersWrong : ChangeSpec := { name := "eventNumbers", fn := fun _ => fun
  | [d1, d2, d3] => { results := [.lit (.bool false)], args := [d1, d2, d3] }
  | _ => none }
def EventNumbersWrongFalsely : Prop := eventNumbersRow.holds Try.pinned (OpenSpec.ofChange eventNumbersWrong)

/- THE SECOND FORM. 'bulk': how many values and letters a reading holds, each counted each time it is reached (what is shared counts as often as it is met; a slice's spare places count too). A statement '..UptoSaid' is the law's where the arguments, and the package variables that the reading takes, are together of bulk at most 1048576: NARROWER than '..Said'. Prove '..Said' where nothing that the law and all that it calls make is longer than what came in: it says more and counts as full. Else prove '..UptoSaid'. A law counts once. -/
mutual
def uptoBulk {H : Type} : DataW H → Nat
  | .lit (.string bytes) => bytes.length + 1
  | .lit _ => 1
  | .nil => 1
  | .ptr d => uptoBulk d + 1
  | .slice elems spare => uptoBulkAll elems + uptoBulkAll spare + 1
  | .agg parts => uptoBulkAll parts + 1
  | .iface _ d => uptoBulk d + 1
  | .map entries => uptoBulkEntries entries + 1
  | .held _ => 1
def uptoBulkAll {H : Type} : List (DataW H) → Nat
  | [] => 0
  | d :: r => uptoBulk d + uptoBulkAll r
def uptoBulkEntries {H : Type} : List (Lit × DataW H) → Nat
  | [] => 0
  | x :: r => uptoBulkEntry x + uptoBulkEntries r
def uptoBulkEntry {H : Type} : Lit × DataW H → Nat
  | (.string bytes, d) => bytes.length + uptoBulk d + 1
  | (_, d) => uptoBulk d + 1
 end
def uptoSmall : (H : Type) → List (DataW H) → Bool := fun _ ds => decide (uptoBulkAll ds ≤ 1048576)
def OpenSpec.upto (s : _root_.Go.ChangeSpec) : _root_.Go.OpenSpec := { _root_.Go.OpenSpec.ofChange s with cond := some uptoSmall }

/-- 'passbooklaw08.EventWrites', WHERE WHAT IT READS IS OF BULK AT MOST 1048576: true; the input reads as it did. -/
def eventWritesUptoRow : OpenClaim := { program := "ytkcfeaonkgpbdaa", sum := "e789e2adfac5951f1e8bae8c20cc4e3292d0bdec882e370de572f84e28224948", func := "passbook/passbooklaw08.EventWrites", spec := "eventWrites", apart := false, narrowed := true }
def EventWritesUptoSaid : Prop := eventWritesUptoRow.holds Try.pinned (OpenSpec.upto eventWritesSpec)

/-- 'passbooklaw08.EventReads', WHERE WHAT IT READS IS OF BULK AT MOST 1048576: true; the input reads as it did. -/
def eventReadsUptoRow : OpenClaim := { program := "ytkcfeaonkgpbdaa", sum := "e789e2adfac5951f1e8bae8c20cc4e3292d0bdec882e370de572f84e28224948", func := "passbook/passbooklaw08.EventReads", spec := "eventReads", apart := false, narrowed := true }
def EventReadsUptoSaid : Prop := eventReadsUptoRow.holds Try.pinned (OpenSpec.upto eventReadsSpec)

/-- 'passbooklaw08.EventOne', WHERE WHAT IT READS IS OF BULK AT MOST 1048576: true; the input reads as it did. -/
def eventOneUptoRow : OpenClaim := { program := "ytkcfeaonkgpbdaa", sum := "e789e2adfac5951f1e8bae8c20cc4e3292d0bdec882e370de572f84e28224948", func := "passbook/passbooklaw08.EventOne", spec := "eventOne", apart := false, narrowed := true }
def EventOneUptoSaid : Prop := eventOneUptoRow.holds Try.pinned (OpenSpec.upto eventOneSpec)

/-- 'passbooklaw08.EventNumbers', WHERE WHAT IT READS IS OF BULK AT MOST 1048576: true; the input reads as it did. -/
def eventNumbersUptoRow : OpenClaim := { program := "ytkcfeaonkgpbdaa", sum := "e789e2adfac5951f1e8bae8c20cc4e3292d0bdec882e370de572f84e28224948", func := "passbook/passbooklaw08.EventNumbers", spec := "eventNumbers", apart := false, narrowed := true }
def EventNumbersUptoSaid : Prop := eventNumbersUptoRow.holds Try.pinned (OpenSpec.upto eventNumbersSpec)

end Rows
end Go.Proofs.Ytkcfeaonkgpbdaa
