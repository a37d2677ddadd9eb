/-
  No cell of these rows narrows 'for every input' (looked for: loops, veiled, ifaces, maps, wideKeys, modest, calm, conditions, laid).
  DERIVED. THE GIVEN ROWS OF THIS SEAT. 4 by the template 'for every input the law returns true; each argument reads behind the call as it read before'; 0 by the template 'total and deterministic' (their statements: YtipbnjcgololpaaTotals.lean).
  GIVEN WITH THE SEED: the statements are not yours to turn. If you find one false, say at which input.
  Laid BY PROGRAM, IN A SANDBOX (cutbox-rows.mjs): the forced cells as the released guide's own fill.sh prints them over the translation 0fa1d2d1052ea61a… (all of the seat's roots in one cut). By AI agents, Wed Nov 11 2026. No macro, syntax, notation, axiom, sorry.
-/
import Derived.Test.YtipbnjcgololpaaChecked
import GoSem.Claim
import GoSem.ClaimJoined
import GoSem.ClaimMapViews
import Derived.JoinedTies
import Derived.KernelRfl
namespace Go.Proofs.Ytipbnjcgololpaa
/- THE CELL 'sum', in the pinned program and in every row, IS THE sha256 OF THE DUMP (.gsa) THAT YtipbnjcgololpaaProg.lean LOADS. Nothing in Lean hashes anything: it is a label: what it is worth is what the hold of that sum in a sandbox is worth. -/
noncomputable def Try.pinned : Pinned := { name := "ytipbnjcgololpaa", sum := "0fa1d2d1052ea61ad5d6be98a3f2dbc6cecfc3c0f26087612fef3e225584b8b4", checked := Try.checked }
namespace Rows
def none {H : Type} : Left H := { results := [], args := [] }

/-- 'passbooklaw06.SumRoots': WHATEVER THE INPUT: true; the input reads as it did. -/
def sumRootsSpec : ChangeSpec := { name := "sumRoots", fn := fun _ => fun
  | [d] => { results := [.lit (.bool true)], args := [d] }
  | _ => none }
def sumRootsRow : OpenClaim := { program := "ytipbnjcgololpaa", sum := "0fa1d2d1052ea61ad5d6be98a3f2dbc6cecfc3c0f26087612fef3e225584b8b4", func := "passbook/passbooklaw06.SumRoots", spec := "sumRoots", unfollowed := true, recurses := true, apart := false }
def SumRootsSaid : Prop := sumRootsRow.holds Try.pinned (OpenSpec.ofChange sumRootsSpec)

/-- ITS FALSE NEIGHBOUR: 'it returns false'. Refute it at one input. -/
def sumRootsWrong : ChangeSpec := { name := "sumRoots", fn := fun _ => fun
  | [d] => { results := [.lit (.bool false)], args := [d] }
  | _ => none }
def SumRootsWrongFalsely : Prop := sumRootsRow.holds Try.pinned (OpenSpec.ofChange sumRootsWrong)

/-- 'passbooklaw06.SumTurned': WHATEVER THE INPUT: true; the input reads as it did. -/
def sumTurnedSpec : ChangeSpec := { name := "sumTurned", fn := fun _ => fun
  | [d1, d2, d3] => { results := [.lit (.bool true)], args := [d1, d2, d3] }
  | _ => none }
def sumTurnedRow : OpenClaim := { program := "ytipbnjcgololpaa", sum := "0fa1d2d1052ea61ad5d6be98a3f2dbc6cecfc3c0f26087612fef3e225584b8b4", func := "passbook/passbooklaw06.SumTurned", spec := "sumTurned", unfollowed := true, recurses := true, apart := false }
def SumTurnedSaid : Prop := sumTurnedRow.holds Try.pinned (OpenSpec.ofChange sumTurnedSpec)

/-- ITS FALSE NEIGHBOUR: 'it returns false'. Refute it at one input. -/
def sumTurnedWrong : ChangeSpec := { name := "sumTurned", fn := fun _ => fun
  | [d1, d2, d3] => { results := [.lit (.bool false)], args := [d1, d2, d3] }
  | _ => none }
def SumTurnedWrongFalsely : Prop := sumTurnedRow.holds Try.pinned (OpenSpec.ofChange sumTurnedWrong)

/-- 'passbooklaw06.SumLinear': WHATEVER THE INPUT: true; the input reads as it did. -/
def sumLinearSpec : ChangeSpec := { name := "sumLinear", fn := fun _ => fun
  | [d1, d2, d3] => { results := [.lit (.bool true)], args := [d1, d2, d3] }
  | _ => none }
def sumLinearRow : OpenClaim := { program := "ytipbnjcgololpaa", sum := "0fa1d2d1052ea61ad5d6be98a3f2dbc6cecfc3c0f26087612fef3e225584b8b4", func := "passbook/passbooklaw06.SumLinear", spec := "sumLinear", unfollowed := true, recurses := true, apart := false }
def SumLinearSaid : Prop := sumLinearRow.holds Try.pinned (OpenSpec.ofChange sumLinearSpec)

/-- ITS FALSE NEIGHBOUR: 'it returns false'. Refute it at one input. -/
def sumLinearWrong : ChangeSpec := { name := "sumLinear", fn := fun _ => fun
  | [d1, d2, d3] => { results := [.lit (.bool false)], args := [d1, d2, d3] }
  | _ => none }
def SumLinearWrongFalsely : Prop := sumLinearRow.holds Try.pinned (OpenSpec.ofChange sumLinearWrong)

/-- 'passbooklaw06.SumBytes': WHATEVER THE INPUT: true; the input reads as it did. -/
def sumBytesSpec : ChangeSpec := { name := "sumBytes", fn := fun _ => fun
  | [d1, d2] => { results := [.lit (.bool true)], args := [d1, d2] }
  | _ => none }
def sumBytesRow : OpenClaim := { program := "ytipbnjcgololpaa", sum := "0fa1d2d1052ea61ad5d6be98a3f2dbc6cecfc3c0f26087612fef3e225584b8b4", func := "passbook/passbooklaw06.SumBytes", spec := "sumBytes", unfollowed := true, recurses := true, apart := false }
def SumBytesSaid : Prop := sumBytesRow.holds Try.pinned (OpenSpec.ofChange sumBytesSpec)

/-- ITS FALSE NEIGHBOUR: 'it returns false'. Refute it at one input. -/
def sumBytesWrong : ChangeSpec := { name := "sumBytes", fn := fun _ => fun
  | [d1, d2] => { results := [.lit (.bool false)], args := [d1, d2] }
  | _ => none }
def SumBytesWrongFalsely : Prop := sumBytesRow.holds Try.pinned (OpenSpec.ofChange sumBytesWrong)

/- THE SECOND FORM. 'bulk': how many values and letters a reading holds, each counted each time it is reached (what is shared counts as often as it is met; a slice's spare places count too). A statement '..UptoSaid' is the law's where the arguments, and the package variables that the reading takes, are together of bulk at most 1048576: NARROWER than '..Said'. Prove '..Said' where nothing that the law and all that it calls make is longer than what came in: it says more and counts as full. Else prove '..UptoSaid'. A law counts once. -/
mutual
def uptoBulk {H : Type} : DataW H → Nat
  | .lit (.string bytes) => bytes.length + 1
  | .lit _ => 1
  | .nil => 1
  | .ptr d => uptoBulk d + 1
  | .slice elems spare => uptoBulkAll elems + uptoBulkAll spare + 1
  | .agg parts => uptoBulkAll parts + 1
  | .iface _ d => uptoBulk d + 1
  | .map entries => uptoBulkEntries entries + 1
  | .held _ => 1
def uptoBulkAll {H : Type} : List (DataW H) → Nat
  | [] => 0
  | d :: r => uptoBulk d + uptoBulkAll r
def uptoBulkEntries {H : Type} : List (Lit × DataW H) → Nat
  | [] => 0
  | x :: r => uptoBulkEntry x + uptoBulkEntries r
def uptoBulkEntry {H : Type} : Lit × DataW H → Nat
  | (.string bytes, d) => bytes.length + uptoBulk d + 1
  | (_, d) => uptoBulk d + 1
 end
def uptoSmall : (H : Type) → List (DataW H) → Bool := fun _ ds => decide (uptoBulkAll ds ≤ 1048576)
def OpenSpec.upto (s : _root_.Go.ChangeSpec) : _root_.Go.OpenSpec := { _root_.Go.OpenSpec.ofChange s with cond := some uptoSmall }

/-- 'passbooklaw06.SumRoots', WHERE WHAT IT READS IS OF BULK AT MOST 1048576: true; the input reads as it did. -/
def sumRootsUptoRow : OpenClaim := { program := "ytipbnjcgololpaa", sum := "0fa1d2d1052ea61ad5d6be98a3f2dbc6cecfc3c0f26087612fef3e225584b8b4", func := "passbook/passbooklaw06.SumRoots", spec := "sumRoots", unfollowed := true, recurses := true, apart := false, narrowed := true }
def SumRootsUptoSaid : Prop := sumRootsUptoRow.holds Try.pinned (OpenSpec.upto sumRootsSpec)

/-- 'passbooklaw06.SumTurned', WHERE WHAT IT READS IS OF BULK AT MOST 1048576: true; the input reads as it did. -/
def sumTurnedUptoRow : OpenClaim := { program := "ytipbnjcgololpaa", sum := "0fa1d2d1052ea61ad5d6be98a3f2dbc6cecfc3c0f26087612fef3e225584b8b4", func := "passbook/passbooklaw06.SumTurned", spec := "sumTurned", unfollowed := true, recurses := true, apart := false, narrowed := true }
def SumTurnedUptoSaid : Prop := sumTurnedUptoRow.holds Try.pinned (OpenSpec.upto sumTurnedSpec)

/-- 'passbooklaw06.SumLinear', WHERE WHAT IT READS IS OF BULK AT MOST 1048576: true; the input reads as it did. -/
def sumLinearUptoRow : OpenClaim := { program := "ytipbnjcgololpaa", sum := "0fa1d2d1052ea61ad5d6be98a3f2dbc6cecfc3c0f26087612fef3e225584b8b4", func := "passbook/passbooklaw06.SumLinear", spec := "sumLinear", unfollowed := true, recurses := true, apart := false, narrowed := true }
def SumLinearUptoSaid : Prop := sumLinearUptoRow.holds Try.pinned (OpenSpec.upto sumLinearSpec)

/-- 'passbooklaw06.SumBytes', WHERE WHAT IT READS IS OF BULK AT MOST 1048576: true; the input reads as it did. -/
def sumBytesUptoRow : OpenClaim := { program := "ytipbnjcgololpaa", sum := "0fa1d2d1052ea61ad5d6be98a3f2dbc6cecfc3c0f26087612fef3e225584b8b4", func := "passbook/passbooklaw06.SumBytes", spec := "sumBytes", unfollowed := true, recurses := true, apart := false, narrowed := true }
def SumBytesUptoSaid : Prop := sumBytesUptoRow.holds Try.pinned (OpenSpec.upto sumBytesSpec)

end Rows
end Go.Proofs.Ytipbnjcgololpaa
