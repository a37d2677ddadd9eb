import Derived.Test.YtipbnjcgololpaaLib
/-! a slice cut at its front: where it then lies is left open -/
namespace Go.Proofs.Ytipbnjcgololpaa
open Go.RowKit Go.Deep
set_option linter.unusedVariables false
theorem run_cut {P : Program} (T : TypeId) (hu : P.underlying T = some (.slice (P.elem T))) (hs : ∀ w, (sizeOf (P.elem T)).run P w = .ok 1 w) (A : Option Addr) (n c k : Nat) (kk : IntKind) (hk : k ≤ n) (w : World) :
    (Instr.slice T (.slice A n c) (some (.int kk (k : Int))) none none).run P w = .ok (.slice (if c = k then A else A.map (·.add k)) (n - k) (c - k)) w := by
  have h1 := run_slice_l (P := P) (w := w) T A n c hu kk (k : Int) (by omega) (by omega)
  rw [h1, hs]
  simp [Result.andThen, sliced]
theorem RI.cutIf {w : World} {B : Nat} {k : IntKind} {A : Option Addr} {xs : List Int} (h : RI w B k A xs) (j c : Nat) (hc : xs.length ≤ c) (hj : j ≤ xs.length) : RI w B k (if c = j then A else A.map (·.add j)) (xs.drop j) := by
  split
  · exact RI.none (by simp; omega)
  · have := h.cut j (xs.length - j)
    rwa [List.take_of_length_le (by simp)] at this
theorem wpList_cut {P : Program} {ops : Array Oper} {rest : List Oper} {o : Oper} {a : Act} {w : World} {Q : Exit → Act → World → Prop} (hgd : o.guard = none) (x lo : Operand) (T : TypeId) (ho : o.op = .slice T x (some lo) none none)
    (hu : P.underlying T = some (.slice (P.elem T))) (hs : ∀ w, (sizeOf (P.elem T)).run P w = .ok 1 w) (A : Option Addr) (n c k : Nat) (kk : IntKind) (hx : a.eval x = .slice A n c) (hl : a.eval lo = .int kk (k : Int)) (hk : k ≤ n) (hc : n ≤ c)
    (h : ∀ A' : Option Addr, (∀ W B K xs, xs.length = n → RI W B K A xs → RI W B K A' (xs.drop k)) → wpList P ops Q rest (a.put o.dst (.slice A' (n - k) (c - k))) w) : wpList P ops Q (o :: rest) a w := by
  refine wpList_plain hgd fun K hK => ?_
  have hrun := run_cut (P := P) T hu hs A n c k kk hk w
  unfold Oper.wp
  simp only [execOp, ho, Option.map_some, Option.map_none, hx, hl, Sem.run_bind, run_sliceAt_slice (P := P) (w := w) T _ _ _ _ hu, hrun, Result.andThen, Sem.run_pure, Oper.upon]
  exact hK _ _ (h _ (fun W B k' xs hl' hr => hr.cutIf k c (by omega) (by omega)))
end Go.Proofs.Ytipbnjcgololpaa
