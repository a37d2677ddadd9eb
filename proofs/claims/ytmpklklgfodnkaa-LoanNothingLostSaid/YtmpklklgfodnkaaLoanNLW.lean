import Derived.Test.YtmpklklgfodnkaaAwakeLoan
/-! nothing is lost: the law's walk -/
namespace Go.Proofs.Ytmpklklgfodnkaa.LoanNLW
open Go.RowKit Go.Deep
set_option linter.unusedVariables false
theorem amt (a : Int) : 0 ≤ wrap64 ((IntKind.u64.wrap a).tmod 10000000000001) ∧ wrap64 ((IntKind.u64.wrap a).tmod 10000000000001) ≤ 10000000000000 := by
  rw [IntKind.wrap_u64]
  have h0 : 0 ≤ a % 18446744073709551616 := Int.emod_nonneg _ (by omega)
  rw [Int.tmod_eq_emod_of_nonneg h0]
  unfold wrap64
  omega
/-- what Pays answers, by what the law asks of it -/
theorem parts (a b c d : Int) (ha : 0 ≤ a) (hb : 0 ≤ b) (hc : 0 ≤ c) (hd : 0 ≤ d) : ∃ x y z u : Int, Pays.f a b c d = .agg #[.int .i64 x, .int .i64 y, .int .i64 z, .int .i64 u] ∧
    0 ≤ x ∧ 0 ≤ y ∧ 0 ≤ z ∧ 0 ≤ u ∧ x ≤ b ∧ y ≤ c ∧ z ≤ d ∧ (x + y + z + u != a) = false ∧ x + y + z + u ≤ a ∧
    ((y == 0) = true ∨ (y == 0) = false ∧ (x == b) = true) ∧ ((z == 0) = true ∨ (z == 0) = false ∧ (y == c) = true) ∧ ((u == 0) = true ∨ (u == 0) = false ∧ (z == d) = true) := by
  refine ⟨_, _, _, _, rfl, ?_⟩
  simp only [beq_iff_eq, beq_eq_false_iff_ne, bne_eq_false_iff_eq]
  generalize hx : min a b = x
  generalize hy : min (a - x) c = y
  generalize hz : min (a - x - y) d = z
  refine ⟨?_, ?_, ?_, ?_, ?_, ?_, ?_, ?_, ?_, ?_, ?_, ?_⟩ <;> omega
set_option maxHeartbeats 4000000 in
theorem walk (a0 : Int) (a1 : Int) (a2 : Int) (a3 : Int) (w0 : (Lit.int .i64 a0).wf = true) (w1 : (Lit.int .i64 a1).wf = true) (w2 : (Lit.int .i64 a2).wf = true) (w3 : (Lit.int .i64 a3).wf = true) (w : World) :
    Calls Try.prog 4 #[.int .i64 a0, .int .i64 a1, .int .i64 a2, .int .i64 a3] w fun e w' => e = .returned (.bool true) ∧ Below w.heap.size w w' := by
  clear w0 w1 w2 w3
  go_enter Try.func4, Try.ntmps4
  go_wp2_with fail
  refine (AwakeLoan.ok _).mono ?_
  rintro e w1 ⟨rfl, hb1⟩
  have s1 := hb1.size
  go_wp2_with fail
  repeat (go_quiet (fail); try go_wp2_with fail)
  obtain ⟨l0, u0⟩ := amt a0
  obtain ⟨l1, u1⟩ := amt a1
  obtain ⟨l2, u2⟩ := amt a2
  obtain ⟨l3, u3⟩ := amt a3
  generalize wrap64 ((IntKind.u64.wrap a0).tmod 10000000000001) = x0 at *
  generalize wrap64 ((IntKind.u64.wrap a1).tmod 10000000000001) = x1 at *
  generalize wrap64 ((IntKind.u64.wrap a2).tmod 10000000000001) = x2 at *
  generalize wrap64 ((IntKind.u64.wrap a3).tmod 10000000000001) = x3 at *
  obtain ⟨x, y, z, u, hf, p1, p2, p3, p4, q1, q2, q3, hs, hs', hA, hB, hC⟩ := parts x0 x1 x2 x3 l0 l1 l2 l3
  have HF := Lib.hid hf
  clear hf
  refine (Pays.pays_ok x0 x1 x2 x3 _ l0 u0 l1 u1 l2 u2 l3 u3).mono ?_
  rw [HF.out]
  rintro e w2 ⟨rfl, hb2⟩
  have s2 := hb2.size
  have hb := below_then' (below_drewN hb1 nq) hb2
  have s3 := hb.size
  rcases hA with hA | ⟨hA, hA'⟩ <;> rcases hB with hB | ⟨hB, hB'⟩ <;> rcases hC with hC | ⟨hC, hC'⟩
  all_goals
    go_wp2
    go_ret
    exact ⟨rfl, by go_grown⟩
end Go.Proofs.Ytmpklklgfodnkaa.LoanNLW
