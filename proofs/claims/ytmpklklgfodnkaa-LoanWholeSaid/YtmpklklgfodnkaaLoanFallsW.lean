import Derived.Test.YtmpklklgfodnkaaAwakeLoan
import Derived.Test.YtmpklklgfodnkaaLoanLeft
/-! what is left falls: the law's walk -/
namespace Go.Proofs.Ytmpklklgfodnkaa.LoanFallsW
open Go.RowKit Go.Deep
set_option linter.unusedVariables false
theorem amt (a m : Int) (hm : 1 ≤ m) (hm2 : m ≤ 10000000000000) : 0 ≤ wrap64 ((IntKind.u64.wrap a).tmod m) ∧ wrap64 ((IntKind.u64.wrap a).tmod m) ≤ m - 1 := by
  rw [IntKind.wrap_u64]
  have h0 : 0 ≤ a % 18446744073709551616 := Int.emod_nonneg _ (by omega)
  rw [Int.tmod_eq_emod_of_nonneg h0]
  have h1 := Int.emod_nonneg (a % 18446744073709551616) (show m ≠ 0 by omega)
  have h2 := Int.emod_lt_of_pos (a % 18446744073709551616) (show 0 < m by omega)
  unfold wrap64
  omega
theorem falls (p n k : Int) (hp0 : 1 ≤ p) (hn0 : 1 ≤ n) (hk0 : 0 ≤ k) : LoanL.leftv p n (k + 1) ≤ LoanL.leftv p n k ∧ ((k == 0) = true ∧ (LoanL.leftv p n k != p) = false ∨ (k == 0) = false) ∧
    (n ≤ k ∧ (LoanL.leftv p n k != 0) = false ∨ k < n) := by
  have hq0 : 0 ≤ p / n := Int.ediv_nonneg (by omega) (by omega)
  have hr0 : 0 ≤ p % n := Int.emod_nonneg _ (by omega)
  have hr1 : p % n < n := Int.emod_lt_of_pos _ (by omega)
  have hdm := Int.mul_ediv_add_emod p n
  have hc : p / n * n = n * (p / n) := Int.mul_comm _ _
  refine ⟨?_, ?_, ?_⟩
  · unfold LoanL.leftv
    rcases (show k < n ∨ n ≤ k by omega) with h | h
    · have e1 : min k n = k := by omega
      have e2 : min (k + 1) n = k + 1 := by omega
      rw [e1, e2, Int.mul_add]
      omega
    · have e1 : min k n = n := by omega
      have e2 : min (k + 1) n = n := by omega
      rw [e1, e2]
      omega
  · by_cases h : k = 0
    · refine .inl ⟨by simpa using h, ?_⟩
      subst h
      have e1 : min (0 : Int) n = 0 := by omega
      simp only [LoanL.leftv, e1, Int.mul_zero, bne_eq_false_iff_eq]
      omega
    · exact .inr (by simpa using h)
  · rcases (show k < n ∨ n ≤ k by omega) with h | h
    · exact .inr h
    · refine .inl ⟨h, ?_⟩
      have e1 : min k n = n := by omega
      simp only [LoanL.leftv, e1, bne_eq_false_iff_eq]
      omega
/-- what two debts are in arrears by -/
theorem late (x y a : Int) (h : x ≤ y) (ha : 0 ≤ a) (hy : y ≤ 10000000000000) : 0 ≤ max (x - a) 0 ∧ max (x - a) 0 ≤ max (y - a) 0 ∧ max (x - a) 0 ≤ 10000000000000 ∧ max (y - a) 0 ≤ 10000000000000 ∧
    ((max (x - a) 0 == 0) = true ∨ (max (x - a) 0 == 0) = false ∧ (max (y - a) 0 - max (x - a) 0 == y - x) = true) := by
  simp only [beq_iff_eq, beq_eq_false_iff_ne]
  refine ⟨?_, ?_, ?_, ?_, ?_⟩ <;> omega
set_option maxHeartbeats 4000000 in
theorem walk (a0 : Int) (a1 : Int) (a2 : Int) (a3 : Int) (a4 : Int) (w0 : (Lit.int .i64 a0).wf = true) (w1 : (Lit.int .u16 a1).wf = true) (w2 : (Lit.int .u16 a2).wf = true) (w3 : (Lit.int .i64 a3).wf = true) (w4 : (Lit.int .i64 a4).wf = true) (w : World) :
    Calls Try.prog 6 #[.int .i64 a0, .int .u16 a1, .int .u16 a2, .int .i64 a3, .int .i64 a4] w fun e w' => e = .returned (.bool true) ∧ Below w.heap.size w w' := by
  have b1 := bounds_u16 w1
  have b2 := bounds_u16 w2
  obtain ⟨b10, b11⟩ := b1
  obtain ⟨b20, b21⟩ := b2
  obtain ⟨b00, b01⟩ := amt a0 10000000000000 (by omega) (by omega)
  clear w0 w1 w2 w3 w4
  go_enter Try.func6, Try.ntmps6
  go_wp2_with fail
  refine (AwakeLoan.ok _).mono ?_
  rintro e w1 ⟨rfl, hb1⟩
  have s1 := hb1.size
  go_wp2_with fail
  repeat (go_quiet (fail); try go_wp2_with fail)
  obtain ⟨b30, b31⟩ := amt a3 5000000000000 (by omega) (by omega)
  obtain ⟨b40, b41⟩ := amt a4 5000000000000 (by omega) (by omega)
  have c1 : 0 ≤ a1 % 480 ∧ a1 % 480 ≤ 479 := by omega
  have c2 : 0 ≤ a2 % 500 ∧ a2 % 500 ≤ 499 := by omega
  obtain ⟨c10, c11⟩ := c1
  obtain ⟨c20, c21⟩ := c2
  generalize hp : 1 + wrap64 ((IntKind.u64.wrap a0).tmod 10000000000000) = p at *
  generalize hn : 1 + a1 % 480 = n at *
  generalize hk : a2 % 500 = k at *
  have d1 : 1 ≤ p ∧ p ≤ 10000000000000 := by omega
  have d2 : 1 ≤ n ∧ n ≤ 480 := by omega
  clear hp hn hk b00 b01 c10 c11
  obtain ⟨f1, f2, f3⟩ := falls p n k d1.1 d2.1 c20
  obtain ⟨l0, l1⟩ := LoanL.leftv_bd p n k d1.1 d2.1 c20
  refine (LoanL.left_ok p n k _ d1.1 d1.2 d2.1 d2.2 c20 (by omega)).mono ?_
  rintro e w2 ⟨rfl, q2, rfl⟩
  go_wp2_with fail
  refine (LoanL.left_ok p n (k + 1) _ d1.1 d1.2 d2.1 d2.2 (by omega) (by omega)).mono ?_
  rintro e w2 ⟨rfl, q3, rfl⟩
  obtain ⟨d10, d11⟩ := d1
  obtain ⟨d20, d21⟩ := d2
  rcases f2 with ⟨f2, f2'⟩ | f2 <;> rcases f3 with ⟨f3, f3'⟩ | f3
  all_goals
    go_wp2_with fail
    generalize hx : wrap64 ((IntKind.u64.wrap a3).tmod 5000000000000) = x at *
    clear hx
    refine (LoanL.arrears_ok p n k x _ d10 d11 d20 d21 c20 (by omega) b30 (by omega)).mono ?_
    rintro e w2 ⟨rfl, q4, rfl⟩
    go_wp2_with fail
    have hy : x ≤ x + wrap64 ((IntKind.u64.wrap a4).tmod 5000000000000) ∧ x + wrap64 ((IntKind.u64.wrap a4).tmod 5000000000000) ≤ 10000000000000 := by omega
    generalize hz : x + wrap64 ((IntKind.u64.wrap a4).tmod 5000000000000) = y at *
    clear hz
    refine (LoanL.arrears_ok p n k y _ d10 d11 d20 d21 c20 (by omega) (by omega) hy.2).mono ?_
    rintro e w2 ⟨rfl, q5, rfl⟩
    obtain ⟨g1, g2, g3, g4, g5⟩ := late x y (LoanL.leftv p n k) hy.1 l0 hy.2
    obtain ⟨hy1, hy2⟩ := hy
    generalize LoanL.leftv p n k = a at *
    generalize LoanL.leftv p n (k + 1) = a' at *
    generalize max (x - a) 0 = c at *
    generalize max (y - a) 0 = d at *
    rcases g5 with g5 | ⟨g5, g6⟩
    all_goals
      go_wp2
      go_ret
      exact ⟨rfl, below_drewN hb1 _⟩
end Go.Proofs.Ytmpklklgfodnkaa.LoanFallsW
