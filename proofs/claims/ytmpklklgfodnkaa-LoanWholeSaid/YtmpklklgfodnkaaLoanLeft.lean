import Derived.Test.YtmpklklgfodnkaaLib
/-! loan.Left, loan.Arrears -/
namespace Go.Proofs.Ytmpklklgfodnkaa.LoanL
open Go.RowKit Go.Deep
set_option linter.unusedVariables false
def leftv (p n k : Int) : Int := p - p / n * min k n - min (p % n) (min k n)
theorem leftv_bd (p n k : Int) (hp0 : 1 ≤ p) (hn0 : 1 ≤ n) (hk0 : 0 ≤ k) : 0 ≤ leftv p n k ∧ leftv p n k ≤ p := by
  have hq0 : 0 ≤ p / n := Int.ediv_nonneg (by omega) (by omega)
  have hr0 : 0 ≤ p % n := Int.emod_nonneg _ (by omega)
  have hdm := Int.mul_ediv_add_emod p n
  have hm : 0 ≤ min k n ∧ min k n ≤ n := by omega
  unfold leftv
  generalize min k n = m at *
  have h1 : p / n * m ≤ p / n * n := Int.mul_le_mul_of_nonneg_left hm.2 hq0
  have h2 : 0 ≤ p / n * m := Int.mul_nonneg hq0 hm.1
  have h3 : p / n * n = n * (p / n) := Int.mul_comm _ _
  omega
set_option maxHeartbeats 1000000 in
theorem left_ok (p n k : Int) (w : World) (hp0 : 1 ≤ p) (hp1 : p ≤ 10000000000000) (hn0 : 1 ≤ n) (hn1 : n ≤ 480) (hk0 : 0 ≤ k) (hk1 : k ≤ 100000) :
    Calls Try.prog 11 #[.int .i64 p, .int .i64 n, .int .i64 k] w fun e w' => e = .returned (.tuple #[.int .i64 (leftv p n k), .int .i64 0]) ∧ Drew w w' := by
  have hq0 : 0 ≤ p / n := Int.ediv_nonneg (by omega) (by omega)
  have hr0 : 0 ≤ p % n := Int.emod_nonneg _ (by omega)
  have hr1 : p % n < n := Int.emod_lt_of_pos _ (by omega)
  have hdm := Int.mul_ediv_add_emod p n
  have hpn : p / n * n ≤ p := by rw [Int.mul_comm]; omega
  clear hdm
  have hm : n < k ∨ k ≤ n := by omega
  have hne : (n == 0) = false := by simp; omega
  rcases hm with hm | hm
  · have hm1 : min k n = n := by omega
    have hq1 : 0 ≤ p / n * n := Int.mul_nonneg hq0 (by omega)
    have hr2 : min (p % n) n = p % n := by omega
    have hv : leftv p n k = p - p / n * n - p % n := by unfold leftv; rw [hm1, hr2]
    rw [hv]
    clear hm1 hr2 hv
    go_enter Try.func11, Try.ntmps11
    go_wp2
    repeat (go_quiet (fail); try go_wp2)
    go_ret2
    exact ⟨rfl, by repeat (first | exact Drew.refl _ | apply Drew.step)⟩
  · have hm1 : min k n = k := by omega
    have hq1 : 0 ≤ p / n * k := Int.mul_nonneg hq0 (by omega)
    have hq2 : p / n * k ≤ p := Int.le_trans (Int.mul_le_mul_of_nonneg_left hm hq0) hpn
    rcases (show p % n ≤ k ∨ k < p % n by omega) with h | h
    · have hr2 : min (p % n) k = p % n := by omega
      have hv : leftv p n k = p - p / n * k - p % n := by unfold leftv; rw [hm1, hr2]
      rw [hv]
      clear hm1 hr2 hv
      go_enter Try.func11, Try.ntmps11
      go_wp2
      repeat (go_quiet (fail); try go_wp2)
      go_ret2
      exact ⟨rfl, by repeat (first | exact Drew.refl _ | apply Drew.step)⟩
    · have hr2 : min (p % n) k = k := by omega
      have hv : leftv p n k = p - p / n * k - k := by unfold leftv; rw [hm1, hr2]
      rw [hv]
      clear hm1 hr2 hv
      go_enter Try.func11, Try.ntmps11
      go_wp2
      repeat (go_quiet (fail); try go_wp2)
      go_ret2
      exact ⟨rfl, by repeat (first | exact Drew.refl _ | apply Drew.step)⟩
set_option maxHeartbeats 1000000 in
theorem arrears_ok (p n k b : Int) (w : World) (hp0 : 1 ≤ p) (hp1 : p ≤ 10000000000000) (hn0 : 1 ≤ n) (hn1 : n ≤ 480) (hk0 : 0 ≤ k) (hk1 : k ≤ 100000) (hb0 : 0 ≤ b) (hb1 : b ≤ 10000000000000) :
    Calls Try.prog 12 #[.int .i64 p, .int .i64 n, .int .i64 k, .int .i64 b] w fun e w' => e = .returned (.tuple #[.int .i64 (max (b - leftv p n k) 0), .int .i64 0]) ∧ Drew w w' := by
  obtain ⟨hl0, hl1⟩ := leftv_bd p n k hp0 hn0 hk0
  generalize hx : leftv p n k = x at *
  have HX := Lib.hid hx
  clear hx
  rcases (show b - x < 0 ∨ 0 ≤ b - x by omega) with h | h
  · have hm : max (b - x) 0 = 0 := by omega
    rw [hm]
    clear hm
    go_enter Try.func12, Try.ntmps12
    go_wp2_with fail
    refine (left_ok p n k _ hp0 hp1 hn0 hn1 hk0 hk1).mono ?_
    rw [HX.out]
    rintro e w1 ⟨rfl, q, rfl⟩
    go_wp2
    go_ret2
    exact ⟨rfl, by repeat (first | exact Drew.refl _ | apply Drew.step)⟩
  · have hm : max (b - x) 0 = b - x := by omega
    rw [hm]
    clear hm
    go_enter Try.func12, Try.ntmps12
    go_wp2_with fail
    refine (left_ok p n k _ hp0 hp1 hn0 hn1 hk0 hk1).mono ?_
    rw [HX.out]
    rintro e w1 ⟨rfl, q, rfl⟩
    go_wp2
    go_ret2
    exact ⟨rfl, by repeat (first | exact Drew.refl _ | apply Drew.step)⟩
end Go.Proofs.Ytmpklklgfodnkaa.LoanL
