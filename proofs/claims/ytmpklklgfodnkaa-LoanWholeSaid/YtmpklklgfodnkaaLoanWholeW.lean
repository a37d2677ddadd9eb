import Derived.Test.YtmpklklgfodnkaaAwakeLoan
import Derived.Test.YtmpklklgfodnkaaLoanFallsW
/-! a plan's amounts add up: the law's walk -/
namespace Go.Proofs.Ytmpklklgfodnkaa.LoanWholeW
open Go.RowKit Go.Deep Go.Proofs.Ytmpklklgfodnkaa.LoanS Go.Proofs.Ytmpklklgfodnkaa.LoanL
set_option linter.unusedVariables false
theorem step (p n : Int) (k : Nat) (hp0 : 1 ≤ p) (hn0 : 1 ≤ n) (hk : (k : Int) < n) : leftv p n k - sch p n k = leftv p n (k + 1) := by
  unfold leftv sch
  have e1 : min (k : Int) n = k := by omega
  have e2 : min ((k : Int) + 1) n = k + 1 := by omega
  rw [e1, e2, Int.mul_add]
  split <;> omega
theorem full (p n : Int) (hp0 : 1 ≤ p) (hn0 : 1 ≤ n) : leftv p n 0 = p := by
  have hr0 : 0 ≤ p % n := Int.emod_nonneg _ (by omega)
  have e1 : min (0 : Int) n = 0 := by omega
  simp only [leftv, e1, Int.mul_zero]
  omega
theorem empty (p n : Int) (hp0 : 1 ≤ p) (hn0 : 1 ≤ n) : leftv p n n = 0 := by
  have hr1 : p % n < n := Int.emod_lt_of_pos _ (by omega)
  have hdm := Int.mul_ediv_add_emod p n
  have hc : p / n * n = n * (p / n) := Int.mul_comm _ _
  have e1 : min n n = n := by omega
  simp only [leftv, e1]
  omega
theorem sch_bd (p n : Int) (i : Nat) (hp0 : 1 ≤ p) (hp1 : p ≤ 10000000000000) (hn0 : 1 ≤ n) : 0 ≤ sch p n i ∧ sch p n i ≤ 10000000000001 := by
  have hq0 : 0 ≤ p / n := Int.ediv_nonneg (by omega) (by omega)
  have := Int.ediv_le_self n (show 0 ≤ p by omega)
  unfold sch
  split <;> omega
theorem sch_le (p n : Int) (i j : Nat) (h : i ≤ j) : sch p n j ≤ sch p n i ∧ sch p n i ≤ sch p n j + 1 := by
  unfold sch
  split <;> split <;> omega
set_option maxRecDepth 100000 in
set_option maxHeartbeats 4000000 in
theorem walk (a0 : Int) (a1 : Int) (w0 : (Lit.int .i64 a0).wf = true) (w1 : (Lit.int .u16 a1).wf = true) (w : World) :
    Calls Try.prog 5 #[.int .i64 a0, .int .u16 a1] w fun e w' => e = .returned (.bool true) ∧ Below w.heap.size w w' := by
  have b1 := bounds_u16 w1
  obtain ⟨b10, b11⟩ := b1
  obtain ⟨b00, b01⟩ := LoanFallsW.amt a0 10000000000000 (by omega) (by omega)
  clear w0 w1
  go_enter Try.func5, Try.ntmps5
  go_wp2_with fail
  refine (AwakeLoan.ok _).mono ?_
  rintro e w1 ⟨rfl, hb1⟩
  have s1 := hb1.size
  go_wp2_with fail
  have c1 : 0 ≤ a1 % 480 ∧ a1 % 480 ≤ 479 := by omega
  generalize hp : 1 + wrap64 ((IntKind.u64.wrap a0).tmod 10000000000000) = p at *
  obtain ⟨n, hn⟩ : ∃ n : Nat, 1 + a1 % 480 = (n : Int) := ⟨(1 + a1 % 480).toNat, by omega⟩
  rw [hn]
  have d1 : 1 ≤ p ∧ p ≤ 10000000000000 := by omega
  have d2 : 1 ≤ n ∧ n ≤ 480 := by omega
  clear hp hn b00 b01 c1 b10 b11
  obtain ⟨d10, d11⟩ := d1
  obtain ⟨d20, d21⟩ := d2
  refine (schedule_ok p n _ d10 d11 d20 d21).mono ?_
  rintro e w2 ⟨rfl, hrow, hb2⟩
  have s2 := hb2.size
  have hb := below_then' hb1 hb2
  have HROW := Lib.hid hrow
  clear hrow
  go_wp2
  go_loopw [9, 44] (fun o i wr => ∃ k : Nat, k ≤ n ∧ i = .int .i64 k ∧ o = .int .i64 (leftv p n k) ∧ Drew w2 wr) (fun _ i _ => n - (intOf i).toNat)
  case atStart => exact ⟨0, Nat.zero_le _, rfl, by rw [show ((0 : Nat) : Int) = 0 from rfl, full p n d10 (by omega)], Drew.refl _⟩
  case round =>
    obtain ⟨k, hk, rfl, rfl, ⟨q, rfl⟩⟩ := hrel
    by_cases hlt : k < n
    · have hr := rowIs_drewN HROW.out q
      have hck := hr.cell hlt
      have hcn := hr.cell (show n - 1 < n by omega)
      have en : ((n : Int) - 1).toNat = n - 1 := by omega
      obtain ⟨x0, x1⟩ := sch_bd p n k d10 d11 (by omega)
      obtain ⟨y0, y1⟩ := sch_bd p n (n - 1) d10 d11 (by omega)
      obtain ⟨z0, z1⟩ := sch_le p n k (n - 1) (by omega)
      have hst := step p n k d10 (by omega) (by omega)
      obtain ⟨l0, l1⟩ := leftv_bd p n (k + 1) d10 (by omega) (by omega)
      obtain ⟨m0, m1⟩ := leftv_bd p n k d10 (by omega) (by omega)
      have v0 : 0 ≤ leftv p n k - sch p n k := by omega
      have v1 : leftv p n k - sch p n k ≤ 10000000000000 := by omega
      have hle := fun h : 0 < k => sch_le p n (k - 1) k (by omega)
      have hcp := fun h : 0 < k => hr.cell (show k - 1 < n by omega)
      clear hr
      have HE := Lib.hid en
      clear en
      have HL : Hid (leftv p n (((k + 1 : Nat) : Int)) = leftv p n (k + 1)) := Lib.hid rfl
      have HV := Lib.hid hst
      clear hst
      generalize sch p n k = x at *
      generalize sch p n (n - 1) = y at *
      generalize sch p n (k - 1) = z at *
      generalize leftv p n k = m at *
      have HA := LoanL.arrears_ok p n (k + 1) (m - x)
      rw [← HV.out] at HA
      have HB := LoanL.left_ok p n (k + 1)
      rw [← HV.out] at HB
      have HM : Hid (max (m - x - (m - x)) 0 = 0) := Lib.hid (by omega)
      rw [HM.out] at HA
      have HA' := Lib.hid HA
      have HB' := Lib.hid HB
      clear HA HB HM
      by_cases h0 : 0 < k
      · have hcp' := hcp h0
        have hle1 := (hle h0).1
        clear hcp hle
        go_wp2_with fail
        refine (HB'.out _ d10 d11 (by omega) (by omega) (by omega) (by omega)).mono ?_
        rintro e w3 ⟨rfl, q3, rfl⟩
        go_wp2_with fail
        refine (HA'.out _ d10 d11 (by omega) (by omega) (by omega) (by omega) v0 v1).mono ?_
        rintro e w3 ⟨rfl, q4, rfl⟩
        go_wp2
        go_roundw
        case rel => exact ⟨k + 1, by omega, by go_num, by rw [HL.out, HV.out], by repeat (first | exact Drew.refl _ | apply Drew.step)⟩
        case measure => simp [intOf]; omega
      · clear hcp hle
        go_wp2_with fail
        refine (HB'.out _ d10 d11 (by omega) (by omega) (by omega) (by omega)).mono ?_
        rintro e w3 ⟨rfl, q3, rfl⟩
        go_wp2_with fail
        refine (HA'.out _ d10 d11 (by omega) (by omega) (by omega) (by omega) v0 v1).mono ?_
        rintro e w3 ⟨rfl, q4, rfl⟩
        go_wp2
        go_roundw
        case rel => exact ⟨k + 1, by omega, by go_num, by rw [HL.out, HV.out], by repeat (first | exact Drew.refl _ | apply Drew.step)⟩
        case measure => simp [intOf]; omega
    · have hkn : k = n := by omega
      subst hkn
      have hz : (leftv p k k == 0) = true := by rw [empty p k d10 (by omega)]; rfl
      go_wp2
      go_ret
      exact ⟨rfl, below_drewN hb _⟩
end Go.Proofs.Ytmpklklgfodnkaa.LoanWholeW
