import Derived.Test.YtmpklklgfodnkaaLib
namespace Go.Proofs.Ytmpklklgfodnkaa.LoanS
open Go.RowKit Go.Deep
set_option linter.unusedVariables false

theorem info2 : (Try.prog.info? 2).map (fun i => (i.zero, i.size, i.bytes)) = some (some (.int .i64 0), 1, 8) := by kernel_rfl
/-- what is due in month i -/
def sch (p n : Int) (i : Nat) : Int := p / n + if (i : Int) < p % n then 1 else 0
theorem sch_lt {p n : Int} {i : Nat} (h : (i : Int) < p % n) : p / n + 1 = sch p n i := by unfold sch; rw [if_pos h]
theorem sch_ge {p n : Int} {i : Nat} (h : ¬ (i : Int) < p % n) : p / n = sch p n i := by unfold sch; rw [if_neg h]; omega

set_option maxHeartbeats 1000000 in
theorem schedule_ok (p : Int) (n : Nat) (w : World) (hp0 : 1 ≤ p) (hp1 : p ≤ 10000000000000) (hn0 : 1 ≤ n) (hn1 : n ≤ 480) :
    Calls Try.prog 10 #[.int .i64 p, .int .i64 n] w fun e w' => e = .returned (.tuple #[.slice (some ⟨w.heap.size, 0, none⟩) n n, .int .i64 0]) ∧
      w'.rowIs w.heap.size 2 n (fun i => .int .i64 (sch p n i)) ∧ Below w.heap.size w w' := by
  have hmk := fun W => run_make_row' (P := Try.prog) 34 2 (.int .i64 0) 8 Try.underlying34 info2 rfl .i64 .i64 n (by omega) (by omega) W
  have hq0 : 0 ≤ p / (n : Int) := Int.ediv_nonneg (by omega) (by omega)
  have hq1 : p / (n : Int) ≤ 10000000000000 := by
    have := Int.ediv_le_self (n : Int) (show 0 ≤ p by omega); omega
  have hr0 : 0 ≤ p % (n : Int) := Int.emod_nonneg _ (by omega)
  have hr1 : p % (n : Int) < (n : Int) := Int.emod_lt_of_pos _ (by omega)
  have hne : ((n : Int) == 0) = false := by simp; omega
  go_enter Try.func10, Try.ntmps10
  go_wp2
  go_loopw [8, 19] (fun v i wr => ∃ k : Nat, k ≤ n ∧ i = .int .i64 k ∧ wr.rowIs w.heap.size 2 n (fun j => if j < k then .int .i64 (sch p n j) else .int .i64 0) ∧ Below w.heap.size w wr)
    (fun _ i _ => n - (intOf i).toNat)
  case atStart => exact ⟨0, Nat.zero_le _, rfl, (World.rowIs_made _ _ _ _).congr (fun i _ => by simp), by go_grown⟩
  case round =>
    obtain ⟨k, hk, rfl, hrow, hb⟩ := hrel
    have hc : k < n → wr.cell? ⟨w.heap.size, k, none⟩ = some (.int .i64 0) := fun h => by simpa using hrow.cell h
    have hf := fun k => hrow.frozen k
    go_wp2
    · go_roundw
      case rel =>
        have ht : (k : Int) < p % (n : Int) := by assumption
        have hk' : k < n := by omega
        refine ⟨k + 1, by omega, by go_num, ((hrow.set k _).set k _).congr (fun i hi => ?_), by go_grown⟩
        by_cases h1 : i = k
        · subst h1; simp [sch_lt ht]
        · simp only [h1, if_false]
          by_cases h2 : i < k
          · rw [if_pos h2, if_pos (by omega)]
          · rw [if_neg h2, if_neg (by omega)]
      case measure => simp [intOf]; omega
    · go_roundw
      case rel =>
        have ht : ¬ (k : Int) < p % (n : Int) := by first | assumption | omega
        have hk' : k < n := by first | assumption | omega
        refine ⟨k + 1, by omega, by go_num, (hrow.set k _).congr (fun i hi => ?_), by go_grown⟩
        by_cases h1 : i = k
        · subst h1; simp [sch_ge ht]
        · simp only [h1, if_false]
          by_cases h2 : i < k
          · rw [if_pos h2, if_pos (by omega)]
          · rw [if_neg h2, if_neg (by omega)]
      case measure => simp [intOf]; omega
    · go_ret2
      exact ⟨rfl, hrow.congr (fun i hi => by rw [if_pos (by omega)]), hb⟩
end Go.Proofs.Ytmpklklgfodnkaa.LoanS
