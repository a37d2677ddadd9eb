import Derived.Test.YtkcfeaonkgpbdaaEv
import Derived.Test.YtkcfeaonkgpbdaaMix
import Derived.Test.YtkcfeaonkgpbdaaCut
/-! how many numbers an op uses: event.Count, the document's Count and DocCount -/
namespace Go.Proofs.Ytkcfeaonkgpbdaa.Event
open Go.RowKit Go.Deep Go.Proofs.Ytkcfeaonkgpbdaa Go.Proofs.Ytkcfeaonkgpbdaa.Pack
set_option linter.unusedVariables false
set_option linter.unusedSimpArgs false
theorem op_cases (op : Int) (h0 : 0 ≤ op) (h1 : op ≤ 255) : op = 0 ∨ 15 < op ∨ op = 1 ∨ op = 2 ∨ op = 3 ∨ op = 4 ∨ op = 5 ∨ op = 6 ∨ op = 7 ∨ op = 8 ∨ op = 9 ∨ op = 10 ∨ op = 11 ∨ op = 12 ∨ op = 13 ∨ op = 14 ∨ op = 15 := by omega
set_option maxRecDepth 100000 in
set_option maxHeartbeats 4000000 in
theorem count_ok (op : Int) (h0 : 0 ≤ op) (h1 : op ≤ 255) (w : World) :
    Calls Try.prog 11 #[.int .u8 op] w fun e w' => e = .returned (.tuple #[.int .i64 (if cnt op < 0 then 0 else cnt op), .int .i64 (if cnt op < 0 then 1 else 0)]) ∧ w' = w := by
  rcases op_cases op h0 h1 with h | h | h | h | h | h | h | h | h | h | h | h | h | h | h | h | h
  case inr.inl =>
    have hc : cnt op < 0 := (cnt_neg op).2 (by omega)
    rw [if_pos hc, if_pos hc]
    have e1 : decide (op < 1) = false := by simp; omega
    have e2 : decide (15 < op) = true := by simp; omega
    go_enter Try.func11, Try.ntmps11
    go_wp2
    all_goals (go_ret2; exact ⟨rfl, rfl⟩)
  all_goals
    subst h
    go_enter Try.func11, Try.ntmps11
    go_wp2
    go_ret2
    exact ⟨rfl, rfl⟩
set_option maxRecDepth 100000 in
set_option maxHeartbeats 4000000 in
theorem refcount_ok (op : Int) (h0 : 0 ≤ op) (h1 : op ≤ 255) (w : World) :
    Calls Try.prog 26 #[.int .u8 op] w fun e w' => e = .returned (.int .i64 (cnt op)) ∧ w' = w := by
  rcases op_cases op h0 h1 with h | h | h | h | h | h | h | h | h | h | h | h | h | h | h | h | h
  case inr.inl =>
    have hc : cnt op = -1 := by have := (cnt_neg op).2 (by omega); have := cnt_range op; omega
    rw [hc]
    go_enter Try.func26, Try.ntmps26
    go_wp2
    all_goals (first | omega | (go_ret; exact ⟨rfl, rfl⟩))
  all_goals
    subst h
    go_enter Try.func26, Try.ntmps26
    go_wp2
    go_ret
    exact ⟨rfl, rfl⟩
set_option maxRecDepth 100000 in
theorem doccount_ok (op : Int) (h0 : 0 ≤ op) (h1 : op ≤ 255) (w : World) :
    Calls Try.prog 12 #[.int .u8 op] w fun e w' => e = .returned (.tuple #[.int .i64 (if cnt op < 0 then 0 else cnt op), .int .i64 (if cnt op < 0 then 1 else 0)]) ∧ w' = w := by
  go_enter Try.func12, Try.ntmps12
  go_wp2_with fail
  refine (refcount_ok op h0 h1 _).mono ?_
  rintro e w1 ⟨rfl, rfl⟩
  go_wp2
  all_goals (go_ret2; refine ⟨?_, rfl⟩)
  all_goals (first | (have hc : cnt op < 0 := by omega); (simp only [if_pos hc]; rfl) | (have hc : ¬ cnt op < 0 := by omega); (simp only [if_neg hc]; rfl))
end Go.Proofs.Ytkcfeaonkgpbdaa.Event
