import Derived.Test.YtmpklklgfodnkaaLib
/-! loan.Pays: what a payment pays -/
namespace Go.Proofs.Ytmpklklgfodnkaa.Pays
open Go.RowKit Go.Deep
set_option linter.unusedVariables false
def f (a b c d : Int) : Value := .agg #[.int .i64 (min a b), .int .i64 (min (a - min a b) c), .int .i64 (min (a - min a b - min (a - min a b) c) d), .int .i64 (a - min a b - min (a - min a b) c - min (a - min a b - min (a - min a b) c) d)]
theorem f_eq (a b c d x y z u : Int) (h1 : x = min a b) (h2 : y = min (a - min a b) c) (h3 : z = min (a - min a b - min (a - min a b) c) d) (h4 : u = a - min a b - min (a - min a b) c - min (a - min a b - min (a - min a b) c) d) : Value.agg #[.int .i64 x, .int .i64 y, .int .i64 z, .int .i64 u] = f a b c d := by
  subst h1 h2 h3 h4; rfl
set_option maxHeartbeats 4000000 in
theorem pays_ok (a b c d : Int) (w : World) (ha0 : 0 ≤ a) (ha1 : a ≤ 10000000000000) (hb0 : 0 ≤ b) (hb1 : b ≤ 10000000000000) (hc0 : 0 ≤ c) (hc1 : c ≤ 10000000000000) (hd0 : 0 ≤ d) (hd1 : d ≤ 10000000000000) :
    Calls Try.prog 7 #[.int .i64 a, .int .i64 b, .int .i64 c, .int .i64 d] w fun e w' => e = .returned (.tuple #[f a b c d, .int .i64 0]) ∧ Below w.heap.size w w' := by
  go_enter Try.func7, Try.ntmps7
  go_wp2
  go_rounds 5
  go_rounds 5
  all_goals go_returns
  all_goals (first | (refine ⟨congrArg (fun v => Ending.returned (Value.tuple #[v, .int .i64 0])) (f_eq _ _ _ _ _ _ _ _ ?_ ?_ ?_ ?_), ?_⟩) | skip)
  all_goals (first | omega | go_grown | skip)
def inR (a : Int) : Bool := decide (0 ≤ a) && decide (a ≤ 10000000000000)
theorem inR_yes {a : Int} (h : inR a = true) : 0 ≤ a ∧ a ≤ 10000000000000 := by simpa [inR] using h
theorem inR_no {a : Int} (h : inR a = false) : a < 0 ∨ 10000000000000 < a := by
  by_cases h0 : a < 0
  · exact .inl h0
  · refine .inr ?_; simp [inR] at h; omega
set_option maxHeartbeats 4000000 in
theorem pays_bad (a b c d : Int) (w : World) (hbad : (inR a && inR b && inR c && inR d) = false) :
    Calls Try.prog 7 #[.int .i64 a, .int .i64 b, .int .i64 c, .int .i64 d] w fun e w' => e = .returned (.tuple #[.agg #[.int .i64 0, .int .i64 0, .int .i64 0, .int .i64 0], .int .i64 1]) ∧ Below w.heap.size w w' := by
  cases ha : inR a with
  | false =>
    clear hbad
    rcases inR_no ha with h | h <;> clear ha
    all_goals
      go_enter Try.func7, Try.ntmps7
      go_wp2
      go_rounds 5
      all_goals go_returns
      all_goals exact ⟨rfl, by go_grown⟩
  | true =>
  obtain ⟨ha0, ha1⟩ := inR_yes ha
  cases hb : inR b with
  | false =>
    clear hbad
    rcases inR_no hb with h | h <;> clear ha hb
    all_goals
      go_enter Try.func7, Try.ntmps7
      go_wp2
      go_rounds 5
      all_goals go_returns
      all_goals exact ⟨rfl, by go_grown⟩
  | true =>
  obtain ⟨hb0, hb1⟩ := inR_yes hb
  cases hc : inR c with
  | false =>
    clear hbad
    rcases inR_no hc with h | h <;> clear ha hb hc
    all_goals
      go_enter Try.func7, Try.ntmps7
      go_wp2
      go_rounds 5
      all_goals go_returns
      all_goals exact ⟨rfl, by go_grown⟩
  | true =>
  obtain ⟨hc0, hc1⟩ := inR_yes hc
  cases hd : inR d with
  | false =>
    clear hbad
    rcases inR_no hd with h | h <;> clear ha hb hc hd
    all_goals
      go_enter Try.func7, Try.ntmps7
      go_wp2
      go_rounds 5
      all_goals go_returns
      all_goals exact ⟨rfl, by go_grown⟩
  | true => simp [ha, hb, hc, hd] at hbad
end Go.Proofs.Ytmpklklgfodnkaa.Pays
