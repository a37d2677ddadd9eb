import Derived.Test.YtmpklklgfodnkaaLoanSched
import Derived.Test.YtmpklklgfodnkaaSameInts
import Derived.Test.YtmpklklgfodnkaaPays
/-! the loan's examples -/
namespace Go.Proofs.Ytmpklklgfodnkaa.AwakeLoan
open Go.RowKit Go.Deep
set_option linter.unusedVariables false
theorem sch_list : (List.range 3).map (LoanS.sch 100 ((3 : Nat) : Int)) = [34, 33, 33] := by decide
set_option maxHeartbeats 1000000 in
theorem ok (w : World) : Calls Try.prog 9 #[] w fun e w' => e = .returned (.bool true) ∧ Below w.heap.size w w' := by
  go_enter Try.func9, Try.ntmps9
  go_wp2_with fail
  refine (LoanS.schedule_ok 100 3 _ (by omega) (by omega) (by omega) (by omega)).mono ?_
  rintro e w1 ⟨rfl, hrow, hb1⟩
  go_wp2_with fail
  refine (Pays.pays_ok 50 10 5 100 _ (by omega) (by omega) (by omega) (by omega) (by omega) (by omega) (by omega) (by omega)).mono ?_
  rintro e w2 ⟨rfl, hb2⟩
  have hf : Pays.f 50 10 5 100 = .agg #[.int .i64 10, .int .i64 5, .int .i64 35, .int .i64 0] := by simp [Pays.f, Int.min_def]
  rw [hf]
  have hr1 := RI.of_row hrow
  rw [sch_list] at hr1
  have hr2 := hr1.below hb2
  have HR := Lib.hid hr2
  clear hr1 hr2 hrow
  go_wp2_with fail
  have hs2 := hb2.size
  refine (SameInts.any (w2.heap.size + 2) _ _ _ _ [34, 33, 33] [34, 33, 33] _ ?_ ?_ (by simp) (by simp)).mono ?_
  · exact ((HR.out.alloc hs2 _).alloc (by simp; omega) _).more (by omega)
  · exact (RI.of_lit (t := 2) (cs := #[.int .i64 34, .int .i64 33, .int .i64 33]) (b := w2.heap.size + 1) (by rw [← World.size_alloc]; exact heap_alloc_new _ _) rfl).more (by simp)
  rintro e w3 ⟨rfl, q, rfl⟩
  go_wp2
  go_ret
  have hb := below_then' hb1 hb2
  have hsz := hb.size
  exact ⟨rfl, below_drewN (by go_grown) _⟩
end Go.Proofs.Ytmpklklgfodnkaa.AwakeLoan
