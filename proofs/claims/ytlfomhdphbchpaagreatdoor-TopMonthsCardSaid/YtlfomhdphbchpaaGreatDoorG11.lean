/- Lemmas of a claim, several texts in one: AccA, ChA, MapA -/
import Derived.Test.YtlfomhdphbchpaaGreatDoorG04
import Derived.Test.YtlfomhdphbchpaaGreatDoorG10
import Derived.Test.YtlfomhdphbchpaaGreatDoorG09
import Derived.Test.YtlfomhdphbchpaaGreatDoorG07
import Derived.DeepKeys
import Derived.DeepKeys3
import Derived.WideKeyRuns
import Derived.Maps.RangeRun
import Derived.Laws.IdiomRangeMap
import Derived.Maps.RangeWalk
/-! accrue: the small ones; basis.Part by Act365; prod.Tiers of one tier -/
namespace Go.Proofs.YtlfomhdphbchpaaGreatDoor.Acc
open Go.RowKit Go.Deep Go.Proofs.YtlfomhdphbchpaaGreatDoor.Wide Go.Proofs.YtlfomhdphbchpaaGreatDoor.Dec
open Go.Proofs.YtlfomhdphbchpaaGreatDoor.Cal hiding results_one results_two
set_option linter.unusedVariables false
set_option linter.unusedSimpArgs false
def amtB (n : Int) : Bool := decide (0 ≤ n ∧ n ≤ 10000000000000)
set_option maxHeartbeats 4000000 in
theorem amount_ok (n : Int) (W : World) : Calls Tryz.prog 93 #[.int .i64 n] W fun e w' => e = .returned (.bool (amtB n)) ∧ w' = W := by
  by_cases h1 : 0 ≤ n
  · by_cases h2 : n ≤ 10000000000000
    · rw [show amtB n = true by simp [amtB, h1, h2]]
      go_enter Tryz.func93, Tryz.ntmps93
      go_wp2_with fail
      exact bodyPost_ret (results_one rfl _ _ rfl) rfl ⟨by first | rfl | simp, rfl⟩
    · rw [show amtB n = false by simp [amtB, h2]]
      have h3 : decide (n ≤ 10000000000000) = false := by simpa using h2
      clear h2
      go_enter Tryz.func93, Tryz.ntmps93
      go_wp2_with fail
      exact bodyPost_ret (results_one rfl _ _ rfl) rfl ⟨by first | rfl | simp, rfl⟩
  · rw [show amtB n = false by simp [amtB, h1]]
    have h3 : decide (0 ≤ n) = false := by simpa using h1
    clear h1
    go_enter Tryz.func93, Tryz.ntmps93
    go_wp2_with fail
    exact bodyPost_ret (results_one rfl _ _ rfl) rfl ⟨by first | rfl | simp, rfl⟩
set_option maxHeartbeats 4000000 in
theorem within_ok (n m : Int) (h : 0 ≤ n) (h2 : n ≤ m) (W : World) : Calls Tryz.prog 124 #[.int .i64 n, .int .i64 m] W fun e w' => e = .returned (.bool true) ∧ w' = W := by
  go_enter Tryz.func124, Tryz.ntmps124
  go_wp2_with fail
  exact bodyPost_ret (results_one rfl _ _ rfl) rfl ⟨by first | rfl | simp, rfl⟩
set_option maxHeartbeats 4000000 in
set_option maxRecDepth 100000 in
theorem of_ok (n : Int) (hn : -9223372036854775808 ≤ n ∧ n ≤ 9223372036854775807) (W : World) : Calls Tryz.prog 95 #[.int .i64 n] W fun e w' => e = .returned (.agg (decE n 0)) ∧ Below W.heap.size W w' := by
  have CO := Lib.hid (fun W' => dof_ok n 0 hn (by omega) W')
  clear hn
  go_enter Tryz.func95, Tryz.ntmps95
  go_wp2_with fail
  refine (CO.out _).mono ?_
  rintro e w1 ⟨rfl, hb1⟩
  have H1 : Has W [(W.heap.size, 168, #[.int .i64 0, .int .u64 0, .int .i64 0])] w1 := by
    refine Has.step (Has.cons ?_ (Has.nil ?_)) hb1
    · exact Blk.new _ _ _
    · exact Below.al (Below.refl _ _) _
  have HH1 := Lib.hid H1
  clear hb1 H1
  go_wp2_with (first
    | (refine wpList_put rfl 168 (.tmp 3) (.tmp 8) rfl w1.heap.size (decE n 0) rfl rfl 168 _ (Blk.new w1 _ _) (by first | kernel_rfl | (rw [enc_size]; kernel_rfl)) (by first | rfl | (rw [enc_size]; rfl)) (by first | exact enc_all _ | exact numE_all _ _ _ | exact decE_all _ _ | (rw [Array.all_eq_true']; simp [Value.oneCell'])) ?_
       intro W2 HB2 hfar2 hbel2 hsz2 hcell2
       have H2 := Lib.hid ((HH1.out.new rfl 168 #[.int .i64 0, .int .u64 0, .int .i64 0]).upd 0 rfl HH1.out.size HH1.out.fresh HB2 hfar2 hbel2)
       clear HB2 hfar2 hbel2 hsz2 hcell2)
    | (refine wpList_load_row rfl 168 (.tmp 3) rfl w1.heap.size rfl 168 (decE n 0) (0, 0) _ (H2.out.get 0 rfl) Tryz.underlying168 rfl (by first | kernel_rfl | (rw [enc_size]; kernel_rfl)) ?_)
    | (refine wpList_put rfl 168 (.tmp 2) (.tmp 10) rfl W.heap.size (decE n 0) rfl rfl 168 _ (H2.out.get 1 rfl) (by first | kernel_rfl | (rw [enc_size]; kernel_rfl)) (by first | rfl | (rw [enc_size]; rfl)) (by first | exact enc_all _ | exact numE_all _ _ _ | exact decE_all _ _ | (rw [Array.all_eq_true']; simp [Value.oneCell'])) ?_
       intro W3 HB3 hfar3 hbel3 hsz3 hcell3))
  exact bodyPost_ret (results_cell_row rfl _ W3 W.heap.size 168 (decE n 0) (0, 0) _ rfl HB3 Tryz.underlying168 rfl (by kernel_rfl)) rfl ⟨rfl, hbel3 _ _ (by omega) H2.out.below⟩
theorem mul_val {a b : Int} (h : a.natAbs * b.natAbs < T) : togC (mulM a b) (mulN a b) = a * b ∧ togE (mulN a b) = 0 := by
  have hn : mulN a b < T := h
  unfold togC togE
  rw [if_pos hn, if_pos hn]
  refine ⟨?_, rfl⟩
  unfold coef mulM mulN
  by_cases h1 : a < 0
  · have ea : ((a.natAbs : Nat) : Int) = -a := by omega
    by_cases h2 : b < 0
    · have eb : ((b.natAbs : Nat) : Int) = -b := by omega
      simp only [h1, h2, decide_true, beq_self_eq_true, Bool.not_true, Bool.false_eq_true, if_false, Int.natCast_mul, ea, eb, Int.neg_mul_neg]
    · have eb : ((b.natAbs : Nat) : Int) = b := by omega
      simp only [h1, h2, decide_true, decide_false, Int.natCast_mul, ea, eb]
      simp [Int.neg_mul]
  · have ea : ((a.natAbs : Nat) : Int) = a := by omega
    by_cases h2 : b < 0
    · have eb : ((b.natAbs : Nat) : Int) = -b := by omega
      simp only [h1, h2, decide_true, decide_false, Int.natCast_mul, ea, eb]
      simp [Int.mul_neg]
    · have eb : ((b.natAbs : Nat) : Int) = b := by omega
      simp only [h1, h2, decide_false, beq_self_eq_true, Bool.not_true, Bool.false_eq_true, if_false, Int.natCast_mul, ea, eb]
set_option maxHeartbeats 4000000 in
set_option maxRecDepth 100000 in
/-- the product of whole numbers that fits -/
theorem times_ok (a b : Int) (ha : InT a) (hb : InT b) (ha' : a ≠ -170141183460469231731687303715884105728) (hb' : b ≠ -170141183460469231731687303715884105728) (hf : a.natAbs * b.natAbs < T) (W : World) :
    Calls Tryz.prog 98 #[.agg (decE a 0), .agg (decE b 0)] W fun e w' => e = .returned (.agg (decE (a * b) 0)) ∧ Below W.heap.size W w' := by
  have CM := Lib.hid (fun W' => mul0_ok a b 0 (by omega) ha hb ha' hb' W')
  rw [(mul_val hf).1, (mul_val hf).2] at CM
  obtain ⟨p, hp⟩ : ∃ p, p = a * b := ⟨_, rfl⟩
  rw [← hp] at CM ⊢
  clear hp hf ha hb ha' hb'
  have hinit : ∀ w1, w1 = ((W.alloc (.cells (decE a 0) 168)).alloc (.cells (decE b 0) 168)).alloc (.cells #[.int .i64 0, .int .u64 0, .int .i64 0] 168) →
      Has W [(W.heap.size, 168, decE a 0), (W.heap.size + 1, 168, decE b 0), (W.heap.size + 2, 168, decE 0 0)] w1 := fun w1 e => by
    subst e
    refine Has.cons ?_ (Has.cons ?_ (Has.cons ?_ (Has.nil ?_)))
    · exact ((Blk.new _ _ _).alloc _).alloc _
    · exact (Blk.new' (by simp)).alloc _
    · exact Blk.new' (by simp)
    · exact Below.al (Below.al (Below.al (Below.refl _ _) _) _) _
  have HI := Lib.hid (hinit _ rfl)
  clear hinit
  go_enter Tryz.func98, Tryz.ntmps98
  go_wp2_with (first
    | (refine wpList_load_row rfl 168 (.tmp 2) rfl W.heap.size rfl 168 (decE a 0) (0, 0) _ (HI.out.get 0 rfl) Tryz.underlying168 rfl (by first | kernel_rfl | (rw [enc_size]; kernel_rfl)) ?_)
    | (refine wpList_load_row rfl 168 (.tmp 3) rfl (W.heap.size + 1) rfl 168 (decE b 0) (0, 0) _ (HI.out.get 1 rfl) Tryz.underlying168 rfl (by first | kernel_rfl | (rw [enc_size]; kernel_rfl)) ?_))
  refine (CM.out _).mono ?_
  rintro e w1 ⟨rfl, hb1⟩
  have HH1 := Lib.hid (HI.out.step hb1)
  clear hb1 HI
  go_wp2_with (first
    | (refine wpList_put rfl 168 (.tmp 5) (.tmp 11) rfl w1.heap.size (decE p 0) rfl rfl 168 _ (Blk.new w1 _ _) (by first | kernel_rfl | (rw [enc_size]; kernel_rfl)) (by first | rfl | (rw [enc_size]; rfl)) (by first | exact enc_all _ | exact numE_all _ _ _ | exact decE_all _ _ | (rw [Array.all_eq_true']; simp [Value.oneCell'])) ?_
       intro W2 HB2 hfar2 hbel2 hsz2 hcell2
       have H2 := Lib.hid ((HH1.out.new rfl 168 #[.int .i64 0, .int .u64 0, .int .i64 0]).upd 0 rfl HH1.out.size HH1.out.fresh HB2 hfar2 hbel2)
       clear HB2 hfar2 hbel2 hsz2 hcell2)
    | (refine wpList_load_row rfl 168 (.tmp 5) rfl w1.heap.size rfl 168 (decE p 0) (0, 0) _ (H2.out.get 0 rfl) Tryz.underlying168 rfl (by first | kernel_rfl | (rw [enc_size]; kernel_rfl)) ?_)
    | (refine wpList_put rfl 168 (.tmp 4) (.tmp 13) rfl (W.heap.size + 2) (decE p 0) rfl rfl 168 _ (H2.out.get 3 rfl) (by first | kernel_rfl | (rw [enc_size]; kernel_rfl)) (by first | rfl | (rw [enc_size]; rfl)) (by first | exact enc_all _ | exact numE_all _ _ _ | exact decE_all _ _ | (rw [Array.all_eq_true']; simp [Value.oneCell'])) ?_
       intro W3 HB3 hfar3 hbel3 hsz3 hcell3))
  exact bodyPost_ret (results_cell_row rfl _ W3 (W.heap.size + 2) 168 (decE p 0) (0, 0) _ rfl HB3 Tryz.underlying168 rfl (by kernel_rfl)) rfl ⟨rfl, hbel3 _ _ (by omega) H2.out.below⟩
set_option maxHeartbeats 4000000 in
theorem bcheck_ok (h f t : Int) (hh : 0 ≤ h ∧ h ≤ 3) (hf : 1 ≤ f ∧ f ≤ 3652059) (ht : f ≤ t ∧ t ≤ 3652059) (W : World) : Calls Tryz.prog 137 #[.int .i64 h, .int .i64 f, .int .i64 t] W fun e w' => e = .returned (.int .i64 0) ∧ w' = W := by
  obtain ⟨a1, a2⟩ := hh
  obtain ⟨b1, b2⟩ := hf
  obtain ⟨c1, c2⟩ := ht
  have d1 : decide (h < 0) = false := by simpa using a1
  have d2 : decide (3 < h) = false := by simpa using a2
  have d3 : decide (f < 1) = false := by simp; omega
  have d4 : decide (3652059 < f) = false := by simpa using b2
  have d5 : decide (t < 1) = false := by simp; omega
  have d6 : decide (3652059 < t) = false := by simpa using c2
  go_enter Tryz.func137, Tryz.ntmps137
  go_wp2_with fail
  exact bodyPost_ret (results_one rfl _ _ rfl) rfl ⟨rfl, rfl⟩
set_option maxHeartbeats 4000000 in
theorem part365_ok (d : Int) (hd : 1 ≤ d ∧ d < 3652059) (W : World) : Calls Tryz.prog 92 #[.int .i64 1, .int .i64 d, .int .i64 (d + 1)] W fun e w' => e = .returned (.tuple #[.int .i64 1, .int .i64 365, .int .i64 0]) ∧ w' = W := by
  have CB := Lib.hid (fun W' => bcheck_ok 1 d (d + 1) (by omega) (by omega) (by omega) W')
  obtain ⟨d1, d2⟩ := hd
  have e1 : d + 1 - d = 1 := by omega
  go_enter Tryz.func92, Tryz.ntmps92
  go_wp2_with fail
  refine (CB.out _).mono ?_
  rintro e w1 ⟨rfl, rfl⟩
  go_wp2_with fail
  exact bodyPost_ret (results_three rfl _ _ rfl rfl rfl) rfl ⟨by first | rfl | simp [e1], rfl⟩
end Go.Proofs.YtlfomhdphbchpaaGreatDoor.Acc

/-! chart: power, within, nought, is -/
namespace Go.Proofs.YtlfomhdphbchpaaGreatDoor.Ch
open Go.RowKit Go.Deep Go.Proofs.YtlfomhdphbchpaaGreatDoor.Wide Go.Proofs.YtlfomhdphbchpaaGreatDoor.Dec Go.Proofs.YtlfomhdphbchpaaGreatDoor.Acc
open Go.Proofs.YtlfomhdphbchpaaGreatDoor.Cal hiding results_one results_two
set_option linter.unusedVariables false
set_option linter.unusedSimpArgs false
theorem ten_le {k : Nat} (h : k ≤ 24) : (10 : Int) ^ k ≤ 1000000000000000000000000 ∧ 0 < (10 : Int) ^ k := by
  have h1 : 10 ^ k ≤ 10 ^ 24 := Nat.pow_le_pow_right (by decide) h
  have h2 : 0 < 10 ^ k := Nat.pow_pos (by decide)
  have h3 : ((10 ^ k : Nat) : Int) = (10 : Int) ^ k := by simp
  have h4 : (10 ^ 24 : Nat) = 1000000000000000000000000 := by decide
  omega
theorem mul10_ok (k : Nat) (h : k < 24) (W : World) :
    Calls Tryz.prog 130 #[.agg (decE (10 ^ k) 0), .agg #[.int .i64 0, .int .u64 10, .int .i64 0], .int .i64 0, .int .i64 0] W fun e w' => e = .returned (.tuple #[.agg (decE (10 ^ (k + 1)) 0), .int .i64 0]) ∧ Below W.heap.size W w' := by
  obtain ⟨h1, h2⟩ := ten_le (k := k) (by omega)
  have := mul0_ok (10 ^ k) 10 0 (by omega) (by unfold InT; omega) (by unfold InT; omega) (by omega) (by omega) W
  have hf : ((10 : Int) ^ k).natAbs * (10 : Int).natAbs < T := by
    rw [show (10 : Int).natAbs = 10 from rfl]; unfold T; omega
  rw [(mul_val hf).1, (mul_val hf).2, ← Int.pow_succ] at this
  exact this
set_option maxHeartbeats 4000000 in
set_option maxRecDepth 100000 in
theorem power_ok (n : Nat) (hn : n ≤ 24) (W : World) : Calls Tryz.prog 176 #[.int .i64 (n : Int)] W fun e w' => e = .returned (.agg (decE (10 ^ n) 0)) ∧ Below W.heap.size W w' := by
  go_enter Tryz.func176, Tryz.ntmps176
  go_wp2_with fail
  go_loopw [6] (fun i wr => ∃ k : Nat, k ≤ n ∧ i = .int .i64 k ∧ Hid (Has W [(W.heap.size + 1, 168, decE (10 ^ k) 0), (W.heap.size, 168, decE 0 0)] wr)) (fun i _ => n - (intOf i).toNat)
  case atStart =>
    refine ⟨0, by omega, rfl, Lib.hid (Has.cons ?_ (Has.cons ?_ (Has.nil ?_)))⟩
    · exact Blk.new' (by simp)
    · exact (Blk.new _ _ _).alloc _
    · exact Below.al (Below.al (Below.refl _ _) _) _
  case round =>
    obtain ⟨k, hk, rfl, HH⟩ := hrel
    by_cases hlt : k < n
    · have CM := Lib.hid (fun W' => mul10_ok k (by omega) W')
      go_wp2_with (refine wpList_load_row rfl 168 (.tmp 3) rfl (W.heap.size + 1) rfl 168 (decE (10 ^ k) 0) (0, 0) _ (HH.out.get 0 rfl) Tryz.underlying168 rfl (by first | kernel_rfl | (rw [enc_size]; kernel_rfl)) ?_)
      refine (CM.out _).mono ?_
      rintro e w1 ⟨rfl, hb1⟩
      have H1 := Lib.hid (HH.out.step hb1)
      clear hb1 HH
      go_wp2_with (refine wpList_put rfl 168 (.tmp 3) (.tmp 12) rfl (W.heap.size + 1) (decE (10 ^ (k + 1)) 0) rfl rfl 168 _ (H1.out.get 0 rfl) (by first | kernel_rfl | (rw [enc_size]; kernel_rfl)) (by first | rfl | (rw [enc_size]; rfl)) (by first | exact enc_all _ | exact numE_all _ _ _ | exact decE_all _ _ | (rw [Array.all_eq_true']; simp [Value.oneCell'])) ?_
                   intro W2 HB2 hfar2 hbel2 hsz2 hcell2
                   have H2 := Lib.hid (H1.out.upd 0 rfl (by omega) (by simp) HB2 hfar2 hbel2)
                   clear HB2 hfar2 hbel2 hsz2 hcell2)
      go_roundw
      case rel => exact ⟨k + 1, by omega, by go_num, H2⟩
      case measure => simp [intOf]; omega
    · obtain rfl : n = k := by omega
      go_wp2_with (first
        | (refine wpList_load_row rfl 168 (.tmp 3) rfl (W.heap.size + 1) rfl 168 (decE (10 ^ n) 0) (0, 0) _ (HH.out.get 0 rfl) Tryz.underlying168 rfl (by first | kernel_rfl | (rw [enc_size]; kernel_rfl)) ?_)
        | (refine wpList_put rfl 168 (.tmp 2) (.tmp 15) rfl W.heap.size (decE (10 ^ n) 0) rfl rfl 168 _ (HH.out.get 1 rfl) (by first | kernel_rfl | (rw [enc_size]; kernel_rfl)) (by first | rfl | (rw [enc_size]; rfl)) (by first | exact enc_all _ | exact numE_all _ _ _ | exact decE_all _ _ | (rw [Array.all_eq_true']; simp [Value.oneCell'])) ?_
           intro W2 HB2 hfar2 hbel2 hsz2 hcell2))
      exact bodyPost_ret (results_cell_row rfl _ W2 W.heap.size 168 (decE (10 ^ n) 0) (0, 0) _ rfl HB2 Tryz.underlying168 rfl (by kernel_rfl)) rfl ⟨rfl, hbel2 _ _ (by omega) HH.out.below⟩
/-- is a decimal no greater than ten to a power, in size? -/
def winB (c s : Int) (n : Nat) : Bool := decide (cmpD c s (10 ^ n) 0 ≤ 0) && decide (cmpD (-(10 ^ n)) 0 c s ≤ 0)
theorem decE_lit (c s : Int) : decE c s = #[.int .i64 (c / 18446744073709551616), .int .u64 (c % 18446744073709551616), .int .i64 s] := rfl
set_option maxHeartbeats 4000000 in
set_option maxRecDepth 100000 in
theorem within_ok (c s : Int) (n : Nat) (hn : n ≤ 24) (hc : InT c) (hs : chk c s = 0) (W : World) :
    Calls Tryz.prog 127 #[.agg (decE c s), .int .i64 (n : Int)] W fun e w' => e = .returned (.bool (winB c s n)) ∧ Below W.heap.size W w' := by
  obtain ⟨h1, h2⟩ := ten_le hn
  have CP := Lib.hid (fun W' => power_ok n hn W')
  have CN := Lib.hid (fun W' => neg_ok (10 ^ n) 0 (by unfold InT; omega) (chk0 (by omega)) W')
  have C1 := Lib.hid (fun W' => dcmp_ok c s (10 ^ n) 0 hc (by unfold InT; omega) hs (chk0 (by omega)) W')
  have C2 := Lib.hid (fun W' => dcmp_ok (-(10 ^ n)) 0 c s (by unfold InT; omega) hc (chk0 (by omega)) hs W')
  unfold winB
  obtain ⟨x, hx⟩ : ∃ x, x = cmpD c s (10 ^ n) 0 := ⟨_, rfl⟩
  obtain ⟨y, hy⟩ : ∃ y, y = cmpD (-(10 ^ n)) 0 c s := ⟨_, rfl⟩
  rw [← hx] at C1 ⊢
  rw [← hy] at C2 ⊢
  obtain ⟨p, hp⟩ : ∃ p : Int, p = 10 ^ n := ⟨_, rfl⟩
  rw [← hp] at CP CN C1 C2
  clear hx hy hp h1 h2 hs hc
  obtain ⟨r, hr⟩ : ∃ r, r = (decide (x ≤ 0) && decide (y ≤ 0)) := ⟨_, rfl⟩
  rw [← hr]
  by_cases hx0 : x ≤ 0
  · have hr2 : decide (y ≤ 0) = r := by rw [hr]; simp [hx0]
    have HR := Lib.hid hr2
    clear hr hr2
    have HI : Hid (Has W [(W.heap.size, 168, decE c s)] (W.alloc (.cells (decE c s) 168))) := Lib.hid (Has.cons (Blk.new _ _ _) (Has.nil (Below.al (Below.refl _ _) _)))
    go_enter Tryz.func127, Tryz.ntmps127
    go_wp2_with fail
    refine (CP.out _).mono ?_
    rintro e w1 ⟨rfl, hb1⟩
    have H1 := Lib.hid (HI.out.step hb1)
    clear hb1 HI
    go_wp2_with (first
      | (refine wpList_put rfl 168 (.tmp 5) (.tmp 13) rfl w1.heap.size (decE p 0) rfl rfl 168 _ (Blk.new w1 _ _) (by first | kernel_rfl | (rw [enc_size]; kernel_rfl)) (by first | rfl | (rw [enc_size]; rfl)) (by first | exact enc_all _ | exact numE_all _ _ _ | exact decE_all _ _ | (rw [Array.all_eq_true']; simp [Value.oneCell'])) ?_
         intro W2 HB2 hfar2 hbel2 hsz2 hcell2
         have H2 := Lib.hid ((H1.out.new rfl 168 #[.int .i64 0, .int .u64 0, .int .i64 0]).upd 0 rfl H1.out.size H1.out.fresh HB2 hfar2 hbel2)
         clear HB2 hfar2 hbel2 hsz2 hcell2)
      | (refine wpList_load_row rfl 168 (.tmp 5) rfl w1.heap.size rfl 168 (decE p 0) (0, 0) _ (H2.out.get 0 rfl) Tryz.underlying168 rfl (by first | kernel_rfl | (rw [enc_size]; kernel_rfl)) ?_))
    obtain ⟨g, hg⟩ : ∃ g, g = w1.heap.size := ⟨_, rfl⟩
    rw [← hg] at H2 ⊢
    clear hg H1
    refine (CN.out _).mono ?_
    rintro e w3 ⟨rfl, hb3⟩
    have H3 := Lib.hid (H2.out.step hb3)
    clear hb3 H2
    go_wp2_with (first
      | (refine wpList_put rfl 168 (.tmp 6) (.tmp 17) rfl w3.heap.size (decE (-p) 0) rfl rfl 168 _ (Blk.new w3 _ _) (by first | kernel_rfl | (rw [enc_size]; kernel_rfl)) (by first | rfl | (rw [enc_size]; rfl)) (by first | exact enc_all _ | exact numE_all _ _ _ | exact decE_all _ _ | (rw [Array.all_eq_true']; simp [Value.oneCell'])) ?_
         intro W4 HB4 hfar4 hbel4 hsz4 hcell4
         have H4 := Lib.hid ((H3.out.new rfl 168 #[.int .i64 0, .int .u64 0, .int .i64 0]).upd 0 rfl H3.out.size H3.out.fresh HB4 hfar4 hbel4)
         clear HB4 hfar4 hbel4 hsz4 hcell4)
      | (refine wpList_load_row rfl 168 (.tmp 2) rfl W.heap.size rfl 168 (decE c s) (0, 0) _ (H4.out.get 2 rfl) Tryz.underlying168 rfl (by first | kernel_rfl | (rw [enc_size]; kernel_rfl)) ?_)
      | (refine wpList_load_row rfl 168 (.tmp 5) rfl g rfl 168 (decE p 0) (0, 0) _ (H4.out.get 1 rfl) Tryz.underlying168 rfl (by first | kernel_rfl | (rw [enc_size]; kernel_rfl)) ?_))
    obtain ⟨f, hf⟩ : ∃ f, f = w3.heap.size := ⟨_, rfl⟩
    rw [← hf] at H4 ⊢
    clear hf H3
    refine (C1.out _).mono ?_
    rintro e w5 ⟨rfl, hb5⟩
    have H5 := Lib.hid (H4.out.step hb5)
    clear hb5 H4
    go_wp2_with (first
      | (refine wpList_load_row rfl 168 (.tmp 6) rfl f rfl 168 (decE (-p) 0) (0, 0) _ (H5.out.get 0 rfl) Tryz.underlying168 rfl (by first | kernel_rfl | (rw [enc_size]; kernel_rfl)) ?_)
      | (refine wpList_load_row rfl 168 (.tmp 2) rfl W.heap.size rfl 168 (decE c s) (0, 0) _ (H5.out.get 2 rfl) Tryz.underlying168 rfl (by first | kernel_rfl | (rw [enc_size]; kernel_rfl)) ?_))
    refine (C2.out _).mono ?_
    rintro e w6 ⟨rfl, hb6⟩
    have H6 := (H5.out.step hb6).below
    clear hb6 H5
    go_wp2_with fail
    exact bodyPost_ret (results_one rfl _ _ rfl) rfl ⟨by rw [← HR.out]; rfl, H6⟩
  · have hr2 : r = false := by rw [hr]; simp [hx0]
    have hd : decide (x ≤ 0) = false := by simpa using hx0
    subst hr2
    clear hr hx0
    have HI : Hid (Has W [(W.heap.size, 168, decE c s)] (W.alloc (.cells (decE c s) 168))) := Lib.hid (Has.cons (Blk.new _ _ _) (Has.nil (Below.al (Below.refl _ _) _)))
    go_enter Tryz.func127, Tryz.ntmps127
    go_wp2_with fail
    refine (CP.out _).mono ?_
    rintro e w1 ⟨rfl, hb1⟩
    have H1 := Lib.hid (HI.out.step hb1)
    clear hb1 HI
    go_wp2_with (first
      | (refine wpList_put rfl 168 (.tmp 5) (.tmp 13) rfl w1.heap.size (decE p 0) rfl rfl 168 _ (Blk.new w1 _ _) (by first | kernel_rfl | (rw [enc_size]; kernel_rfl)) (by first | rfl | (rw [enc_size]; rfl)) (by first | exact enc_all _ | exact numE_all _ _ _ | exact decE_all _ _ | (rw [Array.all_eq_true']; simp [Value.oneCell'])) ?_
         intro W2 HB2 hfar2 hbel2 hsz2 hcell2
         have H2 := Lib.hid ((H1.out.new rfl 168 #[.int .i64 0, .int .u64 0, .int .i64 0]).upd 0 rfl H1.out.size H1.out.fresh HB2 hfar2 hbel2)
         clear HB2 hfar2 hbel2 hsz2 hcell2)
      | (refine wpList_load_row rfl 168 (.tmp 5) rfl w1.heap.size rfl 168 (decE p 0) (0, 0) _ (H2.out.get 0 rfl) Tryz.underlying168 rfl (by first | kernel_rfl | (rw [enc_size]; kernel_rfl)) ?_))
    obtain ⟨g, hg⟩ : ∃ g, g = w1.heap.size := ⟨_, rfl⟩
    rw [← hg] at H2 ⊢
    clear hg H1
    refine (CN.out _).mono ?_
    rintro e w3 ⟨rfl, hb3⟩
    have H3 := Lib.hid (H2.out.step hb3)
    clear hb3 H2
    go_wp2_with (first
      | (refine wpList_put rfl 168 (.tmp 6) (.tmp 17) rfl w3.heap.size (decE (-p) 0) rfl rfl 168 _ (Blk.new w3 _ _) (by first | kernel_rfl | (rw [enc_size]; kernel_rfl)) (by first | rfl | (rw [enc_size]; rfl)) (by first | exact enc_all _ | exact numE_all _ _ _ | exact decE_all _ _ | (rw [Array.all_eq_true']; simp [Value.oneCell'])) ?_
         intro W4 HB4 hfar4 hbel4 hsz4 hcell4
         have H4 := Lib.hid ((H3.out.new rfl 168 #[.int .i64 0, .int .u64 0, .int .i64 0]).upd 0 rfl H3.out.size H3.out.fresh HB4 hfar4 hbel4)
         clear HB4 hfar4 hbel4 hsz4 hcell4)
      | (refine wpList_load_row rfl 168 (.tmp 2) rfl W.heap.size rfl 168 (decE c s) (0, 0) _ (H4.out.get 2 rfl) Tryz.underlying168 rfl (by first | kernel_rfl | (rw [enc_size]; kernel_rfl)) ?_)
      | (refine wpList_load_row rfl 168 (.tmp 5) rfl g rfl 168 (decE p 0) (0, 0) _ (H4.out.get 1 rfl) Tryz.underlying168 rfl (by first | kernel_rfl | (rw [enc_size]; kernel_rfl)) ?_))
    obtain ⟨f, hf⟩ : ∃ f, f = w3.heap.size := ⟨_, rfl⟩
    rw [← hf] at H4 ⊢
    clear hf H3
    refine (C1.out _).mono ?_
    rintro e w5 ⟨rfl, hb5⟩
    have H5 := Lib.hid (H4.out.step hb5)
    clear hb5 H4
    go_wp2_with (first
      | (refine wpList_load_row rfl 168 (.tmp 6) rfl f rfl 168 (decE (-p) 0) (0, 0) _ (H5.out.get 0 rfl) Tryz.underlying168 rfl (by first | kernel_rfl | (rw [enc_size]; kernel_rfl)) ?_)
      | (refine wpList_load_row rfl 168 (.tmp 2) rfl W.heap.size rfl 168 (decE c s) (0, 0) _ (H5.out.get 2 rfl) Tryz.underlying168 rfl (by first | kernel_rfl | (rw [enc_size]; kernel_rfl)) ?_))
    refine (C2.out _).mono ?_
    rintro e w6 ⟨rfl, hb6⟩
    have H6 := (H5.out.step hb6).below
    clear hb6 H5
    go_wp2_with fail
    exact bodyPost_ret (results_one rfl _ _ rfl) rfl ⟨rfl, H6⟩
set_option maxHeartbeats 4000000 in
set_option maxRecDepth 100000 in
theorem nought_ok (W : World) : Calls Tryz.prog 178 #[] W fun e w' => e = .returned (.agg (decE 0 12)) ∧ Below W.heap.size W w' := by
  go_enter Tryz.func178, Tryz.ntmps178
  go_wp2_with fail
  exact bodyPost_ret (results_cell_row rfl _ _ W.heap.size 168 (decE 0 12) (0, 0) _ rfl (Blk.new _ _ _) Tryz.underlying168 rfl (by kernel_rfl)) rfl ⟨rfl, Below.al (Below.refl _ _) _⟩
set_option maxHeartbeats 4000000 in
theorem is_ok (k : Int) (h : 1 ≤ k ∧ k ≤ 8) (W : World) : Calls Tryz.prog 173 #[.int .i64 k, .int .i64 0] W fun e w' => e = .returned (.bool true) ∧ w' = W := by
  obtain ⟨h1, h2⟩ := h
  go_enter Tryz.func173, Tryz.ntmps173
  go_wp2_with fail
  refine (digits0_ok _).mono ?_
  rintro e w1 ⟨rfl, rfl⟩
  go_wp2_with fail
  exact bodyPost_ret (results_one rfl _ _ rfl) rfl ⟨by first | rfl | simp, rfl⟩
end Go.Proofs.YtlfomhdphbchpaaGreatDoor.Ch

/-! Maps as rows of entries: keys that are two integers; reads, writes, ranges. -/
namespace Go.Proofs.YtlfomhdphbchpaaGreatDoor.Mp
open Go.RowKit Go.Deep
open Go.ChangeMaps (setBlock)
set_option linter.unusedVariables false
set_option linter.unusedSimpArgs false
section
variable {P : Program}
def InR (x : Int) : Prop := -9223372036854775808 ≤ x ∧ x ≤ 9223372036854775807
def key2 (x y : Int) : Value := .agg #[.int .i64 x, .int .i64 y]
structure Key2 (P : Program) (K : TypeId) : Prop where
  at2 : P.keyTypeAt 2 K = true
  wide : (match P.underlying K with | some (.array _ _) | some (.struct _) => true | _ => false) = true
  formed : ∀ u v, Value.formed P K (key2 u v) = true
  lits : ∀ x y, InR x → InR y → P.keyLits 2 K [.int .i64 x, .int .i64 y] = some [.int .i64 x, .int .i64 y]
theorem Key2.check {K : TypeId} (h : Key2 P K) (em : Bool) {x y : Int} (hx : InR x) (hy : InR y) (w : World) : (Instr.checkKey em 10000 K (key2 x y)).run P w = .ok () w :=
  run_checkKey_deep em 9998 2 K h.at2 w 2 _ _ (h.formed x y) (h.lits x y hx hy)
theorem Key2.eq {K : TypeId} (h : Key2 P K) {x y x' y' : Int} (hx : InR x) (hy : InR y) (hx' : InR x') (hy' : InR y') (w : World) : (Op.equal K (key2 x y) (key2 x' y')).run P w = .ok (decide (x = x' ∧ y = y')) w := by
  obtain ⟨r, hr, hiff⟩ := run_equalIn_deep (P := P) 9998 2 K h.at2 w 2 2 _ _ _ _ (h.formed x y) (h.formed x' y') (h.lits x y hx hy) (h.lits x' y' hx' hy')
  have : r = decide (x = x' ∧ y = y') := by
    by_cases hxy : x = x' ∧ y = y'
    · rw [decide_eq_true hxy]; exact hiff.2 (by rw [hxy.1, hxy.2])
    · rw [decide_eq_false hxy]
      cases r with
      | false => rfl
      | true =>
        exfalso
        have := hiff.1 rfl
        simp at this
        exact hxy this
  rw [← this]
  exact hr
/-- an entry: its key's two parts, its value -/
structure Ent where
  k1 : Int
  k2 : Int
  val : Value
  born : Nat
def Ent.row (e : Ent) : MapEntry := { key := key2 e.k1 e.k2, val := e.val, born := e.born }
def seek : List Ent → Int → Int → Nat → Option (Nat × Value)
  | [], _, _, _ => none
  | e :: es, x, y, i => if x = e.k1 ∧ y = e.k2 then some (i, e.val) else seek es x y (i + 1)
theorem run_findAsking {K : TypeId} (h : Key2 P K) {x y : Int} (hx : InR x) (hy : InR y) (w : World) : ∀ (L : List Ent) (i : Nat), (∀ e ∈ L, InR e.k1 ∧ InR e.k2) → (Instr.findAsking K (key2 x y) (L.map Ent.row) i).run P w = .ok (seek L x y i) w
  | [], _, _ => rfl
  | e :: es, i, hL => by
    have he := hL e List.mem_cons_self
    simp only [List.map_cons, Instr.findAsking, Sem.run_bind, Ent.row, h.eq hx hy he.1 he.2, Result.andThen, seek]
    by_cases hd : x = e.k1 ∧ y = e.k2
    · simp [hd]
    · rw [decide_eq_false hd, if_neg hd]
      simp only [Bool.false_eq_true, if_false]
      exact run_findAsking h hx hy w es (i + 1) (fun e he => hL e (List.mem_cons_of_mem _ he))
theorem run_findKey2 {K : TypeId} (h : Key2 P K) {x y : Int} (hx : InR x) (hy : InR y) (w : World) (L : List Ent) (hL : ∀ e ∈ L, InR e.k1 ∧ InR e.k2) : (Instr.findKey K (key2 x y) (L.map Ent.row)).run P w = .ok (seek L x y 0) w := by
  rw [run_findKey_eq w h.wide]; exact run_findAsking h hx hy w L 0 hL
/-- a map's block -/
def Map (w : World) (b : Nat) (L : List Ent) (cl : Nat) : Prop := w.heap[b]? = some (.map (L.map Ent.row).toArray cl)
theorem Map.lt {w : World} {b : Nat} {L : List Ent} {cl : Nat} (h : Map w b L cl) : b < w.heap.size := by
  unfold Map at h
  rcases Nat.lt_or_ge b w.heap.size with h' | h'
  · exact h'
  · rw [Array.getElem?_eq_none h'] at h; cases h
theorem Map.step {w w' : World} {b : Nat} {L : List Ent} {cl : Nat} (h : Map w b L cl) (hb : Below w.heap.size w w') : Map w' b L cl := by
  unfold Map at *; rw [hb.block b (Map.lt h)]; exact h
theorem run_lookup2 {T K E : TypeId} {z : Value} (h : Key2 P K) (hT : P.underlying T = some (.map K E)) (hz : ∀ w, (zeroValue E).run P w = .ok z w) {x y : Int} (hx : InR x) (hy : InR y) (w : World) (b : Nat) (L : List Ent) (cl : Nat)
    (hL : ∀ e ∈ L, InR e.k1 ∧ InR e.k2) (hm : Map w b L cl) : (Instr.lookup T (.map (some b)) (key2 x y) true).run P w = .ok (.tuple #[((seek L x y 0).map (·.2)).getD z, .bool (seek L x y 0).isSome]) w := by
  have hg : (getObj b).run P w = .ok (.map (L.map Ent.row).toArray cl) w := by simp [getObj, Sem.run, show w.heap[b]? = _ from hm]
  simp only [Instr.lookup, Sem.run_bind, run_underlying hT, Result.andThen, hg, h.check _ hx hy, Sem.run_pure, run_findKey2 h hx hy w L hL]
  cases hl : seek L x y 0 with
  | none => simp [Sem.run_bind, hz, Result.andThen]
  | some p => obtain ⟨i, v⟩ := p; simp [Sem.run_bind, Result.andThen]
theorem run_lookup2_one {T K E : TypeId} {z : Value} (h : Key2 P K) (hT : P.underlying T = some (.map K E)) (hz : ∀ w, (zeroValue E).run P w = .ok z w) {x y : Int} (hx : InR x) (hy : InR y) (w : World) (b : Nat) (L : List Ent) (cl : Nat)
    (hL : ∀ e ∈ L, InR e.k1 ∧ InR e.k2) (hm : Map w b L cl) : (Instr.lookup T (.map (some b)) (key2 x y) false).run P w = .ok (((seek L x y 0).map (·.2)).getD z) w := by
  have hg : (getObj b).run P w = .ok (.map (L.map Ent.row).toArray cl) w := by simp [getObj, Sem.run, show w.heap[b]? = _ from hm]
  simp only [Instr.lookup, Sem.run_bind, run_underlying hT, Result.andThen, hg, h.check _ hx hy, Sem.run_pure, run_findKey2 h hx hy w L hL]
  cases hl : seek L x y 0 with
  | none => simp [Sem.run_bind, hz, Result.andThen]
  | some p => obtain ⟨i, v⟩ := p; simp [Sem.run_bind, Result.andThen]
/-- what a write leaves -/
def upd : List Ent → Int → Int → Value → Nat → List Ent
  | [], x, y, v, cl => [⟨x, y, v, cl⟩]
  | e :: es, x, y, v, cl => if x = e.k1 ∧ y = e.k2 then { e with val := v } :: es else e :: upd es x y v cl
def updC (L : List Ent) (x y : Int) (cl : Nat) : Nat := if (seek L x y 0).isSome then cl else cl + 1
theorem seek_shift : ∀ (L : List Ent) (x y : Int) (i j : Nat), seek L x y (i + j) = (seek L x y j).map fun p => (i + p.1, p.2)
  | [], _, _, _, _ => rfl
  | e :: es, x, y, i, j => by
    unfold seek
    split
    · rfl
    · exact seek_shift es x y i (j + 1)
theorem seek_some : ∀ {L : List Ent} {x y : Int} {i : Nat} {v : Value}, seek L x y 0 = some (i, v) → (∃ e, L[i]? = some e ∧ e.k1 = x ∧ e.k2 = y) ∧ ∀ u cl, upd L x y u cl = L.modify i fun e => { e with val := u }
  | [], _, _, _, _, h => by cases h
  | e :: es, x, y, i, v, h => by
    unfold seek at h
    split at h
    · rename_i hd
      simp only [Option.some.injEq, Prod.mk.injEq] at h
      obtain ⟨rfl, rfl⟩ := h
      exact ⟨⟨e, rfl, hd.1.symm, hd.2.symm⟩, fun u cl => by unfold upd; rw [if_pos hd]; rfl⟩
    · rename_i hd
      rw [show 0 + 1 = 1 + 0 from rfl, seek_shift] at h
      cases hl : seek es x y 0 with
      | none => rw [hl] at h; cases h
      | some p =>
        obtain ⟨k, u⟩ := p
        rw [hl] at h
        simp only [Option.map_some, Option.some.injEq, Prod.mk.injEq] at h
        obtain ⟨rfl, rfl⟩ := h
        obtain ⟨⟨e', h1, h2, h3⟩, h4⟩ := seek_some hl
        refine ⟨⟨e', by rw [Nat.add_comm]; simpa using h1, h2, h3⟩, fun u cl => ?_⟩
        unfold upd
        rw [if_neg hd, h4 u cl, Nat.add_comm]
        rfl
theorem seek_none : ∀ {L : List Ent} {x y : Int}, seek L x y 0 = none → ∀ u cl, upd L x y u cl = L ++ [⟨x, y, u, cl⟩]
  | [], _, _, _, _, _ => rfl
  | e :: es, x, y, h, u, cl => by
    unfold seek at h
    split at h
    · cases h
    · rename_i hd
      rw [show 0 + 1 = 1 + 0 from rfl, seek_shift] at h
      unfold upd
      rw [if_neg hd, seek_none (by simpa using h)]
      rfl
theorem run_setMap {w : World} {b : Nat} {es : Array MapEntry} {cl : Nat} (hm : w.heap[b]? = some (.map es cl)) (o' : Obj) : (setObj b o').run P w = .ok () (setBlock w b o') := by
  simp [setObj, Sem.run, hm, setBlock]
theorem run_stays (x y : Int) (w : World) : (Instr.keyThatStays (key2 x y) (key2 x y)).run P w = .ok (key2 x y) w := by
  simp [Instr.keyThatStays, Instr.sameBits, key2, Sem.run_bind, Result.andThen]
theorem run_update2 {T K E : TypeId} (h : Key2 P K) (hT : P.underlying T = some (.map K E)) {x y : Int} (hx : InR x) (hy : InR y) (v : Value) (w : World) (b : Nat) (L : List Ent) (cl : Nat)
    (hL : ∀ e ∈ L, InR e.k1 ∧ InR e.k2) (hm : Map w b L cl) : (Instr.mapUpdate T (.map (some b)) (key2 x y) v).run P w = .ok () (setBlock w b (.map ((upd L x y v cl).map Ent.row).toArray (updC L x y cl))) := by
  have hg : (getObj b).run P w = .ok (.map (L.map Ent.row).toArray cl) w := by simp [getObj, Sem.run, show w.heap[b]? = _ from hm]
  simp only [Instr.mapUpdate, Sem.run_bind, run_underlying hT, Result.andThen, hg, h.check _ hx hy, run_findKey2 h hx hy w L hL]
  unfold updC
  cases hl : seek L x y 0 with
  | none =>
    simp only [Option.isSome_none, Bool.false_eq_true, if_false, seek_none hl, run_setMap hm]
    congr 2
    simp [Ent.row]
  | some p =>
    obtain ⟨i, u⟩ := p
    obtain ⟨⟨e, h1, rfl, rfl⟩, h4⟩ := seek_some hl
    have hk : ((((L.map Ent.row).toArray)[i]?).map (·.key)).getD (key2 e.k1 e.k2) = key2 e.k1 e.k2 := by simp [h1, Ent.row]
    simp only [Option.isSome_some, if_true, Sem.run_bind, hk, run_stays, Result.andThen, run_setMap hm, h4]
    congr 2
    refine congrArg (fun z => Obj.map z cl) ?_
    apply Array.ext_getElem?
    intro j
    by_cases hji : i = j
    · subst hji
      simp [Array.getElem?_modify, List.getElem?_modify, h1, Ent.row]
    · simp [Array.getElem?_modify, List.getElem?_modify, hji]
/-! what a turned block leaves of the world -/
theorem setBlock_same {w : World} {b : Nat} {o : Obj} (h : b < w.heap.size) : (setBlock w b o).heap[b]? = some o := by simp [setBlock, h]
theorem setBlock_other {w : World} {b g : Nat} {o : Obj} (h : g ≠ b) : (setBlock w b o).heap[g]? = w.heap[g]? := by
  simp [setBlock, Array.getElem?_setIfInBounds_ne (Ne.symm h)]
theorem setBlock_size {w : World} {b : Nat} {o : Obj} : (setBlock w b o).heap.size = w.heap.size := by simp [setBlock]
theorem setBlock_below {B : Nat} {w0 w : World} {b : Nat} {o : Obj} (h : Below B w0 w) (hB : B ≤ b) : Below B w0 (setBlock w b o) :=
  ⟨h.os, h.tape, h.output, by rw [setBlock_size]; exact h.size, fun k hk => by rw [setBlock_other (by omega)]; exact h.block k hk⟩
section
variable {ops : Array Oper} {rest : List Oper} {o : Oper} {a : Act} {w : World} {Q : Exit → Act → World → Prop}
theorem wpList_update2 (hg : o.guard = none) (T : TypeId) (m k v : Operand) (hop : o.op = .mapUpdate T m k v) {K E : TypeId} (h : Key2 P K) (hT : P.underlying T = some (.map K E)) {x y : Int} (hx : InR x) (hy : InR y) (b : Nat) (L : List Ent) (cl : Nat)
    (hma : a.eval m = .map (some b)) (hka : a.eval k = key2 x y) (hL : ∀ e ∈ L, InR e.k1 ∧ InR e.k2) (hm : Map w b L cl)
    (hK : ∀ W2, Map W2 b (upd L x y (a.eval v) cl) (updC L x y cl) → (∀ g, g ≠ b → W2.heap[g]? = w.heap[g]?) → (∀ B w0, B ≤ b → Below B w0 w → Below B w0 W2) → W2.heap.size = w.heap.size → wpList P ops Q rest (a.put o.dst undef) W2) : wpList P ops Q (o :: rest) a w := by
  refine wpList_plain hg fun _ hK' => ?_
  unfold Oper.wp execOp
  simp only [hop, hma, hka, Sem.run_bind, run_update2 h hT hx hy (a.eval v) w b L cl hL hm, Result.andThen_ok, Sem.run_pure]
  exact hK' _ _ (hK _ (setBlock_same hm.lt) (fun g hg => setBlock_other hg) (fun B w0 hB hb => setBlock_below hb hB) setBlock_size)
/-- a range begins -/
theorem wpList_range2 (hg : o.guard = none) (T : TypeId) (m : Operand) (hop : o.op = .range T m) {K E : TypeId} (hT : P.underlying T = some (.map K E)) (b : Nat) (es : Array MapEntry) (cl : Nat)
    (hma : a.eval m = .map (some b)) (hm : w.heap[b]? = some (.map es cl))
    (hK : ∀ W2, W2 = w.alloc (.mapIter (some b) cl #[] cl) → wpList P ops Q rest (a.put o.dst (.pointer (some ⟨w.heap.size, 0, none⟩))) W2) : wpList P ops Q (o :: rest) a w := by
  refine wpList_plain hg fun _ hK' => ?_
  have hgo : (getObj b).run P w = .ok (.map es cl) w := by simp [getObj, Sem.run, hm]
  have hr : (Instr.range T (.map (some b))).run P w = .ok (.pointer (some ⟨w.heap.size, 0, none⟩)) (w.alloc (.mapIter (some b) cl #[] cl)) := by
    simp only [Instr.range, Sem.run_bind, run_underlying hT, Result.andThen, hgo, Sem.run_pure]
    rfl
  unfold Oper.wp execOp
  simp only [hop, hma, Sem.run_bind, hr, Result.andThen_ok, Sem.run_pure]
  exact hK' _ _ (hK _ rfl)
/-- its step: nothing is left, or some entry comes -/
theorem wpList_next2 (hg : o.guard = none) (it : Operand) (hop : o.op = .next it false) (r b since c0 : Nat) (seen : Array Nat) (es : Array MapEntry) (cl : Nat) (hit : a.eval it = .pointer (some ⟨r, 0, none⟩))
    (hr : w.heap[r]? = some (.mapIter (some b) since seen c0)) (hb : w.heap[b]? = some (.map es cl)) (hold : ∀ x ∈ es.toList, x.born < since) (hsc : since ≤ c0)
    (hDone : (leftOf es seen).size = 0 → wpList P ops Q rest (a.put o.dst (.tuple #[.bool false])) w)
    (hMore : ∀ e ∈ (leftOf es seen).toList, ∀ W2 : World, W2.heap[r]? = some (.mapIter (some b) since (seen.push e.born) cl) → (∀ g, g ≠ r → W2.heap[g]? = w.heap[g]?) → (∀ B w0, B ≤ r → Below B w0 w → Below B w0 W2) → W2.heap.size = w.heap.size →
      wpList P ops Q rest (a.put o.dst (.tuple #[.bool true, e.key, e.val])) W2) : wpList P ops Q (o :: rest) a w := by
  refine wpList_plain hg fun _ hK' => ?_
  unfold Oper.wp execOp
  rcases run_next_at (P := P) w o.type r b since c0 seen es cl hr hb hold hsc with ⟨h0, hrun⟩ | ⟨e, he, w1, hw1, hrun⟩
  · simp only [hop, hit, Sem.run_bind, hrun, Result.andThen_ok, Sem.run_pure]
    exact hK' _ _ (hDone h0)
  · simp only [hop, hit, Sem.run_bind, hrun, Result.andThen_ok, Sem.run_pure]
    have hlt : r < w.heap.size := by
      rcases Nat.lt_or_ge r w.heap.size with h' | h'
      · exact h'
      · rw [Array.getElem?_eq_none h'] at hr; cases hr
    rcases hw1 with rfl | rfl
    · exact hK' _ _ (hMore e he _ (setBlock_same hlt) (fun g hg => setBlock_other hg) (fun B w0 hB hb => setBlock_below hb hB) setBlock_size)
    · exact hK' _ _ (hMore e he _ (setBlock_same (w := w.drew) hlt) (fun g hg => setBlock_other hg) (fun B w0 hB hb => setBlock_below hb.drew hB) setBlock_size)
end
end
/-- blocks and one map -/
structure HasM (W : World) (fs : List (Nat × TypeId × Array Value)) (b : Nat) (L : List Ent) (cl : Nat) (w : World) : Prop where
  has : Has W fs w
  map : Map w b L cl
section
variable {W w w' : World} {fs : List (Nat × TypeId × Array Value)} {b cl : Nat} {L : List Ent}
theorem HasM.step (h : HasM W fs b L cl w) (hb : Below w.heap.size w w') : HasM W fs b L cl w' := ⟨h.has.step hb, h.map.step hb⟩
theorem HasM.drew (h : HasM W fs b L cl w) : HasM W fs b L cl w.drew := h.step (Below.refl _ _).drew
theorem HasM.get (h : HasM W fs b L cl w) (i : Nat) {f : Nat × TypeId × Array Value} (hi : fs[i]? = some f) : Blk w f.1 f.2.1 f.2.2 := h.has.get i hi
theorem HasM.below (h : HasM W fs b L cl w) : Below W.heap.size W w := h.has.below
theorem HasM.size (h : HasM W fs b L cl w) : W.heap.size ≤ w.heap.size := h.has.size
theorem HasM.of_mem {gs : List (Nat × TypeId × Array Value)} (h : HasM W fs b L cl w) (hm : ∀ f ∈ gs, f ∈ fs) : HasM W gs b L cl w := ⟨h.has.of_mem hm, h.map⟩
theorem Map.ne_blk {g : Nat} {t : TypeId} {cs : Array Value} (h : Map w b L cl) (h' : Blk w g t cs) : g ≠ b := fun e => by
  subst e; unfold Map at h; unfold Blk at h'; rw [h] at h'; cases h'
theorem HasM.turned {L' : List Ent} {cl' : Nat} (h : HasM W fs b L cl w) (hb : W.heap.size ≤ b) (hn : Map w' b L' cl') (hfar : ∀ g, g ≠ b → w'.heap[g]? = w.heap[g]?) (hbel : ∀ B w0, B ≤ b → Below B w0 w → Below B w0 w') : HasM W fs b L' cl' w' :=
  ⟨⟨hbel _ _ hb h.has.1, fun f hf => by
    have hk := h.has.2 f hf
    unfold Blk at *
    rw [hfar _ (h.map.ne_blk hk)]; exact hk⟩, hn⟩
end
/-- the entries' stamps -/
def LB (L : List Ent) (cl : Nat) : Prop := (∀ e ∈ L, e.born < cl) ∧ (L.map (·.born)).Nodup
theorem upd_mem : ∀ {L : List Ent} {x y : Int} {v : Value} {cl : Nat} {e : Ent}, e ∈ upd L x y v cl → (∃ f ∈ L, f.born = e.born) ∨ e.born = cl
  | [], _, _, _, _, e, h => by
    simp only [upd, List.mem_singleton] at h
    subst h; exact .inr rfl
  | f :: fs, x, y, v, cl, e, h => by
    unfold upd at h
    split at h
    · rcases List.mem_cons.1 h with rfl | h
      · exact .inl ⟨f, List.mem_cons_self, rfl⟩
      · exact .inl ⟨e, List.mem_cons_of_mem _ h, rfl⟩
    · rcases List.mem_cons.1 h with rfl | h
      · exact .inl ⟨_, List.mem_cons_self, rfl⟩
      · rcases upd_mem h with ⟨g, hg, hb⟩ | hb
        · exact .inl ⟨g, List.mem_cons_of_mem _ hg, hb⟩
        · exact .inr hb
theorem upd_born : ∀ {L : List Ent} {x y : Int} {v : Value} {cl : Nat}, (upd L x y v cl).map (·.born) = if (seek L x y 0).isSome then L.map (·.born) else L.map (·.born) ++ [cl]
  | [], _, _, _, _ => rfl
  | f :: fs, x, y, v, cl => by
    unfold upd seek
    split
    · rfl
    · rw [show 0 + 1 = 1 + 0 from rfl, seek_shift, Option.isSome_map]
      simp only [List.map_cons, upd_born (L := fs) (x := x) (y := y) (v := v) (cl := cl)]
      split <;> rfl
theorem LB.upd {L : List Ent} {cl : Nat} (h : LB L cl) (x y : Int) (v : Value) : LB (upd L x y v cl) (updC L x y cl) := by
  constructor
  · intro e he
    unfold updC
    have hm : e.born ∈ (Mp.upd L x y v cl).map (·.born) := List.mem_map.2 ⟨e, he, rfl⟩
    rw [upd_born] at hm
    split at hm
    · rename_i hs
      rw [if_pos hs]
      obtain ⟨f, hf, hb⟩ := List.mem_map.1 hm
      rw [← hb]; exact h.1 f hf
    · rename_i hs
      rw [if_neg hs]
      rcases List.mem_append.1 hm with hm | hm
      · obtain ⟨f, hf, hb⟩ := List.mem_map.1 hm
        have := h.1 f hf; omega
      · simp only [List.mem_singleton] at hm; omega
  · rw [upd_born]
    split
    · exact h.2
    · refine List.nodup_append.2 ⟨h.2, by simp, fun a ha b hb => ?_⟩
      simp only [List.mem_singleton] at hb
      obtain ⟨f, hf, hb'⟩ := List.mem_map.1 ha
      have := h.1 f hf; omega
theorem LB.hold {L : List Ent} {cl : Nat} (h : LB L cl) : ∀ x ∈ (L.map Ent.row).toArray.toList, x.born < cl := fun x hx => by
  simp only [List.mem_map] at hx
  obtain ⟨e, he, rfl⟩ := hx
  exact h.1 e he
theorem LB.nodup {L : List Ent} {cl : Nat} (h : LB L cl) : ((L.map Ent.row).toArray.toList.map (·.born)).Nodup := by
  have e : (L.map Ent.row).map (·.born) = L.map (·.born) := by simp [Ent.row, Function.comp_def]
  simpa [e] using h.2
/-- a walk over a map that is under way -/
def Ranging (b cl r : Nat) (w : World) : Prop := ∃ seen c0, w.heap[r]? = some (.mapIter (some b) cl seen c0) ∧ cl ≤ c0
theorem Ranging.lt {b cl r : Nat} {w : World} (h : Ranging b cl r w) : r < w.heap.size := by
  obtain ⟨seen, c0, h, _⟩ := h
  rcases Nat.lt_or_ge r w.heap.size with h' | h'
  · exact h'
  · rw [Array.getElem?_eq_none h'] at h; cases h
theorem Ranging.step {b cl r : Nat} {w w' : World} (h : Ranging b cl r w) (hb : Below w.heap.size w w') : Ranging b cl r w' := by
  have hlt := h.lt
  obtain ⟨seen, c0, h, h2⟩ := h
  exact ⟨seen, c0, by rw [hb.block r hlt]; exact h, h2⟩
theorem left_step {w w' : World} {b r : Nat} (hb : Below w.heap.size w w') (h1 : b < w.heap.size) (h2 : r < w.heap.size) : w'.rangeLeft b r = w.rangeLeft b r := by
  unfold World.rangeLeft; rw [hb.block b h1, hb.block r h2]
theorem left_eq {w : World} {b r cl' since c0 : Nat} {es : Array MapEntry} {seen : Array Nat} (hb : w.heap[b]? = some (.map es cl')) (hr : w.heap[r]? = some (.mapIter (some b) since seen c0)) : w.rangeLeft b r = (leftOf es seen).size := by
  unfold World.rangeLeft; rw [hb, hr]
end Go.Proofs.YtlfomhdphbchpaaGreatDoor.Mp
