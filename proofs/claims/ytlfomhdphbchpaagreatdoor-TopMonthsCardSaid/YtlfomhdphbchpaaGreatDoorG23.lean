/- Lemmas of a claim, several texts in one: AccB, DecJ -/
import Derived.Test.YtlfomhdphbchpaaGreatDoorG11
import Derived.Test.YtlfomhdphbchpaaGreatDoorG10
import Derived.Test.YtlfomhdphbchpaaGreatDoorG12
/-! prod.Tiers, accrue.parts of one tier; Pay, Fee -/
namespace Go.Proofs.YtlfomhdphbchpaaGreatDoor.Acc
open Go.RowKit Go.Deep Go.Proofs.YtlfomhdphbchpaaGreatDoor.Wide Go.Proofs.YtlfomhdphbchpaaGreatDoor.Dec
open Go.Proofs.YtlfomhdphbchpaaGreatDoor.Cal hiding results_one results_two
set_option linter.unusedVariables false
set_option linter.unusedSimpArgs false
/-- one tier, from nought on, at a rate r -/
structure Tier1 (g : Nat) (r : Int) (w : World) : Prop where
  lt : g < w.heap.size
  from0 : w.cell? ⟨g, 0, none⟩ = some (.int .i64 0)
  rate : w.cell? ⟨g, 1, none⟩ = some (.int .i64 r)
theorem Tier1.step {g : Nat} {r : Int} {w w' : World} (h : Tier1 g r w) (hb : Below w.heap.size w w') : Tier1 g r w' :=
  ⟨Nat.lt_of_lt_of_le h.lt hb.size, (hb.cell (p := ⟨g, 0, none⟩) h.lt).trans h.from0, (hb.cell (p := ⟨g, 1, none⟩) h.lt).trans h.rate⟩
set_option maxHeartbeats 4000000 in
set_option maxRecDepth 100000 in
theorem tiers_ok (g : Nat) (r : Int) (c : Nat) (hr : 0 ≤ r ∧ r ≤ 1000000000) (W : World) (hT : Tier1 g r W) :
    Calls Tryz.prog 94 #[.slice (some ⟨g, 0, none⟩) 1 c] W fun e w' => e = .returned (.int .i64 0) ∧ Below W.heap.size W w' := by
  have CW := Lib.hid (fun W' => within_ok r 1000000000 hr.1 hr.2 W')
  obtain ⟨hlt, hc0, hc1⟩ := hT
  clear hr
  go_enter Tryz.func94, Tryz.ntmps94
  go_wp2_with fail
  go_loopw [20] (fun i wr => ∃ k : Nat, k ≤ 1 ∧ i = .int .i64 k ∧ Hid (Below W.heap.size W wr)) (fun i _ => 1 - (intOf i).toNat)
  case atStart => exact ⟨0, by omega, rfl, Lib.hid (Below.refl _ _)⟩
  case round =>
    obtain ⟨k, hk, rfl, HB⟩ := hrel
    have h0 : wr.cell? ⟨g, 0, none⟩ = some (.int .i64 0) := (HB.out.cell (p := ⟨g, 0, none⟩) hlt).trans hc0
    have h1 : wr.cell? ⟨g, 1, none⟩ = some (.int .i64 r) := (HB.out.cell (p := ⟨g, 1, none⟩) hlt).trans hc1
    have HC := Lib.hid hc0
    have HC1 := Lib.hid hc1
    clear hc0 hc1
    by_cases hk0 : k = 0
    · subst hk0
      go_wp2_with fail
      have H1 : Has W [(wr.heap.size, 66, #[.int .i64 0, .int .i64 r])] (wr.alloc (.cells #[.int .i64 0, .int .i64 r] 66)) := Has.cons (Blk.new _ _ _) (Has.nil (Below.al HB.out _))
      obtain ⟨b, hb⟩ : ∃ b, b = wr.heap.size := ⟨_, rfl⟩
      rw [← hb] at H1 ⊢
      have HH := Lib.hid H1
      clear h0 h1 H1 hb
      refine wp_region_class (fun w' => Has W [(b, 66, #[.int .i64 0, .int .i64 r])] w') [0, 1, 2, 3, 4, 5, 6, 7, 8, 9, 10, 11, 12, 13, 14, 15, 16, 17, 18, 19, 20, 21, 22, 23] (by kernel_rfl) (by kernel_rfl) HH.out.drew ?_
      simp only [List.map_cons, List.map_nil, opAt, List.getElem?_cons_succ, List.getElem?_cons_zero, Option.getD_some]
      repeat (go_big_quiet_step ((intro _; rfl)))
      refine wpQuiet_cell 2 (.tmp 39) rfl rfl ⟨b, 0, none⟩ rfl (.int .i64 0) _ (fun w hw => (hw.get 0 rfl).cell 0) Tryz.underlying2 rfl (fun KK hKK => ?_)
      go_simp
      refine hKK _ ?_
      clear hKK KK
      repeat (go_big_quiet_step ((intro _; rfl)))
      refine wpQuiet_cell 2 (.tmp 44) rfl rfl ⟨b, 1, none⟩ rfl (.int .i64 r) _ (fun w hw => (hw.get 0 rfl).cell 1) Tryz.underlying2 rfl (fun KK hKK => ?_)
      go_simp
      refine hKK _ ?_
      clear hKK KK
      go_big_quiet_step ((intro hw; exact (CW.out _).mono fun e w' h => ⟨h.1, h.2 ▸ hw⟩))
      repeat (go_big_quiet_step ((intro _; rfl)))
      refine wpQuiet_nil ?_
      intro w2 H2
      have H3 := Lib.hid H2.below
      clear H2 HH HB
      go_wp2_with fail
      go_roundw
      case rel => exact ⟨1, by omega, by go_num, H3⟩
      case measure => simp [intOf]
    · obtain rfl : k = 1 := by omega
      go_wp2_with fail
      exact bodyPost_ret (results_one rfl _ _ rfl) rfl ⟨rfl, HB.out⟩
/-- a part of a balance, of one tier -/
def part1 (b : Int) : Int := if 0 < b then b else 0
set_option maxHeartbeats 4000000 in
set_option maxRecDepth 100000 in
theorem parts_ok (b : Int) (hbm : b ≤ 10000000000000) (g : Nat) (r : Int) (c : Nat) (W : World) (hT : Tier1 g r W) :
    Calls Tryz.prog 96 #[.int .i64 b, .slice (some ⟨g, 0, none⟩) 1 c] W fun e w' => e = .returned (.slice (some ⟨W.heap.size, 0, none⟩) 1 1) ∧ Has W [(W.heap.size, 2, #[.int .i64 (part1 b)])] w' := by
  obtain ⟨hlt, hc0, hc1⟩ := hT
  have info : (Tryz.prog.info? 2).map (fun i => (i.zero, i.size, i.bytes)) = some (some (.int .i64 0), 1, 8) := by kernel_rfl
  obtain ⟨i0, hi, hz0, hz1, hz2⟩ := info_parts info
  have hmk : (Instr.makeSlice 111 (.int .i64 1) (.int .i64 1)).run Tryz.prog W = .ok (.slice (some ⟨W.heap.size, 0, none⟩) 1 1) (W.alloc (.cells #[.int .i64 0] 2)) := by
    have := run_make_rowN (P := Tryz.prog) 111 2 i0 (.int .i64 0) Tryz.underlying111 hi hz0 .i64 .i64 1 1 (Nat.le_refl _) (by rw [hz2]; omega) (by omega) W
    rw [hz1, show madeCells (Value.int .i64 0).cells (1 * 1) = #[Value.int .i64 0] from by kernel_rfl] at this
    exact this
  have HC := Lib.hid hc0
  clear info hi hz0 hz1 hz2 hc1 hc0
  go_enter Tryz.func96, Tryz.ntmps96
  go_wp2_with fail
  clear hmk
  go_loopw [0, 6] (fun d i wr => ∃ (k : Nat) (z : Int), k ≤ 1 ∧ d = .int .i64 z ∧ i = .int .i64 ((k : Int) - 1) ∧ (k = 1 → z = b) ∧ Hid (Has W [(W.heap.size, 2, #[.int .i64 (if k = 1 then 0 else part1 b)])] wr)) (fun _ i _ => (intOf i + 1).toNat)
  case atStart =>
    exact ⟨1, b, by omega, rfl, rfl, fun _ => rfl, Lib.hid (Has.cons (Blk.new _ _ _) (Has.nil (Below.al (Below.refl _ _) _)))⟩
  case round =>
    obtain ⟨k, z, hk, rfl, rfl, hz, HH⟩ := hrel
    by_cases hk1 : k = 1
    · subst hk1
      obtain rfl := hz rfl
      have HH' : Hid (Has W [(W.heap.size, 2, #[.int .i64 0])] wr) := HH
      have h0 : wr.cell? ⟨g, 0, none⟩ = some (.int .i64 0) := (HH.out.below.cell (p := ⟨g, 0, none⟩) hlt).trans HC.out
      have hne : Hid (g ≠ W.heap.size) := Lib.hid (by omega)
      clear hz HH
      have e1 : ((1 : Nat) : Int) - 1 = 0 := rfl
      rw [e1]
      clear e1
      by_cases hb : 0 < z
      · have c0 : wr.cell? ⟨W.heap.size, 0, none⟩ = some (.int .i64 0) := (HH'.out.get 0 rfl).cell 0
        have f0 := (HH'.out.get 0 rfl).frozen 0
        have hp : part1 z = z := if_pos hb
        have HP := Lib.hid hp
        have hset := Lib.hid (HH'.out.setAt 0 rfl (Nat.le_refl _) (by simp) 0 (.int .i64 z))
        have h0' : (wr.setCell ⟨W.heap.size, 0, none⟩ (.int .i64 z)).cell? ⟨g, 0, none⟩ = some (.int .i64 0) := by
          exact ((HH'.out.below.setCell (p := ⟨W.heap.size, 0, none⟩) (Nat.le_refl _) _).cell (p := ⟨g, 0, none⟩) hlt).trans HC.out
        clear hp
        go_wp2_with fail
        go_roundw
        case rel => exact ⟨0, 0, by omega, rfl, rfl, by omega, Lib.hid (by have := hset.out; simp only [if_neg (show ¬ (0 : Nat) = 1 by omega), HP.out]; exact this)⟩
        case measure => simp [intOf]
      · have hp : part1 z = 0 := if_neg hb
        have HP := Lib.hid hp
        clear hp
        go_wp2_with fail
        go_roundw
        case rel => exact ⟨0, z, by omega, rfl, rfl, by omega, Lib.hid (by have := HH'.out; simp only [if_neg (show ¬ (0 : Nat) = 1 by omega), HP.out]; exact this)⟩
        case measure => simp [intOf]
    · obtain rfl : k = 0 := by omega
      have H2 : Has W [(W.heap.size, 2, #[.int .i64 (part1 b)])] wr := HH.out
      clear HH hz
      go_wp2_with fail
      exact bodyPost_ret (results_one rfl _ _ rfl) rfl ⟨rfl, H2⟩
def payB (m r : Int) : Bool := decide (0 ≤ m ∧ m ≤ 4000000000000000000 ∧ 0 ≤ r ∧ r ≤ 20000000000000)
def payX (m r : Int) : Int := if payB m r then min (m / 1000000) r else 0
def payY (m r : Int) : Int := if payB m r then m % 1000000 else 0
def payE (m r : Int) : Int := if payB m r then 0 else 1
set_option maxHeartbeats 4000000 in
theorem pay_ok (m r : Int) (W : World) : Calls Tryz.prog 60 #[.int .i64 m, .int .i64 r] W fun e w' => e = .returned (.tuple #[.int .i64 (payX m r), .int .i64 (payY m r), .int .i64 (payE m r)]) ∧ w' = W := by
  unfold payX payY payE
  by_cases h : 0 ≤ m ∧ m ≤ 4000000000000000000 ∧ 0 ≤ r ∧ r ≤ 20000000000000
  · rw [show payB m r = true by simpa [payB] using h]
    simp only [if_true]
    obtain ⟨h1, h2, h3, h4⟩ := h
    have d1 : decide (m < 0) = false := by simpa using h1
    have d2 : decide (4000000000000000000 < m) = false := by simpa using h2
    have d3 : decide (r < 0) = false := by simpa using h3
    have d4 : decide (20000000000000 < r) = false := by simpa using h4
    go_enter Tryz.func60, Tryz.ntmps60
    go_wp2_with fail
    exact bodyPost_ret (results_three rfl _ _ rfl rfl rfl) rfl ⟨by first | rfl | simp, rfl⟩
  · rw [show payB m r = false by simpa [payB] using h]
    simp only [Bool.false_eq_true, if_false]
    by_cases h1 : m < 0
    · clear h
      go_enter Tryz.func60, Tryz.ntmps60
      go_wp2_with fail
      exact bodyPost_ret (results_three rfl _ _ rfl rfl rfl) rfl ⟨rfl, rfl⟩
    · have d1 : decide (m < 0) = false := by simpa using h1
      by_cases h2 : 4000000000000000000 < m
      · clear h h1
        go_enter Tryz.func60, Tryz.ntmps60
        go_wp2_with fail
        exact bodyPost_ret (results_three rfl _ _ rfl rfl rfl) rfl ⟨rfl, rfl⟩
      · have d2 : decide (4000000000000000000 < m) = false := by simpa using h2
        by_cases h3 : r < 0
        · clear h h1 h2
          go_enter Tryz.func60, Tryz.ntmps60
          go_wp2_with fail
          exact bodyPost_ret (results_three rfl _ _ rfl rfl rfl) rfl ⟨rfl, rfl⟩
        · have d3 : decide (r < 0) = false := by simpa using h3
          have h4 : 20000000000000 < r := by omega
          clear h h1 h2 h3
          go_enter Tryz.func60, Tryz.ntmps60
          go_wp2_with fail
          exact bodyPost_ret (results_three rfl _ _ rfl rfl rfl) rfl ⟨rfl, rfl⟩
def feeE (b : Int) : Int := if amtB b then 0 else 1
set_option maxHeartbeats 4000000 in
theorem fee0_ok (b : Int) (hb : 0 ≤ b) (W : World) : Calls Tryz.prog 61 #[.int .i64 b, .int .i64 0, .int .i64 0] W fun e w' => e = .returned (.tuple #[.int .i64 0, .int .i64 (feeE b)]) ∧ w' = W := by
  have CA := Lib.hid (fun W' => amount_ok b W')
  have C0 := Lib.hid (fun W' => amount_ok 0 W')
  rw [show amtB 0 = true from rfl] at C0
  unfold feeE
  cases ha : amtB b with
  | true =>
    rw [ha] at CA
    have hb2 : b ≤ 10000000000000 := by simp [amtB] at ha; omega
    clear ha
    simp only [if_true]
    go_enter Tryz.func61, Tryz.ntmps61
    go_wp2_with fail
    refine (CA.out _).mono ?_
    rintro e w1 ⟨rfl, rfl⟩
    go_wp2_with fail
    refine (C0.out _).mono ?_
    rintro e w1 ⟨rfl, rfl⟩
    have e1 : min 0 b = 0 := by omega
    go_wp2_with fail
    exact bodyPost_ret (results_two rfl _ _ rfl rfl) rfl ⟨by first | rfl | simp, rfl⟩
  | false =>
    rw [ha] at CA
    clear ha
    simp only [Bool.false_eq_true, if_false]
    go_enter Tryz.func61, Tryz.ntmps61
    go_wp2_with fail
    refine (CA.out _).mono ?_
    rintro e w1 ⟨rfl, rfl⟩
    go_wp2_with fail
    exact bodyPost_ret (results_two rfl _ _ rfl rfl) rfl ⟨rfl, rfl⟩
end Go.Proofs.YtlfomhdphbchpaaGreatDoor.Acc

/-! dec: Quo (of whole numbers) -/
namespace Go.Proofs.YtlfomhdphbchpaaGreatDoor.Dec
open Go.RowKit Go.Deep Go.Proofs.YtlfomhdphbchpaaGreatDoor.Wide
set_option linter.unusedVariables false
set_option linter.unusedSimpArgs false
theorem mul1_ok (a : Nat) (ha : a < P 6) (W : World) : Calls Tryz.prog 148 #[.agg (enc a), .agg (enc (10 ^ 0))] W fun e w' => e = .returned (.agg (enc a)) ∧ Below W.heap.size W w' := by
  have := mul_ok a (10 ^ 0) ha W
  rwa [Nat.pow_zero, Nat.mul_one] at this
theorem ten0_ok (W : World) : Calls Tryz.prog 149 #[.int .i64 0] W fun e w' => e = .returned (.agg (enc (10 ^ 0))) ∧ Below W.heap.size W w' := ten_ok 0 (by omega) W
set_option maxHeartbeats 4000000 in
set_option maxRecDepth 100000 in
theorem quo0_ok (a b mode : Int) (hmode : 0 ≤ mode ∧ mode ≤ 6) (ha : InT a) (hb : InT b) (ha' : a ≠ -170141183460469231731687303715884105728) (hb' : b ≠ -170141183460469231731687303715884105728) (hb0 : b ≠ 0) (W : World) :
    Calls Tryz.prog 99 #[.agg (decE a 0), .agg (decE b 0), .int .i64 0, .int .i64 mode] W fun e w' => e = .returned (.tuple #[.agg (decE (rndC mode (mulM a b) a.natAbs b.natAbs) 0), .int .i64 (togE (roundN mode (mulM a b) a.natAbs b.natAbs))]) ∧ Below W.heap.size W w' := by
  have CW := Lib.hid (fun W' => way_ok 0 mode ⟨by omega, by omega, hmode.1, hmode.2⟩ W')
  have CB := Lib.hid (fun W' => both_ok a 0 b 0 ha hb (chk0 ha') W')
  rw [chk0 hb'] at CB
  have CA := Lib.hid (fun W' => apart_ok a 0 ha W')
  have CC := Lib.hid (fun W' => apart_ok b 0 hb W')
  have bT : 2 * b.natAbs < P 6 := by
    have h : b.natAbs ≤ T := by unfold InT at hb; unfold T; omega
    have := big_lt; have : 2 * T ≤ 10 ^ 18 * (T * T) := by decide +kernel
    omega
  have aT : a.natAbs + 1 < P 6 := by
    have h : a.natAbs ≤ T := by unfold InT at ha; unfold T; omega
    have := big_lt; have : T + 1 ≤ 10 ^ 18 * (T * T) := by decide +kernel
    omega
  have CM := Lib.hid (fun W' => mul1_ok a.natAbs (abs6 ha) W')
  have CT := Lib.hid (fun W' => ten0_ok W')
  have CL := Lib.hid (fun W' => len_ok b.natAbs (abs6 hb) W')
  obtain ⟨L, hLe⟩ : ∃ L, L = Go.bitLen b.natAbs := ⟨_, rfl⟩
  rw [← hLe] at CL
  have e0 : ((L : Int) == 0) = false := beq_eq_false_iff_ne.2 (by
    have h := bitLen_pos (n := b.natAbs) (by omega)
    omega)
  have CR := Lib.hid (fun W' => rounded_ok (mulM a b) a.natAbs b.natAbs 0 mode hmode aT (by omega) bT W')
  have e2 : togS (roundN mode (mulM a b) a.natAbs b.natAbs) 0 = 0 := by unfold togS; split <;> rfl
  rw [e2] at CR
  have hm : mulM a b = !(decide (a < 0) == decide (b < 0)) := rfl
  obtain ⟨r, hr⟩ : ∃ r, r = rndC mode (mulM a b) a.natAbs b.natAbs := ⟨_, rfl⟩
  obtain ⟨t, ht⟩ : ∃ t, t = togE (roundN mode (mulM a b) a.natAbs b.natAbs) := ⟨_, rfl⟩
  rw [← hr, ← ht] at CR ⊢
  rw [hm] at CR
  obtain ⟨x, hx⟩ : ∃ x, x = a.natAbs := ⟨_, rfl⟩
  obtain ⟨y, hy⟩ : ∃ y, y = b.natAbs := ⟨_, rfl⟩
  obtain ⟨k, hk⟩ : ∃ k, k = decide (a < 0) := ⟨_, rfl⟩
  obtain ⟨j, hj⟩ : ∃ j, j = decide (b < 0) := ⟨_, rfl⟩
  rw [← hx, ← hk] at CA
  rw [← hy, ← hj] at CC
  rw [← hx] at CM
  rw [← hy] at CL
  rw [← hx, ← hy, ← hk, ← hj] at CR
  clear hm hr ht e2 hx hy hk hj hmode ha hb ha' hb' hb0 hLe aT bT
  have hinit : ∀ w1, w1 = ((W.alloc (.cells (decE a 0) 168)).alloc (.cells (decE b 0) 168)).alloc (.cells #[.int .i64 0, .int .u64 0, .int .i64 0] 168) →
      Has W [(W.heap.size, 168, decE a 0), (W.heap.size + 1, 168, decE b 0), (W.heap.size + 2, 168, decE 0 0)] w1 := fun w1 e => by
    subst e
    refine Has.cons ?_ (Has.cons ?_ (Has.cons ?_ (Has.nil ?_)))
    · exact ((Blk.new _ _ _).alloc _).alloc _
    · exact (Blk.new' (by simp)).alloc _
    · exact Blk.new' (by simp)
    · exact Below.al (Below.al (Below.al (Below.refl _ _) _) _) _
  have HI := Lib.hid (hinit _ rfl)
  clear hinit
  rw [decE, decE]
  go_enter Tryz.func99, Tryz.ntmps99
  go_wp2_with fail
  refine (CW.out _).mono ?_
  rintro e w1 ⟨rfl, rfl⟩
  go_wp2_with fail
  refine (CB.out _).mono ?_
  rintro e w1 ⟨rfl, hb1⟩
  have H1 := Lib.hid (HI.out.step hb1)
  clear hb1 HI
  go_wp2_with fail
  refine wp_region_reg (fun w' => Has W [(W.heap.size, 168, decE a 0), (W.heap.size + 1, 168, decE b 0), (W.heap.size + 2, 168, decE 0 0)] w') (fun _ => (248, numE false 0 0)) [0, 1, 2, 3] [4, 5] [6, 7] (by kernel_rfl) (by kernel_rfl) (fun w w' h hb => h.step hb) ?_ (fun k hk => by simp only [List.mem_cons, List.not_mem_nil, or_false] at hk; first | (subst hk; exact ⟨rfl, fun a w => by simp only [opAt, List.getElem?_cons_succ, List.getElem?_cons_zero, Option.getD_some]; go_simp <;> rfl⟩) | (rcases hk with rfl | rfl <;> exact ⟨rfl, fun a w => by simp only [opAt, List.getElem?_cons_succ, List.getElem?_cons_zero, Option.getD_some]; go_simp <;> rfl⟩)) ?_
  · exact H1.out.drew
  have hN := Lib.hid (H1.out.get 2 rfl).lt
  clear H1
  simp only [List.map_cons, List.map_nil, opAt, List.getElem?_cons_succ, List.getElem?_cons_zero, Option.getD_some]
  refine wpB_pure rfl ?_
  refine wpQuiet_row 168 (.tmp 4) rfl rfl W.heap.size rfl 168 (decE a 0) _ (fun w hw => hw.get 0 rfl) Tryz.underlying168 rfl (by first | kernel_rfl | (rw [enc_size]; kernel_rfl)) (fun KK hKK => ?_)
  go_simp
  refine hKK _ ?_
  clear hKK KK
  refine wpQuiet_nil ?_
  refine wpB_call (.agg (numE k x 0)) 143 #[.agg (decE a 0)] rfl (fun w => by go_simp) (fun w hw => CA.out _) (fun KK hKK => ?_)
  go_simp
  refine hKK _ ?_
  clear hKK KK
  refine wpB_pure rfl ?_
  refine wpQuiet_row 168 (.tmp 5) rfl rfl (W.heap.size + 1) rfl 168 (decE b 0) _ (fun w hw => hw.get 1 rfl) Tryz.underlying168 rfl (by first | kernel_rfl | (rw [enc_size]; kernel_rfl)) (fun KK hKK => ?_)
  go_simp
  refine hKK _ ?_
  clear hKK KK
  refine wpQuiet_nil ?_
  refine wpB_call (.agg (numE j y 0)) 143 #[.agg (decE b 0)] rfl (fun w => by go_simp) (fun w hw => CC.out _) (fun KK hKK => ?_)
  go_simp
  refine hKK _ ?_
  clear hKK KK
  refine wpB_nil ?_
  intro gs w2 H2
  intro hmade
  simp only [putAll, opAt, List.getElem?_cons_succ, List.getElem?_cons_zero, Option.getD_some, Act.put]
  obtain ⟨g, hg⟩ : ∃ g, g = gs 4 := ⟨_, rfl⟩
  obtain ⟨f, hf⟩ : ∃ f, f = gs 5 := ⟨_, rfl⟩
  obtain ⟨g1, g2⟩ := hmade.1 4 (by simp)
  obtain ⟨f1, f2⟩ := hmade.1 5 (by simp)
  have hgf := hmade.2 4 (by simp) 5 (by simp) (by decide)
  rw [← hg] at g1 g2 hgf ⊢
  rw [← hf] at f1 f2 hgf ⊢
  have hgW : Hid (W.heap.size + 2 < g ∧ W.heap.size + 2 < f ∧ g ≠ f) := Lib.hid ⟨Nat.lt_of_lt_of_le hN.out g1, Nat.lt_of_lt_of_le hN.out f1, hgf⟩
  have H3 := Lib.hid (Has.cons g2 (Has.cons f2 H2))
  clear hmade hg hf g1 g2 f1 f2 hgf H2 hN
  refine wpList_put rfl 248 (.tmp 12) (.tmp 32) rfl g (numE k x 0) rfl rfl 248 _ (H3.out.get 0 rfl) (by first | kernel_rfl | (rw [enc_size]; kernel_rfl)) (by first | rfl | (rw [enc_size]; rfl)) (by first | exact enc_all _ | exact numE_all _ _ _ | exact decE_all _ _ | (rw [Array.all_eq_true']; simp [Value.oneCell'])) ?_
  intro W4 HB4 hfar4 hbel4 hsz4 hcell4
  have H4 := Lib.hid (H3.out.upd 0 rfl (by have := hgW.out; omega) (by simp; have := hgW.out; omega) HB4 hfar4 hbel4)
  clear HB4 hfar4 hbel4 hsz4 hcell4 H3
  refine wpList_put rfl 248 (.tmp 13) (.tmp 34) rfl f (numE j y 0) rfl rfl 248 _ (H4.out.get 1 rfl) (by first | kernel_rfl | (rw [enc_size]; kernel_rfl)) (by first | rfl | (rw [enc_size]; rfl)) (by first | exact enc_all _ | exact numE_all _ _ _ | exact decE_all _ _ | (rw [Array.all_eq_true']; simp [Value.oneCell'])) ?_
  intro W5 HB5 hfar5 hbel5 hsz5 hcell5
  have H5 := Lib.hid (H4.out.upd 1 rfl (by have := hgW.out; omega) (by simp; have := hgW.out; omega) HB5 hfar5 hbel5)
  clear HB5 hfar5 hbel5 hsz5 hcell5 H4
  go_wp2_with fail
  rw [onlyNormal_normal]
  go_wp2_with (refine wpList_load_part rfl 246 (.tmp 35) rfl f 1 rfl 248 (numE j y 0) (enc y) _ (H5.out.get 1 rfl) (num_part j y 0) Tryz.underlying246 rfl (by first | kernel_rfl | (rw [enc_size]; kernel_rfl)) ?_)
  refine (CL.out _).mono ?_
  rintro e w6 ⟨rfl, hb6⟩
  have H6 := Lib.hid (H5.out.step hb6)
  clear hb6 H5
  go_wp2_with fail
  refine wp_region_regF (fun w' => Has W [(g, 248, numE k x 0), (f, 248, numE j y 0), (W.heap.size, 168, decE a 0), (W.heap.size + 1, 168, decE b 0), (W.heap.size + 2, 168, decE 0 0)] w') (fun w' => Has W [(f, 248, numE j y 0)] w') (fun _ => (246, enc 0)) [0, 1, 2, 3] [4, 5] [6, 7] [2, 3] (by kernel_rfl) (by kernel_rfl) ?_ (fun w w' h hb => h.step hb) ?_ (fun k hk => (by simp only [List.mem_cons, List.not_mem_nil, or_false] at hk; first | (subst hk; exact ⟨rfl, fun a w => by simp only [opAt, List.getElem?_cons_succ, List.getElem?_cons_zero, Option.getD_some]; go_simp <;> rfl⟩) | (rcases hk with rfl | rfl <;> exact ⟨rfl, fun a w => by simp only [opAt, List.getElem?_cons_succ, List.getElem?_cons_zero, Option.getD_some]; go_simp <;> rfl⟩))) ?_
  · exact fun w h => h.of_mem (by simp)
  · exact H6.out.drew
  have hN : Hid (g < w6.heap.size ∧ f < w6.heap.size) := Lib.hid ⟨(H6.out.get 0 rfl).lt, (H6.out.get 1 rfl).lt⟩
  clear H6
  simp only [List.map_cons, List.map_nil, opAt, List.getElem?_cons_succ, List.getElem?_cons_zero, Option.getD_some, List.contains_cons, List.contains_nil, Nat.reduceBEq, Bool.or_false, Bool.or_true, Bool.true_or, Bool.false_or]
  repeat (refine wpX_pure rfl ?_; go_big_quiet_step ((intro _; rfl)); refine wpQuiet_nil ?_)
  refine wpX_pure rfl ?_
  refine wpQuiet_part 246 (.tmp 40) rfl rfl g 1 rfl 248 (numE k x 0) (enc x) _ (fun w hw => hw.get 0 rfl) (num_part k x 0) Tryz.underlying246 rfl (by first | kernel_rfl | (rw [enc_size]; kernel_rfl)) (fun KK hKK => ?_)
  go_simp
  refine hKK _ ?_
  clear hKK KK
  refine wpQuiet_nil ?_
  repeat (refine wpX_float rfl ?_; go_big_quiet_step ((intro _; rfl)); refine wpQuiet_nil ?_)
  refine wpX_float rfl ?_
  refine wpQuiet_part 246 (.tmp 42) rfl rfl f 1 rfl 248 (numE j y 0) (enc y) _ (fun w hw => hw.get 0 rfl) (num_part j y 0) Tryz.underlying246 rfl (by first | kernel_rfl | (rw [enc_size]; kernel_rfl)) (fun KK hKK => ?_)
  go_simp
  refine hKK _ ?_
  clear hKK KK
  refine wpQuiet_nil ?_
  refine wpX_nil ?_
  intro gs w7 H7
  intro hmade
  simp only [putAll, wpTail, opAt, List.getElem?_cons_succ, List.getElem?_cons_zero, Option.getD_some, Act.put]
  obtain ⟨p, hp⟩ : ∃ p, p = gs 4 := ⟨_, rfl⟩
  obtain ⟨q, hq⟩ : ∃ q, q = gs 5 := ⟨_, rfl⟩
  obtain ⟨g1, g2⟩ := hmade.1 4 (by simp)
  obtain ⟨f1, f2⟩ := hmade.1 5 (by simp)
  have hgf := hmade.2 4 (by simp) 5 (by simp) (by decide)
  rw [← hp] at g1 g2 hgf ⊢
  rw [← hq] at f1 f2 hgf ⊢
  have hpW : Hid (g < p ∧ f < p ∧ g < q ∧ f < q ∧ p ≠ q) := Lib.hid ⟨Nat.lt_of_lt_of_le hN.out.1 g1, Nat.lt_of_lt_of_le hN.out.2 g1, Nat.lt_of_lt_of_le hN.out.1 f1, Nat.lt_of_lt_of_le hN.out.2 f1, hgf⟩
  have H8 := Lib.hid (Has.cons g2 (Has.cons f2 H7))
  clear hmade hp hq g1 g2 f1 f2 hgf H7 hN
  refine wpList_put rfl 246 (.tmp 14) (.tmp 41) rfl p (enc x) rfl rfl 246 _ (H8.out.get 0 rfl) (by first | kernel_rfl | (rw [enc_size]; kernel_rfl)) (by first | rfl | (rw [enc_size]; rfl)) (by first | exact enc_all _ | exact numE_all _ _ _ | exact decE_all _ _ | (rw [Array.all_eq_true']; simp [Value.oneCell'])) ?_
  intro W4 HB4 hfar4 hbel4 hsz4 hcell4
  have H9 := Lib.hid (H8.out.upd 0 rfl (by have := hgW.out; have := hpW.out; omega) (by simp; have := hgW.out; have := hpW.out; omega) HB4 hfar4 hbel4)
  clear HB4 hfar4 hbel4 hsz4 hcell4 H8
  go_wp2_with fail
  refine ⟨H9.out.of_mem (by simp), ?_⟩
  refine wpList_put rfl 246 (.tmp 15) (.tmp 43) rfl q (enc y) rfl rfl 246 _ (H9.out.get 1 rfl) (by first | kernel_rfl | (rw [enc_size]; kernel_rfl)) (by first | rfl | (rw [enc_size]; rfl)) (by first | exact enc_all _ | exact numE_all _ _ _ | exact decE_all _ _ | (rw [Array.all_eq_true']; simp [Value.oneCell'])) ?_
  intro W5 HB5 hfar5 hbel5 hsz5 hcell5
  have H10 := Lib.hid (H9.out.upd 1 rfl (by have := hgW.out; have := hpW.out; omega) (by simp; have := hgW.out; have := hpW.out; omega) HB5 hfar5 hbel5)
  clear HB5 hfar5 hbel5 hsz5 hcell5 H9
  go_wp2_with fail
  refine ⟨H10.out.of_mem (by simp), ?_⟩
  have cg : W5.cell? ⟨g, 7, none⟩ = some (.int .i64 0) := (H10.out.get 2 rfl).cell 7
  have cf : W5.cell? ⟨f, 7, none⟩ = some (.int .i64 0) := (H10.out.get 3 rfl).cell 7
  go_wp2_with fail
  clear cg cf
  refine wp_region_reg (fun w' => Has W [(p, 246, enc x), (q, 246, enc y), (g, 248, numE k x 0), (f, 248, numE j y 0), (W.heap.size + 2, 168, decE 0 0)] w') (fun _ => (0, #[])) [0, 1, 2, 3] [] [4] (by kernel_rfl) (by kernel_rfl) (fun w w' h hb => h.step hb) ?_ (fun k hk => by cases hk) ?_
  · exact H10.out.drew.of_mem (by simp)
  clear H10
  simp only [List.map_cons, List.map_nil, opAt, List.getElem?_cons_succ, List.getElem?_cons_zero, Option.getD_some]
  refine wpB_pure rfl ?_
  refine wpQuiet_row 246 (.tmp 14) rfl rfl p rfl 246 (enc x) _ (fun w hw => hw.get 0 rfl) Tryz.underlying246 rfl (by first | kernel_rfl | (rw [enc_size]; kernel_rfl)) (fun KK hKK => ?_)
  go_simp
  refine hKK _ ?_
  clear hKK KK
  refine wpQuiet_nil ?_
  repeat (refine wpB_pure rfl ?_; go_big_quiet_step ((intro _; rfl)); refine wpQuiet_nil ?_)
  refine wpB_call (.agg (enc (10 ^ 0))) 149 #[.int .i64 0] rfl (fun w => by go_simp) (fun w hw => CT.out _) (fun KK hKK => ?_)
  go_simp
  refine hKK _ ?_
  clear hKK KK
  refine wpB_call (.agg (enc x)) 148 #[.agg (enc x), .agg (enc (10 ^ 0))] rfl (fun w => by go_simp) (fun w hw => CM.out _) (fun KK hKK => ?_)
  go_simp
  refine hKK _ ?_
  clear hKK KK
  refine wpB_nil ?_
  intro gs w8 H11
  intro hmade
  simp only [putAll, opAt, List.getElem?_cons_succ, List.getElem?_cons_zero, Option.getD_some, Act.put]
  clear hmade
  refine wpList_put rfl 246 (.tmp 14) (.tmp 56) rfl p (enc x) rfl rfl 246 _ (H11.get 0 rfl) (by first | kernel_rfl | (rw [enc_size]; kernel_rfl)) (by first | rfl | (rw [enc_size]; rfl)) (by first | exact enc_all _ | exact numE_all _ _ _ | exact decE_all _ _ | (rw [Array.all_eq_true']; simp [Value.oneCell'])) ?_
  intro W6 HB6 hfar6 hbel6 hsz6 hcell6
  have H12 := Lib.hid (H11.upd 0 rfl (by have := hgW.out; have := hpW.out; omega) (by simp; have := hgW.out; have := hpW.out; omega) HB6 hfar6 hbel6)
  have cg : W6.cell? ⟨g, 0, none⟩ = some (.bool k) := (H12.out.get 2 rfl).cell 0
  have cf : W6.cell? ⟨f, 0, none⟩ = some (.bool j) := (H12.out.get 3 rfl).cell 0
  clear HB6 hfar6 hbel6 hsz6 hcell6 H11
  go_wp2_with fail
  rw [onlyNormal_normal]
  go_wp2_with (first
    | (refine wpList_load_row rfl 246 (.tmp 14) rfl p rfl 246 (enc x) (0, 0) _ (H12.out.get 0 rfl) Tryz.underlying246 rfl (by first | kernel_rfl | (rw [enc_size]; kernel_rfl)) ?_)
    | (refine wpList_load_row rfl 246 (.tmp 15) rfl q rfl 246 (enc y) (0, 0) _ (H12.out.get 1 rfl) Tryz.underlying246 rfl (by first | kernel_rfl | (rw [enc_size]; kernel_rfl)) ?_))
  clear cg cf
  refine (CR.out _).mono ?_
  rintro e w9 ⟨rfl, hb9⟩
  have H13 := Lib.hid (H12.out.step hb9)
  clear hb9 H12
  go_wp2_with (refine wpList_put rfl 168 (.tmp 8) (.tmp 72) rfl (W.heap.size + 2) (decE r 0) rfl rfl 168 _ (H13.out.get 4 rfl) (by first | kernel_rfl | (rw [enc_size]; kernel_rfl)) (by first | rfl | (rw [enc_size]; rfl)) (by first | exact enc_all _ | exact numE_all _ _ _ | exact decE_all _ _ | (rw [Array.all_eq_true']; simp [Value.oneCell'])) ?_
               intro W7 HB7 hfar7 hbel7 hsz7 hcell7)
  have H7 := hbel7 W.heap.size W (by omega) H13.out.below
  exact bodyPost_ret (results_row_tmp rfl _ W7 (W.heap.size + 2) 168 _ _ _ rfl HB7 Tryz.underlying168 rfl (by kernel_rfl) rfl) rfl ⟨rfl, H7⟩
end Go.Proofs.YtlfomhdphbchpaaGreatDoor.Dec
