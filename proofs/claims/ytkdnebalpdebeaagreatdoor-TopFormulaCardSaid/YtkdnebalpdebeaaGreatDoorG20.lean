/- Lemmas of a claim: AccB, DecJ, DecK, AccC -/
import Derived.Test.YtkdnebalpdebeaaGreatDoorG09
import Derived.Test.YtkdnebalpdebeaaGreatDoorG11
set_option linter.unusedVariables false
set_option linter.unusedSimpArgs false
set_option maxHeartbeats 16000000
set_option maxRecDepth 100000
namespace Go.Proofs.YtkdnebalpdebeaaGreatDoor
namespace Acc
open Go.RowKit Go.Deep Wide Dec
open Cal hiding results_one results_two
structure Tier1 (g : Nat) (r : Int) (w : World) : Prop where
 lt : g < w.heap.size
 from0 : w.cell? ⟨g, 0, none⟩ = some (.int .i64 0)
 rate : w.cell? ⟨g, 1, none⟩ = some (.int .i64 r)
theorem Tier1.step {g : Nat} {r : Int} {w w' : World} (h : Tier1 g r w) (hb : Below w.heap.size w w') : Tier1 g r w' :=
 ⟨Nat.lt_of_lt_of_le h.lt hb.size, (hb.cell (p := ⟨g, 0, none⟩) h.lt).trans h.from0, (hb.cell (p := ⟨g, 1, none⟩) h.lt).trans h.rate⟩
theorem tiers_ok (g : Nat) (r : Int) (c : Nat) (hr : 0 <= r /\ r <= 1000000000) (W : World) (hT : Tier1 g r W) :
 Calls Tryz.prog 132 #[.slice (some ⟨g, 0, none⟩) 1 c] W fun e w' => e = .returned (.int .i64 0) /\ Below W.heap.size W w' := by
 have CW := Hd (fun W' => within_ok r 1000000000 hr.1 hr.2 W')
 obtain ⟨hlt, hc0, hc1⟩ := hT
 clear hr
 go_enter Tryz.func132, Tryz.ntmps132
 go_wp2_with fail
 go_loopw [20] (fun i wr => ∃ k : Nat, k <= 1 /\ i = .int .i64 k /\ Hi (Below W.heap.size W wr)) (fun i _ => 1 - (intOf i).toNat)
 case atStart => exact ⟨0, by omega, rfl, Hd (Below.refl _ _)⟩
 case round =>
  obtain ⟨k, hk, rfl, HB⟩ := hrel
  have h0 : wr.cell? ⟨g, 0, none⟩ = some (.int .i64 0) := (HB.o.cell (p := ⟨g, 0, none⟩) hlt).trans hc0
  have h1 : wr.cell? ⟨g, 1, none⟩ = some (.int .i64 r) := (HB.o.cell (p := ⟨g, 1, none⟩) hlt).trans hc1
  have HC := Hd hc0
  have HC1 := Hd hc1
  clear hc0 hc1
  by_cases hk0 : k = 0
  . subst hk0
    go_wp2_with fail
    have H1 : Has W [(wr.heap.size, 31, #[.int .i64 0, .int .i64 r])] (wr.alloc (.cells #[.int .i64 0, .int .i64 r] 31)) := Has.cons (Blk.new _ _ _) (Has.nil (Below.al HB.o _))
    obtain ⟨b, hb⟩ : ∃ b, b = wr.heap.size := ⟨_, rfl⟩
    rw [<- hb] at H1 ⊢
    have HH := Hd H1
    clear h0 h1 H1 hb
    refine wp_region_class (fun w' => Has W [(b, 31, #[.int .i64 0, .int .i64 r])] w') [0, 1, 2, 3, 4, 5, 6, 7, 8, 9, 10, 11, 12, 13, 14, 15, 16, 17, 18, 19, 20, 21, 22, 23] (by kernel_rfl) (by kernel_rfl) HH.o.drew ?_
    simp only [List.map_cons, List.map_nil, opAt, List.getElem?_cons_succ, List.getElem?_cons_zero, Option.getD_some]
    repeat (go_big_quiet_step ((intro _; rfl)))
    refine wpQuiet_cell 2 (.tmp 39) rfl rfl ⟨b, 0, none⟩ rfl (.int .i64 0) _ (fun w hw => (hw.get 0 rfl).cell 0) Tryz.underlying2 rfl (fun K1 k1 => ?_)
    go_simp
    refine k1 _ ?_
    clear k1 K1
    repeat (go_big_quiet_step ((intro _; rfl)))
    refine wpQuiet_cell 2 (.tmp 44) rfl rfl ⟨b, 1, none⟩ rfl (.int .i64 r) _ (fun w hw => (hw.get 0 rfl).cell 1) Tryz.underlying2 rfl (fun K1 k1 => ?_)
    go_simp
    refine k1 _ ?_
    clear k1 K1
    go_big_quiet_step ((intro hw; exact (CW.o _).mono fun e w' h => ⟨h.1, h.2 ▸ hw⟩))
    repeat (go_big_quiet_step ((intro _; rfl)))
    refine wpQuiet_nil ?_
    intro w2 H2
    have H3 := Hd H2.below
    clear H2 HH HB
    go_wp2_with fail
    go_roundw
    case rel => exact ⟨1, by omega, by go_num, H3⟩
    case measure => simp [intOf]
  . obtain rfl : k = 1 := by omega
    go_wp2_with fail
    exact bodyPost_ret (results_one rfl _ _ rfl) rfl ⟨rfl, HB.o⟩
def part1 (b : Int) : Int := if 0 < b then b else 0
theorem parts_ok (b : Int) (hbm : b <= 10000000000000) (g : Nat) (r : Int) (c : Nat) (W : World) (hT : Tier1 g r W) :
 Calls Tryz.prog 134 #[.int .i64 b, .slice (some ⟨g, 0, none⟩) 1 c] W fun e w' => e = .returned (.slice (some ⟨W.heap.size, 0, none⟩) 1 1) /\ Has W [(W.heap.size, 2, #[.int .i64 (part1 b)])] w' := by
 obtain ⟨hlt, hc0, hc1⟩ := hT
 have info : (Tryz.prog.info? 2).map (fun i => (i.zero, i.size, i.bytes)) = some (some (.int .i64 0), 1, 8) := by kernel_rfl
 obtain ⟨i0, hi, hz0, hz1, hz2⟩ := info_parts info
 have hmk : (Instr.makeSlice 95 (.int .i64 1) (.int .i64 1)).run Tryz.prog W = .ok (.slice (some ⟨W.heap.size, 0, none⟩) 1 1) (W.alloc (.cells #[.int .i64 0] 2)) := by
  have := run_make_rowN (P := Tryz.prog) 95 2 i0 (.int .i64 0) Tryz.underlying95 hi hz0 .i64 .i64 1 1 (Nat.le_refl _) (by rw [hz2]; omega) (by omega) W
  rw [hz1, show madeCells (Value.int .i64 0).cells (1 * 1) = #[Value.int .i64 0] from by kernel_rfl] at this
  exact this
 have HC := Hd hc0
 clear info hi hz0 hz1 hz2 hc1 hc0
 go_enter Tryz.func134, Tryz.ntmps134
 go_wp2_with fail
 clear hmk
 go_loopw [0, 6] (fun d i wr => ∃ (k : Nat) (z : Int), k <= 1 /\ d = .int .i64 z /\ i = .int .i64 ((k : Int) - 1) /\ (k = 1 -> z = b) /\ Hi (Has W [(W.heap.size, 2, #[.int .i64 (if k = 1 then 0 else part1 b)])] wr)) (fun _ i _ => (intOf i + 1).toNat)
 case atStart =>
  exact ⟨1, b, by omega, rfl, rfl, fun _ => rfl, Hd (Has.cons (Blk.new _ _ _) (Has.nil (Below.al (Below.refl _ _) _)))⟩
 case round =>
  obtain ⟨k, z, hk, rfl, rfl, hz, HH⟩ := hrel
  by_cases hk1 : k = 1
  . subst hk1
    obtain rfl := hz rfl
    have HH' : Hi (Has W [(W.heap.size, 2, #[.int .i64 0])] wr) := HH
    have h0 : wr.cell? ⟨g, 0, none⟩ = some (.int .i64 0) := (HH.o.below.cell (p := ⟨g, 0, none⟩) hlt).trans HC.o
    have hne : Hi (g ≠ W.heap.size) := Hd (by omega)
    clear hz HH
    have e1 : ((1 : Nat) : Int) - 1 = 0 := rfl
    rw [e1]
    clear e1
    by_cases hb : 0 < z
    . have c0 : wr.cell? ⟨W.heap.size, 0, none⟩ = some (.int .i64 0) := (HH'.o.get 0 rfl).cell 0
      have f0 := (HH'.o.get 0 rfl).frozen 0
      have hp : part1 z = z := if_pos hb
      have HP := Hd hp
      have hset := Hd (HH'.o.setAt 0 rfl (Nat.le_refl _) (by simp) 0 (.int .i64 z))
      have h0' : (wr.setCell ⟨W.heap.size, 0, none⟩ (.int .i64 z)).cell? ⟨g, 0, none⟩ = some (.int .i64 0) := by
       exact ((HH'.o.below.setCell (p := ⟨W.heap.size, 0, none⟩) (Nat.le_refl _) _).cell (p := ⟨g, 0, none⟩) hlt).trans HC.o
      clear hp
      go_wp2_with fail
      go_roundw
      case rel => exact ⟨0, 0, by omega, rfl, rfl, by omega, Hd (by have := hset.o; simp only [if_neg (show ¬ (0 : Nat) = 1 by omega), HP.o]; exact this)⟩
      case measure => simp [intOf]
    . have hp : part1 z = 0 := if_neg hb
      have HP := Hd hp
      clear hp
      go_wp2_with fail
      go_roundw
      case rel => exact ⟨0, z, by omega, rfl, rfl, by omega, Hd (by have := HH'.o; simp only [if_neg (show ¬ (0 : Nat) = 1 by omega), HP.o]; exact this)⟩
      case measure => simp [intOf]
  . obtain rfl : k = 0 := by omega
    have H2 : Has W [(W.heap.size, 2, #[.int .i64 (part1 b)])] wr := HH.o
    clear HH hz
    go_wp2_with fail
    exact bodyPost_ret (results_one rfl _ _ rfl) rfl ⟨rfl, H2⟩
def payB (m r : Int) : Bool := decide (0 <= m /\ m <= 4000000000000000000 /\ 0 <= r /\ r <= 20000000000000)
def payX (m r : Int) : Int := if payB m r then min (m / 1000000) r else 0
def payY (m r : Int) : Int := if payB m r then m % 1000000 else 0
def payE (m r : Int) : Int := if payB m r then 0 else 1
theorem pay_ok (m r : Int) (W : World) : Calls Tryz.prog 13 #[.int .i64 m, .int .i64 r] W fun e w' => e = .returned (.tuple #[.int .i64 (payX m r), .int .i64 (payY m r), .int .i64 (payE m r)]) /\ w' = W := by
 unfold payX payY payE
 by_cases h : 0 <= m /\ m <= 4000000000000000000 /\ 0 <= r /\ r <= 20000000000000
 . rw [show payB m r = true by simpa [payB] using h]
   simp only [if_true]
   obtain ⟨h1, h2, h3, h4⟩ := h
   have d1 : decide (m < 0) = false := by simpa using h1
   have d2 : decide (4000000000000000000 < m) = false := by simpa using h2
   have d3 : decide (r < 0) = false := by simpa using h3
   have d4 : decide (20000000000000 < r) = false := by simpa using h4
   go_enter Tryz.func13, Tryz.ntmps13
   go_wp2_with fail
   exact bodyPost_ret (results_three rfl _ _ rfl rfl rfl) rfl ⟨by first | rfl | simp, rfl⟩
 . rw [show payB m r = false by simpa [payB] using h]
   simp only [Bool.false_eq_true, if_false]
   by_cases h1 : m < 0
   . clear h
     go_enter Tryz.func13, Tryz.ntmps13
     go_wp2_with fail
     exact bodyPost_ret (results_three rfl _ _ rfl rfl rfl) rfl ⟨rfl, rfl⟩
   . have d1 : decide (m < 0) = false := by simpa using h1
     by_cases h2 : 4000000000000000000 < m
     . clear h h1
       go_enter Tryz.func13, Tryz.ntmps13
       go_wp2_with fail
       exact bodyPost_ret (results_three rfl _ _ rfl rfl rfl) rfl ⟨rfl, rfl⟩
     . have d2 : decide (4000000000000000000 < m) = false := by simpa using h2
       by_cases h3 : r < 0
       . clear h h1 h2
         go_enter Tryz.func13, Tryz.ntmps13
         go_wp2_with fail
         exact bodyPost_ret (results_three rfl _ _ rfl rfl rfl) rfl ⟨rfl, rfl⟩
       . have d3 : decide (r < 0) = false := by simpa using h3
         have h4 : 20000000000000 < r := by omega
         clear h h1 h2 h3
         go_enter Tryz.func13, Tryz.ntmps13
         go_wp2_with fail
         exact bodyPost_ret (results_three rfl _ _ rfl rfl rfl) rfl ⟨rfl, rfl⟩
def feeE (b : Int) : Int := if amtB b then 0 else 1
theorem fee0_ok (b : Int) (hb : 0 <= b) (W : World) : Calls Tryz.prog 86 #[.int .i64 b, .int .i64 0, .int .i64 0] W fun e w' => e = .returned (.tuple #[.int .i64 0, .int .i64 (feeE b)]) /\ w' = W := by
 have CA := Hd (fun W' => amount_ok b W')
 have C0 := Hd (fun W' => amount_ok 0 W')
 rw [show amtB 0 = true from rfl] at C0
 unfold feeE
 cases ha : amtB b with
 | true =>
   rw [ha] at CA
   have hb2 : b <= 10000000000000 := by simp [amtB] at ha; omega
   clear ha
   simp only [if_true]
   go_enter Tryz.func86, Tryz.ntmps86
   go_wp2_with fail
   refine (CA.o _).mono ?_
   rintro e w1 ⟨rfl, rfl⟩
   go_wp2_with fail
   refine (C0.o _).mono ?_
   rintro e w1 ⟨rfl, rfl⟩
   have e1 : min 0 b = 0 := by omega
   go_wp2_with fail
   exact bodyPost_ret (results_two rfl _ _ rfl rfl) rfl ⟨by first | rfl | simp, rfl⟩
 | false =>
   rw [ha] at CA
   clear ha
   simp only [Bool.false_eq_true, if_false]
   go_enter Tryz.func86, Tryz.ntmps86
   go_wp2_with fail
   refine (CA.o _).mono ?_
   rintro e w1 ⟨rfl, rfl⟩
   go_wp2_with fail
   exact bodyPost_ret (results_two rfl _ _ rfl rfl) rfl ⟨rfl, rfl⟩
end Acc
namespace Dec
open Go.RowKit Go.Deep Wide
theorem mul1_ok (a : Nat) (ha : a < P 6) (W : World) : Calls Tryz.prog 93 #[.agg (enc a), .agg (enc (10 ^ 0))] W fun e w' => e = .returned (.agg (enc a)) /\ Below W.heap.size W w' := by
 have := mul_ok a (10 ^ 0) ha W
 rwa [Nat.pow_zero, Nat.mul_one] at this
theorem ten0_ok (W : World) : Calls Tryz.prog 45 #[.int .i64 0] W fun e w' => e = .returned (.agg (enc (10 ^ 0))) /\ Below W.heap.size W w' := ten_ok 0 (by omega) W
theorem quo0_ok (a b mode : Int) (hmode : 0 <= mode /\ mode <= 6) (ha : InT a) (hb : InT b) (ha' : a ≠ -170141183460469231731687303715884105728) (hb' : b ≠ -170141183460469231731687303715884105728) (hb0 : b ≠ 0) (W : World) :
 Calls Tryz.prog 137 #[.agg (decE a 0), .agg (decE b 0), .int .i64 0, .int .i64 mode] W fun e w' => e = .returned (.tuple #[.agg (decE (rndC mode (mulM a b) a.natAbs b.natAbs) 0), .int .i64 (togE (roundN mode (mulM a b) a.natAbs b.natAbs))]) /\ Below W.heap.size W w' := by
 have CW := Hd (fun W' => way_ok 0 mode ⟨by omega, by omega, hmode.1, hmode.2⟩ W')
 have CB := Hd (fun W' => both_ok a 0 b 0 ha hb (chk0 ha') W')
 rw [chk0 hb'] at CB
 have CA := Hd (fun W' => apart_ok a 0 ha W')
 have CC := Hd (fun W' => apart_ok b 0 hb W')
 have bT : 2 * b.natAbs < P 6 := by
  have h : b.natAbs <= T := by unfold InT at hb; unfold T; omega
  have := big_lt; have : 2 * T <= 10 ^ 18 * (T * T) := by decide +kernel
  omega
 have aT : a.natAbs + 1 < P 6 := by
  have h : a.natAbs <= T := by unfold InT at ha; unfold T; omega
  have := big_lt; have : T + 1 <= 10 ^ 18 * (T * T) := by decide +kernel
  omega
 have CM := Hd (fun W' => mul1_ok a.natAbs (abs6 ha) W')
 have CT := Hd (fun W' => ten0_ok W')
 have CL := Hd (fun W' => len_ok b.natAbs (abs6 hb) W')
 obtain ⟨L, hLe⟩ : ∃ L, L = Go.bitLen b.natAbs := ⟨_, rfl⟩
 rw [<- hLe] at CL
 have e0 : ((L : Int) == 0) = false := beq_eq_false_iff_ne.2 (by
  have h := bitLen_pos (n := b.natAbs) (by omega)
  omega)
 have CR := Hd (fun W' => rounded_ok (mulM a b) a.natAbs b.natAbs 0 mode hmode aT (by omega) bT W')
 have e2 : togS (roundN mode (mulM a b) a.natAbs b.natAbs) 0 = 0 := by unfold togS; split <;> rfl
 rw [e2] at CR
 have hm : mulM a b = !(decide (a < 0) == decide (b < 0)) := rfl
 obtain ⟨r, hr⟩ : ∃ r, r = rndC mode (mulM a b) a.natAbs b.natAbs := ⟨_, rfl⟩
 obtain ⟨t, ht⟩ : ∃ t, t = togE (roundN mode (mulM a b) a.natAbs b.natAbs) := ⟨_, rfl⟩
 rw [<- hr, <- ht] at CR ⊢
 rw [hm] at CR
 obtain ⟨x, hx⟩ : ∃ x, x = a.natAbs := ⟨_, rfl⟩
 obtain ⟨y, hy⟩ : ∃ y, y = b.natAbs := ⟨_, rfl⟩
 obtain ⟨k, hk⟩ : ∃ k, k = decide (a < 0) := ⟨_, rfl⟩
 obtain ⟨j, hj⟩ : ∃ j, j = decide (b < 0) := ⟨_, rfl⟩
 rw [<- hx, <- hk] at CA
 rw [<- hy, <- hj] at CC
 rw [<- hx] at CM
 rw [<- hy] at CL
 rw [<- hx, <- hy, <- hk, <- hj] at CR
 clear hm hr ht e2 hx hy hk hj hmode ha hb ha' hb' hb0 hLe aT bT
 have hinit : ∀ w1, w1 = ((W.alloc (.cells (decE a 0) 56)).alloc (.cells (decE b 0) 56)).alloc (.cells #[.int .i64 0, .int .u64 0, .int .i64 0] 56) ->
  Has W [(W.heap.size, 56, decE a 0), (W.heap.size + 1, 56, decE b 0), (W.heap.size + 2, 56, decE 0 0)] w1 := fun w1 e => by
  subst e
  refine Has.cons ?_ (Has.cons ?_ (Has.cons ?_ (Has.nil ?_)))
  . exact ((Blk.new _ _ _).alloc _).alloc _
  . exact (Blk.new' (by simp)).alloc _
  . exact Blk.new' (by simp)
  . exact Below.al (Below.al (Below.al (Below.refl _ _) _) _) _
 have HI := Hd (hinit _ rfl)
 clear hinit
 rw [decE, decE]
 go_enter Tryz.func137, Tryz.ntmps137
 go_wp2_with fail
 refine (CW.o _).mono ?_
 rintro e w1 ⟨rfl, rfl⟩
 go_wp2_with fail
 refine (CB.o _).mono ?_
 rintro e w1 ⟨rfl, hb1⟩
 have H1 := Hd (HI.o.step hb1)
 clear hb1 HI
 go_wp2_with fail
 refine wp_region_reg (fun w' => Has W [(W.heap.size, 56, decE a 0), (W.heap.size + 1, 56, decE b 0), (W.heap.size + 2, 56, decE 0 0)] w') (fun _ => (118, numE false 0 0)) [0, 1, 2, 3] [4, 5] [6, 7] (by kernel_rfl) (by kernel_rfl) (fun w w' h hb => h.step hb) ?_ (fun k hk => by simp only [List.mem_cons, List.not_mem_nil, or_false] at hk; first | (subst hk; exact ⟨rfl, fun a w => by simp only [opAt, List.getElem?_cons_succ, List.getElem?_cons_zero, Option.getD_some]; go_simp <;> rfl⟩) | (rcases hk with rfl | rfl <;> exact ⟨rfl, fun a w => by simp only [opAt, List.getElem?_cons_succ, List.getElem?_cons_zero, Option.getD_some]; go_simp <;> rfl⟩)) ?_
 . exact H1.o.drew
 have hN := Hd (H1.o.get 2 rfl).lt
 clear H1
 simp only [List.map_cons, List.map_nil, opAt, List.getElem?_cons_succ, List.getElem?_cons_zero, Option.getD_some]
 refine wpB_pure rfl ?_
 refine wpQuiet_row 56 (.tmp 4) rfl rfl W.heap.size rfl 56 (decE a 0) _ (fun w hw => hw.get 0 rfl) Tryz.underlying56 rfl (by kernel_rfl) (fun K1 k1 => ?_)
 go_simp
 refine k1 _ ?_
 clear k1 K1
 refine wpQuiet_nil ?_
 refine wpB_call (.agg (numE k x 0)) 43 #[.agg (decE a 0)] rfl (fun w => by go_simp) (fun w hw => CA.o _) (fun K1 k1 => ?_)
 go_simp
 refine k1 _ ?_
 clear k1 K1
 refine wpB_pure rfl ?_
 refine wpQuiet_row 56 (.tmp 5) rfl rfl (W.heap.size + 1) rfl 56 (decE b 0) _ (fun w hw => hw.get 1 rfl) Tryz.underlying56 rfl (by kernel_rfl) (fun K1 k1 => ?_)
 go_simp
 refine k1 _ ?_
 clear k1 K1
 refine wpQuiet_nil ?_
 refine wpB_call (.agg (numE j y 0)) 43 #[.agg (decE b 0)] rfl (fun w => by go_simp) (fun w hw => CC.o _) (fun K1 k1 => ?_)
 go_simp
 refine k1 _ ?_
 clear k1 K1
 refine wpB_nil ?_
 intro gs w2 H2
 intro hmade
 simp only [putAll, opAt, List.getElem?_cons_succ, List.getElem?_cons_zero, Option.getD_some, Act.put]
 obtain ⟨g, hg⟩ : ∃ g, g = gs 4 := ⟨_, rfl⟩
 obtain ⟨f, hf⟩ : ∃ f, f = gs 5 := ⟨_, rfl⟩
 obtain ⟨g1, g2⟩ := hmade.1 4 (by simp)
 obtain ⟨f1, f2⟩ := hmade.1 5 (by simp)
 have hgf := hmade.2 4 (by simp) 5 (by simp) (by decide)
 rw [<- hg] at g1 g2 hgf ⊢
 rw [<- hf] at f1 f2 hgf ⊢
 have hgW : Hi (W.heap.size + 2 < g /\ W.heap.size + 2 < f /\ g ≠ f) := Hd ⟨Nat.lt_of_lt_of_le hN.o g1, Nat.lt_of_lt_of_le hN.o f1, hgf⟩
 have H3 := Hd (Has.cons g2 (Has.cons f2 H2))
 clear hmade hg hf g1 g2 f1 f2 hgf H2 hN
 refine wpList_put rfl 118 (.tmp 12) (.tmp 32) rfl g (numE k x 0) rfl rfl 118 _ (H3.o.get 0 rfl) (by first | kernel_rfl | (rw [enc_size]; kernel_rfl)) (by first | rfl | (rw [enc_size]; rfl)) (numE_all _ _ _) ?_
 intro W4 HB4 hfar4 hbel4 hsz4 hcell4
 have H4 := Hd (H3.o.upd 0 rfl (by have := hgW.o; omega) (by simp; have := hgW.o; omega) HB4 hfar4 hbel4)
 clear HB4 hfar4 hbel4 hsz4 hcell4 H3
 refine wpList_put rfl 118 (.tmp 13) (.tmp 34) rfl f (numE j y 0) rfl rfl 118 _ (H4.o.get 1 rfl) (by first | kernel_rfl | (rw [enc_size]; kernel_rfl)) (by first | rfl | (rw [enc_size]; rfl)) (numE_all _ _ _) ?_
 intro W5 HB5 hfar5 hbel5 hsz5 hcell5
 have H5 := Hd (H4.o.upd 1 rfl (by have := hgW.o; omega) (by simp; have := hgW.o; omega) HB5 hfar5 hbel5)
 clear HB5 hfar5 hbel5 hsz5 hcell5 H4
 go_wp2_with fail
 rw [onlyNormal_normal]
 go_wp2_with (refine wpList_load_part rfl 115 (.tmp 35) rfl f 1 rfl 118 (numE j y 0) (enc y) _ (H5.o.get 1 rfl) (num_part j y 0) Tryz.underlying115 rfl (by first | kernel_rfl | (rw [enc_size]; kernel_rfl)) ?_)
 refine (CL.o _).mono ?_
 rintro e w6 ⟨rfl, hb6⟩
 have H6 := Hd (H5.o.step hb6)
 clear hb6 H5
 go_wp2_with fail
 refine wp_region_regF (fun w' => Has W [(g, 118, numE k x 0), (f, 118, numE j y 0), (W.heap.size, 56, decE a 0), (W.heap.size + 1, 56, decE b 0), (W.heap.size + 2, 56, decE 0 0)] w') (fun w' => Has W [(f, 118, numE j y 0)] w') (fun _ => (115, enc 0)) [0, 1, 2, 3] [4, 5] [6, 7] [2, 3] (by kernel_rfl) (by kernel_rfl) ?_ (fun w w' h hb => h.step hb) ?_ (fun k hk => (by simp only [List.mem_cons, List.not_mem_nil, or_false] at hk; first | (subst hk; exact ⟨rfl, fun a w => by simp only [opAt, List.getElem?_cons_succ, List.getElem?_cons_zero, Option.getD_some]; go_simp <;> rfl⟩) | (rcases hk with rfl | rfl <;> exact ⟨rfl, fun a w => by simp only [opAt, List.getElem?_cons_succ, List.getElem?_cons_zero, Option.getD_some]; go_simp <;> rfl⟩))) ?_
 . exact fun w h => h.of_mem (by simp)
 . exact H6.o.drew
 have hN : Hi (g < w6.heap.size /\ f < w6.heap.size) := Hd ⟨(H6.o.get 0 rfl).lt, (H6.o.get 1 rfl).lt⟩
 clear H6
 simp only [List.map_cons, List.map_nil, opAt, List.getElem?_cons_succ, List.getElem?_cons_zero, Option.getD_some, List.contains_cons, List.contains_nil, Nat.reduceBEq, Bool.or_false, Bool.or_true, Bool.true_or, Bool.false_or]
 repeat (refine wpX_pure rfl ?_; go_big_quiet_step ((intro _; rfl)); refine wpQuiet_nil ?_)
 refine wpX_pure rfl ?_
 refine wpQuiet_part 115 (.tmp 40) rfl rfl g 1 rfl 118 (numE k x 0) (enc x) _ (fun w hw => hw.get 0 rfl) (num_part k x 0) Tryz.underlying115 rfl (by first | kernel_rfl | (rw [enc_size]; kernel_rfl)) (fun K1 k1 => ?_)
 go_simp
 refine k1 _ ?_
 clear k1 K1
 refine wpQuiet_nil ?_
 repeat (refine wpX_float rfl ?_; go_big_quiet_step ((intro _; rfl)); refine wpQuiet_nil ?_)
 refine wpX_float rfl ?_
 refine wpQuiet_part 115 (.tmp 42) rfl rfl f 1 rfl 118 (numE j y 0) (enc y) _ (fun w hw => hw.get 0 rfl) (num_part j y 0) Tryz.underlying115 rfl (by first | kernel_rfl | (rw [enc_size]; kernel_rfl)) (fun K1 k1 => ?_)
 go_simp
 refine k1 _ ?_
 clear k1 K1
 refine wpQuiet_nil ?_
 refine wpX_nil ?_
 intro gs w7 H7
 intro hmade
 simp only [putAll, wpTail, opAt, List.getElem?_cons_succ, List.getElem?_cons_zero, Option.getD_some, Act.put]
 obtain ⟨p, hp⟩ : ∃ p, p = gs 4 := ⟨_, rfl⟩
 obtain ⟨q, hq⟩ : ∃ q, q = gs 5 := ⟨_, rfl⟩
 obtain ⟨g1, g2⟩ := hmade.1 4 (by simp)
 obtain ⟨f1, f2⟩ := hmade.1 5 (by simp)
 have hgf := hmade.2 4 (by simp) 5 (by simp) (by decide)
 rw [<- hp] at g1 g2 hgf ⊢
 rw [<- hq] at f1 f2 hgf ⊢
 have hpW : Hi (g < p /\ f < p /\ g < q /\ f < q /\ p ≠ q) := Hd ⟨Nat.lt_of_lt_of_le hN.o.1 g1, Nat.lt_of_lt_of_le hN.o.2 g1, Nat.lt_of_lt_of_le hN.o.1 f1, Nat.lt_of_lt_of_le hN.o.2 f1, hgf⟩
 have H8 := Hd (Has.cons g2 (Has.cons f2 H7))
 clear hmade hp hq g1 g2 f1 f2 hgf H7 hN
 refine wpList_put rfl 115 (.tmp 14) (.tmp 41) rfl p (enc x) rfl rfl 115 _ (H8.o.get 0 rfl) (by first | kernel_rfl | (rw [enc_size]; kernel_rfl)) (by first | rfl | (rw [enc_size]; rfl)) (enc_all _) ?_
 intro W4 HB4 hfar4 hbel4 hsz4 hcell4
 have H9 := Hd (H8.o.upd 0 rfl (by have := hgW.o; have := hpW.o; omega) (by simp; have := hgW.o; have := hpW.o; omega) HB4 hfar4 hbel4)
 clear HB4 hfar4 hbel4 hsz4 hcell4 H8
 go_wp2_with fail
 refine ⟨H9.o.of_mem (by simp), ?_⟩
 refine wpList_put rfl 115 (.tmp 15) (.tmp 43) rfl q (enc y) rfl rfl 115 _ (H9.o.get 1 rfl) (by first | kernel_rfl | (rw [enc_size]; kernel_rfl)) (by first | rfl | (rw [enc_size]; rfl)) (enc_all _) ?_
 intro W5 HB5 hfar5 hbel5 hsz5 hcell5
 have H10 := Hd (H9.o.upd 1 rfl (by have := hgW.o; have := hpW.o; omega) (by simp; have := hgW.o; have := hpW.o; omega) HB5 hfar5 hbel5)
 clear HB5 hfar5 hbel5 hsz5 hcell5 H9
 go_wp2_with fail
 refine ⟨H10.o.of_mem (by simp), ?_⟩
 have cg : W5.cell? ⟨g, 7, none⟩ = some (.int .i64 0) := (H10.o.get 2 rfl).cell 7
 have cf : W5.cell? ⟨f, 7, none⟩ = some (.int .i64 0) := (H10.o.get 3 rfl).cell 7
 go_wp2_with fail
 clear cg cf
 refine wp_region_reg (fun w' => Has W [(p, 115, enc x), (q, 115, enc y), (g, 118, numE k x 0), (f, 118, numE j y 0), (W.heap.size + 2, 56, decE 0 0)] w') (fun _ => (0, #[])) [0, 1, 2, 3] [] [4] (by kernel_rfl) (by kernel_rfl) (fun w w' h hb => h.step hb) ?_ (fun k hk => by cases hk) ?_
 . exact H10.o.drew.of_mem (by simp)
 clear H10
 simp only [List.map_cons, List.map_nil, opAt, List.getElem?_cons_succ, List.getElem?_cons_zero, Option.getD_some]
 refine wpB_pure rfl ?_
 refine wpQuiet_row 115 (.tmp 14) rfl rfl p rfl 115 (enc x) _ (fun w hw => hw.get 0 rfl) Tryz.underlying115 rfl (by first | kernel_rfl | (rw [enc_size]; kernel_rfl)) (fun K1 k1 => ?_)
 go_simp
 refine k1 _ ?_
 clear k1 K1
 refine wpQuiet_nil ?_
 repeat (refine wpB_pure rfl ?_; go_big_quiet_step ((intro _; rfl)); refine wpQuiet_nil ?_)
 refine wpB_call (.agg (enc (10 ^ 0))) 45 #[.int .i64 0] rfl (fun w => by go_simp) (fun w hw => CT.o _) (fun K1 k1 => ?_)
 go_simp
 refine k1 _ ?_
 clear k1 K1
 refine wpB_call (.agg (enc x)) 93 #[.agg (enc x), .agg (enc (10 ^ 0))] rfl (fun w => by go_simp) (fun w hw => CM.o _) (fun K1 k1 => ?_)
 go_simp
 refine k1 _ ?_
 clear k1 K1
 refine wpB_nil ?_
 intro gs w8 H11
 intro hmade
 simp only [putAll, opAt, List.getElem?_cons_succ, List.getElem?_cons_zero, Option.getD_some, Act.put]
 clear hmade
 refine wpList_put rfl 115 (.tmp 14) (.tmp 56) rfl p (enc x) rfl rfl 115 _ (H11.get 0 rfl) (by first | kernel_rfl | (rw [enc_size]; kernel_rfl)) (by first | rfl | (rw [enc_size]; rfl)) (enc_all _) ?_
 intro W6 HB6 hfar6 hbel6 hsz6 hcell6
 have H12 := Hd (H11.upd 0 rfl (by have := hgW.o; have := hpW.o; omega) (by simp; have := hgW.o; have := hpW.o; omega) HB6 hfar6 hbel6)
 have cg : W6.cell? ⟨g, 0, none⟩ = some (.bool k) := (H12.o.get 2 rfl).cell 0
 have cf : W6.cell? ⟨f, 0, none⟩ = some (.bool j) := (H12.o.get 3 rfl).cell 0
 clear HB6 hfar6 hbel6 hsz6 hcell6 H11
 go_wp2_with fail
 rw [onlyNormal_normal]
 go_wp2_with (first
  | (refine wpList_load_row rfl 115 (.tmp 14) rfl p rfl 115 (enc x) (0, 0) _ (H12.o.get 0 rfl) Tryz.underlying115 rfl (by first | kernel_rfl | (rw [enc_size]; kernel_rfl)) ?_)
  | (refine wpList_load_row rfl 115 (.tmp 15) rfl q rfl 115 (enc y) (0, 0) _ (H12.o.get 1 rfl) Tryz.underlying115 rfl (by first | kernel_rfl | (rw [enc_size]; kernel_rfl)) ?_))
 clear cg cf
 refine (CR.o _).mono ?_
 rintro e w9 ⟨rfl, hb9⟩
 have H13 := Hd (H12.o.step hb9)
 clear hb9 H12
 go_wp2_with (refine wpList_put rfl 56 (.tmp 8) (.tmp 72) rfl (W.heap.size + 2) (decE r 0) rfl rfl 56 _ (H13.o.get 4 rfl) (by kernel_rfl) (by first | rfl | (rw [enc_size]; rfl)) (decE_all _ _) ?_
              intro W7 HB7 hfar7 hbel7 hsz7 hcell7)
 have H7 := hbel7 W.heap.size W (by omega) H13.o.below
 exact bodyPost_ret (results_row_tmp rfl _ W7 (W.heap.size + 2) 56 _ _ _ rfl HB7 Tryz.underlying56 rfl (by kernel_rfl) rfl) rfl ⟨rfl, H7⟩
end Dec
namespace Dec
open Go.RowKit Go.Deep Wide
theorem ten0'_ok (W : World) : Calls Tryz.prog 45 #[.int .i64 0] W fun e w' => e = .returned (.agg (enc (10 ^ 0))) /\ Below W.heap.size W w' := ten_ok 0 (by omega) W
theorem quo1_ok (n : Nat) (hn : n < P 6) (W : World) : Calls Tryz.prog 44 #[.agg #[.int .u64 (w (n) 0 : Nat), .int .u64 (w (n) 1 : Nat), .int .u64 (w (n) 2 : Nat), .int .u64 (w (n) 3 : Nat), .int .u64 (w (n) 4 : Nat), .int .u64 (w (n) 5 : Nat)], .agg (enc (10 ^ 0))] W fun e w' => e = .returned (.tuple #[.agg (enc n), .agg (enc 0)]) /\ Below W.heap.size W w' := by
 have := quo_ok n (10 ^ 0) hn (by decide) (by decide +kernel) W
 rw [Nat.pow_zero, Nat.div_one, Nat.mod_one] at this
 exact this
theorem apartL_ok (c s : Int) (hc : InT c) (W : World) :
 Calls Tryz.prog 43 #[.agg (decE c s)] W fun e w' => e = .returned (.agg #[.bool (decide (c < 0)), .int .u64 (w c.natAbs 0 : Nat), .int .u64 (w c.natAbs 1 : Nat), .int .u64 (w c.natAbs 2 : Nat), .int .u64 (w c.natAbs 3 : Nat), .int .u64 (w c.natAbs 4 : Nat), .int .u64 (w c.natAbs 5 : Nat), .int .i64 s]) /\ Below W.heap.size W w' := apart_ok c s hc W
theorem coef_self {c : Int} : coef (decide (c < 0)) c.natAbs = c := by
 unfold coef; by_cases h : c < 0
 . simp [h]; omega
 . simp [h]; omega
theorem int0_ok (c : Int) (hc : -9223372036854775808 <= c /\ c <= 9223372036854775807) (W : World) :
 Calls Tryz.prog 15 #[.agg (decE c 0)] W fun e w' => e = .returned (.tuple #[.int .i64 c, .int .i64 0]) /\ Below W.heap.size W w' := by
 have hT : InT c := by unfold InT; omega
 have CK := Hd (fun W' => check_ok c 0 hT W')
 rw [chk0 (by omega)] at CK
 have CA := Hd (fun W' => apartL_ok c 0 hT W')
 have CT := Hd (fun W' => ten0'_ok W')
 have CQ := Hd (fun W' => quo1_ok c.natAbs (abs6 hT) W')
 have CL := Hd (fun W' => len_ok 0 (by decide) W')
 have TG := Hd (fun W' => tog_ok (decide (c < 0)) c.natAbs 0 (by unfold T; omega) W')
 rw [coef_self] at TG
 obtain ⟨n, hn⟩ : ∃ n, n = c.natAbs := ⟨_, rfl⟩
 obtain ⟨k, hk⟩ : ∃ k, k = decide (c < 0) := ⟨_, rfl⟩
 rw [<- hn, <- hk] at CA TG
 rw [<- hn] at CQ
 obtain ⟨hv, hh⟩ : ∃ hv, hv = c / 18446744073709551616 := ⟨_, rfl⟩
 obtain ⟨lv, hl⟩ : ∃ lv, lv = c % 18446744073709551616 := ⟨_, rfl⟩
 have HE : Hi (decE c 0 = #[.int .i64 hv, .int .u64 lv, .int .i64 0]) := Hd (by rw [hh, hl]; rfl)
 have ek : decide (hv < 0) = k := by rw [hk]; congr 1; simp only [eq_iff_iff]; omega
 have e1 : wrap64 lv = c := by unfold wrap64; omega
 have e2 : c / 9223372036854775808 = hv := by omega
 have hinit : ∀ w1, w1 = W.alloc (.cells #[.int .i64 hv, .int .u64 lv, .int .i64 0] 56) -> Has W [(W.heap.size, 56, decE c 0)] w1 := fun w1 e => by
  subst e
  refine Has.cons ?_ (Has.nil ?_)
  . rw [HE.o]; exact Blk.new _ _ _
  . exact Below.al (Below.refl _ _) _
 have HI := Hd (hinit _ rfl)
 have CK' : Hi (∀ W', Calls Tryz.prog 42 #[.agg #[.int .i64 hv, .int .u64 lv, .int .i64 0]] W' fun e w' => e = .returned (.int .i64 0) /\ Below W'.heap.size W' w') := Hd (by rw [<- HE.o]; exact CK.o)
 rw [show (Value.agg (decE c 0)) = .agg #[.int .i64 hv, .int .u64 lv, .int .i64 0] from by rw [HE.o]]
 have EK := Hd ek
 have E1 := Hd e1
 have E2 := Hd e2
 clear hn hk hh hl ek e1 e2 hinit CK hT hc
 go_enter Tryz.func15, Tryz.ntmps15
 go_wp2_with fail
 refine (CK'.o _).mono ?_
 rintro e w1 ⟨rfl, hb1⟩
 have H1 := Hd (HI.o.step hb1)
 clear hb1 HI
 go_wp2_with fail
 refine wp_region_regF (fun w' => Has W [(W.heap.size, 56, decE c 0)] w') (fun w' => Has W [] w') (fun _ => (115, enc 0)) [0, 1, 2, 3, 4, 5, 6, 7, 8, 9] [10, 11] [12, 13] [9] (by kernel_rfl) (by kernel_rfl) ?_ (fun w w' h hb => h.step hb) ?_ (fun k hk => (by simp only [List.mem_cons, List.not_mem_nil, or_false] at hk; first | (subst hk; exact ⟨rfl, fun a w => by simp only [opAt, List.getElem?_cons_succ, List.getElem?_cons_zero, Option.getD_some]; go_simp <;> rfl⟩) | (rcases hk with rfl | rfl <;> exact ⟨rfl, fun a w => by simp only [opAt, List.getElem?_cons_succ, List.getElem?_cons_zero, Option.getD_some]; go_simp <;> rfl⟩))) ?_
 . exact fun w h => h.of_mem (by simp)
 . exact H1.o.drew
 have hN := Hd (H1.o.get 0 rfl).lt
 clear H1
 simp only [List.map_cons, List.map_nil, opAt, List.getElem?_cons_succ, List.getElem?_cons_zero, Option.getD_some, List.contains_cons, List.contains_nil, Nat.reduceBEq, Bool.or_false, Bool.or_true, Bool.true_or, Bool.false_or]
 refine wpX_pure rfl ?_
 refine wpQuiet_row 56 (.tmp 1) rfl rfl W.heap.size rfl 56 (decE c 0) _ (fun w hw => hw.get 0 rfl) Tryz.underlying56 rfl (by kernel_rfl) (fun K1 k1 => ?_)
 go_simp
 refine k1 _ ?_
 clear k1 K1
 refine wpQuiet_nil ?_
 refine wpX_call (.agg #[.bool k, .int .u64 (w n 0 : Nat), .int .u64 (w n 1 : Nat), .int .u64 (w n 2 : Nat), .int .u64 (w n 3 : Nat), .int .u64 (w n 4 : Nat), .int .u64 (w n 5 : Nat), .int .i64 0]) 43 #[.agg (decE c 0)] rfl (fun w => by go_simp) (fun w hw => CA.o _) (fun K1 k1 => ?_)
 go_simp
 refine k1 _ ?_
 clear k1 K1
 refine wpX_pure rfl ?_
 refine wpQuiet_val (.agg #[.int .u64 (w (n) 0 : Nat), .int .u64 (w (n) 1 : Nat), .int .u64 (w (n) 2 : Nat), .int .u64 (w (n) 3 : Nat), .int .u64 (w (n) 4 : Nat), .int .u64 (w (n) 5 : Nat)]) rfl (fun w hw => ?_) (fun K1 k1 => ?_)
 . first
   | rfl
   | (go_simp; done)
   | trace_state
 go_simp
 refine k1 _ ?_
 clear k1 K1
 refine wpQuiet_nil ?_
 repeat (refine wpX_pure rfl ?_; go_big_quiet_step ((intro _; rfl)); refine wpQuiet_nil ?_)
 refine wpX_pure rfl ?_
 refine wpQuiet_cell 3 (.tmp 18) rfl rfl ⟨W.heap.size, 2, none⟩ rfl (.int .i64 0) _ (fun w hw => (hw.get 0 rfl).cell 2) Tryz.underlying3 rfl (fun K1 k1 => ?_)
 go_simp
 refine k1 _ ?_
 clear k1 K1
 refine wpQuiet_nil ?_
 refine wpX_call (.agg (enc (10 ^ 0))) 45 #[.int .i64 0] rfl (fun w => by go_simp) (fun w hw => CT.o _) (fun K1 k1 => ?_)
 go_simp
 refine k1 _ ?_
 clear k1 K1
 refine wpX_call (.tuple #[.agg (enc n), .agg (enc 0)]) 44 #[.agg #[.int .u64 (w (n) 0 : Nat), .int .u64 (w (n) 1 : Nat), .int .u64 (w (n) 2 : Nat), .int .u64 (w (n) 3 : Nat), .int .u64 (w (n) 4 : Nat), .int .u64 (w (n) 5 : Nat)], .agg (enc (10 ^ 0))] rfl (fun w => by go_simp) (fun w hw => CQ.o _) (fun K1 k1 => ?_)
 go_simp
 refine k1 _ ?_
 clear k1 K1
 repeat (refine wpX_pure rfl ?_; go_big_quiet_step ((intro _; rfl)); refine wpQuiet_nil ?_)
 repeat (refine wpX_float rfl ?_; go_big_quiet_step ((intro _; rfl)); refine wpQuiet_nil ?_)
 refine wpX_nil ?_
 intro gs w7 H7
 intro hmade
 simp only [putAll, wpTail, opAt, List.getElem?_cons_succ, List.getElem?_cons_zero, Option.getD_some, Act.put]
 obtain ⟨p, hp⟩ : ∃ p, p = gs 10 := ⟨_, rfl⟩
 obtain ⟨q, hq⟩ : ∃ q, q = gs 11 := ⟨_, rfl⟩
 obtain ⟨g1, g2⟩ := hmade.1 10 (by simp)
 obtain ⟨f1, f2⟩ := hmade.1 11 (by simp)
 have hgf := hmade.2 10 (by simp) 11 (by simp) (by decide)
 rw [<- hp] at g1 g2 hgf ⊢
 rw [<- hq] at f1 f2 hgf ⊢
 have hpW : Hi (W.heap.size < p /\ W.heap.size < q /\ p ≠ q) := Hd ⟨Nat.lt_of_lt_of_le hN.o g1, Nat.lt_of_lt_of_le hN.o f1, hgf⟩
 have H8 := Hd (Has.cons g2 (Has.cons f2 H7))
 clear hmade hp hq g1 g2 f1 f2 hgf H7 hN
 refine wpList_put rfl 115 (.tmp 5) (.tmp 22) rfl p (enc n) rfl rfl 115 _ (H8.o.get 0 rfl) (by first | kernel_rfl | (rw [enc_size]; kernel_rfl)) (by first | rfl | (rw [enc_size]; rfl)) (enc_all _) ?_
 intro W4 HB4 hfar4 hbel4 hsz4 hcell4
 have H9 := Hd (H8.o.upd 0 rfl (by have := hpW.o; omega) (by simp; have := hpW.o; omega) HB4 hfar4 hbel4)
 clear HB4 hfar4 hbel4 hsz4 hcell4 H8
 go_wp2_with fail
 refine ⟨H9.o.of_mem (by simp), ?_⟩
 refine wpList_put rfl 115 (.tmp 6) (.tmp 23) rfl q (enc 0) rfl rfl 115 _ (H9.o.get 1 rfl) (by first | kernel_rfl | (rw [enc_size]; kernel_rfl)) (by first | rfl | (rw [enc_size]; rfl)) (enc_all _) ?_
 intro W5 HB5 hfar5 hbel5 hsz5 hcell5
 have H10 := Hd (H9.o.upd 1 rfl (by have := hpW.o; omega) (by simp; have := hpW.o; omega) HB5 hfar5 hbel5)
 clear HB5 hfar5 hbel5 hsz5 hcell5 H9
 go_wp2_with fail
 refine ⟨H10.o.of_mem (by simp), ?_⟩
 go_wp2_with (refine wpList_load_row rfl 115 (.tmp 6) rfl q rfl 115 (enc 0) (0, 0) _ (H10.o.get 1 rfl) Tryz.underlying115 rfl (by first | kernel_rfl | (rw [enc_size]; kernel_rfl)) ?_)
 refine (CL.o _).mono ?_
 rintro e w6 ⟨rfl, hb6⟩
 rw [show Go.bitLen 0 = 0 from rfl]
 have H11 := Hd (H10.o.step hb6)
 clear hb6 H10
 have hd0 : (decE c 0) = #[.int .i64 hv, .int .u64 lv, .int .i64 0] := HE.o
 have c0 : w6.cell? ⟨W.heap.size, 0, none⟩ = some (.int .i64 hv) := by have := (H11.o.get 2 rfl).cell 0; rw [hd0] at this; exact this
 clear hd0
 have ek := EK.o
 go_wp2_with (refine wpList_load_row rfl 115 (.tmp 5) rfl p rfl 115 #[.int .u64 (w (n) 0 : Nat), .int .u64 (w (n) 1 : Nat), .int .u64 (w (n) 2 : Nat), .int .u64 (w (n) 3 : Nat), .int .u64 (w (n) 4 : Nat), .int .u64 (w (n) 5 : Nat)] (0, 0) _ (H11.o.get 0 rfl) Tryz.underlying115 rfl (by kernel_rfl) ?_)
 clear ek c0
 refine (TG.o _).mono ?_
 rintro e w8 ⟨rfl, hb8⟩
 have hD : Below W.heap.size W (w8.alloc (.cells #[.int .i64 0, .int .u64 0, .int .i64 0] 56)) := Below.al ((H11.o.step hb8).below) _
 have hgW := (H11.o.step hb8).size
 clear hb8 H11
 go_wp2_with (refine wpList_put rfl 56 (.tmp 7) (.tmp 34) rfl w8.heap.size (decE c 0) rfl rfl 56 _ (Blk.new w8 _ _) (by kernel_rfl) (by first | rfl | (rw [enc_size]; rfl)) (decE_all _ _) ?_
              intro W7 HB7 hfar7 hbel7 hsz7 hcell7
              have hd0 : (decE c 0) = #[.int .i64 hv, .int .u64 lv, .int .i64 0] := HE.o
              have c0 : W7.cell? ⟨w8.heap.size, 0, none⟩ = some (.int .i64 hv) := by (have := HB7.cell 0; rw [hd0] at this; exact this)
              have c1 : W7.cell? ⟨w8.heap.size, 1, none⟩ = some (.int .u64 lv) := by (have := HB7.cell 1; rw [hd0] at this; exact this)
              have H12 := hbel7 W.heap.size W hgW hD
              have e1 := E1.o
              have e2 := E2.o
              clear hd0 HB7 hfar7 hbel7 hsz7 hcell7 hD hgW)
 exact bodyPost_ret (results_two (x := .int .i64 (wrap64 lv)) (y := .int .i64 0) rfl _ _ rfl rfl) rfl ⟨by rw [E1.o], H12⟩
end Dec
namespace Acc
open Go.RowKit Go.Deep Wide Dec
open Cal hiding results_one results_two
theorem upN0 (a : Int) : upN a 0 0 = a.natAbs := by unfold upN; simp
theorem max00 : max (0 : Int) 0 = 0 := by decide
theorem add0_ok (a b : Int) (ha : InT a) (hb : InT b) (hf : -1000000000000000000000000000000 <= a /\ a <= 1000000000000000000000000000000) (hf2 : -1000000000000000000000000000000 <= b /\ b <= 1000000000000000000000000000000) (W : World) :
 Calls Tryz.prog 135 #[.agg (decE a 0), .agg (decE b 0)] W fun e w' => e = .returned (.tuple #[.agg (decE (a + b) 0), .int .i64 0]) /\ Below W.heap.size W w' := by
 have := Dec.add_ok a 0 b 0 ha hb (chk0 (by omega)) (chk0 (by omega)) W
 have hc : coef (addM a 0 b 0) (addN a 0 b 0) = a + b := by
  unfold addM addN
  rw [max00, upN0, upN0, plus_val, coef_self, coef_self]
 have hn : addN a 0 b 0 < T := by
  have h1 : addN a 0 b 0 <= a.natAbs + b.natAbs := by unfold addN; rw [max00, upN0, upN0]; exact plusN_le _ _ _ _
  unfold T; omega
 have e1 : togC (addM a 0 b 0) (addN a 0 b 0) = a + b := by unfold togC; rw [if_pos hn]; exact hc
 have e2 : togS (addN a 0 b 0) (max 0 0) = 0 := by unfold togS; rw [max00]; split <;> rfl
 have e3 : togE (addN a 0 b 0) = 0 := by unfold togE; rw [if_pos hn]
 rwa [e1, e2, e3] at this
theorem cmp0_le {a b : Int} (h : a <= b) : cmpD a 0 b 0 <= 0 := by
 unfold cmpD
 rw [max00, upN0, upN0]
 have hv := plus_val (decide (a < 0)) a.natAbs (!decide (b < 0)) b.natAbs
 rw [coef_self, coef_not] at hv
 generalize plusM (decide (a < 0)) a.natAbs (!decide (b < 0)) b.natAbs = m at *
 generalize plusN (decide (a < 0)) a.natAbs (!decide (b < 0)) b.natAbs = n at *
 split
 . omega
 . rename_i hn
   cases m with
   | true => simp
   | false => unfold coef at hv; simp at hv; omega
def dayI (b r mode : Int) : Int := ((roundN mode false (b * r).natAbs 365000 : Nat) : Int)
theorem day_prod {b r : Int} (hb : 0 <= b /\ b <= 10000000000000) (hr : 0 <= r /\ r <= 1000000000) : 0 <= b * r /\ b * r <= 10000000000000000000000 := by
 refine ⟨Int.mul_nonneg hb.1 hr.1, ?_⟩
 calc b * r <= 10000000000000 * 1000000000 := Int.mul_le_mul hb.2 hr.2 hr.1 (by omega)
  _ = 10000000000000000000000 := by rfl
theorem dayI_in {b r mode : Int} (hb : 0 <= b /\ b <= 10000000000000) (hr : 0 <= r /\ r <= 1000000000) : 0 <= dayI b r mode /\ dayI b r mode <= 100000000000000000 := by
 obtain ⟨p0, p1⟩ := day_prod hb hr
 unfold dayI roundN
 split <;> omega
theorem dquo_ok (b r mode : Int) (hmode : 0 <= mode /\ mode <= 6) (hb : 0 <= b /\ b <= 10000000000000) (hr : 0 <= r /\ r <= 1000000000) (W : World) :
 Calls Tryz.prog 137 #[.agg (decE (b * r) 0), .agg (decE 365000 0), .int .i64 0, .int .i64 mode] W fun e w' => e = .returned (.tuple #[.agg (decE (dayI b r mode) 0), .int .i64 0]) /\ Below W.heap.size W w' := by
 obtain ⟨p0, p1⟩ := day_prod hb hr
 have := quo0_ok (b * r) 365000 mode hmode (by unfold InT; omega) (by unfold InT; omega) (by omega) (by omega) (by omega) W
 have hm : mulM (b * r) 365000 = false := by
  unfold mulM
  have h1 : decide (b * r < 0) = false := by simpa using p0
  rw [h1]; rfl
 rw [hm, show (365000 : Int).natAbs = 365000 from rfl] at this
 have hle : roundN mode false (b * r).natAbs 365000 < T := by
  unfold roundN T; split <;> omega
 have e1 : rndC mode false (b * r).natAbs 365000 = dayI b r mode := by
  unfold rndC togC dayI; rw [if_pos hle]; unfold coef; simp
 have e2 : togE (roundN mode false (b * r).natAbs 365000) = 0 := by unfold togE; rw [if_pos hle]
 rwa [e1, e2] at this
theorem daily_ok (b r mode d : Int) (g c : Nat) (hmode : 0 <= mode /\ mode <= 6) (hb : 0 <= b /\ b <= 10000000000000) (hr : 0 <= r /\ r <= 1000000000) (hd : 1 <= d /\ d < 3652059) (W : World) (hT : Tier1 g r W) :
 Calls Tryz.prog 85 #[.int .i64 b, .slice (some ⟨g, 0, none⟩) 1 c, .int .i64 1, .int .i64 mode, .int .i64 d, .int .i64 (d + 1)] W fun e w' => e = .returned (.tuple #[.int .i64 (dayI b r mode), .int .i64 0]) /\ Below W.heap.size W w' := by
 obtain ⟨p0, p1⟩ := day_prod hb hr
 obtain ⟨q0, q1⟩ := dayI_in (mode := mode) hb hr
 have CP := Hd (fun W' => part365_ok d hd W')
 have CA := Hd (fun W' => amount_ok b W')
 rw [show amtB b = true by simpa [amtB] using hb] at CA
 have CT := Hd (fun (c : Nat) W' h => tiers_ok g r c hr W' h)
 have C0 := Hd (fun W' => of_ok 0 (by omega) W')
 have CPP := Hd (fun (c : Nat) W' h => parts_ok b hb.2 g r c W' h)
 rw [show part1 b = b by unfold part1; split <;> omega] at CPP
 have CB := Hd (fun W' => of_ok b (by omega) W')
 have CR := Hd (fun W' => of_ok r (by omega) W')
 have C1 := Hd (fun W' => of_ok 1 (by omega) W')
 have CY := Hd (fun W' => of_ok 365000 (by omega) W')
 have CM := Hd (fun W' => of_ok 4000000000000000000 (by omega) W')
 have hbr : b.natAbs * r.natAbs < T := by
  have : b.natAbs * r.natAbs = (b * r).natAbs := (Int.natAbs_mul b r).symm
  rw [this]; unfold T; omega
 have CX := Hd (fun W' => times_ok b r (by unfold InT; omega) (by unfold InT; omega) (by omega) (by omega) hbr W')
 have CS := Hd (fun W' => add0_ok 0 (b * r) (by unfold InT; omega) (by unfold InT; omega) (by omega) (by omega) W')
 rw [Int.zero_add] at CS
 have CX1 := Hd (fun W' => times_ok (b * r) 1 (by unfold InT; omega) (by unfold InT; omega) (by omega) (by omega) (by rw [show (1 : Int).natAbs = 1 from rfl, Nat.mul_one]; unfold T; omega) W')
 rw [Int.mul_one] at CX1
 have CQ := Hd (fun W' => dquo_ok b r mode hmode hb hr W')
 obtain ⟨x, hx⟩ : ∃ x, x = b * r := ⟨_, rfl⟩
 obtain ⟨y, hy⟩ : ∃ y, y = dayI b r mode := ⟨_, rfl⟩
 rw [<- hx, <- hy] at CQ
 rw [<- hx] at CX CS CX1 p0 p1
 rw [<- hy] at q0 q1 ⊢
 have CC := Hd (fun W' => dcmp_ok y 0 4000000000000000000 0 (by unfold InT; omega) (by unfold InT; omega) (chk0 (by omega)) (chk0 (by omega)) W')
 have hcm := cmp0_le (a := y) (b := 4000000000000000000) (by omega)
 obtain ⟨k, hk⟩ : ∃ k, k = cmpD y 0 4000000000000000000 0 := ⟨_, rfl⟩
 rw [<- hk] at CC hcm
 have CI := Hd (fun W' => int0_ok y (by omega) W')
 have HT := Hd hT
 have hlt := hT.lt
 obtain ⟨m1, m2⟩ := hmode
 have d1 : decide (mode < 0) = false := by simpa using m1
 have d2 : decide (6 < mode) = false := by simpa using m2
 clear hx hy hk hbr hT m1 m2 hr
 go_enter Tryz.func85, Tryz.ntmps85
 go_wp2_with fail
 refine (CP.o _).mono ?_
 rintro e w1 ⟨rfl, hw⟩
 obtain rfl : W = w1 := hw.symm
 go_wp2_with fail
 refine (CA.o _).mono ?_
 rintro e w1 ⟨rfl, hw⟩
 obtain rfl : W = w1 := hw.symm
 go_wp2_with fail
 refine (CT.o c _ HT.o).mono ?_
 rintro e w1 ⟨rfl, hb1⟩
 have HT1 := Hd (HT.o.step hb1)
 have HB1 := Hd hb1
 clear hb1
 go_wp2_with fail
 refine (C0.o _).mono ?_
 rintro e w2 ⟨rfl, hb2⟩
 have HT2 := Hd (HT1.o.step hb2)
 have HB2 := Hd ((Has.nil HB1.o).step hb2)
 clear hb2 HB1 HT1
 go_wp2_with (refine wpList_put rfl 56 (.tmp 18) (.tmp 60) rfl w2.heap.size (decE 0 0) rfl rfl 56 _ (Blk.new w2 _ _) (by kernel_rfl) (by first | rfl | (rw [enc_size]; rfl)) (decE_all _ _) ?_
              intro W3 HB3 hfar3 hbel3 hsz3 hcell3
              have H3 := Hd ((HB2.o.new rfl 56 #[.int .i64 0, .int .u64 0, .int .i64 0]).upd 0 rfl HB2.o.size (by simp) HB3 hfar3 hbel3)
              have HT3 := Hd (HT2.o.step (hbel3 _ _ (Nat.le_refl _) ((Below.refl _ _).alloc (Nat.le_refl _) _)))
              have hq := Hd (show w2.heap.size < W3.heap.size by rw [hsz3]; simp)
              clear HB3 hfar3 hbel3 hsz3 hcell3)
 refine (CPP.o c _ HT3.o).mono ?_
 rintro e w4 ⟨rfl, H4⟩
 obtain ⟨q, hqe⟩ : ∃ q, q = w2.heap.size := ⟨_, rfl⟩
 have hqW : Hi (W.heap.size <= q) := Hd (by rw [hqe]; exact HB2.o.size)
 obtain ⟨p, hpe⟩ : ∃ p, p = W3.heap.size := ⟨_, rfl⟩
 rw [<- hqe] at H3 hq ⊢
 rw [<- hpe] at hq ⊢
 have H5 : Has W [(p, 2, #[.int .i64 b]), (q, 56, decE 0 0)] w4 := by
  rw [hpe]; exact Has.cons (H4.get 0 rfl) (H3.o.step H4.below)
 have HT5 := Hd (HT3.o.step H4.below)
 have HH5 := Hd H5
 clear H4 H3 HT3 H5 hqe hpe HT2 HB2
 go_wp2_with fail
 go_loopw [65] (fun i wr => ∃ k : Nat, k <= 1 /\ i = .int .i64 k /\ Hi (Has W [(p, 2, #[.int .i64 b]), (q, 56, decE (if k = 0 then 0 else x) 0)] wr)) (fun i _ => 1 - (intOf i).toNat)
 case atStart => exact ⟨0, by omega, rfl, HH5⟩
 case round =>
  clear HH5 HT5
  obtain ⟨j, hj, rfl, HH⟩ := hrel
  by_cases hj0 : j = 0
  . subst hj0
    have HH0 : Hi (Has W [(p, 2, #[.int .i64 b]), (q, 56, decE 0 0)] wr) := HH
    have cp : wr.cell? ⟨p, 0, none⟩ = some (.int .i64 b) := (HH0.o.get 0 rfl).cell 0
    clear HH
    go_wp2_with fail
    clear cp
    refine wp_region_regF (fun w' => Has W [(p, 2, #[.int .i64 b]), (q, 56, decE 0 0)] w') (fun w' => Has W [] w') (fun _ => (0, #[])) [0, 1, 2, 3, 4, 5, 6, 7, 8, 9, 10, 11, 12, 13] [] [14] [13] (by kernel_rfl) (by kernel_rfl) ?_ (fun w w' h hb => h.step hb) ?_ (fun k hk => by cases hk) ?_
    . exact fun w h => h.of_mem (by simp)
    . exact HH0.o.drew
    clear HH0
    simp only [List.map_cons, List.map_nil, opAt, List.getElem?_cons_succ, List.getElem?_cons_zero, Option.getD_some, List.contains_cons, List.contains_nil, Nat.reduceBEq, Bool.or_false, Bool.or_true, Bool.true_or, Bool.false_or]
    refine wpX_pure rfl ?_
    refine wpQuiet_row 56 (.tmp 18) rfl rfl q rfl 56 (decE 0 0) _ (fun w hw => hw.get 1 rfl) Tryz.underlying56 rfl (by kernel_rfl) (fun K1 k1 => ?_)
    go_simp
    refine k1 _ ?_
    clear k1 K1
    refine wpQuiet_nil ?_
    repeat (refine wpX_pure rfl ?_; go_big_quiet_step ((intro _; rfl)); refine wpQuiet_nil ?_)
    refine wpX_call (.agg (decE b 0)) 133 #[.int .i64 b] rfl (fun w => by go_simp) (fun w hw => CB.o _) (fun K1 k1 => ?_)
    go_simp
    refine k1 _ ?_
    clear k1 K1
    repeat (refine wpX_pure rfl ?_; go_big_quiet_step ((intro _; rfl)); refine wpQuiet_nil ?_)
    refine wpX_pure rfl ?_
    refine wpQuiet_cell 2 (.tmp 77) rfl rfl ⟨g, 1, none⟩ rfl (.int .i64 r) _ (fun w hw => (hw.below.cell (p := ⟨g, 1, none⟩) hlt).trans HT.o.rate) Tryz.underlying2 rfl (fun K1 k1 => ?_)
    go_simp
    refine k1 _ ?_
    clear k1 K1
    refine wpQuiet_nil ?_
    refine wpX_call (.agg (decE r 0)) 133 #[.int .i64 r] rfl (fun w => by go_simp) (fun w hw => CR.o _) (fun K1 k1 => ?_)
    go_simp
    refine k1 _ ?_
    clear k1 K1
    refine wpX_call (.agg (decE x 0)) 136 #[.agg (decE b 0), .agg (decE r 0)] rfl (fun w => by go_simp) (fun w hw => CX.o _) (fun K1 k1 => ?_)
    go_simp
    refine k1 _ ?_
    clear k1 K1
    refine wpX_call (.tuple #[.agg (decE x 0), .int .i64 0]) 135 #[.agg (decE 0 0), .agg (decE x 0)] rfl (fun w => by go_simp) (fun w hw => CS.o _) (fun K1 k1 => ?_)
    go_simp
    refine k1 _ ?_
    clear k1 K1
    repeat (refine wpX_pure rfl ?_; go_big_quiet_step ((intro _; rfl)); refine wpQuiet_nil ?_)
    repeat (refine wpX_float rfl ?_; go_big_quiet_step ((intro _; rfl)); refine wpQuiet_nil ?_)
    refine wpX_nil ?_
    intro gs w6 H6
    intro hmade
    simp only [putAll, wpTail, opAt, List.getElem?_cons_succ, List.getElem?_cons_zero, Option.getD_some, Act.put]
    clear hmade
    refine wpList_put rfl 56 (.tmp 18) (.tmp 82) rfl q (decE x 0) rfl rfl 56 _ (H6.get 1 rfl) (by kernel_rfl) (by first | rfl | (rw [enc_size]; rfl)) (decE_all _ _) ?_
    intro W7 HB7 hfar7 hbel7 hsz7 hcell7
    have H7 := Hd (H6.upd 1 rfl hqW.o (by simp; have := hq.o; omega) HB7 hfar7 hbel7)
    clear HB7 hfar7 hbel7 hsz7 hcell7 H6
    go_wp2_with fail
    refine ⟨H7.o.of_mem (by simp), ?_⟩
    go_wp2_with fail
    go_roundw
    case rel => exact ⟨1, by omega, by go_num, H7⟩
    case measure => simp [intOf]
  . obtain rfl : j = 1 := by omega
    have HH1 : Hi (Has W [(p, 2, #[.int .i64 b]), (q, 56, decE x 0)] wr) := HH
    clear HH
    go_wp2_with fail
    refine wp_region_regF (fun w' => Has W [(p, 2, #[.int .i64 b]), (q, 56, decE x 0)] w') (fun w' => Has W [] w') (fun _ => (56, decE 0 0)) [0, 1, 2, 3, 4, 5, 6, 7, 8, 9, 10, 11] [12] [13, 14] [11] (by kernel_rfl) (by kernel_rfl) ?_ (fun w w' h hb => h.step hb) ?_ (fun k hk => (by simp only [List.mem_cons, List.not_mem_nil, or_false] at hk; first | (subst hk; exact ⟨rfl, fun a w => by simp only [opAt, List.getElem?_cons_succ, List.getElem?_cons_zero, Option.getD_some]; go_simp <;> rfl⟩) | (rcases hk with rfl | rfl <;> exact ⟨rfl, fun a w => by simp only [opAt, List.getElem?_cons_succ, List.getElem?_cons_zero, Option.getD_some]; go_simp <;> rfl⟩))) ?_
    . exact fun w h => h.of_mem (by simp)
    . exact HH1.o.drew
    have hN := Hd HH1.o.size
    clear HH1
    have e1 : IntKind.i64.wrap (1000 * 365) = 365000 := by decide
    simp only [List.map_cons, List.map_nil, opAt, List.getElem?_cons_succ, List.getElem?_cons_zero, Option.getD_some, List.contains_cons, List.contains_nil, Nat.reduceBEq, Bool.or_false, Bool.or_true, Bool.true_or, Bool.false_or]
    refine wpX_pure rfl ?_
    refine wpQuiet_row 56 (.tmp 18) rfl rfl q rfl 56 (decE x 0) _ (fun w hw => hw.get 1 rfl) Tryz.underlying56 rfl (by kernel_rfl) (fun K1 k1 => ?_)
    go_simp
    refine k1 _ ?_
    clear k1 K1
    refine wpQuiet_nil ?_
    repeat (refine wpX_pure rfl ?_; go_big_quiet_step ((intro _; rfl)); refine wpQuiet_nil ?_)
    refine wpX_call (.agg (decE 1 0)) 133 #[.int .i64 1] rfl (fun w => by go_simp) (fun w hw => C1.o _) (fun K1 k1 => ?_)
    go_simp
    refine k1 _ ?_
    clear k1 K1
    refine wpX_call (.agg (decE x 0)) 136 #[.agg (decE x 0), .agg (decE 1 0)] rfl (fun w => by go_simp) (fun w hw => CX1.o _) (fun K1 k1 => ?_)
    go_simp
    refine k1 _ ?_
    clear k1 K1
    repeat (refine wpX_pure rfl ?_; go_big_quiet_step ((intro _; rfl)); refine wpQuiet_nil ?_)
    refine wpX_call (.agg (decE 365000 0)) 133 #[.int .i64 365000] rfl (fun w => by go_simp) (fun w hw => CY.o _) (fun K1 k1 => ?_)
    go_simp
    refine k1 _ ?_
    clear k1 K1
    repeat (refine wpX_pure rfl ?_; go_big_quiet_step ((intro _; rfl)); refine wpQuiet_nil ?_)
    refine wpX_call (.tuple #[.agg (decE y 0), .int .i64 0]) 137 #[.agg (decE x 0), .agg (decE 365000 0), .int .i64 0, .int .i64 mode] rfl (fun w => by go_simp) (fun w hw => CQ.o _) (fun K1 k1 => ?_)
    go_simp
    refine k1 _ ?_
    clear k1 K1
    repeat (refine wpX_pure rfl ?_; go_big_quiet_step ((intro _; rfl)); refine wpQuiet_nil ?_)
    repeat (refine wpX_float rfl ?_; go_big_quiet_step ((intro _; rfl)); refine wpQuiet_nil ?_)
    refine wpX_nil ?_
    intro gs w6 H6
    intro hmade
    simp only [putAll, wpTail, opAt, List.getElem?_cons_succ, List.getElem?_cons_zero, Option.getD_some, Act.put]
    obtain ⟨f, hf⟩ : ∃ f, f = gs 12 := ⟨_, rfl⟩
    obtain ⟨f1, f2⟩ := hmade.1 12 (by simp)
    rw [<- hf] at f1 f2 ⊢
    have hfW : Hi (W.heap.size <= f) := Hd (Nat.le_trans hN.o f1)
    have H7 := Hd (Has.cons f2 (Has.nil H6.below))
    clear hmade hf f1 f2 H6 hN e1
    refine wpList_put rfl 56 (.tmp 21) (.tmp 95) rfl f (decE y 0) rfl rfl 56 _ (H7.o.get 0 rfl) (by kernel_rfl) (by first | rfl | (rw [enc_size]; rfl)) (decE_all _ _) ?_
    intro W8 HB8 hfar8 hbel8 hsz8 hcell8
    have H8 := Hd (H7.o.upd 0 rfl hfW.o (by simp) HB8 hfar8 hbel8)
    clear HB8 hfar8 hbel8 hsz8 hcell8 H7
    go_wp2_with fail
    refine ⟨H8.o.of_mem (by simp), ?_⟩
    go_wp2_with fail
    refine ⟨H8.o.of_mem (by simp), ?_⟩
    go_wp2_with fail
    refine wp_region_regF (fun w' => Has W [(f, 56, decE y 0)] w') (fun w' => Has W [] w') (fun _ => (0, #[])) [0, 1, 2, 3, 4, 5] [] [6, 7] [5] (by kernel_rfl) (by kernel_rfl) ?_ (fun w w' h hb => h.step hb) ?_ (fun k hk => by cases hk) ?_
    . exact fun w h => h.of_mem (by simp)
    . exact H8.o.drew
    clear H8
    simp only [List.map_cons, List.map_nil, opAt, List.getElem?_cons_succ, List.getElem?_cons_zero, Option.getD_some, List.contains_cons, List.contains_nil, Nat.reduceBEq, Bool.or_false, Bool.or_true, Bool.true_or, Bool.false_or]
    refine wpX_pure rfl ?_
    refine wpQuiet_row 56 (.tmp 21) rfl rfl f rfl 56 (decE y 0) _ (fun w hw => hw.get 0 rfl) Tryz.underlying56 rfl (by kernel_rfl) (fun K1 k1 => ?_)
    go_simp
    refine k1 _ ?_
    clear k1 K1
    refine wpQuiet_nil ?_
    refine wpX_call (.agg (decE 4000000000000000000 0)) 133 #[.int .i64 4000000000000000000] rfl (fun w => by go_simp) (fun w hw => CM.o _) (fun K1 k1 => ?_)
    go_simp
    refine k1 _ ?_
    clear k1 K1
    refine wpX_call (.tuple #[.int .i64 k, .int .i64 0]) 138 #[.agg (decE y 0), .agg (decE 4000000000000000000 0)] rfl (fun w => by go_simp) (fun w hw => CC.o _) (fun K1 k1 => ?_)
    go_simp
    refine k1 _ ?_
    clear k1 K1
    repeat (refine wpX_pure rfl ?_; go_big_quiet_step ((intro _; rfl)); refine wpQuiet_nil ?_)
    repeat (refine wpX_float rfl ?_; go_big_quiet_step ((intro _; rfl)); refine wpQuiet_nil ?_)
    refine wpX_nil ?_
    intro gs2 w9 H9
    intro hmade
    simp only [putAll, wpTail, opAt, List.getElem?_cons_succ, List.getElem?_cons_zero, Option.getD_some, Act.put]
    have H10 := Hd H9
    clear hmade H9
    go_wp2_with fail
    refine ⟨H10.o.of_mem (by simp), ?_⟩
    go_wp2_with fail
    refine ⟨H10.o.of_mem (by simp), ?_⟩
    go_wp2_with (refine wpList_load_row rfl 56 (.tmp 21) rfl f rfl 56 (decE y 0) (0, 0) _ (H10.o.get 0 rfl) Tryz.underlying56 rfl (by kernel_rfl) ?_)
    refine (CI.o _).mono ?_
    rintro e w10 ⟨rfl, hb10⟩
    have H11 := (H10.o.step hb10).below
    clear hb10 H10
    go_wp2_with fail
    exact bodyPost_ret (results_two rfl _ _ rfl rfl) rfl ⟨rfl, H11⟩
end Acc
end Go.Proofs.YtkdnebalpdebeaaGreatDoor
