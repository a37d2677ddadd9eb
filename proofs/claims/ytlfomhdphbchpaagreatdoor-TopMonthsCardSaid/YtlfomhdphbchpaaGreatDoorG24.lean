/- Lemmas of a claim, several texts in one: DecK, AccC -/
import Derived.Test.YtlfomhdphbchpaaGreatDoorG10
import Derived.Test.YtlfomhdphbchpaaGreatDoorG12
import Derived.Test.YtlfomhdphbchpaaGreatDoorG23
import Derived.Test.YtlfomhdphbchpaaGreatDoorG09
/-! dec: Int (of a whole number that fits) -/
namespace Go.Proofs.YtlfomhdphbchpaaGreatDoor.Dec
open Go.RowKit Go.Deep Go.Proofs.YtlfomhdphbchpaaGreatDoor.Wide
set_option linter.unusedVariables false
set_option linter.unusedSimpArgs false
theorem ten0'_ok (W : World) : Calls Tryz.prog 149 #[.int .i64 0] W fun e w' => e = .returned (.agg (enc (10 ^ 0))) ∧ Below W.heap.size W w' := ten_ok 0 (by omega) W
theorem quo1_ok (n : Nat) (hn : n < P 6) (W : World) : Calls Tryz.prog 152 #[.agg #[.int .u64 (w (n) 0 : Nat), .int .u64 (w (n) 1 : Nat), .int .u64 (w (n) 2 : Nat), .int .u64 (w (n) 3 : Nat), .int .u64 (w (n) 4 : Nat), .int .u64 (w (n) 5 : Nat)], .agg (enc (10 ^ 0))] W fun e w' => e = .returned (.tuple #[.agg (enc n), .agg (enc 0)]) ∧ Below W.heap.size W w' := by
  have := quo_ok n (10 ^ 0) hn (by decide) (by decide +kernel) W
  rw [Nat.pow_zero, Nat.div_one, Nat.mod_one] at this
  exact this
theorem apartL_ok (c s : Int) (hc : InT c) (W : World) :
    Calls Tryz.prog 143 #[.agg (decE c s)] W fun e w' => e = .returned (.agg #[.bool (decide (c < 0)), .int .u64 (w c.natAbs 0 : Nat), .int .u64 (w c.natAbs 1 : Nat), .int .u64 (w c.natAbs 2 : Nat), .int .u64 (w c.natAbs 3 : Nat), .int .u64 (w c.natAbs 4 : Nat), .int .u64 (w c.natAbs 5 : Nat), .int .i64 s]) ∧ Below W.heap.size W w' := apart_ok c s hc W
theorem coef_self {c : Int} : coef (decide (c < 0)) c.natAbs = c := by
  unfold coef; by_cases h : c < 0
  · simp [h]; omega
  · simp [h]; omega
set_option maxHeartbeats 4000000 in
set_option maxRecDepth 100000 in
theorem int0_ok (c : Int) (hc : -9223372036854775808 ≤ c ∧ c ≤ 9223372036854775807) (W : World) :
    Calls Tryz.prog 101 #[.agg (decE c 0)] W fun e w' => e = .returned (.tuple #[.int .i64 c, .int .i64 0]) ∧ Below W.heap.size W w' := by
  have hT : InT c := by unfold InT; omega
  have CK := Lib.hid (fun W' => check_ok c 0 hT W')
  rw [chk0 (by omega)] at CK
  have CA := Lib.hid (fun W' => apartL_ok c 0 hT W')
  have CT := Lib.hid (fun W' => ten0'_ok W')
  have CQ := Lib.hid (fun W' => quo1_ok c.natAbs (abs6 hT) W')
  have CL := Lib.hid (fun W' => len_ok 0 (by decide) W')
  have TG := Lib.hid (fun W' => tog_ok (decide (c < 0)) c.natAbs 0 (by unfold T; omega) W')
  rw [coef_self] at TG
  obtain ⟨n, hn⟩ : ∃ n, n = c.natAbs := ⟨_, rfl⟩
  obtain ⟨k, hk⟩ : ∃ k, k = decide (c < 0) := ⟨_, rfl⟩
  rw [← hn, ← hk] at CA TG
  rw [← hn] at CQ
  obtain ⟨hv, hh⟩ : ∃ hv, hv = c / 18446744073709551616 := ⟨_, rfl⟩
  obtain ⟨lv, hl⟩ : ∃ lv, lv = c % 18446744073709551616 := ⟨_, rfl⟩
  have HE : Hid (decE c 0 = #[.int .i64 hv, .int .u64 lv, .int .i64 0]) := Lib.hid (by rw [hh, hl]; rfl)
  have ek : decide (hv < 0) = k := by rw [hk]; congr 1; simp only [eq_iff_iff]; omega
  have e1 : wrap64 lv = c := by unfold wrap64; omega
  have e2 : c / 9223372036854775808 = hv := by omega
  have hinit : ∀ w1, w1 = W.alloc (.cells #[.int .i64 hv, .int .u64 lv, .int .i64 0] 168) → Has W [(W.heap.size, 168, decE c 0)] w1 := fun w1 e => by
    subst e
    refine Has.cons ?_ (Has.nil ?_)
    · rw [HE.out]; exact Blk.new _ _ _
    · exact Below.al (Below.refl _ _) _
  have HI := Lib.hid (hinit _ rfl)
  have CK' : Hid (∀ W', Calls Tryz.prog 151 #[.agg #[.int .i64 hv, .int .u64 lv, .int .i64 0]] W' fun e w' => e = .returned (.int .i64 0) ∧ Below W'.heap.size W' w') := Lib.hid (by rw [← HE.out]; exact CK.out)
  rw [show (Value.agg (decE c 0)) = .agg #[.int .i64 hv, .int .u64 lv, .int .i64 0] from by rw [HE.out]]
  have EK := Lib.hid ek
  have E1 := Lib.hid e1
  have E2 := Lib.hid e2
  clear hn hk hh hl ek e1 e2 hinit CK hT hc
  go_enter Tryz.func101, Tryz.ntmps101
  go_wp2_with fail
  refine (CK'.out _).mono ?_
  rintro e w1 ⟨rfl, hb1⟩
  have H1 := Lib.hid (HI.out.step hb1)
  clear hb1 HI
  go_wp2_with fail
  refine wp_region_regF (fun w' => Has W [(W.heap.size, 168, decE c 0)] w') (fun w' => Has W [] w') (fun _ => (246, enc 0)) [0, 1, 2, 3, 4, 5, 6, 7, 8, 9] [10, 11] [12, 13] [9] (by kernel_rfl) (by kernel_rfl) ?_ (fun w w' h hb => h.step hb) ?_ (fun k hk => (by simp only [List.mem_cons, List.not_mem_nil, or_false] at hk; first | (subst hk; exact ⟨rfl, fun a w => by simp only [opAt, List.getElem?_cons_succ, List.getElem?_cons_zero, Option.getD_some]; go_simp <;> rfl⟩) | (rcases hk with rfl | rfl <;> exact ⟨rfl, fun a w => by simp only [opAt, List.getElem?_cons_succ, List.getElem?_cons_zero, Option.getD_some]; go_simp <;> rfl⟩))) ?_
  · exact fun w h => h.of_mem (by simp)
  · exact H1.out.drew
  have hN := Lib.hid (H1.out.get 0 rfl).lt
  clear H1
  simp only [List.map_cons, List.map_nil, opAt, List.getElem?_cons_succ, List.getElem?_cons_zero, Option.getD_some, List.contains_cons, List.contains_nil, Nat.reduceBEq, Bool.or_false, Bool.or_true, Bool.true_or, Bool.false_or]
  refine wpX_pure rfl ?_
  refine wpQuiet_row 168 (.tmp 1) rfl rfl W.heap.size rfl 168 (decE c 0) _ (fun w hw => hw.get 0 rfl) Tryz.underlying168 rfl (by first | kernel_rfl | (rw [enc_size]; kernel_rfl)) (fun KK hKK => ?_)
  go_simp
  refine hKK _ ?_
  clear hKK KK
  refine wpQuiet_nil ?_
  refine wpX_call (.agg #[.bool k, .int .u64 (w n 0 : Nat), .int .u64 (w n 1 : Nat), .int .u64 (w n 2 : Nat), .int .u64 (w n 3 : Nat), .int .u64 (w n 4 : Nat), .int .u64 (w n 5 : Nat), .int .i64 0]) 143 #[.agg (decE c 0)] rfl (fun w => by go_simp) (fun w hw => CA.out _) (fun KK hKK => ?_)
  go_simp
  refine hKK _ ?_
  clear hKK KK
  refine wpX_pure rfl ?_
  refine wpQuiet_val (.agg #[.int .u64 (w (n) 0 : Nat), .int .u64 (w (n) 1 : Nat), .int .u64 (w (n) 2 : Nat), .int .u64 (w (n) 3 : Nat), .int .u64 (w (n) 4 : Nat), .int .u64 (w (n) 5 : Nat)]) rfl (fun w hw => ?_) (fun KK hKK => ?_)
  · first
    | rfl
    | (go_simp; done)
    | trace_state
  go_simp
  refine hKK _ ?_
  clear hKK KK
  refine wpQuiet_nil ?_
  repeat (refine wpX_pure rfl ?_; go_big_quiet_step ((intro _; rfl)); refine wpQuiet_nil ?_)
  refine wpX_pure rfl ?_
  refine wpQuiet_cell 3 (.tmp 18) rfl rfl ⟨W.heap.size, 2, none⟩ rfl (.int .i64 0) _ (fun w hw => (hw.get 0 rfl).cell 2) Tryz.underlying3 rfl (fun KK hKK => ?_)
  go_simp
  refine hKK _ ?_
  clear hKK KK
  refine wpQuiet_nil ?_
  refine wpX_call (.agg (enc (10 ^ 0))) 149 #[.int .i64 0] rfl (fun w => by go_simp) (fun w hw => CT.out _) (fun KK hKK => ?_)
  go_simp
  refine hKK _ ?_
  clear hKK KK
  refine wpX_call (.tuple #[.agg (enc n), .agg (enc 0)]) 152 #[.agg #[.int .u64 (w (n) 0 : Nat), .int .u64 (w (n) 1 : Nat), .int .u64 (w (n) 2 : Nat), .int .u64 (w (n) 3 : Nat), .int .u64 (w (n) 4 : Nat), .int .u64 (w (n) 5 : Nat)], .agg (enc (10 ^ 0))] rfl (fun w => by go_simp) (fun w hw => CQ.out _) (fun KK hKK => ?_)
  go_simp
  refine hKK _ ?_
  clear hKK KK
  repeat (refine wpX_pure rfl ?_; go_big_quiet_step ((intro _; rfl)); refine wpQuiet_nil ?_)
  repeat (refine wpX_float rfl ?_; go_big_quiet_step ((intro _; rfl)); refine wpQuiet_nil ?_)
  refine wpX_nil ?_
  intro gs w7 H7
  intro hmade
  simp only [putAll, wpTail, opAt, List.getElem?_cons_succ, List.getElem?_cons_zero, Option.getD_some, Act.put]
  obtain ⟨p, hp⟩ : ∃ p, p = gs 10 := ⟨_, rfl⟩
  obtain ⟨q, hq⟩ : ∃ q, q = gs 11 := ⟨_, rfl⟩
  obtain ⟨g1, g2⟩ := hmade.1 10 (by simp)
  obtain ⟨f1, f2⟩ := hmade.1 11 (by simp)
  have hgf := hmade.2 10 (by simp) 11 (by simp) (by decide)
  rw [← hp] at g1 g2 hgf ⊢
  rw [← hq] at f1 f2 hgf ⊢
  have hpW : Hid (W.heap.size < p ∧ W.heap.size < q ∧ p ≠ q) := Lib.hid ⟨Nat.lt_of_lt_of_le hN.out g1, Nat.lt_of_lt_of_le hN.out f1, hgf⟩
  have H8 := Lib.hid (Has.cons g2 (Has.cons f2 H7))
  clear hmade hp hq g1 g2 f1 f2 hgf H7 hN
  refine wpList_put rfl 246 (.tmp 5) (.tmp 22) rfl p (enc n) rfl rfl 246 _ (H8.out.get 0 rfl) (by first | kernel_rfl | (rw [enc_size]; kernel_rfl)) (by first | rfl | (rw [enc_size]; rfl)) (by first | exact enc_all _ | exact numE_all _ _ _ | exact decE_all _ _ | (rw [Array.all_eq_true']; simp [Value.oneCell'])) ?_
  intro W4 HB4 hfar4 hbel4 hsz4 hcell4
  have H9 := Lib.hid (H8.out.upd 0 rfl (by have := hpW.out; omega) (by simp; have := hpW.out; omega) HB4 hfar4 hbel4)
  clear HB4 hfar4 hbel4 hsz4 hcell4 H8
  go_wp2_with fail
  refine ⟨H9.out.of_mem (by simp), ?_⟩
  refine wpList_put rfl 246 (.tmp 6) (.tmp 23) rfl q (enc 0) rfl rfl 246 _ (H9.out.get 1 rfl) (by first | kernel_rfl | (rw [enc_size]; kernel_rfl)) (by first | rfl | (rw [enc_size]; rfl)) (by first | exact enc_all _ | exact numE_all _ _ _ | exact decE_all _ _ | (rw [Array.all_eq_true']; simp [Value.oneCell'])) ?_
  intro W5 HB5 hfar5 hbel5 hsz5 hcell5
  have H10 := Lib.hid (H9.out.upd 1 rfl (by have := hpW.out; omega) (by simp; have := hpW.out; omega) HB5 hfar5 hbel5)
  clear HB5 hfar5 hbel5 hsz5 hcell5 H9
  go_wp2_with fail
  refine ⟨H10.out.of_mem (by simp), ?_⟩
  go_wp2_with (refine wpList_load_row rfl 246 (.tmp 6) rfl q rfl 246 (enc 0) (0, 0) _ (H10.out.get 1 rfl) Tryz.underlying246 rfl (by first | kernel_rfl | (rw [enc_size]; kernel_rfl)) ?_)
  refine (CL.out _).mono ?_
  rintro e w6 ⟨rfl, hb6⟩
  rw [show Go.bitLen 0 = 0 from rfl]
  have H11 := Lib.hid (H10.out.step hb6)
  clear hb6 H10
  have hd0 : (decE c 0) = #[.int .i64 hv, .int .u64 lv, .int .i64 0] := HE.out
  have c0 : w6.cell? ⟨W.heap.size, 0, none⟩ = some (.int .i64 hv) := by have := (H11.out.get 2 rfl).cell 0; rw [hd0] at this; exact this
  clear hd0
  have ek := EK.out
  go_wp2_with (refine wpList_load_row rfl 246 (.tmp 5) rfl p rfl 246 #[.int .u64 (w (n) 0 : Nat), .int .u64 (w (n) 1 : Nat), .int .u64 (w (n) 2 : Nat), .int .u64 (w (n) 3 : Nat), .int .u64 (w (n) 4 : Nat), .int .u64 (w (n) 5 : Nat)] (0, 0) _ (H11.out.get 0 rfl) Tryz.underlying246 rfl (by first | kernel_rfl | (rw [enc_size]; kernel_rfl)) ?_)
  clear ek c0
  refine (TG.out _).mono ?_
  rintro e w8 ⟨rfl, hb8⟩
  have hD : Below W.heap.size W (w8.alloc (.cells #[.int .i64 0, .int .u64 0, .int .i64 0] 168)) := Below.al ((H11.out.step hb8).below) _
  have hgW := (H11.out.step hb8).size
  clear hb8 H11
  go_wp2_with (refine wpList_put rfl 168 (.tmp 7) (.tmp 34) rfl w8.heap.size (decE c 0) rfl rfl 168 _ (Blk.new w8 _ _) (by first | kernel_rfl | (rw [enc_size]; kernel_rfl)) (by first | rfl | (rw [enc_size]; rfl)) (by first | exact enc_all _ | exact numE_all _ _ _ | exact decE_all _ _ | (rw [Array.all_eq_true']; simp [Value.oneCell'])) ?_
               intro W7 HB7 hfar7 hbel7 hsz7 hcell7
               have hd0 : (decE c 0) = #[.int .i64 hv, .int .u64 lv, .int .i64 0] := HE.out
               have c0 : W7.cell? ⟨w8.heap.size, 0, none⟩ = some (.int .i64 hv) := by (have := HB7.cell 0; rw [hd0] at this; exact this)
               have c1 : W7.cell? ⟨w8.heap.size, 1, none⟩ = some (.int .u64 lv) := by (have := HB7.cell 1; rw [hd0] at this; exact this)
               have H12 := hbel7 W.heap.size W hgW hD
               have e1 := E1.out
               have e2 := E2.out
               clear hd0 HB7 hfar7 hbel7 hsz7 hcell7 hD hgW)
  exact bodyPost_ret (results_two (x := .int .i64 (wrap64 lv)) (y := .int .i64 0) rfl _ _ rfl rfl) rfl ⟨by rw [E1.out], H12⟩
end Go.Proofs.YtlfomhdphbchpaaGreatDoor.Dec

/-! accrue.Daily of one tier, by Act365 -/
namespace Go.Proofs.YtlfomhdphbchpaaGreatDoor.Acc
open Go.RowKit Go.Deep Go.Proofs.YtlfomhdphbchpaaGreatDoor.Wide Go.Proofs.YtlfomhdphbchpaaGreatDoor.Dec
open Go.Proofs.YtlfomhdphbchpaaGreatDoor.Cal hiding results_one results_two
set_option linter.unusedVariables false
set_option linter.unusedSimpArgs false
theorem upN0 (a : Int) : upN a 0 0 = a.natAbs := by unfold upN; simp
theorem max00 : max (0 : Int) 0 = 0 := by decide
theorem add0_ok (a b : Int) (ha : InT a) (hb : InT b) (hf : -1000000000000000000000000000000 ≤ a ∧ a ≤ 1000000000000000000000000000000) (hf2 : -1000000000000000000000000000000 ≤ b ∧ b ≤ 1000000000000000000000000000000) (W : World) :
    Calls Tryz.prog 97 #[.agg (decE a 0), .agg (decE b 0)] W fun e w' => e = .returned (.tuple #[.agg (decE (a + b) 0), .int .i64 0]) ∧ Below W.heap.size W w' := by
  have := Dec.add_ok a 0 b 0 ha hb (chk0 (by omega)) (chk0 (by omega)) W
  have hc : coef (addM a 0 b 0) (addN a 0 b 0) = a + b := by
    unfold addM addN
    rw [max00, upN0, upN0, plus_val, coef_self, coef_self]
  have hn : addN a 0 b 0 < T := by
    have h1 : addN a 0 b 0 ≤ a.natAbs + b.natAbs := by unfold addN; rw [max00, upN0, upN0]; exact plusN_le _ _ _ _
    unfold T; omega
  have e1 : togC (addM a 0 b 0) (addN a 0 b 0) = a + b := by unfold togC; rw [if_pos hn]; exact hc
  have e2 : togS (addN a 0 b 0) (max 0 0) = 0 := by unfold togS; rw [max00]; split <;> rfl
  have e3 : togE (addN a 0 b 0) = 0 := by unfold togE; rw [if_pos hn]
  rwa [e1, e2, e3] at this
theorem cmp0_le {a b : Int} (h : a ≤ b) : cmpD a 0 b 0 ≤ 0 := by
  unfold cmpD
  rw [max00, upN0, upN0]
  have hv := plus_val (decide (a < 0)) a.natAbs (!decide (b < 0)) b.natAbs
  rw [coef_self, coef_not] at hv
  generalize plusM (decide (a < 0)) a.natAbs (!decide (b < 0)) b.natAbs = m at *
  generalize plusN (decide (a < 0)) a.natAbs (!decide (b < 0)) b.natAbs = n at *
  split
  · omega
  · rename_i hn
    cases m with
    | true => simp
    | false => unfold coef at hv; simp at hv; omega
/-- a day's interest, in millionths, of one rate -/
def dayI (b r mode : Int) : Int := ((roundN mode false (b * r).natAbs 365000 : Nat) : Int)
theorem day_prod {b r : Int} (hb : 0 ≤ b ∧ b ≤ 10000000000000) (hr : 0 ≤ r ∧ r ≤ 1000000000) : 0 ≤ b * r ∧ b * r ≤ 10000000000000000000000 := by
  refine ⟨Int.mul_nonneg hb.1 hr.1, ?_⟩
  calc b * r ≤ 10000000000000 * 1000000000 := Int.mul_le_mul hb.2 hr.2 hr.1 (by omega)
    _ = 10000000000000000000000 := by rfl
theorem dayI_in {b r mode : Int} (hb : 0 ≤ b ∧ b ≤ 10000000000000) (hr : 0 ≤ r ∧ r ≤ 1000000000) : 0 ≤ dayI b r mode ∧ dayI b r mode ≤ 100000000000000000 := by
  obtain ⟨p0, p1⟩ := day_prod hb hr
  unfold dayI roundN
  split <;> omega
theorem dquo_ok (b r mode : Int) (hmode : 0 ≤ mode ∧ mode ≤ 6) (hb : 0 ≤ b ∧ b ≤ 10000000000000) (hr : 0 ≤ r ∧ r ≤ 1000000000) (W : World) :
    Calls Tryz.prog 99 #[.agg (decE (b * r) 0), .agg (decE 365000 0), .int .i64 0, .int .i64 mode] W fun e w' => e = .returned (.tuple #[.agg (decE (dayI b r mode) 0), .int .i64 0]) ∧ Below W.heap.size W w' := by
  obtain ⟨p0, p1⟩ := day_prod hb hr
  have := quo0_ok (b * r) 365000 mode hmode (by unfold InT; omega) (by unfold InT; omega) (by omega) (by omega) (by omega) W
  have hm : mulM (b * r) 365000 = false := by
    unfold mulM
    have h1 : decide (b * r < 0) = false := by simpa using p0
    rw [h1]; rfl
  rw [hm, show (365000 : Int).natAbs = 365000 from rfl] at this
  have hle : roundN mode false (b * r).natAbs 365000 < T := by
    unfold roundN T; split <;> omega
  have e1 : rndC mode false (b * r).natAbs 365000 = dayI b r mode := by
    unfold rndC togC dayI; rw [if_pos hle]; unfold coef; simp
  have e2 : togE (roundN mode false (b * r).natAbs 365000) = 0 := by unfold togE; rw [if_pos hle]
  rwa [e1, e2] at this
set_option maxHeartbeats 4000000 in
set_option maxRecDepth 100000 in
theorem daily_ok (b r mode d : Int) (g c : Nat) (hmode : 0 ≤ mode ∧ mode ≤ 6) (hb : 0 ≤ b ∧ b ≤ 10000000000000) (hr : 0 ≤ r ∧ r ≤ 1000000000) (hd : 1 ≤ d ∧ d < 3652059) (W : World) (hT : Tier1 g r W) :
    Calls Tryz.prog 59 #[.int .i64 b, .slice (some ⟨g, 0, none⟩) 1 c, .int .i64 1, .int .i64 mode, .int .i64 d, .int .i64 (d + 1)] W fun e w' => e = .returned (.tuple #[.int .i64 (dayI b r mode), .int .i64 0]) ∧ Below W.heap.size W w' := by
  obtain ⟨p0, p1⟩ := day_prod hb hr
  obtain ⟨q0, q1⟩ := dayI_in (mode := mode) hb hr
  have CP := Lib.hid (fun W' => part365_ok d hd W')
  have CA := Lib.hid (fun W' => amount_ok b W')
  rw [show amtB b = true by simpa [amtB] using hb] at CA
  have CT := Lib.hid (fun (c : Nat) W' h => tiers_ok g r c hr W' h)
  have C0 := Lib.hid (fun W' => of_ok 0 (by omega) W')
  have CPP := Lib.hid (fun (c : Nat) W' h => parts_ok b hb.2 g r c W' h)
  rw [show part1 b = b by unfold part1; split <;> omega] at CPP
  have CB := Lib.hid (fun W' => of_ok b (by omega) W')
  have CR := Lib.hid (fun W' => of_ok r (by omega) W')
  have C1 := Lib.hid (fun W' => of_ok 1 (by omega) W')
  have CY := Lib.hid (fun W' => of_ok 365000 (by omega) W')
  have CM := Lib.hid (fun W' => of_ok 4000000000000000000 (by omega) W')
  have hbr : b.natAbs * r.natAbs < T := by
    have : b.natAbs * r.natAbs = (b * r).natAbs := (Int.natAbs_mul b r).symm
    rw [this]; unfold T; omega
  have CX := Lib.hid (fun W' => times_ok b r (by unfold InT; omega) (by unfold InT; omega) (by omega) (by omega) hbr W')
  have CS := Lib.hid (fun W' => add0_ok 0 (b * r) (by unfold InT; omega) (by unfold InT; omega) (by omega) (by omega) W')
  rw [Int.zero_add] at CS
  have CX1 := Lib.hid (fun W' => times_ok (b * r) 1 (by unfold InT; omega) (by unfold InT; omega) (by omega) (by omega) (by rw [show (1 : Int).natAbs = 1 from rfl, Nat.mul_one]; unfold T; omega) W')
  rw [Int.mul_one] at CX1
  have CQ := Lib.hid (fun W' => dquo_ok b r mode hmode hb hr W')
  obtain ⟨x, hx⟩ : ∃ x, x = b * r := ⟨_, rfl⟩
  obtain ⟨y, hy⟩ : ∃ y, y = dayI b r mode := ⟨_, rfl⟩
  rw [← hx, ← hy] at CQ
  rw [← hx] at CX CS CX1 p0 p1
  rw [← hy] at q0 q1 ⊢
  have CC := Lib.hid (fun W' => dcmp_ok y 0 4000000000000000000 0 (by unfold InT; omega) (by unfold InT; omega) (chk0 (by omega)) (chk0 (by omega)) W')
  have hcm := cmp0_le (a := y) (b := 4000000000000000000) (by omega)
  obtain ⟨k, hk⟩ : ∃ k, k = cmpD y 0 4000000000000000000 0 := ⟨_, rfl⟩
  rw [← hk] at CC hcm
  have CI := Lib.hid (fun W' => int0_ok y (by omega) W')
  have HT := Lib.hid hT
  have hlt := hT.lt
  obtain ⟨m1, m2⟩ := hmode
  have d1 : decide (mode < 0) = false := by simpa using m1
  have d2 : decide (6 < mode) = false := by simpa using m2
  clear hx hy hk hbr hT m1 m2 hr
  go_enter Tryz.func59, Tryz.ntmps59
  go_wp2_with fail
  refine (CP.out _).mono ?_
  rintro e w1 ⟨rfl, hw⟩
  obtain rfl : W = w1 := hw.symm
  go_wp2_with fail
  refine (CA.out _).mono ?_
  rintro e w1 ⟨rfl, hw⟩
  obtain rfl : W = w1 := hw.symm
  go_wp2_with fail
  refine (CT.out c _ HT.out).mono ?_
  rintro e w1 ⟨rfl, hb1⟩
  have HT1 := Lib.hid (HT.out.step hb1)
  have HB1 := Lib.hid hb1
  clear hb1
  go_wp2_with fail
  refine (C0.out _).mono ?_
  rintro e w2 ⟨rfl, hb2⟩
  have HT2 := Lib.hid (HT1.out.step hb2)
  have HB2 := Lib.hid ((Has.nil HB1.out).step hb2)
  clear hb2 HB1 HT1
  go_wp2_with (refine wpList_put rfl 168 (.tmp 18) (.tmp 60) rfl w2.heap.size (decE 0 0) rfl rfl 168 _ (Blk.new w2 _ _) (by first | kernel_rfl | (rw [enc_size]; kernel_rfl)) (by first | rfl | (rw [enc_size]; rfl)) (by first | exact enc_all _ | exact numE_all _ _ _ | exact decE_all _ _ | (rw [Array.all_eq_true']; simp [Value.oneCell'])) ?_
               intro W3 HB3 hfar3 hbel3 hsz3 hcell3
               have H3 := Lib.hid ((HB2.out.new rfl 168 #[.int .i64 0, .int .u64 0, .int .i64 0]).upd 0 rfl HB2.out.size (by simp) HB3 hfar3 hbel3)
               have HT3 := Lib.hid (HT2.out.step (hbel3 _ _ (Nat.le_refl _) ((Below.refl _ _).alloc (Nat.le_refl _) _)))
               have hq := Lib.hid (show w2.heap.size < W3.heap.size by rw [hsz3]; simp)
               clear HB3 hfar3 hbel3 hsz3 hcell3)
  refine (CPP.out c _ HT3.out).mono ?_
  rintro e w4 ⟨rfl, H4⟩
  obtain ⟨q, hqe⟩ : ∃ q, q = w2.heap.size := ⟨_, rfl⟩
  have hqW : Hid (W.heap.size ≤ q) := Lib.hid (by rw [hqe]; exact HB2.out.size)
  obtain ⟨p, hpe⟩ : ∃ p, p = W3.heap.size := ⟨_, rfl⟩
  rw [← hqe] at H3 hq ⊢
  rw [← hpe] at hq ⊢
  have H5 : Has W [(p, 2, #[.int .i64 b]), (q, 168, decE 0 0)] w4 := by
    rw [hpe]; exact Has.cons (H4.get 0 rfl) (H3.out.step H4.below)
  have HT5 := Lib.hid (HT3.out.step H4.below)
  have HH5 := Lib.hid H5
  clear H4 H3 HT3 H5 hqe hpe HT2 HB2
  go_wp2_with fail
  go_loopw [65] (fun i wr => ∃ k : Nat, k ≤ 1 ∧ i = .int .i64 k ∧ Hid (Has W [(p, 2, #[.int .i64 b]), (q, 168, decE (if k = 0 then 0 else x) 0)] wr)) (fun i _ => 1 - (intOf i).toNat)
  case atStart => exact ⟨0, by omega, rfl, HH5⟩
  case round =>
    clear HH5 HT5
    obtain ⟨j, hj, rfl, HH⟩ := hrel
    by_cases hj0 : j = 0
    · subst hj0
      have HH0 : Hid (Has W [(p, 2, #[.int .i64 b]), (q, 168, decE 0 0)] wr) := HH
      have cp : wr.cell? ⟨p, 0, none⟩ = some (.int .i64 b) := (HH0.out.get 0 rfl).cell 0
      clear HH
      go_wp2_with fail
      clear cp
      refine wp_region_regF (fun w' => Has W [(p, 2, #[.int .i64 b]), (q, 168, decE 0 0)] w') (fun w' => Has W [] w') (fun _ => (0, #[])) [0, 1, 2, 3, 4, 5, 6, 7, 8, 9, 10, 11, 12, 13] [] [14] [13] (by kernel_rfl) (by kernel_rfl) ?_ (fun w w' h hb => h.step hb) ?_ (fun k hk => by cases hk) ?_
      · exact fun w h => h.of_mem (by simp)
      · exact HH0.out.drew
      clear HH0
      simp only [List.map_cons, List.map_nil, opAt, List.getElem?_cons_succ, List.getElem?_cons_zero, Option.getD_some, List.contains_cons, List.contains_nil, Nat.reduceBEq, Bool.or_false, Bool.or_true, Bool.true_or, Bool.false_or]
      refine wpX_pure rfl ?_
      refine wpQuiet_row 168 (.tmp 18) rfl rfl q rfl 168 (decE 0 0) _ (fun w hw => hw.get 1 rfl) Tryz.underlying168 rfl (by first | kernel_rfl | (rw [enc_size]; kernel_rfl)) (fun KK hKK => ?_)
      go_simp
      refine hKK _ ?_
      clear hKK KK
      refine wpQuiet_nil ?_
      repeat (refine wpX_pure rfl ?_; go_big_quiet_step ((intro _; rfl)); refine wpQuiet_nil ?_)
      refine wpX_call (.agg (decE b 0)) 95 #[.int .i64 b] rfl (fun w => by go_simp) (fun w hw => CB.out _) (fun KK hKK => ?_)
      go_simp
      refine hKK _ ?_
      clear hKK KK
      repeat (refine wpX_pure rfl ?_; go_big_quiet_step ((intro _; rfl)); refine wpQuiet_nil ?_)
      refine wpX_pure rfl ?_
      refine wpQuiet_cell 2 (.tmp 77) rfl rfl ⟨g, 1, none⟩ rfl (.int .i64 r) _ (fun w hw => (hw.below.cell (p := ⟨g, 1, none⟩) hlt).trans HT.out.rate) Tryz.underlying2 rfl (fun KK hKK => ?_)
      go_simp
      refine hKK _ ?_
      clear hKK KK
      refine wpQuiet_nil ?_
      refine wpX_call (.agg (decE r 0)) 95 #[.int .i64 r] rfl (fun w => by go_simp) (fun w hw => CR.out _) (fun KK hKK => ?_)
      go_simp
      refine hKK _ ?_
      clear hKK KK
      refine wpX_call (.agg (decE x 0)) 98 #[.agg (decE b 0), .agg (decE r 0)] rfl (fun w => by go_simp) (fun w hw => CX.out _) (fun KK hKK => ?_)
      go_simp
      refine hKK _ ?_
      clear hKK KK
      refine wpX_call (.tuple #[.agg (decE x 0), .int .i64 0]) 97 #[.agg (decE 0 0), .agg (decE x 0)] rfl (fun w => by go_simp) (fun w hw => CS.out _) (fun KK hKK => ?_)
      go_simp
      refine hKK _ ?_
      clear hKK KK
      repeat (refine wpX_pure rfl ?_; go_big_quiet_step ((intro _; rfl)); refine wpQuiet_nil ?_)
      repeat (refine wpX_float rfl ?_; go_big_quiet_step ((intro _; rfl)); refine wpQuiet_nil ?_)
      refine wpX_nil ?_
      intro gs w6 H6
      intro hmade
      simp only [putAll, wpTail, opAt, List.getElem?_cons_succ, List.getElem?_cons_zero, Option.getD_some, Act.put]
      clear hmade
      refine wpList_put rfl 168 (.tmp 18) (.tmp 82) rfl q (decE x 0) rfl rfl 168 _ (H6.get 1 rfl) (by first | kernel_rfl | (rw [enc_size]; kernel_rfl)) (by first | rfl | (rw [enc_size]; rfl)) (by first | exact enc_all _ | exact numE_all _ _ _ | exact decE_all _ _ | (rw [Array.all_eq_true']; simp [Value.oneCell'])) ?_
      intro W7 HB7 hfar7 hbel7 hsz7 hcell7
      have H7 := Lib.hid (H6.upd 1 rfl hqW.out (by simp; have := hq.out; omega) HB7 hfar7 hbel7)
      clear HB7 hfar7 hbel7 hsz7 hcell7 H6
      go_wp2_with fail
      refine ⟨H7.out.of_mem (by simp), ?_⟩
      go_wp2_with fail
      go_roundw
      case rel => exact ⟨1, by omega, by go_num, H7⟩
      case measure => simp [intOf]
    · obtain rfl : j = 1 := by omega
      have HH1 : Hid (Has W [(p, 2, #[.int .i64 b]), (q, 168, decE x 0)] wr) := HH
      clear HH
      go_wp2_with fail
      refine wp_region_regF (fun w' => Has W [(p, 2, #[.int .i64 b]), (q, 168, decE x 0)] w') (fun w' => Has W [] w') (fun _ => (168, decE 0 0)) [0, 1, 2, 3, 4, 5, 6, 7, 8, 9, 10, 11] [12] [13, 14] [11] (by kernel_rfl) (by kernel_rfl) ?_ (fun w w' h hb => h.step hb) ?_ (fun k hk => (by simp only [List.mem_cons, List.not_mem_nil, or_false] at hk; first | (subst hk; exact ⟨rfl, fun a w => by simp only [opAt, List.getElem?_cons_succ, List.getElem?_cons_zero, Option.getD_some]; go_simp <;> rfl⟩) | (rcases hk with rfl | rfl <;> exact ⟨rfl, fun a w => by simp only [opAt, List.getElem?_cons_succ, List.getElem?_cons_zero, Option.getD_some]; go_simp <;> rfl⟩))) ?_
      · exact fun w h => h.of_mem (by simp)
      · exact HH1.out.drew
      have hN := Lib.hid HH1.out.size
      clear HH1
      have e1 : IntKind.i64.wrap (1000 * 365) = 365000 := by decide
      simp only [List.map_cons, List.map_nil, opAt, List.getElem?_cons_succ, List.getElem?_cons_zero, Option.getD_some, List.contains_cons, List.contains_nil, Nat.reduceBEq, Bool.or_false, Bool.or_true, Bool.true_or, Bool.false_or]
      refine wpX_pure rfl ?_
      refine wpQuiet_row 168 (.tmp 18) rfl rfl q rfl 168 (decE x 0) _ (fun w hw => hw.get 1 rfl) Tryz.underlying168 rfl (by first | kernel_rfl | (rw [enc_size]; kernel_rfl)) (fun KK hKK => ?_)
      go_simp
      refine hKK _ ?_
      clear hKK KK
      refine wpQuiet_nil ?_
      repeat (refine wpX_pure rfl ?_; go_big_quiet_step ((intro _; rfl)); refine wpQuiet_nil ?_)
      refine wpX_call (.agg (decE 1 0)) 95 #[.int .i64 1] rfl (fun w => by go_simp) (fun w hw => C1.out _) (fun KK hKK => ?_)
      go_simp
      refine hKK _ ?_
      clear hKK KK
      refine wpX_call (.agg (decE x 0)) 98 #[.agg (decE x 0), .agg (decE 1 0)] rfl (fun w => by go_simp) (fun w hw => CX1.out _) (fun KK hKK => ?_)
      go_simp
      refine hKK _ ?_
      clear hKK KK
      repeat (refine wpX_pure rfl ?_; go_big_quiet_step ((intro _; rfl)); refine wpQuiet_nil ?_)
      refine wpX_call (.agg (decE 365000 0)) 95 #[.int .i64 365000] rfl (fun w => by go_simp) (fun w hw => CY.out _) (fun KK hKK => ?_)
      go_simp
      refine hKK _ ?_
      clear hKK KK
      repeat (refine wpX_pure rfl ?_; go_big_quiet_step ((intro _; rfl)); refine wpQuiet_nil ?_)
      refine wpX_call (.tuple #[.agg (decE y 0), .int .i64 0]) 99 #[.agg (decE x 0), .agg (decE 365000 0), .int .i64 0, .int .i64 mode] rfl (fun w => by go_simp) (fun w hw => CQ.out _) (fun KK hKK => ?_)
      go_simp
      refine hKK _ ?_
      clear hKK KK
      repeat (refine wpX_pure rfl ?_; go_big_quiet_step ((intro _; rfl)); refine wpQuiet_nil ?_)
      repeat (refine wpX_float rfl ?_; go_big_quiet_step ((intro _; rfl)); refine wpQuiet_nil ?_)
      refine wpX_nil ?_
      intro gs w6 H6
      intro hmade
      simp only [putAll, wpTail, opAt, List.getElem?_cons_succ, List.getElem?_cons_zero, Option.getD_some, Act.put]
      obtain ⟨f, hf⟩ : ∃ f, f = gs 12 := ⟨_, rfl⟩
      obtain ⟨f1, f2⟩ := hmade.1 12 (by simp)
      rw [← hf] at f1 f2 ⊢
      have hfW : Hid (W.heap.size ≤ f) := Lib.hid (Nat.le_trans hN.out f1)
      have H7 := Lib.hid (Has.cons f2 (Has.nil H6.below))
      clear hmade hf f1 f2 H6 hN e1
      refine wpList_put rfl 168 (.tmp 21) (.tmp 95) rfl f (decE y 0) rfl rfl 168 _ (H7.out.get 0 rfl) (by first | kernel_rfl | (rw [enc_size]; kernel_rfl)) (by first | rfl | (rw [enc_size]; rfl)) (by first | exact enc_all _ | exact numE_all _ _ _ | exact decE_all _ _ | (rw [Array.all_eq_true']; simp [Value.oneCell'])) ?_
      intro W8 HB8 hfar8 hbel8 hsz8 hcell8
      have H8 := Lib.hid (H7.out.upd 0 rfl hfW.out (by simp) HB8 hfar8 hbel8)
      clear HB8 hfar8 hbel8 hsz8 hcell8 H7
      go_wp2_with fail
      refine ⟨H8.out.of_mem (by simp), ?_⟩
      go_wp2_with fail
      refine ⟨H8.out.of_mem (by simp), ?_⟩
      go_wp2_with fail
      refine wp_region_regF (fun w' => Has W [(f, 168, decE y 0)] w') (fun w' => Has W [] w') (fun _ => (0, #[])) [0, 1, 2, 3, 4, 5] [] [6, 7] [5] (by kernel_rfl) (by kernel_rfl) ?_ (fun w w' h hb => h.step hb) ?_ (fun k hk => by cases hk) ?_
      · exact fun w h => h.of_mem (by simp)
      · exact H8.out.drew
      clear H8
      simp only [List.map_cons, List.map_nil, opAt, List.getElem?_cons_succ, List.getElem?_cons_zero, Option.getD_some, List.contains_cons, List.contains_nil, Nat.reduceBEq, Bool.or_false, Bool.or_true, Bool.true_or, Bool.false_or]
      refine wpX_pure rfl ?_
      refine wpQuiet_row 168 (.tmp 21) rfl rfl f rfl 168 (decE y 0) _ (fun w hw => hw.get 0 rfl) Tryz.underlying168 rfl (by first | kernel_rfl | (rw [enc_size]; kernel_rfl)) (fun KK hKK => ?_)
      go_simp
      refine hKK _ ?_
      clear hKK KK
      refine wpQuiet_nil ?_
      refine wpX_call (.agg (decE 4000000000000000000 0)) 95 #[.int .i64 4000000000000000000] rfl (fun w => by go_simp) (fun w hw => CM.out _) (fun KK hKK => ?_)
      go_simp
      refine hKK _ ?_
      clear hKK KK
      refine wpX_call (.tuple #[.int .i64 k, .int .i64 0]) 100 #[.agg (decE y 0), .agg (decE 4000000000000000000 0)] rfl (fun w => by go_simp) (fun w hw => CC.out _) (fun KK hKK => ?_)
      go_simp
      refine hKK _ ?_
      clear hKK KK
      repeat (refine wpX_pure rfl ?_; go_big_quiet_step ((intro _; rfl)); refine wpQuiet_nil ?_)
      repeat (refine wpX_float rfl ?_; go_big_quiet_step ((intro _; rfl)); refine wpQuiet_nil ?_)
      refine wpX_nil ?_
      intro gs2 w9 H9
      intro hmade
      simp only [putAll, wpTail, opAt, List.getElem?_cons_succ, List.getElem?_cons_zero, Option.getD_some, Act.put]
      have H10 := Lib.hid H9
      clear hmade H9
      go_wp2_with fail
      refine ⟨H10.out.of_mem (by simp), ?_⟩
      go_wp2_with fail
      refine ⟨H10.out.of_mem (by simp), ?_⟩
      go_wp2_with (refine wpList_load_row rfl 168 (.tmp 21) rfl f rfl 168 (decE y 0) (0, 0) _ (H10.out.get 0 rfl) Tryz.underlying168 rfl (by first | kernel_rfl | (rw [enc_size]; kernel_rfl)) ?_)
      refine (CI.out _).mono ?_
      rintro e w10 ⟨rfl, hb10⟩
      have H11 := (H10.out.step hb10).below
      clear hb10 H10
      go_wp2_with fail
      exact bodyPost_ret (results_two rfl _ _ rfl rfl) rfl ⟨rfl, H11⟩
end Go.Proofs.YtlfomhdphbchpaaGreatDoor.Acc
