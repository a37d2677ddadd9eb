/- Lemmas of a claim: DecL -/
import Derived.Test.YtkdnebalpdebeaaGreatDoorG20
set_option linter.unusedVariables false
set_option linter.unusedSimpArgs false
set_option maxHeartbeats 16000000
set_option maxRecDepth 100000
namespace Go.Proofs.YtkdnebalpdebeaaGreatDoor
namespace Dec
open Go.RowKit Go.Deep Wide
theorem ten12_ok (W : World) : Calls Tryz.prog 45 #[.int .i64 12] W fun e w' => e = .returned (.agg (enc (10 ^ 12))) /\ Below W.heap.size W w' := ten_ok 12 (by omega) W
theorem quo12_ok (n m : Nat) (hm : m = n * 10 ^ 12) (hn : m < P 6) (W : World) : Calls Tryz.prog 44 #[.agg #[.int .u64 (w (m) 0 : Nat), .int .u64 (w (m) 1 : Nat), .int .u64 (w (m) 2 : Nat), .int .u64 (w (m) 3 : Nat), .int .u64 (w (m) 4 : Nat), .int .u64 (w (m) 5 : Nat)], .agg (enc (10 ^ 12))] W fun e w' => e = .returned (.tuple #[.agg (enc n), .agg (enc 0)]) /\ Below W.heap.size W w' := by
 have := quo_ok m (10 ^ 12) hn (by decide) (by decide +kernel) W
 rw [hm, Nat.mul_div_cancel _ (by decide), Nat.mul_mod_left] at this
 rw [hm]
 exact this
theorem int12_ok (c : Int) (hc : -9223372036854775808 <= c /\ c <= 9223372036854775807) (W : World) :
 Calls Tryz.prog 15 #[.agg (decE (c * 1000000000000) 12)] W fun e w' => e = .returned (.tuple #[.int .i64 c, .int .i64 0]) /\ Below W.heap.size W w' := by
 have hT0 : InT c := by unfold InT; omega
 obtain ⟨C, hC⟩ : ∃ C, C = c * 1000000000000 := ⟨_, rfl⟩
 rw [<- hC]
 have hT : InT C := by unfold InT; omega
 have CK := Hd (fun W' => check_ok C 12 hT W')
 rw [chk_yes (by omega)] at CK
 have CA := Hd (fun W' => apartL_ok C 12 hT W')
 have CT := Hd (fun W' => ten12_ok W')
 have CQ := Hd (fun W' => quo12_ok c.natAbs C.natAbs (by omega) (abs6 hT) W')
 have CL := Hd (fun W' => len_ok 0 (by decide) W')
 have TG := Hd (fun W' => tog_ok (decide (c < 0)) c.natAbs 0 (by unfold T; omega) W')
 rw [coef_self] at TG
 have hdk : decide (C < 0) = decide (c < 0) := by congr 1; simp only [eq_iff_iff]; omega
 rw [hdk] at CA
 obtain ⟨n, hn⟩ : ∃ n, n = c.natAbs := ⟨_, rfl⟩
 obtain ⟨m, hm⟩ : ∃ m, m = C.natAbs := ⟨_, rfl⟩
 obtain ⟨k, hk⟩ : ∃ k, k = decide (c < 0) := ⟨_, rfl⟩
 rw [<- hk] at CA TG
 rw [<- hn] at TG
 rw [<- hm] at CA
 rw [<- hn, <- hm] at CQ
 obtain ⟨Hv, hH⟩ : ∃ Hv, Hv = C / 18446744073709551616 := ⟨_, rfl⟩
 obtain ⟨Lv, hL⟩ : ∃ Lv, Lv = C % 18446744073709551616 := ⟨_, rfl⟩
 have HEC : Hi (decE C 12 = #[.int .i64 Hv, .int .u64 Lv, .int .i64 12]) := Hd (by rw [hH, hL]; rfl)
 have ekC : decide (Hv < 0) = k := by rw [hk]; congr 1; simp only [eq_iff_iff]; omega
 obtain ⟨hv, hh⟩ : ∃ hv, hv = c / 18446744073709551616 := ⟨_, rfl⟩
 obtain ⟨lv, hl⟩ : ∃ lv, lv = c % 18446744073709551616 := ⟨_, rfl⟩
 have HE : Hi (decE c 0 = #[.int .i64 hv, .int .u64 lv, .int .i64 0]) := Hd (by rw [hh, hl]; rfl)
 have e1 : wrap64 lv = c := by unfold wrap64; omega
 have e2 : c / 9223372036854775808 = hv := by omega
 have hinit : ∀ w1, w1 = W.alloc (.cells #[.int .i64 Hv, .int .u64 Lv, .int .i64 12] 56) -> Has W [(W.heap.size, 56, decE C 12)] w1 := fun w1 e => by
  subst e
  refine Has.cons ?_ (Has.nil ?_)
  . rw [HEC.o]; exact Blk.new _ _ _
  . exact Below.al (Below.refl _ _) _
 have HI := Hd (hinit _ rfl)
 have CK' : Hi (∀ W', Calls Tryz.prog 42 #[.agg #[.int .i64 Hv, .int .u64 Lv, .int .i64 12]] W' fun e w' => e = .returned (.int .i64 0) /\ Below W'.heap.size W' w') := Hd (by rw [<- HEC.o]; exact CK.o)
 rw [show (Value.agg (decE C 12)) = .agg #[.int .i64 Hv, .int .u64 Lv, .int .i64 12] from by rw [HEC.o]]
 have EK := Hd ekC
 have E1 := Hd e1
 have E2 := Hd e2
 clear hn hk hh hl hH hL hm hdk ekC e1 e2 hinit CK hT hT0 hc hC
 go_enter Tryz.func15, Tryz.ntmps15
 go_wp2_with fail
 refine (CK'.o _).mono ?_
 rintro e w1 ⟨rfl, hb1⟩
 have H1 := Hd (HI.o.step hb1)
 clear hb1 HI
 go_wp2_with fail
 refine wp_region_regF (fun w' => Has W [(W.heap.size, 56, decE C 12)] w') (fun w' => Has W [] w') (fun _ => (115, enc 0)) [0, 1, 2, 3, 4, 5, 6, 7, 8, 9] [10, 11] [12, 13] [9] (by kernel_rfl) (by kernel_rfl) ?_ (fun w w' h hb => h.step hb) ?_ (fun k hk => (by simp only [List.mem_cons, List.not_mem_nil, or_false] at hk; first | (subst hk; exact ⟨rfl, fun a w => by simp only [opAt, List.getElem?_cons_succ, List.getElem?_cons_zero, Option.getD_some]; go_simp <;> rfl⟩) | (rcases hk with rfl | rfl <;> exact ⟨rfl, fun a w => by simp only [opAt, List.getElem?_cons_succ, List.getElem?_cons_zero, Option.getD_some]; go_simp <;> rfl⟩))) ?_
 . exact fun w h => h.of_mem (by simp)
 . exact H1.o.drew
 have hN := Hd (H1.o.get 0 rfl).lt
 clear H1
 simp only [List.map_cons, List.map_nil, opAt, List.getElem?_cons_succ, List.getElem?_cons_zero, Option.getD_some, List.contains_cons, List.contains_nil, Nat.reduceBEq, Bool.or_false, Bool.or_true, Bool.true_or, Bool.false_or]
 refine wpX_pure rfl ?_
 refine wpQuiet_row 56 (.tmp 1) rfl rfl W.heap.size rfl 56 (decE C 12) _ (fun w hw => hw.get 0 rfl) Tryz.underlying56 rfl (by kernel_rfl) (fun K1 k1 => ?_)
 go_simp
 refine k1 _ ?_
 clear k1 K1
 refine wpQuiet_nil ?_
 refine wpX_call (.agg #[.bool k, .int .u64 (w m 0 : Nat), .int .u64 (w m 1 : Nat), .int .u64 (w m 2 : Nat), .int .u64 (w m 3 : Nat), .int .u64 (w m 4 : Nat), .int .u64 (w m 5 : Nat), .int .i64 12]) 43 #[.agg (decE C 12)] rfl (fun w => by go_simp) (fun w hw => CA.o _) (fun K1 k1 => ?_)
 go_simp
 refine k1 _ ?_
 clear k1 K1
 refine wpX_pure rfl ?_
 refine wpQuiet_val (.agg #[.int .u64 (w (m) 0 : Nat), .int .u64 (w (m) 1 : Nat), .int .u64 (w (m) 2 : Nat), .int .u64 (w (m) 3 : Nat), .int .u64 (w (m) 4 : Nat), .int .u64 (w (m) 5 : Nat)]) rfl (fun w hw => ?_) (fun K1 k1 => ?_)
 . first
   | rfl
   | (go_simp; done)
   | trace_state
 go_simp
 refine k1 _ ?_
 clear k1 K1
 refine wpQuiet_nil ?_
 repeat (refine wpX_pure rfl ?_; go_big_quiet_step ((intro _; rfl)); refine wpQuiet_nil ?_)
 refine wpX_pure rfl ?_
 refine wpQuiet_cell 3 (.tmp 18) rfl rfl ⟨W.heap.size, 2, none⟩ rfl (.int .i64 12) _ (fun w hw => (hw.get 0 rfl).cell 2) Tryz.underlying3 rfl (fun K1 k1 => ?_)
 go_simp
 refine k1 _ ?_
 clear k1 K1
 refine wpQuiet_nil ?_
 refine wpX_call (.agg (enc (10 ^ 12))) 45 #[.int .i64 12] rfl (fun w => by go_simp) (fun w hw => CT.o _) (fun K1 k1 => ?_)
 go_simp
 refine k1 _ ?_
 clear k1 K1
 refine wpX_call (.tuple #[.agg (enc n), .agg (enc 0)]) 44 #[.agg #[.int .u64 (w (m) 0 : Nat), .int .u64 (w (m) 1 : Nat), .int .u64 (w (m) 2 : Nat), .int .u64 (w (m) 3 : Nat), .int .u64 (w (m) 4 : Nat), .int .u64 (w (m) 5 : Nat)], .agg (enc (10 ^ 12))] rfl (fun w => by go_simp) (fun w hw => CQ.o _) (fun K1 k1 => ?_)
 go_simp
 refine k1 _ ?_
 clear k1 K1
 repeat (refine wpX_pure rfl ?_; go_big_quiet_step ((intro _; rfl)); refine wpQuiet_nil ?_)
 repeat (refine wpX_float rfl ?_; go_big_quiet_step ((intro _; rfl)); refine wpQuiet_nil ?_)
 refine wpX_nil ?_
 intro gs w7 H7
 intro hmade
 simp only [putAll, wpTail, opAt, List.getElem?_cons_succ, List.getElem?_cons_zero, Option.getD_some, Act.put]
 obtain ⟨p, hp⟩ : ∃ p, p = gs 10 := ⟨_, rfl⟩
 obtain ⟨q, hq⟩ : ∃ q, q = gs 11 := ⟨_, rfl⟩
 obtain ⟨g1, g2⟩ := hmade.1 10 (by simp)
 obtain ⟨f1, f2⟩ := hmade.1 11 (by simp)
 have hgf := hmade.2 10 (by simp) 11 (by simp) (by decide)
 rw [<- hp] at g1 g2 hgf ⊢
 rw [<- hq] at f1 f2 hgf ⊢
 have hpW : Hi (W.heap.size < p /\ W.heap.size < q /\ p ≠ q) := Hd ⟨Nat.lt_of_lt_of_le hN.o g1, Nat.lt_of_lt_of_le hN.o f1, hgf⟩
 have H8 := Hd (Has.cons g2 (Has.cons f2 H7))
 clear hmade hp hq g1 g2 f1 f2 hgf H7 hN
 refine wpList_put rfl 115 (.tmp 5) (.tmp 22) rfl p (enc n) rfl rfl 115 _ (H8.o.get 0 rfl) (by first | kernel_rfl | (rw [enc_size]; kernel_rfl)) (by first | rfl | (rw [enc_size]; rfl)) (enc_all _) ?_
 intro W4 HB4 hfar4 hbel4 hsz4 hcell4
 have H9 := Hd (H8.o.upd 0 rfl (by have := hpW.o; omega) (by simp; have := hpW.o; omega) HB4 hfar4 hbel4)
 clear HB4 hfar4 hbel4 hsz4 hcell4 H8
 go_wp2_with fail
 refine ⟨H9.o.of_mem (by simp), ?_⟩
 refine wpList_put rfl 115 (.tmp 6) (.tmp 23) rfl q (enc 0) rfl rfl 115 _ (H9.o.get 1 rfl) (by first | kernel_rfl | (rw [enc_size]; kernel_rfl)) (by first | rfl | (rw [enc_size]; rfl)) (enc_all _) ?_
 intro W5 HB5 hfar5 hbel5 hsz5 hcell5
 have H10 := Hd (H9.o.upd 1 rfl (by have := hpW.o; omega) (by simp; have := hpW.o; omega) HB5 hfar5 hbel5)
 clear HB5 hfar5 hbel5 hsz5 hcell5 H9
 go_wp2_with fail
 refine ⟨H10.o.of_mem (by simp), ?_⟩
 go_wp2_with (refine wpList_load_row rfl 115 (.tmp 6) rfl q rfl 115 (enc 0) (0, 0) _ (H10.o.get 1 rfl) Tryz.underlying115 rfl (by first | kernel_rfl | (rw [enc_size]; kernel_rfl)) ?_)
 refine (CL.o _).mono ?_
 rintro e w6 ⟨rfl, hb6⟩
 rw [show Go.bitLen 0 = 0 from rfl]
 have H11 := Hd (H10.o.step hb6)
 clear hb6 H10
 have hd0 : (decE C 12) = #[.int .i64 Hv, .int .u64 Lv, .int .i64 12] := HEC.o
 have c0 : w6.cell? ⟨W.heap.size, 0, none⟩ = some (.int .i64 Hv) := by have := (H11.o.get 2 rfl).cell 0; rw [hd0] at this; exact this
 clear hd0
 have ek := EK.o
 go_wp2_with (refine wpList_load_row rfl 115 (.tmp 5) rfl p rfl 115 #[.int .u64 (w (n) 0 : Nat), .int .u64 (w (n) 1 : Nat), .int .u64 (w (n) 2 : Nat), .int .u64 (w (n) 3 : Nat), .int .u64 (w (n) 4 : Nat), .int .u64 (w (n) 5 : Nat)] (0, 0) _ (H11.o.get 0 rfl) Tryz.underlying115 rfl (by kernel_rfl) ?_)
 clear ek c0
 refine (TG.o _).mono ?_
 rintro e w8 ⟨rfl, hb8⟩
 have hD : Below W.heap.size W (w8.alloc (.cells #[.int .i64 0, .int .u64 0, .int .i64 0] 56)) := Below.al ((H11.o.step hb8).below) _
 have hgW := (H11.o.step hb8).size
 clear hb8 H11
 go_wp2_with (refine wpList_put rfl 56 (.tmp 7) (.tmp 34) rfl w8.heap.size (decE c 0) rfl rfl 56 _ (Blk.new w8 _ _) (by kernel_rfl) (by first | rfl | (rw [enc_size]; rfl)) (decE_all _ _) ?_
              intro W7 HB7 hfar7 hbel7 hsz7 hcell7
              have hd0 : (decE c 0) = #[.int .i64 hv, .int .u64 lv, .int .i64 0] := HE.o
              have c0 : W7.cell? ⟨w8.heap.size, 0, none⟩ = some (.int .i64 hv) := by (have := HB7.cell 0; rw [hd0] at this; exact this)
              have c1 : W7.cell? ⟨w8.heap.size, 1, none⟩ = some (.int .u64 lv) := by (have := HB7.cell 1; rw [hd0] at this; exact this)
              have H12 := hbel7 W.heap.size W hgW hD
              have e1 := E1.o
              have e2 := E2.o
              clear hd0 HB7 hfar7 hbel7 hsz7 hcell7 hD hgW)
 exact bodyPost_ret (results_two (x := .int .i64 (wrap64 lv)) (y := .int .i64 0) rfl _ _ rfl rfl) rfl ⟨by rw [E1.o], H12⟩
end Dec
end Go.Proofs.YtkdnebalpdebeaaGreatDoor
