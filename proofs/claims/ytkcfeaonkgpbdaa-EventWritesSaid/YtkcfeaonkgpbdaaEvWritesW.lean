import Derived.Test.YtkcfeaonkgpbdaaEvO
/-! EventWrites: the walk -/
namespace Go.Proofs.Ytkcfeaonkgpbdaa.EventWritesW
open Go.RowKit Go.Deep Go.Proofs.Ytkcfeaonkgpbdaa Go.Proofs.Ytkcfeaonkgpbdaa.Pack Go.Proofs.Ytkcfeaonkgpbdaa.Event
set_option linter.unusedVariables false
set_option linter.unusedSimpArgs false
noncomputable def wx (e : Ev) : List Int := @ite _ e.form (Classical.propDecidable _) (Event.wr e) []
noncomputable def fx (e : Ev) : Int := @ite _ e.form (Classical.propDecidable _) 0 3
theorem wx_yes {e : Ev} (h : e.form) : wx e = Event.wr e := by unfold wx; rw [if_pos h]
theorem wx_no {e : Ev} (h : ¬ e.form) : wx e = [] := by unfold wx; rw [if_neg h]
theorem fx_yes {e : Ev} (h : e.form) : fx e = 0 := by unfold fx; rw [if_pos h]
theorem fx_no {e : Ev} (h : ¬ e.form) : fx e = 3 := by unfold fx; rw [if_neg h]
theorem wx_len (e : Ev) (h : e.ns.length = 8) : (wx e).length ≤ 261 := by
  by_cases hf : e.form
  · rw [wx_yes hf]; exact (wr_len e hf h).1
  · rw [wx_no hf]; simp
theorem write_any (e : Ev) (A : Option Addr) (c : Nat) (w : World) (ho : e.ok) (hts : RI w w.heap.size .i64 A e.ts) (hcap : e.ts.length / 2 ≤ c) (hl : e.ts.length ≤ 17592186044416) :
    Calls Try.prog 9 #[.agg (row e A c)] w fun x w' => ∃ (B : Option Addr) (d : Nat), x = .returned (.tuple #[.slice B (wx e).length d, .int .i64 (fx e)]) ∧ (wx e).length ≤ d ∧ RI w' w'.heap.size .u8 B (wx e) ∧ Below w.heap.size w w' := by
  by_cases hf : e.form
  · refine (write_ok e A c w ho hf hts hcap).mono ?_
    rintro x w' ⟨v, rfl, f⟩
    obtain ⟨B, d, rfl⟩ := own_slice f.1
    rw [wx_yes hf, fx_yes hf]
    exact ⟨B, d, rfl, own_cap f.1, fresh_ri f, f.2⟩
  · refine (write_no e A c w ho hf hl).mono ?_
    rintro x w' ⟨rfl, b⟩
    rw [wx_no hf, fx_no hf]
    exact ⟨none, 0, rfl, by simp, RI.nil, b⟩
theorem docwrite_any (e : Ev) (A : Option Addr) (c : Nat) (w : World) (ho : e.ok) (hts : RI w w.heap.size .i64 A e.ts) (hcap : e.ts.length / 2 ≤ c) (hl : e.ts.length ≤ 17592186044416) :
    Calls Try.prog 10 #[.agg (row e A c)] w fun x w' => ∃ (B : Option Addr) (d : Nat), x = .returned (.tuple #[.slice B (wx e).length d, .int .i64 (fx e)]) ∧ RI w' w'.heap.size .u8 B (wx e) ∧ Below w.heap.size w w' := by
  by_cases hf : e.form
  · refine (docwrite_ok e A c w ho hf hts hcap).mono ?_
    rintro x w' ⟨v, rfl, f⟩
    obtain ⟨B, d, rfl⟩ := own_slice f.1
    rw [wx_yes hf, fx_yes hf]
    exact ⟨B, d, rfl, fresh_ri f, f.2⟩
  · refine (docwrite_no e A c w ho hf hl).mono ?_
    rintro x w' ⟨rfl, b⟩
    rw [wx_no hf, fx_no hf]
    exact ⟨none, 0, rfl, RI.nil, b⟩
theorem check_any (e : Ev) (A : Option Addr) (c : Nat) (w : World) (ho : e.ok) (hl : e.ts.length ≤ 17592186044416) :
    Calls Try.prog 14 #[.agg (row e A c)] w fun x w' => x = .returned (.int .i64 (fx e)) ∧ Below w.heap.size w w' := by
  refine (check_ok e A c w ho hl).mono ?_
  rintro x w' ⟨f, rfl, hf, b⟩
  rcases hf with ⟨rfl, h⟩ | ⟨rfl, h⟩
  · rw [fx_yes h]; exact ⟨rfl, b⟩
  · rw [fx_no h]; exact ⟨rfl, b⟩
theorem exec_load_row {P : Program} {o : Oper} {ρ : Operand → Value} {w : World} (ty : TypeId) (x : Operand) (ho : o.op = .load ty x) (g : Nat) (hx : ρ x = .pointer (some ⟨g, 0, none⟩)) (t : TypeId) (cs : Array Value) (d : TypeDesc) (hg : Blk w g t cs)
    (hu : P.underlying ty = some d) (hd : (match d with | .struct _ | .array _ _ => true | _ => false) = true) (hi : (P.info? ty).map (·.size) = some cs.size) : (execOp ρ o).run P w = .ok (.value (.agg cs)) w := by
  unfold execOp
  simp only [ho, hx, Instr.loadAt, Instr.sureAddr, Sem.run_bind, Sem.run_pure, Result.andThen_ok, run_loadVar_row w g t ty cs (0, 0) d hg hu hd hi]
set_option maxRecDepth 1000000 in
set_option maxHeartbeats 40000000 in
theorem walk (E : Ev) (A : Option Addr) (c : Nat) (w : World) (ho : E.ok) (hts : RI w w.heap.size .i64 A E.ts) (hcap : E.ts.length / 2 ≤ c) (hlen : E.ts.length * 8 ≤ 140737488351232) :
    Calls Try.prog 3 #[.agg (row E A c)] w fun e w' => e = .returned (.bool true) ∧ Below w.heap.size w w' := by
  have hr := row_row E A c
  obtain ⟨R, hR⟩ : ∃ R, R = row E A c := ⟨_, rfl⟩
  rw [← hR] at hr ⊢
  have HR := Lib.hid hr
  have HRR := Lib.hid hR
  have HO := Lib.hid ho
  have HT := Lib.hid hts
  have hop0 := ho.op0
  have hop1 := ho.op1
  have HALL := Lib.hid (show R.all (·.oneCell') = true by rw [hR]; exact row_all _ _ _)
  have hev := ho.even
  obtain ⟨L, hL⟩ : ∃ L, L = E.ts.length / 2 := ⟨_, rfl⟩
  have hL2 : E.ts.length = 2 * L := by omega
  rw [← hL] at hcap
  have hLl : L * 16 ≤ 140737488351232 := by omega
  have HL := Lib.hid hL
  have HL2 := Lib.hid hL2
  clear hr hR ho hts hev hL hL2 hlen
  go_enter Try.func3, Try.ntmps3
  go_upto_region 1 with fail
  have hB0 := Blk.new w 26 R
  have d0 := (Below.refl w.heap.size w).alloc (Nat.le_refl _) (.cells R 26)
  have hs0 : w.heap.size < (w.alloc (.cells R 26)).heap.size := by simp
  obtain ⟨W0, hW0⟩ : ∃ W0, W0 = w.alloc (.cells R 26) := ⟨_, rfl⟩
  rw [← hW0] at hB0 d0 hs0 ⊢
  obtain ⟨b0, hb0⟩ : ∃ b, b = w.heap.size := ⟨_, rfl⟩
  rw [← hb0] at hB0 hs0 ⊢
  have hb00 : w.heap.size ≤ b0 := by omega
  have HB0 := Lib.hid hB0
  have HD0 := Lib.hid d0
  clear hW0 hb0 hB0 d0
  go_wp2_with fail
  refine (awake_ok _).mono ?_
  rintro e w1 ⟨rfl, b1⟩
  have HB1 := Lib.hid (HB0.out.below b1 hs0)
  have HD1 := Lib.hid (HD0.out.trans (b1.mono (by omega)))
  have hs1 : b0 < w1.heap.size := Nat.lt_of_lt_of_le hs0 b1.size
  have HT1 := Lib.hid ((HT.out.below HD1.out).more HD1.out.size)
  have c10 := (HB1.out.cell 10).trans HR.out.ts
  rw [← HL.out] at c10
  clear HB0 HD0 b1 hs0
  go_wp2_with fail
  have htt := tiers_ok A c E.ts w1 HT1.out HO.out.even (by rw [HL2.out]; omega)
  rw [← HL.out] at htt
  refine htt.mono ?_
  rintro e w2 ⟨A2, n2, c2, rfl, hO2, b2⟩
  have hlf : (E.ts ++ [77, 0, 0, 78]).length = 2 * L + 4 := by rw [List.length_append, HL2.out]; rfl
  have h2r := town_ri hO2
  rw [hlf, show (2 * L + 4) / 2 = L + 2 from by omega] at h2r
  obtain ⟨hn2, hc2, hri2⟩ := h2r
  subst hn2
  have HF2 := Lib.hid hri2
  have HB2 := Lib.hid (HB1.out.below b2 hs1)
  have HD2 := Lib.hid (HD1.out.trans (b2.mono HD1.out.size))
  have hs2 : b0 < w2.heap.size := Nat.lt_of_lt_of_le hs1 b2.size
  have HT2 := Lib.hid ((HT1.out.below b2).more b2.size)
  clear htt hO2 b2 hlf HB1 HD1 HT1 c10 hri2
  go_upto_region 5 with (first
    | (refine wpList_load_row rfl 26 (.tmp 1) rfl b0 rfl 26 R (0, 0) _ HB2.out Try.underlying26 rfl (by rw [HR.out.size]; kernel_rfl) ?_)
    | (refine wpList_put rfl 26 (.tmp 4) (.tmp 20) rfl w2.heap.size R rfl rfl 26 _ (Blk.new w2 _ _) (by rw [HR.out.size]; kernel_rfl) (by rw [HR.out.size]; rfl) HALL.out ?_
       intro W4 HB4 hfar4 hbel4 hsz4 hcl4
       have b4 := hbel4 w2.heap.size w2 (Nat.le_refl _) ((Below.refl _ _).alloc (Nat.le_refl _) _)
       have S4 := Lib.hid (show W4.heap.size = w2.heap.size + 1 by rw [hsz4]; simp)
       clear hfar4 hbel4 hsz4 hcl4) )
  have hs4 := S4.out
  obtain ⟨mb, hmb⟩ : ∃ mb, mb = w2.heap.size := ⟨_, rfl⟩
  rw [← hmb] at hs4 ⊢
  have hBm : Blk W4 mb 26 R := by rw [hmb]; exact HB4
  have cm := (hBm.cell 10).trans HR.out.ts
  have fm := hBm.frozen 10
  have c10 := ((HB2.out.below b4 hs2).cell 10).trans HR.out.ts
  rw [← HL.out] at c10 cm
  have hrow : R.setIfInBounds 10 (.slice A2 L c2) = row E A2 c2 := by
    have h := row_set_ts E.op E.key E.ns E.ts E.ts A A2 c c2
    rw [← HL.out] at h
    rw [HRR.out]
    exact h
  have hBM := hBm.set_ 10 (.slice A2 L c2)
  rw [hrow] at hBM
  have HBM := Lib.hid hBM
  have HB5 := Lib.hid ((HB2.out.below b4 hs2).far (p := ⟨mb, 10, none⟩) (by simp; omega) (.slice A2 L c2))
  have hF4 : RI W4 mb .i64 A2 (E.ts ++ [77, 0, 0, 78]) := by rw [hmb]; exact HF2.out.below b4
  have HF5 := Lib.hid ((hF4.setCell (p := ⟨mb, 10, none⟩) (Nat.le_refl _) (.slice A2 L c2)).more (by simp; omega : mb ≤ (W4.setCell ⟨mb, 10, none⟩ (.slice A2 L c2)).heap.size))
  have hT4 : RI W4 mb .i64 A E.ts := by rw [hmb]; exact HT2.out.below b4
  have HT5 := Lib.hid ((hT4.setCell (p := ⟨mb, 10, none⟩) (Nat.le_refl _) (.slice A2 L c2)).more (by simp; omega : mb ≤ (W4.setCell ⟨mb, 10, none⟩ (.slice A2 L c2)).heap.size))
  have hD4 : Below w.heap.size w W4 := HD2.out.trans (b4.mono (by omega))
  have HD5 := Lib.hid (hD4.setCell (p := ⟨mb, 10, none⟩) (by show w.heap.size ≤ mb; omega) (.slice A2 L c2))
  have hs5 : mb < (W4.setCell ⟨mb, 10, none⟩ (.slice A2 L c2)).heap.size := by simp; omega
  have hs5' : b0 < (W4.setCell ⟨mb, 10, none⟩ (.slice A2 L c2)).heap.size := by simp; omega
  have hLc2 : L ≤ c2 := by omega
  have hL2i : (L : Int) ≤ c2 := by omega
  clear hrow hBM hBm hF4 hT4 hD4 b4 S4 HB4 HF2 HT2 HD2 HB2 hs2 hmb
  go_upto_region 6 with fail
  obtain ⟨W5, hW5⟩ : ∃ W5, W5 = W4.setCell ⟨mb, 10, none⟩ (.slice A2 L c2) := ⟨_, rfl⟩
  rw [← hW5] at HBM HB5 HF5 HT5 HD5 hs5 hs5' ⊢
  clear hW5 cm fm c10 hs4
  obtain ⟨M, hM⟩ : ∃ M, M = row E A2 c2 := ⟨_, rfl⟩
  rw [← hM] at HBM
  have HM := Lib.hid hM
  have HSM := Lib.hid (show M.size = 11 by rw [hM]; rfl)
  clear hM
  go_wp2_with (first
    | (refine wpList_load_row rfl 26 (.tmp 4) rfl mb rfl 26 M (0, 0) _ HBM.out Try.underlying26 rfl (by rw [HSM.out]; kernel_rfl) ?_))
  have hA2 : ∀ {w' : World} {B : Nat}, RI w' B .i64 A2 (E.ts ++ [77, 0, 0, 78]) → RI w' B .i64 A2 E.ts := fun h => by
    have := h.take E.ts.length
    simpa using this
  have hw := write_any E A2 c2 W5 HO.out (hA2 HF5.out) (by rw [← HL.out]; exact hLc2) (by rw [HL2.out]; omega)
  rw [← HM.out] at hw
  obtain ⟨X, hX⟩ : ∃ X, X = wx E := ⟨_, rfl⟩
  obtain ⟨F, hF⟩ : ∃ F, F = fx E := ⟨_, rfl⟩
  have hXl : X.length ≤ 261 := by rw [hX]; exact wx_len E HO.out.len
  rw [← hX, ← hF] at hw
  have HX := Lib.hid hX
  have HFX := Lib.hid hF
  clear hX hF
  refine hw.mono ?_
  rintro e w6 ⟨B6, d6, rfl, hd6, hp6, b6⟩
  have HP6 := Lib.hid hp6
  have HBM6 := Lib.hid (HBM.out.below b6 hs5)
  have HB6 := Lib.hid (HB5.out.below b6 hs5')
  have HF6 := Lib.hid ((HF5.out.below b6).more b6.size)
  have HT6 := Lib.hid ((HT5.out.below b6).more b6.size)
  have HD6 := Lib.hid (HD5.out.trans (b6.mono HD5.out.size))
  have hs6 : mb < w6.heap.size := Nat.lt_of_lt_of_le hs5 b6.size
  have hs6' : b0 < w6.heap.size := Nat.lt_of_lt_of_le hs5' b6.size
  clear hw hp6 b6 HBM HB5 HF5 HT5 HD5 hs5 hs5'
  go_wp2_with (first
    | (refine wpList_load_row rfl 26 (.tmp 1) rfl b0 rfl 26 R (0, 0) _ HB6.out Try.underlying26 rfl (by rw [HR.out.size]; kernel_rfl) ?_))
  have hw := docwrite_any E A c w6 HO.out HT6.out (by rw [← HL.out]; exact hcap) (by rw [HL2.out]; omega)
  rw [← HRR.out, ← HX.out, ← HFX.out] at hw
  refine hw.mono ?_
  rintro e w7 ⟨B7, d7, rfl, hp7, b7⟩
  have HQ7 := Lib.hid hp7
  have HP7 := Lib.hid ((HP6.out.below b7).more b7.size)
  have HBM7 := Lib.hid (HBM6.out.below b7 hs6)
  have HB7 := Lib.hid (HB6.out.below b7 hs6')
  have HF7 := Lib.hid ((HF6.out.below b7).more b7.size)
  have HT7 := Lib.hid ((HT6.out.below b7).more b7.size)
  have HD7 := Lib.hid (HD6.out.trans (b7.mono HD6.out.size))
  have hs7 : mb < w7.heap.size := Nat.lt_of_lt_of_le hs6 b7.size
  have hs7' : b0 < w7.heap.size := Nat.lt_of_lt_of_le hs6' b7.size
  clear hw hp7 b7 HP6 HBM6 HB6 HF6 HT6 HD6 hs6 hs6'
  have c0 := (HB7.out.cell 0).trans HR.out.op
  obtain ⟨CN, hCN⟩ : ∃ x : Int, x = if cnt E.op < 0 then 0 else cnt E.op := ⟨_, rfl⟩
  obtain ⟨CG, hCG⟩ : ∃ x : Int, x = if cnt E.op < 0 then 1 else 0 := ⟨_, rfl⟩
  have hc1 := fun w' => count_ok E.op hop0 hop1 w'
  have hc2' := fun w' => doccount_ok E.op hop0 hop1 w'
  simp only [← hCN, ← hCG] at hc1 hc2'
  have HC1 := Lib.hid hc1
  have HC2 := Lib.hid hc2'
  clear hc1 hc2' hCN hCG
  go_wp2_with fail
  refine (HC1.out _).mono ?_
  rintro e w8 ⟨rfl, rfl⟩
  go_wp2_with fail
  refine (HC2.out _).mono ?_
  rintro e w9 ⟨rfl, rfl⟩
  go_upto_region 10 with fail
  have hFF : (F != F) = false := by simp
  have hNN : (CN != CN) = false := by simp
  have hGG : (CG != CG) = false := by simp
  refine wp_region_tree (C := fun w' => Below w9.heap.size w9 w') (.seg [0, 1] (.turn 2 (.seg [3, 4, 5, 6, 7, 8, 9, 10, 11, 12, 13, 14, 15, 16, 17, 18, 19, 20, 23] (.turn 21 (.seg [22] (.turn 24 (.seg [25, 26, 27, 28, 29] (.turn 30 (.seg [31, 32, 33, 34, 35, 36, 37, 38, 39, 40, 41, 42] .nil))))))))) (by kernel_rfl) (by kernel_rfl) (Below.refl _ _).drew ?_
  simp only [wpPlan, List.map_cons, List.map_nil, opAt, List.getElem?_cons_succ, List.getElem?_cons_zero, Option.getD_some]
  repeat (go_big_quiet_step (fail))
  refine wpQuiet_nil ?_
  go_wp2_with fail
  have hsb := SameBytes.same w9.heap.size B6 B7 X.length X.length d6 d7 X X w9.drew HP7.out HQ7.out (by omega) rfl rfl rfl
  refine hsb.mono ?_
  rintro e wA ⟨rfl, dA⟩
  have CA : Below w9.heap.size w9 wA := (Below.refl _ _).drew.trans (dA.below _)
  clear hsb
  go_wp2_with fail
  refine ⟨CA, ?_⟩
  repeat (first
    | (go_big_quiet_step (fail))
    | (refine wpQuiet_got (.bool false) (by rfl) (fun w' hw' => ?_) (fun K hK => ?_)
       focus (go_simp; done)
       go_simp
       refine hK _ ?_
       clear hK K)
    | (refine wpQuiet_got (.bool true) (by rfl) (fun w' hw' => ?_) (fun K hK => ?_)
       focus (go_simp; done)
       go_simp
       refine hK _ ?_
       clear hK K))
  refine wpQuiet_got (.agg M) (by rfl) (fun w' hw' => exec_load_row 26 (.tmp 4) rfl mb rfl 26 M _ (HBM7.out.below hw' hs7) Try.underlying26 rfl (by rw [HSM.out]; kernel_rfl)) (fun K hK => ?_)
  go_simp
  refine hK _ ?_
  clear hK K
  repeat (go_big_quiet_step (fail))
  refine wpQuiet_got (.agg R) (by rfl) (fun w' hw' => exec_load_row 26 (.tmp 1) rfl b0 rfl 26 R _ (HB7.out.below hw' hs7') Try.underlying26 rfl (by rw [HR.out.size]; kernel_rfl)) (fun K hK => ?_)
  go_simp
  refine hK _ ?_
  clear hK K
  repeat (go_big_quiet_step (fail))
  refine wpQuiet_nil ?_
  go_wp2_with fail
  have hck := check_any E A2 c2 wA HO.out (by rw [HL2.out]; omega)
  rw [← HM.out, ← HFX.out] at hck
  refine hck.mono ?_
  rintro e wB ⟨rfl, bB⟩
  have CB := CA.trans (bB.mono CA.size)
  clear hck
  obtain ⟨fb, hfb⟩ : ∃ fb : Bool, (F == 0) = fb := ⟨_, rfl⟩
  have hfbB : formB E = fb := by
    rw [← hfb, HFX.out]
    by_cases hf : E.form
    · rw [formB_yes hf, fx_yes hf]; rfl
    · rw [formB_no hf, fx_no hf]; rfl
  have hbb : (fb != fb) = false := by cases fb <;> rfl
  go_wp2_with fail
  refine ⟨CB, ?_⟩
  repeat (go_big_quiet_step (fail))
  refine wpQuiet_got (.bool fb) (by rfl) (fun w' hw' => ?_) (fun K hK => ?_)
  · go_simp
  go_simp
  refine hK _ ?_
  clear hK K
  repeat (go_big_quiet_step (fail))
  repeat (first
    | (go_big_quiet_step (fail))
    | (refine wpQuiet_got (.bool false) (by rfl) (fun w' hw' => ?_) (fun K hK => ?_)
       focus (go_simp; done)
       go_simp
       refine hK _ ?_
       clear hK K)
    | (refine wpQuiet_got (.bool true) (by rfl) (fun w' hw' => ?_) (fun K hK => ?_)
       focus (go_simp; done)
       go_simp
       refine hK _ ?_
       clear hK K))
  refine wpQuiet_nil ?_
  go_wp2_with fail
  have hfo := form_ok E A c wB HO.out (by rw [HL2.out]; omega)
  rw [← HRR.out, hfbB] at hfo
  refine hfo.mono ?_
  rintro e wC ⟨rfl, bC⟩
  have CC := CB.trans (bC.mono CB.size)
  clear hfo
  go_wp2_with fail
  refine ⟨CC, ?_⟩
  repeat (first
    | (go_big_quiet_step (fail))
    | (refine wpQuiet_got (.bool false) (by rfl) (fun w' hw' => ?_) (fun K hK => ?_)
       focus (go_simp; done)
       go_simp
       refine hK _ ?_
       clear hK K)
    | (refine wpQuiet_got (.bool true) (by rfl) (fun w' hw' => ?_) (fun K hK => ?_)
       focus (go_simp; done)
       go_simp
       refine hK _ ?_
       clear hK K))
  refine wpQuiet_got (.agg M) (by rfl) (fun w' hw' => exec_load_row 26 (.tmp 4) rfl mb rfl 26 M _ (HBM7.out.below hw' hs7) Try.underlying26 rfl (by rw [HSM.out]; kernel_rfl)) (fun K hK => ?_)
  go_simp
  refine hK _ ?_
  clear hK K
  repeat (go_big_quiet_step (fail))
  refine wpQuiet_got (.agg R) (by rfl) (fun w' hw' => exec_load_row 26 (.tmp 1) rfl b0 rfl 26 R _ (HB7.out.below hw' hs7') Try.underlying26 rfl (by rw [HR.out.size]; kernel_rfl)) (fun K hK => ?_)
  go_simp
  refine hK _ ?_
  clear hK K
  repeat (go_big_quiet_step (fail))
  refine wpQuiet_nil ?_
  go_wp2_with fail
  have hsC := CC.size
  have hsame := refsame_ok E E A2 A c2 c wC HO.out HO.out ((hA2 (HF7.out.below CC)).more hsC) ((HT7.out.below CC).more hsC) (by rw [HL2.out]; omega) (by rw [HL2.out]; omega)
  rw [← HM.out, ← HRR.out, sameB_yes rfl] at hsame
  refine hsame.mono ?_
  rintro e wD ⟨rfl, bD⟩
  have CD := CC.trans (bD.mono CC.size)
  clear hsame
  go_wp2_with fail
  refine ⟨CD, ?_⟩
  repeat (first
    | (go_big_quiet_step (fail))
    | (refine wpQuiet_got (.bool false) (by rfl) (fun w' hw' => ?_) (fun K hK => ?_)
       focus (go_simp; done)
       go_simp
       refine hK _ ?_
       clear hK K)
    | (refine wpQuiet_got (.bool true) (by rfl) (fun w' hw' => ?_) (fun K hK => ?_)
       focus (go_simp; done)
       go_simp
       refine hK _ ?_
       clear hK K))
  have hrd77 : rd (E.ts ++ [77, 0, 0, 78]) (2 * L) = 77 := by
    rw [rd_get (by rw [List.length_append, HL2.out]; simp), List.getElem_append_right (by rw [HL2.out]; omega)]
    simp [HL2.out]
  obtain ⟨ad, hAd, _, _, _⟩ := tier_cells (j := L) HF7.out (by rw [List.length_append, HL2.out]; simp)
  have h77 : ∀ w' : World, Below w9.heap.size w9 w' → w'.cell? (ad.add (L * 2)) = some (.int .i64 77) ∧ w'.cell? ⟨b0, 10, none⟩ = some (.slice A L c) := by
    intro w' hb
    obtain ⟨ad2, hA2', _, h1, _⟩ := tier_cells (j := L) (HF7.out.below hb) (by rw [List.length_append, HL2.out]; simp)
    rw [hAd] at hA2'
    obtain rfl := Option.some.inj hA2'
    rw [hrd77] at h1
    have h2 := ((HB7.out.below hb hs7').cell 10).trans HR.out.ts
    rw [← HL.out] at h2
    exact ⟨h1, h2⟩
  have H77 := Lib.hid h77
  subst hAd
  clear h77 hrd77
  have hLL : (L : Int) < ((L + 2 : Nat) : Int) := by omega
  have hLLn : L < L + 2 := by omega
  have hLL2 : (L : Int) < (L : Int) + 2 := by omega
  refine wpQuiet_got (.pointer (some ⟨b0, 10, none⟩)) (by rfl) (fun w' hw' => ?_) (fun K hK => ?_)
  · go_simp
  go_simp
  refine hK _ ?_
  clear hK K
  repeat (go_big_quiet_step (fail))
  refine wpQuiet_got (.slice A L c) (by rfl) (fun w' hw' => ?_) (fun K hK => ?_)
  · have hl2 := (H77.out w' hw').2
    go_simp
  go_simp
  refine hK _ ?_
  clear hK K
  repeat (go_big_quiet_step (fail))
  refine wpQuiet_got (.int .i64 L) (by rfl) (fun w' hw' => ?_) (fun K hK => ?_)
  · go_simp
  go_simp
  refine hK _ ?_
  clear hK K
  repeat (go_big_quiet_step (fail))
  refine wpQuiet_got (.pointer (some (ad.add (L * 2)))) (by rfl) (fun w' hw' => ?_) (fun K hK => ?_)
  · go_simp
  go_simp
  refine hK _ ?_
  clear hK K
  repeat (go_big_quiet_step (fail))
  refine wpQuiet_got (.pointer (some (ad.add (L * 2)))) (by rfl) (fun w' hw' => ?_) (fun K hK => ?_)
  · go_simp
  go_simp
  refine hK _ ?_
  clear hK K
  repeat (go_big_quiet_step (fail))
  refine wpQuiet_got (.int .i64 77) (by rfl) (fun w' hw' => ?_) (fun K hK => ?_)
  · have hl2 := (H77.out w' hw').1
    go_simp
  go_simp
  refine hK _ ?_
  clear hK K
  repeat (go_big_quiet_step (fail))
  repeat (first
    | (go_big_quiet_step (fail))
    | (refine wpQuiet_got (.bool false) (by rfl) (fun w' hw' => ?_) (fun K hK => ?_)
       focus (go_simp; done)
       go_simp
       refine hK _ ?_
       clear hK K)
    | (refine wpQuiet_got (.bool true) (by rfl) (fun w' hw' => ?_) (fun K hK => ?_)
       focus (go_simp; done)
       go_simp
       refine hK _ ?_
       clear hK K))
  refine wpQuiet_nil ?_
  have HPD := Lib.hid ((HP7.out.below CD).more CD.size)
  have HBMD := Lib.hid (HBM7.out.below CD hs7)
  have HBD := Lib.hid (HB7.out.below CD hs7')
  have HTD := Lib.hid ((HT7.out.below CD).more CD.size)
  have HDD := Lib.hid (HD7.out.trans (CD.mono (by omega)))
  have hsD : mb < wD.heap.size := Nat.lt_of_lt_of_le hs7 CD.size
  have hsD' : b0 < wD.heap.size := Nat.lt_of_lt_of_le hs7' CD.size
  clear HP7 HQ7 HBM7 HB7 HF7 HT7 HD7 hs7 hs7' CD CC CB CA bB bC bD dA H77 hfb hfbB hbb
  by_cases hf : E.form
  case neg =>
    have hF3 : F = 3 := by rw [HFX.out, fx_no hf]
    subst hF3
    go_wp2_with (first
      | (refine wpList_load_row rfl 26 (.tmp 4) rfl mb rfl 26 M (0, 0) _ HBMD.out Try.underlying26 rfl (by rw [HSM.out]; kernel_rfl) ?_))
    have hck := check_any E (some ad) c2 wD HO.out (by rw [HL2.out]; omega)
    rw [← HM.out, ← HFX.out] at hck
    refine hck.mono ?_
    rintro e wE ⟨rfl, bE⟩
    go_wp2
    go_ret
    exact ⟨rfl, HDD.out.trans (bE.mono HDD.out.size)⟩
  have hF0 : F = 0 := by rw [HFX.out, fx_yes hf]
  subst hF0
  have HF := Lib.hid hf
  clear hf
  go_wp2_with fail
  have hXw : X = Event.wr E := by rw [HX.out, wx_yes HF.out]
  have hrd := read_ok B6 d6 X wD HPD.out hd6 (by omega) (by rw [hXw]; exact wr_byt HO.out)
  rw [show rdEv X = (E, 0) from by rw [hXw]; exact rdEv_wr E HO.out HF.out] at hrd
  refine hrd.mono ?_
  rintro e WE ⟨A7, c7, rfl, hri7, hcap7, b7⟩
  have hs7 := b7.size
  have HBE := Lib.hid (HBD.out.below b7 hsD')
  have HTE := Lib.hid ((HTD.out.below b7).more hs7)
  have HDE := Lib.hid (HDD.out.trans (b7.mono HDD.out.size))
  have HRI7 := Lib.hid hri7
  obtain ⟨R7, hR7⟩ : ∃ R, R = row E A7 c7 := ⟨_, rfl⟩
  have HR7 := Lib.hid hR7
  simp only [← hR7]
  have HSZ7 := Lib.hid (show R7.size = 11 by rw [hR7]; rfl)
  have HALL7 := Lib.hid (show R7.all (·.oneCell') = true by rw [hR7]; exact row_all _ _ _)
  have hsE : b0 < WE.heap.size := Nat.lt_of_lt_of_le hsD' hs7
  clear hrd hR7 hri7 b7 hXw
  go_upto_region 15 with (first
    | (refine wpList_put rfl 26 (.tmp 13) (.tmp 100) rfl WE.heap.size R7 rfl rfl 26 _ (Blk.new WE _ _) (by rw [HSZ7.out]; kernel_rfl) (by rw [HSZ7.out]; rfl) HALL7.out ?_
       intro W8 HB8 hfar8 hbel8 hsz8 hcl8
       have b8 := hbel8 WE.heap.size WE (Nat.le_refl _) ((Below.refl _ _).alloc (Nat.le_refl _) _)
       have S8 := Lib.hid (show W8.heap.size = WE.heap.size + 1 by rw [hsz8]; simp)
       clear hfar8 hbel8 hsz8 hcl8) )
  have hs8 := S8.out
  have HBF := Lib.hid (HBE.out.below b8 hsE)
  have HB9 := Lib.hid HB8
  have HDF := Lib.hid (HDE.out.trans (b8.mono HDE.out.size))
  have HTF := Lib.hid ((HTE.out.below b8).more (by omega : WE.heap.size ≤ W8.heap.size))
  have HRI8 := Lib.hid ((HRI7.out.below b8).more (by omega : WE.heap.size ≤ W8.heap.size))
  clear hs8 S8 HB8 b8
  go_wp2_with (first
    | (refine wpList_guard (by rfl) (wpList_load_row rfl 26 (.tmp 13) rfl WE.heap.size rfl 26 R7 (0, 0) _ HB9.out Try.underlying26 rfl (by rw [HSZ7.out]; kernel_rfl) ?_))
    | (refine wpList_guard (by rfl) (wpList_load_row rfl 26 (.tmp 1) rfl b0 rfl 26 R (0, 0) _ HBF.out Try.underlying26 rfl (by rw [HR.out.size]; kernel_rfl) ?_)))
  have hlT := HF.out.2.1
  have hsame := refsame_ok E E A7 A c7 c W8 HO.out HO.out HRI8.out HTF.out (by omega) (by omega)
  rw [← HR7.out, ← HRR.out, sameB_yes rfl] at hsame
  refine hsame.mono ?_
  rintro e W9 ⟨rfl, b9⟩
  go_wp2
  go_ret
  exact ⟨rfl, HDF.out.trans (b9.mono HDF.out.size)⟩
end Go.Proofs.Ytkcfeaonkgpbdaa.EventWritesW
