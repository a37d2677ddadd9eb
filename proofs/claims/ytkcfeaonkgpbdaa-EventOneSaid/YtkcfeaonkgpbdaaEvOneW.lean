import Derived.Test.YtkcfeaonkgpbdaaEvWritesW
/-! EventOne: the walk -/
namespace Go.Proofs.Ytkcfeaonkgpbdaa.EventOneW
open Go.RowKit Go.Deep Go.Proofs.Ytkcfeaonkgpbdaa Go.Proofs.Ytkcfeaonkgpbdaa.Pack Go.Proofs.Ytkcfeaonkgpbdaa.Event Go.Proofs.Ytkcfeaonkgpbdaa.EventWritesW
set_option linter.unusedVariables false
set_option linter.unusedSimpArgs false
theorem same_bytes {a b : Ev} (ha : a.ok) (fa : a.form) (hb : b.ok) (fb : b.form) : decide (Event.wr a = Event.wr b) = sameB a b := by
  by_cases h : a = b
  · rw [sameB_yes h, h]; simp
  · rw [sameB_no h]
    exact decide_eq_false (fun h2 => h (wr_inj ha fa hb fb (r := []) (s := []) (by rw [h2])).1)
set_option maxRecDepth 1000000 in
set_option maxHeartbeats 40000000 in
theorem walk (E : Ev) (A : Option Addr) (c : Nat) (E' : Ev) (A' : Option Addr) (c' : Nat) (cut : Int) (P : Option Addr) (cm : Nat) (ms : List Int) (w : World) (ho : E.ok) (hts : RI w w.heap.size .i64 A E.ts) (hcap : E.ts.length / 2 ≤ c) (hlen : E.ts.length * 8 ≤ 140737488351232)
    (ho' : E'.ok) (hts' : RI w w.heap.size .i64 A' E'.ts) (hcap' : E'.ts.length / 2 ≤ c') (hlen' : E'.ts.length * 8 ≤ 140737488351232) (wc : (Lit.int .u8 cut).wf = true) (hm : ArrIn w .u8 1 P cm ms) :
    Calls Try.prog 5 #[.agg (row E A c), .agg (row E' A' c'), .int .u8 cut, .slice P ms.length cm] w fun e w' => e = .returned (.bool true) ∧ Below w.heap.size w w' := by
  have hcut := bounds_u8 wc
  have hmb := Lib.hid (show Byt ms from hm.byt)
  have HMR := Lib.hid hm.reads
  have hmc := hm.cap
  have hml := hm.size
  obtain ⟨R, hR⟩ : ∃ R, R = row E A c := ⟨_, rfl⟩
  obtain ⟨R', hR'⟩ : ∃ R, R = row E' A' c' := ⟨_, rfl⟩
  rw [← hR, ← hR']
  have HRR := Lib.hid hR
  have HRR' := Lib.hid hR'
  have HS := Lib.hid (show R.size = 11 by rw [hR]; rfl)
  have HS' := Lib.hid (show R'.size = 11 by rw [hR']; rfl)
  have HO := Lib.hid ho
  have HO' := Lib.hid ho'
  have HT := Lib.hid hts
  have HT' := Lib.hid hts'
  have HL := Lib.hid hlen
  have HL' := Lib.hid hlen'
  obtain ⟨ml, hml'⟩ : ∃ ml, ml = ms.length := ⟨_, rfl⟩
  rw [← hml'] at hmc hml ⊢
  have HML := Lib.hid hml'
  clear hR hR' ho ho' hts hts' hlen hlen' hm wc hml'
  go_enter Try.func5, Try.ntmps5
  go_upto_region 1 with fail
  have hB0 := (Blk.new w 26 R).alloc (.cells R' 26)
  have hB0' : Blk ((w.alloc (.cells R 26)).alloc (.cells R' 26)) (w.heap.size + 1) 26 R' := blk_at (by simp)
  have d0 : Below w.heap.size w ((w.alloc (.cells R 26)).alloc (.cells R' 26)) := ((Below.refl _ _).alloc (Nat.le_refl _) _).alloc (by simp) _
  have hs0 : w.heap.size + 1 < ((w.alloc (.cells R 26)).alloc (.cells R' 26)).heap.size := by simp
  obtain ⟨W0, hW0⟩ : ∃ W0, W0 = (w.alloc (.cells R 26)).alloc (.cells R' 26) := ⟨_, rfl⟩
  rw [← hW0] at hB0 hB0' d0 hs0 ⊢
  have HB0 := Lib.hid hB0
  have HB0' := Lib.hid hB0'
  have HD0 := Lib.hid d0
  clear hW0 hB0 hB0' d0
  go_wp2_with fail
  refine (awake_ok _).mono ?_
  rintro e w1 ⟨rfl, b1⟩
  have HB1 := Lib.hid (HB0.out.below b1 (by omega))
  have HB1' := Lib.hid (HB0'.out.below b1 hs0)
  have HD1 := Lib.hid (HD0.out.trans (b1.mono (by omega)))
  have hs1 : w.heap.size + 1 < w1.heap.size := Nat.lt_of_lt_of_le hs0 b1.size
  have HT1 := Lib.hid ((HT.out.below HD1.out).more HD1.out.size)
  have HT1' := Lib.hid ((HT'.out.below HD1.out).more HD1.out.size)
  have HM1 := Lib.hid ((HMR.out.below HD1.out).more HD1.out.size)
  clear HB0 HB0' HD0 b1 hs0
  go_wp2_with (first
    | (refine wpList_load_row rfl 26 (.tmp 4) rfl w.heap.size rfl 26 R (0, 0) _ HB1.out Try.underlying26 rfl (by rw [HS.out]; kernel_rfl) ?_)
    | (refine wpList_load_row rfl 26 (.tmp 5) rfl (w.heap.size + 1) rfl 26 R' (0, 0) _ HB1'.out Try.underlying26 rfl (by rw [HS'.out]; kernel_rfl) ?_))
  have hsame := same_ok E E' A A' c c' w1 HO.out HO'.out HT1.out HT1'.out (by have := HL.out; omega) (by have := HL'.out; omega)
  obtain ⟨sb, hsb⟩ : ∃ sb, sb = sameB E E' := ⟨_, rfl⟩
  rw [← HRR.out, ← HRR'.out, ← hsb] at hsame
  refine hsame.mono ?_
  rintro e w2 ⟨rfl, b2⟩
  have HB2 := Lib.hid (HB1.out.below b2 (by omega))
  have HB2' := Lib.hid (HB1'.out.below b2 hs1)
  have HD2 := Lib.hid (HD1.out.trans (b2.mono (by omega)))
  have hs2 : w.heap.size + 1 < w2.heap.size := Nat.lt_of_lt_of_le hs1 b2.size
  have HT2 := Lib.hid ((HT1.out.below b2).more b2.size)
  have HT2' := Lib.hid ((HT1'.out.below b2).more b2.size)
  have HM2 := Lib.hid ((HM1.out.below b2).more b2.size)
  have HSB := Lib.hid hsb
  clear hsame HB1 HB1' HD1 HT1 HT1' HM1 b2 hs1 hsb
  go_wp2_with (first
    | (refine wpList_load_row rfl 26 (.tmp 4) rfl w.heap.size rfl 26 R (0, 0) _ HB2.out Try.underlying26 rfl (by rw [HS.out]; kernel_rfl) ?_)
    | (refine wpList_load_row rfl 26 (.tmp 5) rfl (w.heap.size + 1) rfl 26 R' (0, 0) _ HB2'.out Try.underlying26 rfl (by rw [HS'.out]; kernel_rfl) ?_))
  have hsame := refsame_ok E E' A A' c c' w2 HO.out HO'.out HT2.out HT2'.out (by have := HL.out; omega) (by have := HL'.out; omega)
  rw [← HRR.out, ← HRR'.out, ← HSB.out] at hsame
  refine hsame.mono ?_
  rintro e w3 ⟨rfl, b3⟩
  have HB3 := Lib.hid (HB2.out.below b3 (by omega))
  have HB3' := Lib.hid (HB2'.out.below b3 hs2)
  have HD3 := Lib.hid (HD2.out.trans (b3.mono (by omega)))
  have hs3 : w.heap.size + 1 < w3.heap.size := Nat.lt_of_lt_of_le hs2 b3.size
  have HT3 := Lib.hid ((HT2.out.below b3).more b3.size)
  have HT3' := Lib.hid ((HT2'.out.below b3).more b3.size)
  have HM3 := Lib.hid ((HM2.out.below b3).more b3.size)
  clear hsame HB2 HB2' HD2 HT2 HT2' HM2 b3 hs2
  have hbb : (sb != sb) = false := by cases sb <;> rfl
  go_wp2_with (first
    | (refine wpList_guard (by rfl) (wpList_load_row rfl 26 (.tmp 4) rfl w.heap.size rfl 26 R (0, 0) _ HB3.out Try.underlying26 rfl (by rw [HS.out]; kernel_rfl) ?_)))
  have hsame := same_ok E E A A c c w3 HO.out HO.out HT3.out HT3.out (by have := HL.out; omega) (by have := HL.out; omega)
  rw [← HRR.out, sameB_yes rfl] at hsame
  refine hsame.mono ?_
  rintro e w4 ⟨rfl, b4⟩
  have HB4 := Lib.hid (HB3.out.below b4 (by omega))
  have HB4' := Lib.hid (HB3'.out.below b4 hs3)
  have HD4 := Lib.hid (HD3.out.trans (b4.mono (by omega)))
  have hs4 : w.heap.size + 1 < w4.heap.size := Nat.lt_of_lt_of_le hs3 b4.size
  have HT4 := Lib.hid ((HT3.out.below b4).more b4.size)
  have HT4' := Lib.hid ((HT3'.out.below b4).more b4.size)
  have HM4 := Lib.hid ((HM3.out.below b4).more b4.size)
  clear hsame HB3 HB3' HD3 HT3 HT3' HM3 b4 hs3
  go_wp2_with (first
    | (refine wpList_load_row rfl 26 (.tmp 4) rfl w.heap.size rfl 26 R (0, 0) _ HB4.out Try.underlying26 rfl (by rw [HS.out]; kernel_rfl) ?_))
  have hw := write_any E A c w4 HO.out HT4.out hcap (by have := HL.out; omega)
  rw [← HRR.out] at hw
  refine hw.mono ?_
  rintro e w5 ⟨B5, d5, rfl, hd5, hp5, b5⟩
  have HP5 := Lib.hid hp5
  have HB5' := Lib.hid (HB4'.out.below b5 hs4)
  have HD5 := Lib.hid (HD4.out.trans (b5.mono (by omega)))
  have hs5 : w.heap.size + 1 < w5.heap.size := Nat.lt_of_lt_of_le hs4 b5.size
  have HT5' := Lib.hid ((HT4'.out.below b5).more b5.size)
  have HM5 := Lib.hid ((HM4.out.below b5).more b5.size)
  clear hw hp5 HB4 HB4' HD4 HT4 HT4' HM4 b5 hs4
  have hxl := wx_len E HO.out.len
  obtain ⟨X, hX⟩ : ∃ X, X = wx E := ⟨_, rfl⟩
  obtain ⟨F, hF⟩ : ∃ F, F = fx E := ⟨_, rfl⟩
  rw [← hX] at HP5 hd5 hxl
  rw [← hX, ← hF]
  have HX := Lib.hid hX
  have HFX := Lib.hid hF
  obtain ⟨xl, hxl'⟩ : ∃ xl, xl = X.length := ⟨_, rfl⟩
  rw [← hxl'] at hd5 hxl ⊢
  have HXL := Lib.hid hxl'
  clear hX hF hxl'
  go_wp2_with (first
    | (refine wpList_load_row rfl 26 (.tmp 5) rfl (w.heap.size + 1) rfl 26 R' (0, 0) _ HB5'.out Try.underlying26 rfl (by rw [HS'.out]; kernel_rfl) ?_))
  have hw := write_any E' A' c' w5 HO'.out HT5'.out hcap' (by have := HL'.out; omega)
  rw [← HRR'.out] at hw
  refine hw.mono ?_
  rintro e w6 ⟨B6, d6, rfl, hd6, hp6, b6⟩
  have HQ6 := Lib.hid hp6
  have HP6 := Lib.hid ((HP5.out.below b6).more b6.size)
  have HD6 := Lib.hid (HD5.out.trans (b6.mono (by omega)))
  have HM6 := Lib.hid ((HM5.out.below b6).more b6.size)
  clear hw hp6 HB5' HD5 HT5' HM5 b6 HP5
  have hyl := wx_len E' HO'.out.len
  obtain ⟨Y, hY⟩ : ∃ X, X = wx E' := ⟨_, rfl⟩
  obtain ⟨G, hG⟩ : ∃ F, F = fx E' := ⟨_, rfl⟩
  rw [← hY] at HQ6 hd6 hyl
  rw [← hY, ← hG]
  have HY := Lib.hid hY
  have HGX := Lib.hid hG
  obtain ⟨yl, hyl'⟩ : ∃ xl, xl = Y.length := ⟨_, rfl⟩
  rw [← hyl'] at hd6 hyl ⊢
  have HYL := Lib.hid hyl'
  clear hY hG hyl'
  by_cases hf : E.form
  case neg =>
    have hF3 : F = 3 := by rw [HFX.out, fx_no hf]
    subst hF3
    go_wp2
    go_ret
    exact ⟨rfl, HD6.out⟩
  have hF0 : F = 0 := by rw [HFX.out, fx_yes hf]
  subst hF0
  by_cases hg : E'.form
  case neg =>
    have hG3 : G = 3 := by rw [HGX.out, fx_no hg]
    subst hG3
    go_wp2
    go_ret
    exact ⟨rfl, HD6.out⟩
  have hG0 : G = 0 := by rw [HGX.out, fx_yes hg]
  subst hG0
  have hXw : X = Event.wr E := by rw [HX.out, wx_yes hf]
  have hYw : Y = Event.wr E' := by rw [HY.out, wx_yes hg]
  have hdec : decide (X = Y) = sb := by rw [hXw, hYw, HSB.out]; exact same_bytes HO.out hf HO'.out hg
  have hx2 : 2 ≤ xl := by rw [HXL.out, hXw]; exact (wr_len E hf HO.out.len).2
  have HF := Lib.hid hf
  have HXW := Lib.hid hXw
  have HDEC := Lib.hid hdec
  clear hf hg hXw hYw hdec
  go_wp2_with fail
  have hsb2 := SameBytes.any w6.heap.size B5 B6 d5 d6 X Y w6 HP6.out HQ6.out (by rw [← HXL.out]; omega) (by rw [← HYL.out]; omega)
  rw [← HXL.out, ← HYL.out, HDEC.out] at hsb2
  refine hsb2.mono ?_
  rintro e w7 ⟨rfl, q7, rfl⟩
  have HP7 := Lib.hid (show RI (w6.drewN q7) (w6.drewN q7).heap.size .u8 B5 X from HP6.out)
  have HM7 := Lib.hid (show RI (w6.drewN q7) (w6.drewN q7).heap.size .u8 P ms from HM6.out)
  have HD7 := Lib.hid (below_drewN HD6.out q7)
  obtain ⟨W7, hW7⟩ : ∃ W, W = w6.drewN q7 := ⟨_, rfl⟩
  rw [← hW7] at HP7 HM7 HD7 ⊢
  clear hsb2 hW7 HP6 HQ6 HM6 HD6
  obtain ⟨k, hk⟩ : ∃ k : Nat, cut % (xl : Int) = k := ⟨(cut % (xl : Int)).toNat, by have := Int.emod_nonneg cut (show (xl : Int) ≠ 0 by omega); omega⟩
  have hkx : k < xl := by have := Int.emod_lt_of_pos cut (show (0 : Int) < xl by omega); omega
  have hxl0 : ((xl : Int) == 0) = false := by simp; omega
  have hkd : k ≤ d5 := by omega
  go_wp2_with fail
  have hrp := HP7.out.take k
  have hrd := read_ok B5 d5 (X.take k) W7 hrp (by rw [List.length_take, ← HXL.out]; omega) (by rw [List.length_take, ← HXL.out]; omega) (Byt.takee (by rw [HXW.out]; exact wr_byt HO.out) k)
  rw [show (X.take k).length = k from by rw [List.length_take, ← HXL.out]; omega] at hrd
  have hcut3 : (rdEv (X.take k)).2 = 3 := by
    rw [HXW.out]
    exact rdEv_cut HO.out HF.out (by rw [← HXW.out, ← HXL.out]; exact hkx)
  obtain ⟨V, hV⟩ : ∃ V, V = (rdEv (X.take k)).1 := ⟨_, rfl⟩
  rw [hcut3, ← hV] at hrd
  refine hrd.mono ?_
  rintro e W8 ⟨A8, c8, rfl, _, _, b8⟩
  have HP8 := Lib.hid ((HP7.out.below b8).more b8.size)
  have HM8 := Lib.hid ((HM7.out.below b8).more b8.size)
  have HD8 := Lib.hid (HD7.out.trans (b8.mono HD7.out.size))
  obtain ⟨R8, hR8⟩ : ∃ R, R = row V A8 c8 := ⟨_, rfl⟩
  rw [← hR8]
  have HSZ8 := Lib.hid (show R8.size = 11 by rw [hR8]; rfl)
  have HALL8 := Lib.hid (show R8.all (·.oneCell') = true by rw [hR8]; exact row_all _ _ _)
  clear hrd hrp hcut3 hV hR8 b8 HP7 HM7 HD7 hk
  go_upto_region 15 with (first
    | (refine wpList_put rfl 26 (.tmp 14) (.tmp 64) rfl W8.heap.size R8 rfl rfl 26 _ (Blk.new W8 _ _) (by rw [HSZ8.out]; kernel_rfl) (by rw [HSZ8.out]; rfl) HALL8.out ?_
       intro W9 HB9 hfar9 hbel9 hsz9 hcl9
       have b9 := hbel9 W8.heap.size W8 (Nat.le_refl _) ((Below.refl _ _).alloc (Nat.le_refl _) _)
       have S9 := Lib.hid (show W9.heap.size = W8.heap.size + 1 by rw [hsz9]; simp)
       clear hfar9 hbel9 hsz9 hcl9) )
  have hs9 := S9.out
  have HP9 := Lib.hid ((HP8.out.below b9).more (by omega : W8.heap.size ≤ W9.heap.size))
  have HM9 := Lib.hid ((HM8.out.below b9).more (by omega : W8.heap.size ≤ W9.heap.size))
  have HD9 := Lib.hid (HD8.out.trans (b9.mono HD8.out.size))
  clear hs9 S9 HB9 b9 HP8 HM8 HD8
  by_cases hm0 : ml = 0
  · have hmz : ((ml : Int) == 0) = true := by simp; omega
    subst hm0
    go_wp2
    go_ret
    exact ⟨rfl, HD9.out⟩
  have hmz : ((ml : Int) == 0) = false := by simp; omega
  by_cases h4 : 4096 < xl + ml
  · have h4' : (4096 : Int) < (xl : Int) + ml := by omega
    have h4d := decide_eq_true h4'
    go_wp2
    go_ret
    exact ⟨rfl, HD9.out⟩
  have h4' : ¬ (4096 : Int) < (xl : Int) + ml := by omega
  have h4d := decide_eq_false h4'
  go_wp2_with fail
  have htw := twin_ok B5 d5 X W9 HP9.out (by rw [← HXL.out]; omega)
  rw [← HXL.out] at htw
  refine htw.mono ?_
  rintro e W10 ⟨v10, rfl, f10⟩
  obtain ⟨B10, d10, rfl⟩ := own_slice f10.1
  have hlen10 := fresh_len f10
  have HM10 := Lib.hid ((HM9.out.below f10.2).more f10.2.size)
  clear htw
  have hXlen : X.length + ms.length ≤ 140737488355328 := by rw [← HXL.out, ← HML.out]; omega
  go_wp2_with (at_builtin; refine wpList_appF W9 W10 rfl (.tmp 81) (.tmp 82) rfl B10 _ d10 X f10 rfl P _ cm ms rfl HML.out HM10.out hXlen ?_; intro B11 m11 d11 W11 F11 G11; clear G11)
  have hl11 := fresh_len F11
  have hri11 := fresh_ri F11
  have hc11 : (X ++ ms).length ≤ d11 := own_cap (by have := F11.1; rw [hl11] at this; exact this)
  have hll : (X ++ ms).length = xl + ml := by rw [List.length_append, ← HXL.out, ← HML.out]
  have hrd := read_ok B11 d11 (X ++ ms) W11 hri11 hc11 (by rw [hll]; omega) (Byt.app (by rw [HXW.out]; exact wr_byt HO.out) hmb.out)
  rw [← hl11] at hrd
  have hmore3 : (rdEv (X ++ ms)).2 = 3 := by
    have h4096 : (X ++ ms).length ≤ 4096 := by rw [hll]; omega
    rw [HXW.out] at h4096 ⊢
    exact rdEv_more HO.out HF.out (fun h => hm0 (by rw [HML.out, h]; rfl)) hmb.out h4096
  obtain ⟨V2, hV2⟩ : ∃ V, V = (rdEv (X ++ ms)).1 := ⟨_, rfl⟩
  rw [hmore3, ← hV2] at hrd
  refine hrd.mono ?_
  rintro e W12 ⟨A12, c12, rfl, _, _, b12⟩
  have HDE := Lib.hid ((HD9.out.trans (F11.2.mono HD9.out.size)).trans (b12.mono (by have := F11.2.size; have := HD9.out.size; omega)))
  obtain ⟨R12, hR12⟩ : ∃ R, R = row V2 A12 c12 := ⟨_, rfl⟩
  rw [← hR12]
  have HSZ12 := Lib.hid (show R12.size = 11 by rw [hR12]; rfl)
  have HALL12 := Lib.hid (show R12.all (·.oneCell') = true by rw [hR12]; exact row_all _ _ _)
  clear hrd hmore3 hV2 hR12 hl11 hri11 hc11 hll hlen10
  go_wp2_with (first
    | (refine wpList_put rfl 26 (.tmp 16) (.tmp 85) rfl W12.heap.size R12 rfl rfl 26 _ (Blk.new W12 _ _) (by rw [HSZ12.out]; kernel_rfl) (by rw [HSZ12.out]; rfl) HALL12.out ?_
       intro W13 HB13 hfar13 hbel13 hsz13 hcl13
       have b13 := hbel13 W12.heap.size W12 (Nat.le_refl _) ((Below.refl _ _).alloc (Nat.le_refl _) _)
       have S13 := Lib.hid (show W13.heap.size = W12.heap.size + 1 by rw [hsz13]; simp)
       clear hfar13 hbel13 hsz13 hcl13) )
  go_ret
  exact ⟨rfl, HDE.out.trans (b13.mono HDE.out.size)⟩
end Go.Proofs.Ytkcfeaonkgpbdaa.EventOneW
