/- Lemmas of a claim, several texts in one: TopA -/
import Derived.Test.YtlfomhdphbchpaaGreatDoorG30
/-! TopMonths: the product, the account, the deposit -/
namespace Go.Proofs.YtlfomhdphbchpaaGreatDoor.Bk
open Go.RowKit Go.Deep Go.Proofs.YtlfomhdphbchpaaGreatDoor.Mp Go.Proofs.YtlfomhdphbchpaaGreatDoor.Mo
open Go.Proofs.YtlfomhdphbchpaaGreatDoor.Pr (TS)
open Go.Proofs.YtlfomhdphbchpaaGreatDoor.Cal (results_one results_two results_three)
set_option linter.unusedVariables false
set_option linter.unusedSimpArgs false
set_option maxHeartbeats 8000000 in
set_option maxRecDepth 100000 in
theorem months_ok (fr : Int) (hf : In64 fr) (days : Int) (hd : 0 ≤ days ∧ days ≤ 255) (CA : ∀ w, Calls Tryz.prog 4 #[] w fun e w' => e = .returned (.bool true) ∧ Below w.heap.size w w') (W : World) :
    Calls Tryz.prog 3 #[.int .i64 fr, .int .u8 days] W fun e w' => e = .returned (.bool true) ∧ Below W.heap.size W w' := by
  go_enter Tryz.func3, Tryz.ntmps3
  go_wp2_with fail
  refine (CA W).mono ?_
  rintro e w1 ⟨rfl, hb1⟩
  have HB1 := Lib.hid hb1
  clear hb1 CA
  go_wp2_with fail
  refine (start_ok fr hf _).mono ?_
  rintro e w2 ⟨⟨d, hd1, hd2, rfl⟩, hw⟩
  obtain rfl : w1 = w2 := hw.symm
  go_wp2_with fail
  refine (new_ok d (by omega) _).mono ?_
  rintro e w3 ⟨rfl, hb3, hs3⟩
  have HB3 := Lib.hid (HB1.out.trans (hb3.mono HB1.out.size))
  obtain ⟨n, hn⟩ : ∃ n, n = w1.heap.size := ⟨_, rfl⟩
  rw [← hn] at hs3 ⊢
  have HN := Lib.hid (show W.heap.size ≤ n by rw [hn]; exact HB1.out.size)
  have HS3 := Lib.hid hs3
  clear hs3 hb3 hn HB1
  go_wp2_with fail
  refine (story_ok w3).mono ?_
  rintro e w4 ⟨rfl, hw4⟩
  obtain ⟨g0, hg0⟩ : ∃ g, g = w3.heap.size := ⟨_, rfl⟩
  have HT4 : Hid (w4.heap[g0]? = some (.cells tierC 66)) := Lib.hid (by rw [hw4, hg0]; exact storyW_ti _)
  have HE4 : Hid (w4.heap[g0 + 1]? = some (.cells (storyC g0) 32)) := Lib.hid (by rw [hw4, hg0]; exact storyW_ev _)
  have HB4 := Lib.hid (HB3.out.trans ((by rw [hw4]; exact storyW_below w3 : Below w3.heap.size w3 w4).mono HB3.out.size))
  have HS4 : Hid (St0 n d w4) := Lib.hid (by rw [hw4]; exact HS3.out.step (storyW_below w3))
  rw [← hg0]
  clear hw4 hg0 HB3 HS3
  obtain ⟨g8, hg8⟩ : ∃ g8, g8 = w4.heap.size := ⟨_, rfl⟩
  have H5 : Hid (HasO [] W [(g8, .cells evZ 32), (g0, .cells tierC 66)] (w4.alloc (.cells evZ 32))) := Lib.hid ((HasO.cons HT4.out (HasO.nil (Keep.of_below HB4.out))).new hg8 (.cells evZ 32))
  have HS5 := Lib.hid (HS4.out.step (Below.al (Below.refl _ _) (.cells evZ 32)))
  have HZ8 := Lib.hid (show W.heap.size ≤ g8 by rw [hg8]; exact HB4.out.size)
  go_wp2_with (first
    | (refine wpListG_part rfl 32 (.tmp 33) rfl (g0 + 1) 0 rfl 32 (storyC g0) (ev3 g0 0) _ HE4.out (by simpa using story_part g0 0 (by omega)) Tryz.underlying32 rfl (by kernel_rfl) ?_)
    | (rw [← hg8]
       refine wpList_turn rfl 32 (.tmp 8) (.tmp 34) rfl g8 0 (.agg (ev3 g0 0)) rfl rfl 32 evZ (ev3 g0 0) (H5.out.get 0 rfl) (by first | kernel_rfl | (rw [enc_size]; kernel_rfl)) (by first | (simp [Value.cells]; done) | (simp [Value.cells, ev3, evE, evZ]; done) | exact Nat.le_refl _) (by first | exact decE_all _ _ | (simp [Value.cells, Value.oneCell']; done) | (simp [Value.cells, Value.oneCell', ev3, evE, evZ]; done) | (rw [Array.all_eq_true']; simp [Value.cells, Value.oneCell', ev3, evE, evZ])) rfl ?_; intro W6 HT6
       have H6 := Lib.hid (H5.out.turn 0 rfl HT6 (.inr HZ8.out) (H5.out.apart 0 rfl rfl))
       have HS6 : Hid (St0 n d W6) := Lib.hid (st0_far HS5.out HT6.keep (by intro k hk; simp only [List.mem_singleton] at hk; subst hk; exact .inr ⟨_, _, H5.out.obj 0 rfl, rfl⟩))
       clear H5 HS5 HT4 HE4 HB4 HS4 HT6 hg8))
  apply wp_region_cut3 (fun w' => HasO [] W [(g8, .cells (ev3 g0 0) 32), (g0, .cells tierC 66)] w') (fun x _ _ w' => HasO [] W [(x, .cells (storyC g0) 32), (g0, .cells tierC 66)] w' ∧ St0 n d w') _ (.seg [0, 9] (.turn 1 (.seg [2] (.fork 3 (.turn 4 (.seg [5] (.turn 6 (.turn 7 (.seg [8] .nil))))) 4 (.seg [5] (.fork 3 (.turn 6 (.turn 7 (.seg [8] .nil))) 6 (.turn 3 (.turn 7 (.seg [8] .nil))))))))) (by kernel_rfl) (by kernel_rfl) H6.out.drew
  case h =>
    simp only [wpPlan, List.map_cons, List.map_nil, opAt, List.getElem?_cons_succ, List.getElem?_cons_zero, Option.getD_some]
    repeat (go_big_quiet_step ((intro _; rfl)))
    refine wpQuiet_row 32 (.tmp 8) rfl rfl g8 rfl 32 (ev3 g0 0) _ (fun w hw => hw.get 0 rfl) Tryz.underlying32 rfl (by first | kernel_rfl | (rw [enc_size]; kernel_rfl)) (fun KK hKK => ?_)
    go_simp
    refine hKK _ ?_
    clear hKK KK
    repeat (go_big_quiet_step ((intro _; rfl)))
    refine wpQuiet_nil ?_
    go_wp2_with fail
    refine (story_ok _).mono ?_
    rintro e w5 ⟨rfl, hw5⟩
    have hz6 : W6.drew.heap.size = W6.heap.size := rfl
    rw [hz6]
    obtain ⟨g1, hg1⟩ : ∃ g, g = W6.heap.size := ⟨_, rfl⟩
    have HE5 : Hid (w5.heap[g1 + 1]? = some (.cells (storyC g1) 32)) := Lib.hid (by rw [hw5, hg1]; exact storyW_ev _)
    have hb5 : Below W6.heap.size W6 w5 := by rw [hw5]; exact (Below.refl _ W6).drew.trans (show Below W6.heap.size W6.drew (storyW W6.drew) from storyW_below W6.drew)
    have H7 := Lib.hid (H6.out.step hb5)
    have HS7 := Lib.hid (HS6.out.step hb5)
    rw [← hg1]
    clear hg1 hb5 hw5 hz6
    go_wp2_with fail
    refine ⟨H7.out, ?_⟩
    repeat (go_big_quiet_step ((intro _; rfl)))
    refine wpQuiet_nil ?_
    refine ⟨?_, ?_⟩
    · go_wp2_with (refine wpListG_part rfl 32 (.tmp 37) rfl (g1 + 1) 11 rfl 32 (storyC g1) (ev3 g1 1) _ HE5.out (by simpa using story_part g1 1 (by omega)) Tryz.underlying32 rfl (by kernel_rfl) ?_)
      refine ⟨H7.out, ?_⟩
      go_wp2_with fail
      refine (story_ok _).mono ?_
      rintro e w9 ⟨rfl, hw9⟩
      obtain ⟨g2, hg2⟩ : ∃ g, g = w5.heap.size := ⟨_, rfl⟩
      have HE9 : Hid (w9.heap[g2 + 1]? = some (.cells (storyC g2) 32)) := Lib.hid (by rw [hw9, hg2]; exact storyW_ev _)
      have hb9 : Below w5.heap.size w5 w9 := by rw [hw9]; exact storyW_below _
      have HF9 : Hid (w9.heap[g1 + 1]? = some (.cells (storyC g1) 32)) := Lib.hid ((hb9.block _ (obj_lt HE5.out)).trans HE5.out)
      have H9 := Lib.hid (H7.out.step hb9)
      have HS9 := Lib.hid (HS7.out.step hb9)
      rw [← hg2]
      clear hg2 hb9 hw9
      go_wp2_with fail
      refine ⟨H9.out, ?_⟩
      repeat (go_big_quiet_step ((intro _; rfl)))
      refine wpQuiet_nil ?_
      go_wp2_with (refine wpListG_part rfl 32 (.tmp 40) rfl (g2 + 1) 22 rfl 32 (storyC g2) (ev3 g2 2) _ HE9.out (by simpa using story_part g2 2 (by omega)) Tryz.underlying32 rfl (by kernel_rfl) ?_)
      refine ⟨H9.out, ?_⟩
      simp only [ev3, evE]
      go_wp2_with fail
      obtain ⟨x, hx⟩ : ∃ x, x = w9.heap.size := ⟨_, rfl⟩
      have H10 := Lib.hid (H9.out.new hx (.cells (storyC g0) 32))
      have HS10 := Lib.hid (HS9.out.step (Below.al (Below.refl _ _) (.cells (storyC g0) 32)))
      rw [← hx]
      clear hx H9 HS9
      refine ⟨H10.out.tail, ?_⟩
      repeat (go_big_quiet_step ((intro _; rfl)))
      refine wpQuiet_nil ?_
      exact ⟨x, ⟨H10.out.of_mem (by simp), HS10.out⟩, g1, g2, rfl⟩
    · skip
      go_wp2_with fail
      refine (story_ok _).mono ?_
      rintro e w9 ⟨rfl, hw9⟩
      obtain ⟨g2, hg2⟩ : ∃ g, g = w5.heap.size := ⟨_, rfl⟩
      have HE9 : Hid (w9.heap[g2 + 1]? = some (.cells (storyC g2) 32)) := Lib.hid (by rw [hw9, hg2]; exact storyW_ev _)
      have hb9 : Below w5.heap.size w5 w9 := by rw [hw9]; exact storyW_below _
      have HF9 : Hid (w9.heap[g1 + 1]? = some (.cells (storyC g1) 32)) := Lib.hid ((hb9.block _ (obj_lt HE5.out)).trans HE5.out)
      have H9 := Lib.hid (H7.out.step hb9)
      have HS9 := Lib.hid (HS7.out.step hb9)
      rw [← hg2]
      clear hg2 hb9 hw9
      go_wp2_with fail
      refine ⟨H9.out, ?_⟩
      repeat (go_big_quiet_step ((intro _; rfl)))
      refine wpQuiet_nil ?_
      refine ⟨?_, ?_⟩
      · go_wp2_with (refine wpListG_part rfl 32 (.tmp 37) rfl (g1 + 1) 11 rfl 32 (storyC g1) (ev3 g1 1) _ HF9.out (by simpa using story_part g1 1 (by omega)) Tryz.underlying32 rfl (by kernel_rfl) ?_)
        refine ⟨H9.out, ?_⟩
        go_wp2_with (refine wpListG_part rfl 32 (.tmp 40) rfl (g2 + 1) 22 rfl 32 (storyC g2) (ev3 g2 2) _ HE9.out (by simpa using story_part g2 2 (by omega)) Tryz.underlying32 rfl (by kernel_rfl) ?_)
        refine ⟨H9.out, ?_⟩
        simp only [ev3, evE]
        go_wp2_with fail
        obtain ⟨x, hx⟩ : ∃ x, x = w9.heap.size := ⟨_, rfl⟩
        have H10 := Lib.hid (H9.out.new hx (.cells (storyC g0) 32))
        have HS10 := Lib.hid (HS9.out.step (Below.al (Below.refl _ _) (.cells (storyC g0) 32)))
        rw [← hx]
        clear hx H9 HS9
        refine ⟨H10.out.tail, ?_⟩
        repeat (go_big_quiet_step ((intro _; rfl)))
        refine wpQuiet_nil ?_
        exact ⟨x, ⟨H10.out.of_mem (by simp), HS10.out⟩, g1, g2, rfl⟩
      · go_wp2_with (refine wpListG_part rfl 32 (.tmp 40) rfl (g2 + 1) 22 rfl 32 (storyC g2) (ev3 g2 2) _ HE9.out (by simpa using story_part g2 2 (by omega)) Tryz.underlying32 rfl (by kernel_rfl) ?_)
        refine ⟨H9.out, ?_⟩
        go_wp2_with (refine wpListG_part rfl 32 (.tmp 37) rfl (g1 + 1) 11 rfl 32 (storyC g1) (ev3 g1 1) _ HF9.out (by simpa using story_part g1 1 (by omega)) Tryz.underlying32 rfl (by kernel_rfl) ?_)
        refine ⟨H9.out, ?_⟩
        simp only [ev3, evE]
        go_wp2_with fail
        obtain ⟨x, hx⟩ : ∃ x, x = w9.heap.size := ⟨_, rfl⟩
        have H10 := Lib.hid (H9.out.new hx (.cells (storyC g0) 32))
        have HS10 := Lib.hid (HS9.out.step (Below.al (Below.refl _ _) (.cells (storyC g0) 32)))
        rw [← hx]
        clear hx H9 HS9
        refine ⟨H10.out.tail, ?_⟩
        repeat (go_big_quiet_step ((intro _; rfl)))
        refine wpQuiet_nil ?_
        exact ⟨x, ⟨H10.out.of_mem (by simp), HS10.out⟩, g1, g2, rfl⟩
  case hR =>
    rintro x g1 g2 w7 ⟨h7, hs7⟩
    have H7 := Lib.hid h7
    have HS7 := Lib.hid hs7
    clear h7 hs7 H6 HS6
    go_wp2_with fail
    have HLP : Hid (Lp W n d g0 x 0 w7) := Lib.hid ⟨H7.out.below, H7.out.obj 0 rfl, fun _ => H7.out.obj 1 rfl, .inl ⟨rfl, HS7.out⟩⟩
    clear H7 HS7
    go_loopw [44] (fun t wr => ∃ i : Nat, i ≤ 3 ∧ t = .int .i64 i ∧ Hid (Lp W n d g0 x i wr)) (fun t _ => 3 - (intOf t).toNat)
    case atStart => exact ⟨0, by omega, rfl, HLP⟩
    case round =>
      obtain ⟨i, hi, rfl, HL⟩ := hrel
      have : i = 0 ∨ i = 1 ∨ i = 2 ∨ i = 3 := by omega
      rcases this with rfl | rfl | rfl | rfl
      · skip
        go_wp2_with (first
          | (refine wpListG_part rfl 32 (.tmp 46) rfl x 0 rfl 32 (storyC g0) (ev3 g0 0) _ HL.out.2.1 (by simpa using story_part g0 0 (by omega)) Tryz.underlying32 rfl (by kernel_rfl) ?_)
          | (obtain ⟨g10, hg10⟩ : ∃ g, g = wr.heap.size := ⟨_, rfl⟩
             have H3 := Lib.hid ((HasO.start [] wr).new hg10 (.cells evZ 32))
             rw [← hg10]
             refine wpList_turn rfl 32 (.tmp 10) (.tmp 47) rfl g10 0 (.agg (ev3 g0 0)) rfl rfl 32 evZ (ev3 g0 0) (H3.out.get 0 rfl) (by first | kernel_rfl | (rw [enc_size]; kernel_rfl)) (by first | (simp [Value.cells]; done) | (simp [Value.cells, ev3, evE, evZ]; done) | exact Nat.le_refl _) (by first | exact decE_all _ _ | (simp [Value.cells, Value.oneCell']; done) | (simp [Value.cells, Value.oneCell', ev3, evE, evZ]; done) | (rw [Array.all_eq_true']; simp [Value.cells, Value.oneCell', ev3, evE, evZ])) rfl ?_; intro W4 HT4
             have hb4 := below_turnT (W := wr) (Below.al (Below.refl _ wr) (.cells evZ 32)) HT4 (Nat.le_of_eq hg10.symm)
             have HL4 := Lib.hid (HL.out.step hb4)
             have HE4 := Lib.hid HT4.at_
             clear hb4 HT4 H3 hg10)
          | (refine wpListG_row rfl 32 (.tmp 10) rfl g10 rfl 32 (ev3 g0 0) _ HE4.out Tryz.underlying32 rfl (by first | kernel_rfl | (rw [enc_size]; kernel_rfl)) ?_))
        refine (lp_plan0 HL4.out).mono ?_
        rintro e w5 ⟨⟨A', k', c', rfl, ht5⟩, hb5⟩
        have HT5 := Lib.hid ht5
        clear ht5
        have HL5 := Lib.hid (HL4.out.step hb5)
        clear hb5 HL4 HE4
        go_wp2_with (first
          | (obtain ⟨g11, hg11⟩ : ∃ g, g = w5.heap.size := ⟨_, rfl⟩
             have H3 := Lib.hid ((HasO.start [] w5).new hg11 (.cells evZ 32))
             rw [← hg11]
             refine wpList_turn rfl 32 (.tmp 11) (.tmp 52) rfl g11 0 (.agg (evE 1 1 1 0 1 1 0 0 500 (.slice A' k' c'))) rfl rfl 32 evZ (evE 1 1 1 0 1 1 0 0 500 (.slice A' k' c')) (H3.out.get 0 rfl) (by first | kernel_rfl | (rw [enc_size]; kernel_rfl)) (by first | (simp [Value.cells]; done) | (simp [Value.cells, ev3, evE, evZ]; done) | exact Nat.le_refl _) (by first | exact decE_all _ _ | (simp [Value.cells, Value.oneCell']; done) | (simp [Value.cells, Value.oneCell', ev3, evE, evZ]; done) | (rw [Array.all_eq_true']; simp [Value.cells, Value.oneCell', ev3, evE, evZ])) rfl ?_; intro W8 HT8
             have hb8 := below_turnT (W := w5) (Below.al (Below.refl _ w5) (.cells evZ 32)) HT8 (Nat.le_of_eq hg11.symm)
             have HL8 := Lib.hid (HL5.out.step hb8)
             have HE8 := Lib.hid HT8.at_
             clear HT8
             have HT8 := Lib.hid (HT5.out.step hb8)
             clear hb8 H3 hg11)
          | (refine wpListG_row rfl 32 (.tmp 11) rfl g11 rfl 32 (evE 1 1 1 0 1 1 0 0 500 (.slice A' k' c')) _ HE8.out Tryz.underlying32 rfl (by first | kernel_rfl | (rw [enc_size]; kernel_rfl)) ?_))
        refine (lp_apply0 HN.out HL8.out A' k' c' HT8.out).mono ?_
        rintro e w9 ⟨rfl, hl9⟩
        have HL9 := Lib.hid hl9
        clear hl9 HL8 HE8 HL5
        go_wp2_with fail
        refine ⟨⟨1, by omega, by simp, HL9⟩, by simp [intOf]⟩
      · skip
        go_wp2_with (first
          | (refine wpListG_part rfl 32 (.tmp 46) rfl x 11 rfl 32 (storyC g0) (ev3 g0 1) _ HL.out.2.1 (by simpa using story_part g0 1 (by omega)) Tryz.underlying32 rfl (by kernel_rfl) ?_)
          | (obtain ⟨g10, hg10⟩ : ∃ g, g = wr.heap.size := ⟨_, rfl⟩
             have H3 := Lib.hid ((HasO.start [] wr).new hg10 (.cells evZ 32))
             rw [← hg10]
             refine wpList_turn rfl 32 (.tmp 10) (.tmp 47) rfl g10 0 (.agg (ev3 g0 1)) rfl rfl 32 evZ (ev3 g0 1) (H3.out.get 0 rfl) (by first | kernel_rfl | (rw [enc_size]; kernel_rfl)) (by first | (simp [Value.cells]; done) | (simp [Value.cells, ev3, evE, evZ]; done) | exact Nat.le_refl _) (by first | exact decE_all _ _ | (simp [Value.cells, Value.oneCell']; done) | (simp [Value.cells, Value.oneCell', ev3, evE, evZ]; done) | (rw [Array.all_eq_true']; simp [Value.cells, Value.oneCell', ev3, evE, evZ])) rfl ?_; intro W4 HT4
             have hb4 := below_turnT (W := wr) (Below.al (Below.refl _ wr) (.cells evZ 32)) HT4 (Nat.le_of_eq hg10.symm)
             have HL4 := Lib.hid (HL.out.step hb4)
             have HE4 := Lib.hid HT4.at_
             clear hb4 HT4 H3 hg10)
          | (refine wpListG_row rfl 32 (.tmp 10) rfl g10 rfl 32 (ev3 g0 1) _ HE4.out Tryz.underlying32 rfl (by first | kernel_rfl | (rw [enc_size]; kernel_rfl)) ?_))
        refine (lp_plan1 (by omega) HL4.out).mono ?_
        rintro e w5 ⟨rfl, hb5⟩
        have HL5 := Lib.hid (HL4.out.step hb5)
        clear hb5 HL4 HE4
        go_wp2_with (first
          | (obtain ⟨g11, hg11⟩ : ∃ g, g = w5.heap.size := ⟨_, rfl⟩
             have H3 := Lib.hid ((HasO.start [] w5).new hg11 (.cells evZ 32))
             rw [← hg11]
             refine wpList_turn rfl 32 (.tmp 11) (.tmp 52) rfl g11 0 (.agg (evE 2 10 1 0 0 0 0 0 0 (.slice none 0 0))) rfl rfl 32 evZ (evE 2 10 1 0 0 0 0 0 0 (.slice none 0 0)) (H3.out.get 0 rfl) (by first | kernel_rfl | (rw [enc_size]; kernel_rfl)) (by first | (simp [Value.cells]; done) | (simp [Value.cells, ev3, evE, evZ]; done) | exact Nat.le_refl _) (by first | exact decE_all _ _ | (simp [Value.cells, Value.oneCell']; done) | (simp [Value.cells, Value.oneCell', ev3, evE, evZ]; done) | (rw [Array.all_eq_true']; simp [Value.cells, Value.oneCell', ev3, evE, evZ])) rfl ?_; intro W8 HT8
             have hb8 := below_turnT (W := w5) (Below.al (Below.refl _ w5) (.cells evZ 32)) HT8 (Nat.le_of_eq hg11.symm)
             have HL8 := Lib.hid (HL5.out.step hb8)
             have HE8 := Lib.hid HT8.at_
             clear HT8
             clear hb8 H3 hg11)
          | (refine wpListG_row rfl 32 (.tmp 11) rfl g11 rfl 32 (evE 2 10 1 0 0 0 0 0 0 (.slice none 0 0)) _ HE8.out Tryz.underlying32 rfl (by first | kernel_rfl | (rw [enc_size]; kernel_rfl)) ?_))
        refine (lp_apply1 HN.out (by omega) HL8.out).mono ?_
        rintro e w9 ⟨rfl, hl9⟩
        have HL9 := Lib.hid hl9
        clear hl9 HL8 HE8 HL5
        go_wp2_with fail
        refine ⟨⟨2, by omega, by simp, HL9⟩, by simp [intOf]⟩
      · skip
        go_wp2_with (first
          | (refine wpListG_part rfl 32 (.tmp 46) rfl x 22 rfl 32 (storyC g0) (ev3 g0 2) _ HL.out.2.1 (by simpa using story_part g0 2 (by omega)) Tryz.underlying32 rfl (by kernel_rfl) ?_)
          | (obtain ⟨g10, hg10⟩ : ∃ g, g = wr.heap.size := ⟨_, rfl⟩
             have H3 := Lib.hid ((HasO.start [] wr).new hg10 (.cells evZ 32))
             rw [← hg10]
             refine wpList_turn rfl 32 (.tmp 10) (.tmp 47) rfl g10 0 (.agg (ev3 g0 2)) rfl rfl 32 evZ (ev3 g0 2) (H3.out.get 0 rfl) (by first | kernel_rfl | (rw [enc_size]; kernel_rfl)) (by first | (simp [Value.cells]; done) | (simp [Value.cells, ev3, evE, evZ]; done) | exact Nat.le_refl _) (by first | exact decE_all _ _ | (simp [Value.cells, Value.oneCell']; done) | (simp [Value.cells, Value.oneCell', ev3, evE, evZ]; done) | (rw [Array.all_eq_true']; simp [Value.cells, Value.oneCell', ev3, evE, evZ])) rfl ?_; intro W4 HT4
             have hb4 := below_turnT (W := wr) (Below.al (Below.refl _ wr) (.cells evZ 32)) HT4 (Nat.le_of_eq hg10.symm)
             have HL4 := Lib.hid (HL.out.step hb4)
             have HE4 := Lib.hid HT4.at_
             clear hb4 HT4 H3 hg10)
          | (refine wpListG_row rfl 32 (.tmp 10) rfl g10 rfl 32 (ev3 g0 2) _ HE4.out Tryz.underlying32 rfl (by first | kernel_rfl | (rw [enc_size]; kernel_rfl)) ?_))
        refine (lp_plan2 HL4.out).mono ?_
        rintro e w5 ⟨rfl, hb5⟩
        have HL5 := Lib.hid (HL4.out.step hb5)
        clear hb5 HL4 HE4
        go_wp2_with (first
          | (obtain ⟨g11, hg11⟩ : ∃ g, g = w5.heap.size := ⟨_, rfl⟩
             have H3 := Lib.hid ((HasO.start [] w5).new hg11 (.cells evZ 32))
             rw [← hg11]
             refine wpList_turn rfl 32 (.tmp 11) (.tmp 52) rfl g11 0 (.agg (evE 4 10 1000000 0 0 0 0 0 0 (.slice none 0 0))) rfl rfl 32 evZ (evE 4 10 1000000 0 0 0 0 0 0 (.slice none 0 0)) (H3.out.get 0 rfl) (by first | kernel_rfl | (rw [enc_size]; kernel_rfl)) (by first | (simp [Value.cells]; done) | (simp [Value.cells, ev3, evE, evZ]; done) | exact Nat.le_refl _) (by first | exact decE_all _ _ | (simp [Value.cells, Value.oneCell']; done) | (simp [Value.cells, Value.oneCell', ev3, evE, evZ]; done) | (rw [Array.all_eq_true']; simp [Value.cells, Value.oneCell', ev3, evE, evZ])) rfl ?_; intro W8 HT8
             have hb8 := below_turnT (W := w5) (Below.al (Below.refl _ w5) (.cells evZ 32)) HT8 (Nat.le_of_eq hg11.symm)
             have HL8 := Lib.hid (HL5.out.step hb8)
             have HE8 := Lib.hid HT8.at_
             clear HT8
             clear hb8 H3 hg11)
          | (refine wpListG_row rfl 32 (.tmp 11) rfl g11 rfl 32 (evE 4 10 1000000 0 0 0 0 0 0 (.slice none 0 0)) _ HE8.out Tryz.underlying32 rfl (by first | kernel_rfl | (rw [enc_size]; kernel_rfl)) ?_))
        refine (lp_apply2 HN.out HL8.out).mono ?_
        rintro e w9 ⟨rfl, hl9⟩
        have HL9 := Lib.hid hl9
        clear hl9 HL8 HE8 HL5
        go_wp2_with fail
        refine ⟨⟨3, by omega, by simp, HL9⟩, by simp [intOf]⟩
      · obtain ⟨K, hK, hK69⟩ : ∃ K : Nat, days.tmod 70 = (K : Int) ∧ K ≤ 69 := ⟨(days % 70).toNat, by rw [Int.tmod_eq_emod_of_nonneg hd.1]; omega, by omega⟩
        obtain ⟨ga, bh, hs3⟩ := HL.out.s3
        have HD0 : Hid (Dn W n ga bh d 0 wr) := Lib.hid ⟨HL.out.1, 3, 1000000, 0, by omega, ⟨by omega, by omega, by unfold pot BB; omega⟩, by simpa using hs3⟩
        clear hs3 HL HLP hd
        rw [show ((3 : Nat) : Int) = 3 from rfl]
        go_wp2_with fail
        go_loopw [67] (fun t wr => ∃ i : Nat, i ≤ K ∧ t = .int .i64 i ∧ Hid (Dn W n ga bh d i wr)) (fun t _ => K - (intOf t).toNat)
        case atStart => exact ⟨0, by omega, rfl, HD0⟩
        case round =>
          obtain ⟨i, hi, rfl, HD⟩ := hrel
          by_cases hiK : i < K
          · have hlt : decide ((i : Int) < (K : Int)) = true := by simp; omega
            have c0 : wr.cell? ⟨n + 7, 0, none⟩ = some (.int .i64 (d + i)) := by obtain ⟨_, seq, b, a, _, _, h⟩ := HD.out; exact (st2_cells h).1
            go_wp2_with fail
            refine (mday_ok (n + 7) (d + i) wr c0).mono ?_
            rintro e w2 ⟨rfl, hw⟩
            obtain rfl : wr = w2 := hw.symm
            clear c0
            go_wp2_with fail
            refine (Cal.monthEnd_ok (d + i) (by omega) wr).mono ?_
            rintro e w2 ⟨rfl, hw⟩
            obtain rfl : wr = w2 := hw.symm
            obtain ⟨en, hen⟩ : ∃ en, en = Cal.endB (d + i) := ⟨_, rfl⟩
            rw [← hen]
            have HEN := Lib.hid hen
            have HM0 : Hid (Dm W n ga bh d i 0 false 6 wr) := Lib.hid (.inl ⟨rfl, rfl, rfl, HD.out⟩)
            clear HD HD0 hen
            go_wp2_with fail
            go_loopw [17, 18] (fun p dn wx => ∃ (z : Int) (bd : Bool) (m : Nat), p = .int .i64 z ∧ dn = .bool bd ∧ Hid (Dm W n ga bh d i z bd m wx)) (fun _ dn wx => mu n dn wx)
            case atStart => exact ⟨0, false, 6, rfl, rfl, HM0⟩
            case round =>
              obtain ⟨z, bd, m, rfl, rfl, HM⟩ := hrel
              obtain ⟨hz0, hz1⟩ := HM.out.pb
              cases bd with
              | false =>
                obtain ⟨op, n0, n1, n2, p', dn', m', hop, hmm, hnx, hap⟩ := HM.out.round HN.out (by omega) ⟨hd1, hd2⟩
                have HNX := Lib.hid hnx
                have HAP := Lib.hid hap
                have HMM := Lib.hid hmm
                have HMU := Lib.hid HM.out.mu
                clear hmm hnx hap HM0 HM
                rcases hop with ⟨rfl, rfl, rfl, rfl⟩ | ⟨rfl, rfl, rfl, rfl⟩ | ⟨rfl, rfl, rfl, rfl⟩ | ⟨rfl, rfl, rfl, rfl⟩ | ⟨rfl, rfl, rfl, rfl⟩
                · skip
                  go_wp2_with fail
                  refine (HNX.out _ (Below.refl _ _)).mono ?_
                  rintro e w2 ⟨rfl, hb2⟩
                  have HB2 := Lib.hid hb2
                  clear hb2
                  go_wp2_with (first
                    | (obtain ⟨g19, hg19⟩ : ∃ g, g = w2.heap.size := ⟨_, rfl⟩
                       have H3 := Lib.hid ((HasO.start [] w2).new hg19 (.cells evZ 32))
                       rw [← hg19]
                       refine wpList_turn rfl 32 (.tmp 19) (.tmp 81) rfl g19 0 (.agg (evE 13 n0 0 n2 0 0 0 0 0 (.slice none 0 0))) rfl rfl 32 evZ (evE 13 n0 0 n2 0 0 0 0 0 (.slice none 0 0)) (H3.out.get 0 rfl) (by first | kernel_rfl | (rw [enc_size]; kernel_rfl)) (by first | (simp [Value.cells]; done) | (simp [Value.cells, ev3, evE, evZ]; done) | exact Nat.le_refl _) (by first | exact decE_all _ _ | (simp [Value.cells, Value.oneCell']; done) | (simp [Value.cells, Value.oneCell', ev3, evE, evZ]; done) | (rw [Array.all_eq_true']; simp [Value.cells, Value.oneCell', ev3, evE, evZ])) rfl ?_; intro W4 HT4
                       have HB4 := Lib.hid (HB2.out.trans ((below_turnT (W := w2) (Below.al (Below.refl _ w2) (.cells evZ 32)) HT4 (Nat.le_of_eq hg19.symm)).mono HB2.out.size))
                       have HE4 := Lib.hid HT4.at_
                       clear HT4 H3 hg19)
                    | (refine wpListG_row rfl 32 (.tmp 19) rfl g19 rfl 32 (evE 13 n0 0 n2 0 0 0 0 0 (.slice none 0 0)) _ HE4.out Tryz.underlying32 rfl (by first | kernel_rfl | (rw [enc_size]; kernel_rfl)) ?_))
                  have ha4 := HAP.out W4 HB4.out
                  refine ha4.2.mono ?_
                  rintro e w5 ⟨rfl, hk5, hm5⟩
                  have hE5 : w5.heap[g19]? = some (.cells (evE 13 n0 0 n2 0 0 0 0 0 (.slice none 0 0)) 32) := (hk5.block _ (obj_lt HE4.out) (ha4.1.not_mem HE4.out rfl)).trans HE4.out
                  have c0 : w5.cell? ⟨g19, 0, none⟩ = some (.int .u8 13) := by rw [Blk.cell (t := 32) hE5 0]; rfl
                  have c3 : w5.cell? ⟨g19, 3, none⟩ = some (.int .i64 0) := by rw [Blk.cell (t := 32) hE5 3]; rfl
                  have HM5 := Lib.hid hm5
                  clear hk5 hm5 hE5 ha4 HE4 HB4
                  go_wp2_with fail
                  refine ⟨⟨_, false, m', rfl, rfl, HM5⟩, ?_⟩
                  rw [← HM5.out.mu, ← HMU.out]
                  exact HMM.out
                · skip
                  go_wp2_with fail
                  refine (HNX.out _ (Below.refl _ _)).mono ?_
                  rintro e w2 ⟨rfl, hb2⟩
                  have HB2 := Lib.hid hb2
                  clear hb2
                  go_wp2_with (first
                    | (obtain ⟨g19, hg19⟩ : ∃ g, g = w2.heap.size := ⟨_, rfl⟩
                       have H3 := Lib.hid ((HasO.start [] w2).new hg19 (.cells evZ 32))
                       rw [← hg19]
                       refine wpList_turn rfl 32 (.tmp 19) (.tmp 81) rfl g19 0 (.agg (evE 14 n0 1 n2 0 0 0 0 0 (.slice none 0 0))) rfl rfl 32 evZ (evE 14 n0 1 n2 0 0 0 0 0 (.slice none 0 0)) (H3.out.get 0 rfl) (by first | kernel_rfl | (rw [enc_size]; kernel_rfl)) (by first | (simp [Value.cells]; done) | (simp [Value.cells, ev3, evE, evZ]; done) | exact Nat.le_refl _) (by first | exact decE_all _ _ | (simp [Value.cells, Value.oneCell']; done) | (simp [Value.cells, Value.oneCell', ev3, evE, evZ]; done) | (rw [Array.all_eq_true']; simp [Value.cells, Value.oneCell', ev3, evE, evZ])) rfl ?_; intro W4 HT4
                       have HB4 := Lib.hid (HB2.out.trans ((below_turnT (W := w2) (Below.al (Below.refl _ w2) (.cells evZ 32)) HT4 (Nat.le_of_eq hg19.symm)).mono HB2.out.size))
                       have HE4 := Lib.hid HT4.at_
                       clear HT4 H3 hg19)
                    | (refine wpListG_row rfl 32 (.tmp 19) rfl g19 rfl 32 (evE 14 n0 1 n2 0 0 0 0 0 (.slice none 0 0)) _ HE4.out Tryz.underlying32 rfl (by first | kernel_rfl | (rw [enc_size]; kernel_rfl)) ?_))
                  have ha4 := HAP.out W4 HB4.out
                  refine ha4.2.mono ?_
                  rintro e w5 ⟨rfl, hk5, hm5⟩
                  have hE5 : w5.heap[g19]? = some (.cells (evE 14 n0 1 n2 0 0 0 0 0 (.slice none 0 0)) 32) := (hk5.block _ (obj_lt HE4.out) (ha4.1.not_mem HE4.out rfl)).trans HE4.out
                  have c0 : w5.cell? ⟨g19, 0, none⟩ = some (.int .u8 14) := by rw [Blk.cell (t := 32) hE5 0]; rfl
                  have c3 : w5.cell? ⟨g19, 3, none⟩ = some (.int .i64 1) := by rw [Blk.cell (t := 32) hE5 3]; rfl
                  have HM5 := Lib.hid hm5
                  clear hk5 hm5 hE5 ha4 HE4 HB4
                  go_wp2_with fail
                  refine ⟨⟨_, false, m', rfl, rfl, HM5⟩, ?_⟩
                  rw [← HM5.out.mu, ← HMU.out]
                  exact HMM.out
                · skip
                  go_wp2_with fail
                  refine (HNX.out _ (Below.refl _ _)).mono ?_
                  rintro e w2 ⟨rfl, hb2⟩
                  have HB2 := Lib.hid hb2
                  clear hb2
                  go_wp2_with (first
                    | (obtain ⟨g19, hg19⟩ : ∃ g, g = w2.heap.size := ⟨_, rfl⟩
                       have H3 := Lib.hid ((HasO.start [] w2).new hg19 (.cells evZ 32))
                       rw [← hg19]
                       refine wpList_turn rfl 32 (.tmp 19) (.tmp 81) rfl g19 0 (.agg (evE 14 n0 2 n2 0 0 0 0 0 (.slice none 0 0))) rfl rfl 32 evZ (evE 14 n0 2 n2 0 0 0 0 0 (.slice none 0 0)) (H3.out.get 0 rfl) (by first | kernel_rfl | (rw [enc_size]; kernel_rfl)) (by first | (simp [Value.cells]; done) | (simp [Value.cells, ev3, evE, evZ]; done) | exact Nat.le_refl _) (by first | exact decE_all _ _ | (simp [Value.cells, Value.oneCell']; done) | (simp [Value.cells, Value.oneCell', ev3, evE, evZ]; done) | (rw [Array.all_eq_true']; simp [Value.cells, Value.oneCell', ev3, evE, evZ])) rfl ?_; intro W4 HT4
                       have HB4 := Lib.hid (HB2.out.trans ((below_turnT (W := w2) (Below.al (Below.refl _ w2) (.cells evZ 32)) HT4 (Nat.le_of_eq hg19.symm)).mono HB2.out.size))
                       have HE4 := Lib.hid HT4.at_
                       clear HT4 H3 hg19)
                    | (refine wpListG_row rfl 32 (.tmp 19) rfl g19 rfl 32 (evE 14 n0 2 n2 0 0 0 0 0 (.slice none 0 0)) _ HE4.out Tryz.underlying32 rfl (by first | kernel_rfl | (rw [enc_size]; kernel_rfl)) ?_))
                  have ha4 := HAP.out W4 HB4.out
                  refine ha4.2.mono ?_
                  rintro e w5 ⟨rfl, hk5, hm5⟩
                  have hE5 : w5.heap[g19]? = some (.cells (evE 14 n0 2 n2 0 0 0 0 0 (.slice none 0 0)) 32) := (hk5.block _ (obj_lt HE4.out) (ha4.1.not_mem HE4.out rfl)).trans HE4.out
                  have c0 : w5.cell? ⟨g19, 0, none⟩ = some (.int .u8 14) := by rw [Blk.cell (t := 32) hE5 0]; rfl
                  have c3 : w5.cell? ⟨g19, 3, none⟩ = some (.int .i64 2) := by rw [Blk.cell (t := 32) hE5 3]; rfl
                  have HM5 := Lib.hid hm5
                  clear hk5 hm5 hE5 ha4 HE4 HB4
                  go_wp2_with fail
                  refine ⟨⟨_, false, m', rfl, rfl, HM5⟩, ?_⟩
                  rw [← HM5.out.mu, ← HMU.out]
                  exact HMM.out
                · skip
                  go_wp2_with fail
                  refine (HNX.out _ (Below.refl _ _)).mono ?_
                  rintro e w2 ⟨rfl, hb2⟩
                  have HB2 := Lib.hid hb2
                  clear hb2
                  go_wp2_with (first
                    | (obtain ⟨g19, hg19⟩ : ∃ g, g = w2.heap.size := ⟨_, rfl⟩
                       have H3 := Lib.hid ((HasO.start [] w2).new hg19 (.cells evZ 32))
                       rw [← hg19]
                       refine wpList_turn rfl 32 (.tmp 19) (.tmp 81) rfl g19 0 (.agg (evE 14 n0 3 n2 0 0 0 0 0 (.slice none 0 0))) rfl rfl 32 evZ (evE 14 n0 3 n2 0 0 0 0 0 (.slice none 0 0)) (H3.out.get 0 rfl) (by first | kernel_rfl | (rw [enc_size]; kernel_rfl)) (by first | (simp [Value.cells]; done) | (simp [Value.cells, ev3, evE, evZ]; done) | exact Nat.le_refl _) (by first | exact decE_all _ _ | (simp [Value.cells, Value.oneCell']; done) | (simp [Value.cells, Value.oneCell', ev3, evE, evZ]; done) | (rw [Array.all_eq_true']; simp [Value.cells, Value.oneCell', ev3, evE, evZ])) rfl ?_; intro W4 HT4
                       have HB4 := Lib.hid (HB2.out.trans ((below_turnT (W := w2) (Below.al (Below.refl _ w2) (.cells evZ 32)) HT4 (Nat.le_of_eq hg19.symm)).mono HB2.out.size))
                       have HE4 := Lib.hid HT4.at_
                       clear HT4 H3 hg19)
                    | (refine wpListG_row rfl 32 (.tmp 19) rfl g19 rfl 32 (evE 14 n0 3 n2 0 0 0 0 0 (.slice none 0 0)) _ HE4.out Tryz.underlying32 rfl (by first | kernel_rfl | (rw [enc_size]; kernel_rfl)) ?_))
                  have ha4 := HAP.out W4 HB4.out
                  refine ha4.2.mono ?_
                  rintro e w5 ⟨rfl, hk5, hm5⟩
                  have hE5 : w5.heap[g19]? = some (.cells (evE 14 n0 3 n2 0 0 0 0 0 (.slice none 0 0)) 32) := (hk5.block _ (obj_lt HE4.out) (ha4.1.not_mem HE4.out rfl)).trans HE4.out
                  have c0 : w5.cell? ⟨g19, 0, none⟩ = some (.int .u8 14) := by rw [Blk.cell (t := 32) hE5 0]; rfl
                  have c3 : w5.cell? ⟨g19, 3, none⟩ = some (.int .i64 3) := by rw [Blk.cell (t := 32) hE5 3]; rfl
                  have HM5 := Lib.hid hm5
                  clear hk5 hm5 hE5 ha4 HE4 HB4
                  go_wp2_with fail
                  refine ⟨⟨_, false, m', rfl, rfl, HM5⟩, ?_⟩
                  rw [← HM5.out.mu, ← HMU.out]
                  exact HMM.out
                · skip
                  go_wp2_with fail
                  refine (HNX.out _ (Below.refl _ _)).mono ?_
                  rintro e w2 ⟨rfl, hb2⟩
                  have HB2 := Lib.hid hb2
                  clear hb2
                  go_wp2_with (first
                    | (obtain ⟨g19, hg19⟩ : ∃ g, g = w2.heap.size := ⟨_, rfl⟩
                       have H3 := Lib.hid ((HasO.start [] w2).new hg19 (.cells evZ 32))
                       rw [← hg19]
                       refine wpList_turn rfl 32 (.tmp 19) (.tmp 81) rfl g19 0 (.agg (evE 15 n0 0 n2 0 0 0 0 0 (.slice none 0 0))) rfl rfl 32 evZ (evE 15 n0 0 n2 0 0 0 0 0 (.slice none 0 0)) (H3.out.get 0 rfl) (by first | kernel_rfl | (rw [enc_size]; kernel_rfl)) (by first | (simp [Value.cells]; done) | (simp [Value.cells, ev3, evE, evZ]; done) | exact Nat.le_refl _) (by first | exact decE_all _ _ | (simp [Value.cells, Value.oneCell']; done) | (simp [Value.cells, Value.oneCell', ev3, evE, evZ]; done) | (rw [Array.all_eq_true']; simp [Value.cells, Value.oneCell', ev3, evE, evZ])) rfl ?_; intro W4 HT4
                       have HB4 := Lib.hid (HB2.out.trans ((below_turnT (W := w2) (Below.al (Below.refl _ w2) (.cells evZ 32)) HT4 (Nat.le_of_eq hg19.symm)).mono HB2.out.size))
                       have HE4 := Lib.hid HT4.at_
                       clear HT4 H3 hg19)
                    | (refine wpListG_row rfl 32 (.tmp 19) rfl g19 rfl 32 (evE 15 n0 0 n2 0 0 0 0 0 (.slice none 0 0)) _ HE4.out Tryz.underlying32 rfl (by first | kernel_rfl | (rw [enc_size]; kernel_rfl)) ?_))
                  have ha4 := HAP.out W4 HB4.out
                  refine ha4.2.mono ?_
                  rintro e w5 ⟨rfl, hk5, hm5⟩
                  have hE5 : w5.heap[g19]? = some (.cells (evE 15 n0 0 n2 0 0 0 0 0 (.slice none 0 0)) 32) := (hk5.block _ (obj_lt HE4.out) (ha4.1.not_mem HE4.out rfl)).trans HE4.out
                  have c0 : w5.cell? ⟨g19, 0, none⟩ = some (.int .u8 15) := by rw [Blk.cell (t := 32) hE5 0]; rfl
                  have c3 : w5.cell? ⟨g19, 3, none⟩ = some (.int .i64 0) := by rw [Blk.cell (t := 32) hE5 3]; rfl
                  have HM5 := Lib.hid hm5
                  clear hk5 hm5 hE5 ha4 HE4 HB4
                  go_wp2_with fail
                  refine ⟨⟨_, true, m', rfl, rfl, HM5⟩, ?_⟩
                  rw [← HM5.out.mu, ← HMU.out]
                  exact HMM.out
              | true =>
                obtain ⟨hz, hdn⟩ := HM.out.fin
                have HDN := Lib.hid hdn
                have c0 : wr.cell? ⟨n + 7, 0, none⟩ = some (.int .i64 (d + i + 1)) := by
                  obtain ⟨_, seq, b, a, _, _, h⟩ := hdn
                  have := (st2_cells h).1
                  rwa [show d + ((i + 1 : Nat) : Int) = d + i + 1 by omega] at this
                rw [← HEN.out] at hz
                clear HM HM0 hdn hz0 hz1
                cases en with
                | false =>
                  simp only [Bool.false_eq_true, if_false] at hz
                  subst hz
                  go_wp2_with fail
                  refine (mday_ok (n + 7) (d + i + 1) wr c0).mono ?_
                  rintro e w2 ⟨rfl, hw⟩
                  obtain rfl : wr = w2 := hw.symm
                  clear c0
                  go_wp2_with fail
                  refine ⟨⟨i + 1, hiK, by simp, HDN⟩, ?_⟩
                  simp only [intOf]; omega
                | true =>
                  simp only [if_true] at hz
                  subst hz
                  go_wp2_with fail
                  refine (mday_ok (n + 7) (d + i + 1) wr c0).mono ?_
                  rintro e w2 ⟨rfl, hw⟩
                  obtain rfl : wr = w2 := hw.symm
                  clear c0
                  go_wp2_with fail
                  refine ⟨⟨i + 1, hiK, by simp, HDN⟩, ?_⟩
                  simp only [intOf]; omega
          · have hlt : decide ((i : Int) < (K : Int)) = false := by simp; omega
            have HB := Lib.hid HD.out.1
            go_wp2_with fail
            exact bodyPost_ret (results_one rfl _ _ rfl) rfl ⟨rfl, HB.out⟩
end Go.Proofs.YtlfomhdphbchpaaGreatDoor.Bk
