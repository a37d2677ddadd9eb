/- Lemmas of a claim, several texts in one: MoM -/
import Derived.Test.YtlfomhdphbchpaaGreatDoorG27
/-! model: happen, of the story's commands -/
namespace Go.Proofs.YtlfomhdphbchpaaGreatDoor.Mo
open Go.RowKit Go.Deep Go.Proofs.YtlfomhdphbchpaaGreatDoor.Wide Go.Proofs.YtlfomhdphbchpaaGreatDoor.Dec Go.Proofs.YtlfomhdphbchpaaGreatDoor.Mp Go.Proofs.YtlfomhdphbchpaaGreatDoor.Pr Go.Proofs.YtlfomhdphbchpaaGreatDoor.Ch
set_option linter.unusedVariables false
set_option linter.unusedSimpArgs false
theorem HasO.up {S : List Nat} {W w : World} {fs : List (Nat × Obj)} (h : HasO [] W fs w) : HasO S W fs w := ⟨h.1.mono (by simp), h.2⟩
set_option maxHeartbeats 4000000 in
set_option maxRecDepth 100000 in
theorem happen_product (gm gc bc ba br bk gl : Nat) (day seq : Int) (run : Bool) (st : Value) (g c : Nat) (W : World) (hs : TS W (.slice (some ⟨g, 0, none⟩) 1 c))
    (h : HasO [] W [(gm, .cells (modE day gc ba br bk gl seq run st) 64), (ba, .map #[] 0), (gc, .cells #[.slice none 0 0, .map (some bc)] 105), (bc, .map #[] 0)] W) :
    Calls Tryz.prog 24 #[.pointer (some ⟨gm, 0, none⟩), .agg (evE 1 1 1 0 1 1 0 0 500 (.slice (some ⟨g, 0, none⟩) 1 c))] W fun e w' => e = unitR ∧ Keep [gc, bc] W w' ∧ Cat1 gc w' := by
  have H1 : Hid (HasO [] W [(W.heap.size + 1, .cells (nsE 1 1 0 1 1 0 0 500) 29), (W.heap.size, .cells (evE 1 1 1 0 1 1 0 0 500 (.slice (some ⟨g, 0, none⟩) 1 c)) 32), (gm, .cells (modE day gc ba br bk gl seq run st) 64), (ba, .map #[] 0), (gc, .cells #[.slice none 0 0, .map (some bc)] 105), (bc, .map #[] 0)] _) := Lib.hid ((h.new (g := W.heap.size) rfl (.cells (evE 1 1 1 0 1 1 0 0 500 (.slice (some ⟨g, 0, none⟩) 1 c)) 32)).new (g := W.heap.size + 1) (by simp) (.cells (nsE 1 1 0 1 1 0 0 500) 29))
  have CV := Lib.hid (fun W' => version_ok g c W')
  have CA := Lib.hid (fun w (hb : HasO [] w (cat0 gc bc) w) (hs : TS w (.slice (some ⟨g, 0, none⟩) 1 c)) => add1_ok (.slice (some ⟨g, 0, none⟩) 1 c) gc bc w hb hs)
  have HS := Lib.hid hs
  clear h hs
  rw [evE]
  go_enter Tryz.func24, Tryz.ntmps24
  go_wp2_with fail
  refine wp_region_class (fun w' => HasO [] W _ w') [0, 1, 2, 3, 4, 5, 6, 7, 8, 9, 10, 11, 12, 13, 14, 15] (by kernel_rfl) (by kernel_rfl) (H1.out.drew) ?_
  simp only [List.map_cons, List.map_nil, opAt, List.getElem?_cons_succ, List.getElem?_cons_zero, Option.getD_some]
  repeat (go_big_quiet_step ((intro _; rfl)))
  refine wpQuiet_cell 57 (.tmp 13) rfl rfl ⟨gm, 2, none⟩ rfl (.map (some ba)) _ (fun w hw => (hw.get 2 rfl).cell 2) Tryz.underlying57 rfl (fun KK hKK => ?_)
  go_simp
  refine hKK _ ?_
  clear hKK KK
  repeat (go_big_quiet_step ((intro _; rfl)))
  refine wpQuiet_cell 2 (.tmp 15) rfl rfl ⟨(W.heap.size + 1), 0, none⟩ rfl (.int .i64 1) _ (fun w hw => (hw.get 0 rfl).cell 0) Tryz.underlying2 rfl (fun KK hKK => ?_)
  go_simp
  refine hKK _ ?_
  clear hKK KK
  refine wpQuiet_lookup rfl 57 (.tmp 14) (.tmp 16) false rfl ba (.int .i64 1) (.pointer none) rfl rfl (fun w hw => look0 ba _ w (hw.obj 3 rfl)) (fun KK hKK => ?_)
  go_simp
  refine hKK _ ?_
  clear hKK KK
  repeat (go_big_quiet_step ((intro _; rfl)))
  refine wpQuiet_cell 57 (.tmp 20) rfl rfl ⟨gm, 2, none⟩ rfl (.map (some ba)) _ (fun w hw => (hw.get 2 rfl).cell 2) Tryz.underlying57 rfl (fun KK hKK => ?_)
  go_simp
  refine hKK _ ?_
  clear hKK KK
  repeat (go_big_quiet_step ((intro _; rfl)))
  refine wpQuiet_cell 2 (.tmp 22) rfl rfl ⟨(W.heap.size + 1), 1, none⟩ rfl (.int .i64 1) _ (fun w hw => (hw.get 0 rfl).cell 1) Tryz.underlying2 rfl (fun KK hKK => ?_)
  go_simp
  refine hKK _ ?_
  clear hKK KK
  refine wpQuiet_lookup rfl 57 (.tmp 21) (.tmp 23) false rfl ba (.int .i64 1) (.pointer none) rfl rfl (fun w hw => look0 ba _ w (hw.obj 3 rfl)) (fun KK hKK => ?_)
  go_simp
  refine hKK _ ?_
  clear hKK KK
  repeat (go_big_quiet_step ((intro _; rfl)))
  refine wpQuiet_nil ?_
  intro w5 H5
  have H5 := Lib.hid H5
  clear H1
  go_wp2_with (refine wpListG_cell rfl 5 (.tmp 25) rfl W.heap.size 0 rfl 32 (evE 1 1 1 0 1 1 0 0 500 (.slice (some ⟨g, 0, none⟩) 1 c)) (.int .u8 1) rfl _ (H5.out.get 1 rfl) Tryz.underlying5 rfl ?_)
  refine wp_region_regF (fun w' => HasO [] W [(W.heap.size + 1, .cells (nsE 1 1 0 1 1 0 0 500) 29), (W.heap.size, .cells (evE 1 1 1 0 1 1 0 0 500 (.slice (some ⟨g, 0, none⟩) 1 c)) 32), (gm, .cells (modE day gc ba br bk gl seq run st) 64), (ba, .map #[] 0), (gc, .cells #[.slice none 0 0, .map (some bc)] 105), (bc, .map #[] 0)] w') (fun w' => HasO [gc, bc] W [] w') (fun _ => (0, #[])) [0, 1, 2, 3, 4, 5] [] [6] [] (by kernel_rfl) (by kernel_rfl) ?_ (fun w w' h hb => h.step hb) ?_ (fun k hk => by cases hk) ?_
  · exact fun w h => HasO.nil (h.1.mono (by simp))
  · exact H5.out.drew
  simp only [List.map_cons, List.map_nil, opAt, List.getElem?_cons_succ, List.getElem?_cons_zero, Option.getD_some, List.contains_cons, List.contains_nil, Nat.reduceBEq, Bool.or_false, Bool.or_true, Bool.true_or, Bool.false_or]
  repeat (refine wpX_pure rfl ?_; go_big_quiet_step ((intro _; rfl)); refine wpQuiet_nil ?_)
  refine wpX_pure rfl ?_
  refine wpQuiet_cell 55 (.tmp 31) rfl rfl ⟨gm, 1, none⟩ rfl (.pointer (some ⟨gc, 0, none⟩)) _ (fun w hw => (hw.get 2 rfl).cell 1) Tryz.underlying55 rfl (fun KK hKK => ?_)
  go_simp
  refine hKK _ ?_
  clear hKK KK
  refine wpQuiet_nil ?_
  refine wpX_pure rfl ?_
  refine wpQuiet_row 32 (.tmp 3) rfl rfl W.heap.size rfl 32 (evE 1 1 1 0 1 1 0 0 500 (.slice (some ⟨g, 0, none⟩) 1 c)) _ (fun w hw => hw.get 1 rfl) Tryz.underlying32 rfl (by first | kernel_rfl | (rw [enc_size]; kernel_rfl)) (fun KK hKK => ?_)
  go_simp
  refine hKK _ ?_
  clear hKK KK
  refine wpQuiet_nil ?_
  refine wpX_call (.agg (prodE (.slice (some ⟨g, 0, none⟩) 1 c))) 41 #[.agg (evE 1 1 1 0 1 1 0 0 500 (.slice (some ⟨g, 0, none⟩) 1 c))] rfl (fun w => by go_simp) (fun w hw => CV.out _) (fun KK hKK => ?_)
  go_simp
  refine hKK _ ?_
  clear hKK KK
  refine wpX_nil ?_
  intro gs6 w6 H6
  intro hmade
  simp only [putAll, wpTail, opAt, List.getElem?_cons_succ, List.getElem?_cons_zero, Option.getD_some, Act.put]
  have H6 := Lib.hid H6
  clear hmade H5
  go_wp2_with fail
  refine (CA.out _ (HasO.re H6.out).tail.tail.tail.tail (HS.out.step H6.out.below)).mono ?_
  rintro e w7 ⟨rfl, hk7, hc7⟩
  have HK7 : Hid (Keep [gc, bc] W w7) := Lib.hid ((H6.out.1.mono (by simp)).trans hk7 (fun k hk => .inl hk))
  have HC7 := Lib.hid hc7
  clear hk7 hc7 H6
  go_wp2_with fail
  refine ⟨HasO.nil HK7.out, ?_⟩
  go_wp2_with fail
  go_end0
  exact ⟨rfl, HK7.out, HC7.out⟩
set_option maxHeartbeats 4000000 in
set_option maxRecDepth 100000 in
theorem happen_open (gm gc ba br bk gl : Nat) (day seq : Int) (hd : 1 ≤ day ∧ day ≤ 3652059) (run : Bool) (st : Value) (W : World) (hc : Cat1 gc W)
    (h : HasO [] W [(gm, .cells (modE day gc ba br bk gl seq run st) 64), (ba, .map #[] 0)] W) :
    Calls Tryz.prog 24 #[.pointer (some ⟨gm, 0, none⟩), .agg (evE 2 10 1 0 0 0 0 0 0 (.slice none 0 0))] W fun e w' => e = unitR ∧ Keep [ba] W w' ∧ ∃ ga bh, W.heap.size ≤ ga ∧ W.heap.size ≤ bh ∧ w'.heap[ba]? = some (.map #[entA ga] 1) ∧ w'.heap[ga]? = some (.cells (acctE 0 0 bh) 126) ∧ w'.heap[bh]? = some (.map #[] 0) := by
  have CA := Lib.hid (fun w (hb : Below W.heap.size W w) => at1_ok gc day hd w (cat1_step hc hb))
  have H1 : Hid (HasO [] W [(W.heap.size + 1, .cells (nsE 10 1 0 0 0 0 0 0) 29), (W.heap.size, .cells (evE 2 10 1 0 0 0 0 0 0 (.slice none 0 0)) 32), (gm, .cells (modE day gc ba br bk gl seq run st) 64), (ba, .map #[] 0)] _) := Lib.hid ((h.new (g := W.heap.size) rfl (.cells (evE 2 10 1 0 0 0 0 0 0 (.slice none 0 0)) 32)).new (g := W.heap.size + 1) (by simp) (.cells (nsE 10 1 0 0 0 0 0 0) 29))
  have hmm := fun w : World => (run_makeMap (P := Tryz.prog) 124 w)
  have HLT := Lib.hid (obj_lt (h.obj 1 rfl))
  clear h hc hd
  rw [evE]
  go_enter Tryz.func24, Tryz.ntmps24
  go_wp2_with fail
  refine wp_region_class (fun w' => HasO [] W _ w') [0, 1, 2, 3, 4, 5, 6, 7, 8, 9, 10, 11, 12, 13, 14, 15] (by kernel_rfl) (by kernel_rfl) (H1.out.drew) ?_
  simp only [List.map_cons, List.map_nil, opAt, List.getElem?_cons_succ, List.getElem?_cons_zero, Option.getD_some]
  repeat (go_big_quiet_step ((intro _; rfl)))
  refine wpQuiet_cell 57 (.tmp 13) rfl rfl ⟨gm, 2, none⟩ rfl (.map (some ba)) _ (fun w hw => (hw.get 2 rfl).cell 2) Tryz.underlying57 rfl (fun KK hKK => ?_)
  go_simp
  refine hKK _ ?_
  clear hKK KK
  repeat (go_big_quiet_step ((intro _; rfl)))
  refine wpQuiet_cell 2 (.tmp 15) rfl rfl ⟨(W.heap.size + 1), 0, none⟩ rfl (.int .i64 10) _ (fun w hw => (hw.get 0 rfl).cell 0) Tryz.underlying2 rfl (fun KK hKK => ?_)
  go_simp
  refine hKK _ ?_
  clear hKK KK
  refine wpQuiet_lookup rfl 57 (.tmp 14) (.tmp 16) false rfl ba (.int .i64 10) (.pointer none) rfl rfl (fun w hw => look0 ba _ w (hw.obj 3 rfl)) (fun KK hKK => ?_)
  go_simp
  refine hKK _ ?_
  clear hKK KK
  repeat (go_big_quiet_step ((intro _; rfl)))
  refine wpQuiet_cell 57 (.tmp 20) rfl rfl ⟨gm, 2, none⟩ rfl (.map (some ba)) _ (fun w hw => (hw.get 2 rfl).cell 2) Tryz.underlying57 rfl (fun KK hKK => ?_)
  go_simp
  refine hKK _ ?_
  clear hKK KK
  repeat (go_big_quiet_step ((intro _; rfl)))
  refine wpQuiet_cell 2 (.tmp 22) rfl rfl ⟨(W.heap.size + 1), 1, none⟩ rfl (.int .i64 1) _ (fun w hw => (hw.get 0 rfl).cell 1) Tryz.underlying2 rfl (fun KK hKK => ?_)
  go_simp
  refine hKK _ ?_
  clear hKK KK
  refine wpQuiet_lookup rfl 57 (.tmp 21) (.tmp 23) false rfl ba (.int .i64 1) (.pointer none) rfl rfl (fun w hw => look0 ba _ w (hw.obj 3 rfl)) (fun KK hKK => ?_)
  go_simp
  refine hKK _ ?_
  clear hKK KK
  repeat (go_big_quiet_step ((intro _; rfl)))
  refine wpQuiet_nil ?_
  intro w5 H5
  have H5 := Lib.hid H5
  clear H1
  go_wp2_with (refine wpListG_cell rfl 5 (.tmp 25) rfl W.heap.size 0 rfl 32 (evE 2 10 1 0 0 0 0 0 0 (.slice none 0 0)) (.int .u8 2) rfl _ (H5.out.get 1 rfl) Tryz.underlying5 rfl ?_)
  apply wp_region_cut3 (fun w' => HasO [] W [(W.heap.size + 1, .cells (nsE 10 1 0 0 0 0 0 0) 29), (W.heap.size, .cells (evE 2 10 1 0 0 0 0 0 0 (.slice none 0 0)) 32), (gm, .cells (modE day gc ba br bk gl seq run st) 64), (ba, .map #[] 0)] w') (fun g7 g5 c5 w' => HasO [] W ((g7, .cells (prodE (.slice (some ⟨g5, 0, none⟩) 1 c5)) 115) :: [(W.heap.size + 1, .cells (nsE 10 1 0 0 0 0 0 0) 29), (W.heap.size, .cells (evE 2 10 1 0 0 0 0 0 0 (.slice none 0 0)) 32), (gm, .cells (modE day gc ba br bk gl seq run st) 64), (ba, .map #[] 0)]) w' ∧ TS w' (.slice (some ⟨g5, 0, none⟩) 1 c5)) _ (.seg [0, 1, 2, 3, 4, 5, 6, 7, 8, 9] (.fork 10 (.seg [11, 12, 13] (.turn 14 (.turn 15 (.turn 16 .nil)))) 14 (.turn 10 (.seg [11, 12, 13] (.turn 15 (.turn 16 .nil)))))) (by kernel_rfl) (by kernel_rfl) H5.out.drew
  case h =>
    simp only [wpPlan, List.map_cons, List.map_nil, opAt, List.getElem?_cons_succ, List.getElem?_cons_zero, Option.getD_some]
    repeat (go_big_quiet_step ((intro _; rfl)))
    refine wpQuiet_cell 55 (.tmp 41) rfl rfl ⟨gm, 1, none⟩ rfl (.pointer (some ⟨gc, 0, none⟩)) _ (fun w hw => (hw.get 2 rfl).cell 1) Tryz.underlying55 rfl (fun KK hKK => ?_)
    go_simp
    refine hKK _ ?_
    clear hKK KK
    repeat (go_big_quiet_step ((intro _; rfl)))
    refine wpQuiet_cell 2 (.tmp 43) rfl rfl ⟨(W.heap.size + 1), 1, none⟩ rfl (.int .i64 1) _ (fun w hw => (hw.get 0 rfl).cell 1) Tryz.underlying2 rfl (fun KK hKK => ?_)
    go_simp
    refine hKK _ ?_
    clear hKK KK
    repeat (go_big_quiet_step ((intro _; rfl)))
    refine wpQuiet_cell 3 (.tmp 47) rfl rfl ⟨gm, 0, none⟩ rfl (.int .i64 day) _ (fun w hw => (hw.get 2 rfl).cell 0) Tryz.underlying3 rfl (fun KK hKK => ?_)
    go_simp
    refine hKK _ ?_
    clear hKK KK
    repeat (go_big_quiet_step ((intro _; rfl)))
    refine wpQuiet_nil ?_
    have HD := Lib.hid H5.out.drew
    refine ⟨?_, ?_⟩
    · go_wp2_with fail
      refine (CA.out _ HD.out.below).mono ?_
      rintro e w11 ⟨⟨s', rfl, hs'⟩, hb1⟩
      have HSa := Lib.hid hs'
      obtain ⟨g5, c5, cu5, rfl, _⟩ := hs'
      have H2a := Lib.hid (HD.out.step hb1)
      clear hb1 HD
      go_wp2_with fail
      refine ⟨H2a.out, ?_⟩
      repeat (go_big_quiet_step ((intro _; rfl)))
      refine wpQuiet_nil ?_
      go_wp2_with fail
      obtain ⟨g7, hg7⟩ : ∃ g7, g7 = w11.heap.size := ⟨_, rfl⟩
      have H3a := Lib.hid (H2a.out.new hg7 (.cells prodZ 115))
      have HSb := Lib.hid (HSa.out.step (Below.al (Below.refl _ _) (.cells prodZ 115)))
      have HNa := Lib.hid (H2a.out.size)
      rw [← hg7] at HNa
      rw [← hg7]
      refine ⟨H3a.out.tail, ?_⟩
      clear hg7 H2a HSa
      go_wp2_with (refine wpList_turn rfl 115 (.tmp 7) (.tmp 50) rfl g7 0 (.agg (prodE (.slice (some ⟨g5, 0, none⟩) 1 c5))) rfl rfl 115 prodZ (prodE (.slice (some ⟨g5, 0, none⟩) 1 c5)) (H3a.out.get 0 rfl) (by first | kernel_rfl | (rw [enc_size]; kernel_rfl)) (by first | (simp [Value.cells]; done) | (simp [Value.cells, prodE, prodZ, evE, nsE, evZ, acctE, modE]; done) | exact Nat.le_refl _) (by first | exact decE_all _ _ | (simp [Value.cells, Value.oneCell']; done) | (simp [Value.cells, Value.oneCell', prodE, prodZ, evE, nsE, evZ, acctE, modE]; done) | (rw [Array.all_eq_true']; simp [Value.cells, Value.oneCell', prodE, prodZ, evE, nsE, evZ, acctE, modE])) rfl ?_; intro W6 HT6)
      have H4a := Lib.hid (H3a.out.turn 0 rfl HT6 (.inr HNa.out) (H3a.out.apart 0 rfl rfl))
      have HSc := Lib.hid (HSb.out.keep HT6.keep (by intro k hk cur hc; simp only [List.mem_singleton] at hk; subst hk; rw [H3a.out.obj 0 rfl] at hc; cases hc))
      refine ⟨H4a.out.tail, ?_⟩
      go_wp2_with fail
      refine ⟨H4a.out.tail, ?_⟩
      exact ⟨g7, g5, c5, ⟨H4a.out, HSc.out⟩, rfl⟩
    · go_wp2_with fail
      obtain ⟨g7, hg7⟩ : ∃ g7, g7 = w5.heap.size := ⟨_, rfl⟩
      have H3a : Hid (HasO [] _ ((g7, .cells prodZ 115) :: [(W.heap.size + 1, .cells (nsE 10 1 0 0 0 0 0 0) 29), (W.heap.size, .cells (evE 2 10 1 0 0 0 0 0 0 (.slice none 0 0)) 32), (gm, .cells (modE day gc ba br bk gl seq run st) 64), (ba, .map #[] 0)]) _) := Lib.hid ((H5.out.new hg7 (.cells prodZ 115)).drew)
      have HNa := Lib.hid (H5.out.size)
      rw [← hg7] at HNa
      rw [← hg7]
      refine ⟨H3a.out.tail, ?_⟩
      clear hg7 HD
      go_wp2_with fail
      refine (CA.out _ H3a.out.below).mono ?_
      rintro e w11 ⟨⟨s', rfl, hs'⟩, hb1⟩
      have HSb := Lib.hid hs'
      obtain ⟨g5, c5, cu5, rfl, _⟩ := hs'
      have H2a := Lib.hid (H3a.out.step hb1)
      clear hb1 H3a
      go_wp2_with fail
      refine ⟨H2a.out.tail, ?_⟩
      repeat (go_big_quiet_step ((intro _; rfl)))
      refine wpQuiet_nil ?_
      go_wp2_with (refine wpList_turn rfl 115 (.tmp 7) (.tmp 50) rfl g7 0 (.agg (prodE (.slice (some ⟨g5, 0, none⟩) 1 c5))) rfl rfl 115 prodZ (prodE (.slice (some ⟨g5, 0, none⟩) 1 c5)) (H2a.out.get 0 rfl) (by first | kernel_rfl | (rw [enc_size]; kernel_rfl)) (by first | (simp [Value.cells]; done) | (simp [Value.cells, prodE, prodZ, evE, nsE, evZ, acctE, modE]; done) | exact Nat.le_refl _) (by first | exact decE_all _ _ | (simp [Value.cells, Value.oneCell']; done) | (simp [Value.cells, Value.oneCell', prodE, prodZ, evE, nsE, evZ, acctE, modE]; done) | (rw [Array.all_eq_true']; simp [Value.cells, Value.oneCell', prodE, prodZ, evE, nsE, evZ, acctE, modE])) rfl ?_; intro W6 HT6)
      have H4a := Lib.hid (H2a.out.turn 0 rfl HT6 (.inr HNa.out) (H2a.out.apart 0 rfl rfl))
      have HSc := Lib.hid (HSb.out.keep HT6.keep (by intro k hk cur hc; simp only [List.mem_singleton] at hk; subst hk; rw [H2a.out.obj 0 rfl] at hc; cases hc))
      refine ⟨H4a.out.tail, ?_⟩
      go_wp2_with fail
      refine ⟨H4a.out.tail, ?_⟩
      exact ⟨g7, g5, c5, ⟨H4a.out, HSc.out⟩, rfl⟩
  case hR =>
    intro g7 g5 c5 w6 H6
    have H6 := Lib.hid H6.1
    clear H5 CA
    go_wp2_with fail
    refine wp_region_regF (fun w' => HasO [] W ((ba, .map #[] 0) :: [(g7, .cells (prodE (.slice (some ⟨g5, 0, none⟩) 1 c5)) 115), (W.heap.size + 1, .cells (nsE 10 1 0 0 0 0 0 0) 29), (gm, .cells (modE day gc ba br bk gl seq run st) 64)]) w') (fun w' => HasO [ba] W [(g7, .cells (prodE (.slice (some ⟨g5, 0, none⟩) 1 c5)) 115), (W.heap.size + 1, .cells (nsE 10 1 0 0 0 0 0 0) 29), (gm, .cells (modE day gc ba br bk gl seq run st) 64)] w') (fun _ => (0, #[])) [0, 1, 2, 3, 4, 5, 6, 7, 8, 9, 10, 11, 12, 13, 14] [] [15, 16, 17, 18] [0, 1, 2, 3, 4, 5, 6, 7, 8, 9, 10, 11, 12, 13, 14] (by kernel_rfl) (by kernel_rfl) ?_ (fun w w' h hb => h.step hb) ?_ (fun k hk => by cases hk) ?_
    · exact fun w h => ⟨h.1.mono (by simp), h.tail.2⟩
    · exact (H6.out.of_mem (by simp)).drew
    simp only [List.map_cons, List.map_nil, opAt, List.getElem?_cons_succ, List.getElem?_cons_zero, Option.getD_some, List.contains_cons, List.contains_nil, Nat.reduceBEq, Bool.or_false, Bool.or_true, Bool.true_or, Bool.false_or]
    repeat (refine wpX_float rfl ?_; go_big_quiet_step ((intro _; rfl)); refine wpQuiet_nil ?_)
    refine wpX_float rfl ?_
    refine wpQuiet_cell 57 (.tmp 54) rfl rfl ⟨gm, 2, none⟩ rfl (.map (some ba)) _ (fun w hw => (hw.get 2 rfl).cell 2) Tryz.underlying57 rfl (fun KK hKK => ?_)
    go_simp
    refine hKK _ ?_
    clear hKK KK
    refine wpQuiet_nil ?_
    repeat (refine wpX_float rfl ?_; go_big_quiet_step ((intro _; rfl)); refine wpQuiet_nil ?_)
    refine wpX_float rfl ?_
    refine wpQuiet_cell 2 (.tmp 56) rfl rfl ⟨(W.heap.size + 1), 0, none⟩ rfl (.int .i64 10) _ (fun w hw => (hw.get 1 rfl).cell 0) Tryz.underlying2 rfl (fun KK hKK => ?_)
    go_simp
    refine hKK _ ?_
    clear hKK KK
    refine wpQuiet_nil ?_
    repeat (refine wpX_float rfl ?_; go_big_quiet_step ((intro _; rfl)); refine wpQuiet_nil ?_)
    refine wpX_float rfl ?_
    refine wpQuiet_cell 2 (.tmp 58) rfl rfl ⟨(W.heap.size + 1), 0, none⟩ rfl (.int .i64 10) _ (fun w hw => (hw.get 1 rfl).cell 0) Tryz.underlying2 rfl (fun KK hKK => ?_)
    go_simp
    refine hKK _ ?_
    clear hKK KK
    refine wpQuiet_nil ?_
    repeat (refine wpX_float rfl ?_; go_big_quiet_step ((intro _; rfl)); refine wpQuiet_nil ?_)
    refine wpX_float rfl ?_
    refine wpQuiet_cell 2 (.tmp 60) rfl rfl ⟨(W.heap.size + 1), 1, none⟩ rfl (.int .i64 1) _ (fun w hw => (hw.get 1 rfl).cell 1) Tryz.underlying2 rfl (fun KK hKK => ?_)
    go_simp
    refine hKK _ ?_
    clear hKK KK
    refine wpQuiet_nil ?_
    repeat (refine wpX_float rfl ?_; go_big_quiet_step ((intro _; rfl)); refine wpQuiet_nil ?_)
    refine wpX_float rfl ?_
    refine wpQuiet_cell 3 (.tmp 62) rfl rfl ⟨g7, 2, none⟩ rfl (.int .i64 0) _ (fun w hw => (hw.get 0 rfl).cell 2) Tryz.underlying3 rfl (fun KK hKK => ?_)
    go_simp
    refine hKK _ ?_
    clear hKK KK
    refine wpQuiet_nil ?_
    repeat (refine wpX_float rfl ?_; go_big_quiet_step ((intro _; rfl)); refine wpQuiet_nil ?_)
    refine wpX_float rfl ?_
    refine wpQuiet_cell 3 (.tmp 64) rfl rfl ⟨g7, 1, none⟩ rfl (.int .i64 1) _ (fun w hw => (hw.get 0 rfl).cell 1) Tryz.underlying3 rfl (fun KK hKK => ?_)
    go_simp
    refine hKK _ ?_
    clear hKK KK
    refine wpQuiet_nil ?_
    repeat (refine wpX_float rfl ?_; go_big_quiet_step ((intro _; rfl)); refine wpQuiet_nil ?_)
    refine wpX_nil ?_
    intro gs8 w8 H8
    intro hmade
    simp only [putAll, wpTail, opAt, List.getElem?_cons_succ, List.getElem?_cons_zero, Option.getD_some, Act.put]
    have H8 := Lib.hid H8
    clear hmade H6
    go_wp2_with fail
    obtain ⟨bh, hbh⟩ : ∃ bh, bh = w8.heap.size := ⟨_, rfl⟩
    have H9 := Lib.hid (H8.out.new hbh (.map #[] 0))
    have HZ := Lib.hid (show W.heap.size ≤ bh by rw [hbh]; exact H8.out.size)
    rw [← hbh]
    have HBH := Lib.hid hbh
    clear H8 hbh
    refine ⟨⟨H9.out.1.mono (by simp), H9.out.tail.tail.2⟩, ?_⟩
    go_wp2_with fail
    refine ⟨⟨H9.out.1.mono (by simp), H9.out.tail.tail.2⟩, ?_⟩
    go_wp2_with fail
    rw [← HBH.out]
    have H10 := Lib.hid (H9.out.new (g := bh + 1) (by rw [HBH.out]; simp) (.cells (acctE 0 0 bh) 126))
    clear H9
    refine ⟨⟨H10.out.1.mono (by simp), H10.out.tail.tail.tail.2⟩, ?_⟩
    go_wp2_with (refine wpList_update1 rfl 57 (.tmp 55) (.tmp 57) (.tmp 69) rfl ba (.int .i64 10) (.pointer (some ⟨bh + 1, 0, none⟩)) rfl rfl rfl #[] 0 (.map #[entA (bh + 1)] 1) (H10.out.obj 2 rfl) (run_update1_new (d := .int .i64) Tryz.underlying57 (by kernel_rfl) (show MapKept.IsKey (.int .i64) (.int .i64 10) from rfl) ba #[] 0 rfl _ (H10.out.obj 2 rfl)) ?_
                 intro W11 HT11)
    have H11 := Lib.hid ((HasO.up (S := [ba]) H10.out).turn 2 rfl HT11 (.inl (by simp)) (by
      intro f hf
      simp only [List.eraseIdx_cons_succ, List.eraseIdx_cons_zero, List.mem_cons, List.not_mem_nil, or_false] at hf
      have h1 := HLT.out
      have h2 := HZ.out
      rcases hf with rfl | rfl | rfl | rfl | rfl
      · show bh + 1 ≠ ba; omega
      · show bh ≠ ba; omega
      · exact ne_alike (H10.out.obj 2 rfl) (H10.out.obj 3 rfl) rfl
      · exact ne_alike (H10.out.obj 2 rfl) (H10.out.obj 4 rfl) rfl
      · exact ne_alike (H10.out.obj 2 rfl) (H10.out.obj 5 rfl) rfl))
    clear H10
    refine ⟨H11.out.tail.tail.tail, ?_⟩
    go_wp2_with fail
    go_end0
    exact ⟨rfl, H11.out.1, bh + 1, bh, by have := HZ.out; omega, HZ.out, H11.out.obj 2 rfl, H11.out.obj 0 rfl, H11.out.obj 1 rfl⟩
set_option maxHeartbeats 4000000 in
set_option maxRecDepth 100000 in
theorem happen_deposit (gm gc ba br bk gl ga bh : Nat) (day seq b a n : Int) (run : Bool) (st : Value) (hb : 0 ≤ b ∧ b ≤ 10000000000000) (hn : 0 ≤ n ∧ n ≤ 10000000000000) (W : World)
    (h : HasO [] W [(gm, .cells (modE day gc ba br bk gl seq run st) 64), (ba, .map #[entA ga] 1), (ga, .cells (acctE b a bh) 126)] W) (hl : Led gl W) :
    Calls Tryz.prog 24 #[.pointer (some ⟨gm, 0, none⟩), .agg (evE 4 10 n 0 0 0 0 0 0 (.slice none 0 0))] W fun e w' => e = unitR ∧ Keep [ga, gl] W w' ∧ Led gl w' ∧ w'.heap[ga]? = some (.cells (acctE (b + n) a bh) 126) := by
  have H1 : Hid (HasO [] W [(W.heap.size + 1, .cells (nsE 10 n 0 0 0 0 0 0) 29), (W.heap.size, .cells (evE 4 10 n 0 0 0 0 0 0 (.slice none 0 0)) 32), (gm, .cells (modE day gc ba br bk gl seq run st) 64), (ba, .map #[entA ga] 1), (ga, .cells (acctE b a bh) 126)] _) := Lib.hid ((h.new (g := W.heap.size) rfl (.cells (evE 4 10 n 0 0 0 0 0 0 (.slice none 0 0)) 32)).new (g := W.heap.size + 1) (by simp) (.cells (nsE 10 n 0 0 0 0 0 0) 29))
  have CM := Lib.hid (fun w hm hl => moves_ok gm gc ba br bk gl day seq 1 2 n run st (by omega) (by omega) (by omega) w hm hl)
  have HL := Lib.hid hl
  obtain ⟨b1, b2⟩ := hb
  obtain ⟨n1, n2⟩ := hn
  have e1 : IntKind.i64.wrap (b + n) = b + n := IntWalk.i64_in _ (by omega)
  clear h hl
  rw [evE]
  go_enter Tryz.func24, Tryz.ntmps24
  go_wp2_with fail
  refine wp_region_class (fun w' => HasO [] W _ w') [0, 1, 2, 3, 4, 5, 6, 7, 8, 9, 10, 11, 12, 13, 14, 15] (by kernel_rfl) (by kernel_rfl) (H1.out.drew) ?_
  simp only [List.map_cons, List.map_nil, opAt, List.getElem?_cons_succ, List.getElem?_cons_zero, Option.getD_some]
  repeat (go_big_quiet_step ((intro _; rfl)))
  refine wpQuiet_cell 57 (.tmp 13) rfl rfl ⟨gm, 2, none⟩ rfl (.map (some ba)) _ (fun w hw => (hw.get 2 rfl).cell 2) Tryz.underlying57 rfl (fun KK hKK => ?_)
  go_simp
  refine hKK _ ?_
  clear hKK KK
  repeat (go_big_quiet_step ((intro _; rfl)))
  refine wpQuiet_cell 2 (.tmp 15) rfl rfl ⟨(W.heap.size + 1), 0, none⟩ rfl (.int .i64 10) _ (fun w hw => (hw.get 0 rfl).cell 0) Tryz.underlying2 rfl (fun KK hKK => ?_)
  go_simp
  refine hKK _ ?_
  clear hKK KK
  refine wpQuiet_lookup rfl 57 (.tmp 14) (.tmp 16) false rfl ba (.int .i64 10) (.pointer (some ⟨ga, 0, none⟩)) rfl rfl (fun w hw => look10 ga ba w (hw.obj 3 rfl)) (fun KK hKK => ?_)
  go_simp
  refine hKK _ ?_
  clear hKK KK
  repeat (go_big_quiet_step ((intro _; rfl)))
  refine wpQuiet_cell 57 (.tmp 20) rfl rfl ⟨gm, 2, none⟩ rfl (.map (some ba)) _ (fun w hw => (hw.get 2 rfl).cell 2) Tryz.underlying57 rfl (fun KK hKK => ?_)
  go_simp
  refine hKK _ ?_
  clear hKK KK
  repeat (go_big_quiet_step ((intro _; rfl)))
  refine wpQuiet_cell 2 (.tmp 22) rfl rfl ⟨(W.heap.size + 1), 1, none⟩ rfl (.int .i64 n) _ (fun w hw => (hw.get 0 rfl).cell 1) Tryz.underlying2 rfl (fun KK hKK => ?_)
  go_simp
  refine hKK _ ?_
  clear hKK KK
  refine wpQuiet_lookup rfl 57 (.tmp 21) (.tmp 23) false rfl ba (.int .i64 n) (lookA n ga) rfl rfl (fun w hw => lookN ga ba _ w (hw.obj 3 rfl)) (fun KK hKK => ?_)
  go_simp
  refine hKK _ ?_
  clear hKK KK
  repeat (go_big_quiet_step ((intro _; rfl)))
  refine wpQuiet_nil ?_
  intro w5 H5
  have H5 := Lib.hid H5
  clear H1
  go_wp2_with (refine wpListG_cell rfl 5 (.tmp 25) rfl W.heap.size 0 rfl 32 (evE 4 10 n 0 0 0 0 0 0 (.slice none 0 0)) (.int .u8 4) rfl _ (H5.out.get 1 rfl) Tryz.underlying5 rfl ?_)
  refine wp_region_regF (fun w' => HasO [] W [(W.heap.size + 1, .cells (nsE 10 n 0 0 0 0 0 0) 29), (W.heap.size, .cells (evE 4 10 n 0 0 0 0 0 0 (.slice none 0 0)) 32), (gm, .cells (modE day gc ba br bk gl seq run st) 64), (ba, .map #[entA ga] 1), (ga, .cells (acctE b a bh) 126)] w') (fun w' => HasO [ga, gl] W [] w') (fun _ => (0, #[])) [0, 1, 2, 3, 4, 5, 6, 7, 8, 9, 10] [] [11] [] (by kernel_rfl) (by kernel_rfl) ?_ (fun w w' h hb => h.step hb) ?_ (fun k hk => by cases hk) ?_
  · exact fun w h => HasO.nil (h.1.mono (by simp))
  · exact H5.out.drew
  simp only [List.map_cons, List.map_nil, opAt, List.getElem?_cons_succ, List.getElem?_cons_zero, Option.getD_some, List.contains_cons, List.contains_nil, Nat.reduceBEq, Bool.or_false, Bool.or_true, Bool.true_or, Bool.false_or]
  repeat (refine wpX_pure rfl ?_; go_big_quiet_step ((intro _; rfl)); refine wpQuiet_nil ?_)
  refine wpX_pure rfl ?_
  refine wpQuiet_cell 2 (.tmp 85) rfl rfl ⟨ga, 5, none⟩ rfl (.int .i64 b) _ (fun w hw => (hw.get 4 rfl).cell 5) Tryz.underlying2 rfl (fun KK hKK => ?_)
  go_simp
  refine hKK _ ?_
  clear hKK KK
  refine wpQuiet_nil ?_
  repeat (refine wpX_pure rfl ?_; go_big_quiet_step ((intro _; rfl)); refine wpQuiet_nil ?_)
  refine wpX_pure rfl ?_
  refine wpQuiet_cell 2 (.tmp 87) rfl rfl ⟨(W.heap.size + 1), 1, none⟩ rfl (.int .i64 n) _ (fun w hw => (hw.get 0 rfl).cell 1) Tryz.underlying2 rfl (fun KK hKK => ?_)
  go_simp
  refine hKK _ ?_
  clear hKK KK
  refine wpQuiet_nil ?_
  repeat (refine wpX_pure rfl ?_; go_big_quiet_step ((intro _; rfl)); refine wpQuiet_nil ?_)
  refine wpX_nil ?_
  intro gs6 w6 H6
  intro hmade
  simp only [putAll, wpTail, opAt, List.getElem?_cons_succ, List.getElem?_cons_zero, Option.getD_some, Act.put]
  have HL6 := Lib.hid (HL.out.step H6.below)
  have H6 := Lib.hid (HasO.up (S := [ga, gl]) H6)
  have HNE := Lib.hid (led_ne HL6.out (H6.out.obj 4 rfl) rfl)
  have HAP := Lib.hid (H6.out.apart 4 rfl rfl)
  clear hmade H5 HL
  go_wp2_with (refine wpList_turn rfl 2 (.tmp 92) (.tmp 89) rfl ga 5 (.int .i64 (b + n)) rfl rfl 126 (acctE b a bh) (acctE (b + n) a bh) (H6.out.get 4 rfl) (by first | kernel_rfl | (rw [enc_size]; kernel_rfl)) (by first | (simp [Value.cells]; done) | (simp [Value.cells, prodE, prodZ, evE, nsE, evZ, acctE, modE]; done) | exact Nat.le_refl _) (by first | exact decE_all _ _ | (simp [Value.cells, Value.oneCell']; done) | (simp [Value.cells, Value.oneCell', prodE, prodZ, evE, nsE, evZ, acctE, modE]; done) | (rw [Array.all_eq_true']; simp [Value.cells, Value.oneCell', prodE, prodZ, evE, nsE, evZ, acctE, modE])) rfl ?_; intro W7 HT7)
  have H7 : Hid (HasO [ga, gl] W [(W.heap.size + 1, .cells (nsE 10 n 0 0 0 0 0 0) 29), (W.heap.size, .cells (evE 4 10 n 0 0 0 0 0 0 (.slice none 0 0)) 32), (gm, .cells (modE day gc ba br bk gl seq run st) 64), (ba, .map #[entA ga] 1), (ga, .cells (acctE (b + n) a bh) 126)] W7) := Lib.hid (H6.out.turn 4 rfl HT7 (.inl (by simp)) HAP.out)
  have HL7 := Lib.hid (led_turn HL6.out HT7 (H6.out.obj 4 rfl) rfl HNE.out)
  clear H6 HL6 HAP
  refine ⟨H7.out.of_mem (by simp), ?_⟩
  go_wp2_with fail
  refine wp_region_regF (fun w' => HasO [] W7 [(W.heap.size + 1, .cells (nsE 10 n 0 0 0 0 0 0) 29), (W.heap.size, .cells (evE 4 10 n 0 0 0 0 0 0 (.slice none 0 0)) 32), (gm, .cells (modE day gc ba br bk gl seq run st) 64), (ba, .map #[entA ga] 1), (ga, .cells (acctE (b + n) a bh) 126)] w') (fun w' => HasO [ga, gl] W [] w') (fun _ => (0, #[])) [0, 1, 2, 3, 4, 5, 6, 7] [] [8] [0, 1, 2, 3] (by kernel_rfl) (by kernel_rfl) ?_ (fun w w' h hb => h.step hb) ?_ (fun k hk => by cases hk) ?_
  · exact fun w h => HasO.nil (H7.out.1.step h.below)
  · exact (HasO.re H7.out).drew
  simp only [List.map_cons, List.map_nil, opAt, List.getElem?_cons_succ, List.getElem?_cons_zero, Option.getD_some, List.contains_cons, List.contains_nil, Nat.reduceBEq, Bool.or_false, Bool.or_true, Bool.true_or, Bool.false_or]
  repeat (refine wpX_float rfl ?_; go_big_quiet_step ((intro _; rfl)); refine wpQuiet_nil ?_)
  repeat (refine wpX_pure rfl ?_; go_big_quiet_step ((intro _; rfl)); refine wpQuiet_nil ?_)
  refine wpX_pure rfl ?_
  refine wpQuiet_cell 3 (.tmp 97) rfl rfl ⟨ga, 2, none⟩ rfl (.int .i64 0) _ (fun w hw => (hw.get 4 rfl).cell 2) Tryz.underlying3 rfl (fun KK hKK => ?_)
  go_simp
  refine hKK _ ?_
  clear hKK KK
  refine wpQuiet_nil ?_
  repeat (refine wpX_pure rfl ?_; go_big_quiet_step ((intro _; rfl)); refine wpQuiet_nil ?_)
  refine wpX_pure rfl ?_
  refine wpQuiet_cell 2 (.tmp 99) rfl rfl ⟨(W.heap.size + 1), 1, none⟩ rfl (.int .i64 n) _ (fun w hw => (hw.get 0 rfl).cell 1) Tryz.underlying2 rfl (fun KK hKK => ?_)
  go_simp
  refine hKK _ ?_
  clear hKK KK
  refine wpQuiet_nil ?_
  refine wpX_nil ?_
  intro gs8 w8 H8
  intro hmade
  simp only [putAll, wpTail, opAt, List.getElem?_cons_succ, List.getElem?_cons_zero, Option.getD_some, Act.put]
  have HL8 := Lib.hid (HL7.out.step H8.below)
  have HK8 := Lib.hid (H7.out.1.step H8.below)
  have H8 := Lib.hid H8
  clear hmade H7 HL7
  go_wp2_with fail
  refine (CM.out _ (H8.out.obj 2 rfl) HL8.out).mono ?_
  rintro e w9 ⟨rfl, hk9, hl9⟩
  have hg9 := (hk9.block ga (obj_lt (H8.out.obj 4 rfl)) (by simpa using HNE.out)).trans (H8.out.obj 4 rfl)
  have HK9 := Lib.hid (HK8.out.trans hk9 (by simp))
  have HG9 := Lib.hid hg9
  have HL9 := Lib.hid hl9
  clear hk9 hl9 hg9 H8 HK8 HL8
  unfold unitR
  go_wp2_with fail
  refine ⟨HasO.nil HK9.out, ?_⟩
  go_wp2_with fail
  go_end0
  exact ⟨rfl, HK9.out, HL9.out, HG9.out⟩
end Go.Proofs.YtlfomhdphbchpaaGreatDoor.Mo
