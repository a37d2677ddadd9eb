/- Lemmas of a claim, several texts in one: PrC, InL, Rng, PrD -/
import Derived.Test.YtlfomhdphbchpaaGreatDoorG15
import Derived.Test.YtlfomhdphbchpaaGreatDoorG14
import Derived.RangeFuncNested
import Derived.RangeFuncBound
import Derived.RangeFuncCalls
import Derived.RangeFuncLeaves
import Derived.Shelf.Abstract
import Derived.Shelf.RegionOpen
import Derived.WalkKit
import Derived.OwnWalkIn
import Derived.TacticsInMore
import Derived.LoopNIn
import Derived.LoopIn
import Derived.BigFrameIn
/-! prod: clash, Add -/
namespace Go.Proofs.YtlfomhdphbchpaaGreatDoor.Pr
open Go.RowKit Go.Deep Go.Proofs.YtlfomhdphbchpaaGreatDoor.Wide Go.Proofs.YtlfomhdphbchpaaGreatDoor.Dec Go.Proofs.YtlfomhdphbchpaaGreatDoor.Mp
set_option linter.unusedVariables false
set_option linter.unusedSimpArgs false
theorem keyP : Key2 Tryz.prog 172 := by
  have hu := Tryz.underlying172
  have hv : Tryz.prog.underlying 3 = some (.int .i64) := by kernel_rfl
  have hv' : Tryz.prog.underlying 2 = some (.int .i64) := by kernel_rfl
  have hc1 : Tryz.prog.cellsOf 172 = 2 := by kernel_rfl
  have hc2 : Tryz.prog.cellsOf 3 = 1 := by kernel_rfl
  have hc3 : Tryz.prog.cellsOf 2 = 1 := by kernel_rfl
  refine ⟨by kernel_rfl, by kernel_rfl, fun u v => by simp [Value.formed, key2, hu, hc1], fun x y hx hy => ?_⟩
  have w1 := Ch.i64_wf hx
  have w2 := Ch.i64_wf hy
  simp [Program.keyLits, hu, hv, hv', hc1, hc2, hc3, w1, w2]
/-- a catalogue without versions -/
def cat0 (gc ba : Nat) : List (Nat × Obj) := [(gc, .cells #[.slice none 0 0, .map (some ba)] 105), (ba, .map #[] 0)]
set_option maxHeartbeats 4000000 in
set_option maxRecDepth 100000 in
theorem clash0_ok (s : Value) (gc ba : Nat) (W : World) (h : HasO [] W (cat0 gc ba) W) : Calls Tryz.prog 86 #[.pointer (some ⟨gc, 0, none⟩), .agg (prodE s)] W fun e w' => e = .returned (.int .i64 0) ∧ Below W.heap.size W w' := by
  have hlk : Hid (∀ w : World, w.heap[ba]? = some (.map #[] 0) → (Instr.lookup 102 (.map (some ba)) (key2 1 1) true).run Tryz.prog w = .ok (.tuple #[.int .i64 0, .bool false]) w) := Lib.hid (fun w hw =>
    run_lookup2 (P := Tryz.prog) (z := .int .i64 0) keyP Tryz.underlying102 (fun w => by first | exact Tryz.zeroValue3 w | exact Tryz.zeroValue3 _) (x := 1) (y := 1) (by unfold InR; omega) (by unfold InR; omega) w ba [] 0 (fun e he => by cases he) hw)
  have H1 : Hid (HasO [] W ((W.heap.size, .cells (prodE s) 115) :: cat0 gc ba) (W.alloc (.cells (prodE s) 115))) := Lib.hid (h.new rfl _)
  unfold cat0 at H1
  clear h
  unfold prodE
  go_enter Tryz.func86, Tryz.ntmps86
  go_wp2_with fail
  refine wp_region_class (fun w' => HasO [] W [(W.heap.size, .cells (prodE s) 115), (gc, .cells #[.slice none 0 0, .map (some ba)] 105), (ba, .map #[] 0)] w') [0, 1, 2, 3, 4, 5, 6, 7, 8, 9, 10, 11, 12, 13, 14] (by kernel_rfl) (by kernel_rfl) H1.out.drew ?_
  simp only [List.map_cons, List.map_nil, opAt, List.getElem?_cons_succ, List.getElem?_cons_zero, Option.getD_some]
  repeat (go_big_quiet_step ((intro _; rfl)))
  refine wpQuiet_cell 102 (.tmp 13) rfl rfl ⟨gc, 1, none⟩ rfl (.map (some ba)) _ (fun w hw => (hw.get 1 rfl).cell 1) Tryz.underlying102 rfl (fun KK hKK => ?_)
  go_simp
  refine hKK _ ?_
  clear hKK KK
  repeat (go_big_quiet_step ((intro _; rfl)))
  refine wpQuiet_cell 2 (.tmp 15) rfl rfl ⟨W.heap.size, 0, none⟩ rfl (.int .i64 1) _ (fun w hw => (hw.get 0 rfl).cell 0) Tryz.underlying2 rfl (fun KK hKK => ?_)
  go_simp
  refine hKK _ ?_
  clear hKK KK
  repeat (go_big_quiet_step ((intro _; rfl)))
  refine wpQuiet_cell 3 (.tmp 17) rfl rfl ⟨W.heap.size, 3, none⟩ rfl (.int .i64 1) _ (fun w hw => (hw.get 0 rfl).cell 3) Tryz.underlying3 rfl (fun KK hKK => ?_)
  go_simp
  refine hKK _ ?_
  clear hKK KK
  repeat (go_big_quiet_step ((intro _; rfl)))
  refine wpQuiet_val (.tuple #[.int .i64 0, .bool false]) rfl (fun w hw => by have h := hlk.out w (hw.obj 2 rfl); unfold key2 at h; unfold execOp; go_simp) (fun KK hKK => ?_)
  go_simp
  refine hKK _ ?_
  clear hKK KK
  repeat (go_big_quiet_step ((intro _; rfl)))
  refine wpQuiet_nil ?_
  intro w5 H5
  have H5 := Lib.hid H5
  clear H1
  go_wp2_with (refine wpListG_cell rfl 103 (.tmp 26) rfl gc 0 rfl 105 #[.slice none 0 0, .map (some ba)] (.slice none 0 0) rfl _ (H5.out.get 1 rfl) Tryz.underlying103 rfl ?_)
  go_loopw [7, 29] (fun x i wr => x = .int .i64 0 ∧ i = .int .i64 0 ∧ Hid (HasO [] W [(W.heap.size, .cells (prodE s) 115), (gc, .cells #[.slice none 0 0, .map (some ba)] 105), (ba, .map #[] 0)] wr)) (fun _ _ _ => 0)
  case atStart => exact ⟨rfl, rfl, H5⟩
  case round =>
    clear H5
    obtain ⟨rfl, rfl, H5⟩ := hrel
    go_wp2_with (refine wpListG_cell rfl 103 (.tmp 64) rfl gc 0 rfl 105 #[.slice none 0 0, .map (some ba)] (.slice none 0 0) rfl _ (H5.out.get 1 rfl) Tryz.underlying103 rfl ?_)
    exact bodyPost_ret (results_one rfl _ _ rfl) rfl ⟨rfl, H5.out.below⟩
theorem TS.cat {s : Value} {gc ba : Nat} {W w : World} (hs : TS W s) (h : HasO [] W (cat0 gc ba) W) (hk : Keep [gc, ba] W w) : TS w s := hs.keep hk (by
  intro k hk cur hc
  simp only [List.mem_cons, List.not_mem_nil, or_false] at hk
  rcases hk with rfl | rfl
  · rw [h.obj 0 rfl] at hc; cases hc
  · rw [h.obj 1 rfl] at hc; cases hc)
/-- a catalogue with the story's product -/
def Cat1 (gc : Nat) (w : World) : Prop := ∃ (gL cap : Nat) (cur : Array Value) (s m : Value), w.heap[gc]? = some (.cells #[.slice (some ⟨gL, 0, none⟩) 1 cap, m] 105) ∧ w.heap[gL]? = some (.cells cur 115) ∧ (∀ (j : Nat) (v : Value), (prodE s).toList[j]? = some v → cur[0 + j]? = some v) ∧ TS w s
set_option maxHeartbeats 4000000 in
set_option maxRecDepth 100000 in
theorem add1_ok (s : Value) (gc ba : Nat) (W : World) (h : HasO [] W (cat0 gc ba) W) (hs : TS W s) : Calls Tryz.prog 52 #[.pointer (some ⟨gc, 0, none⟩), .agg (prodE s)] W fun e w' => e = .returned (.int .i64 0) ∧ Keep [gc, ba] W w' ∧ Cat1 gc w' := by
  have HS := Lib.hid (fun w (hk : Keep [gc, ba] W w) => hs.cat h hk)
  have H1 : Hid (HasO [] W ((W.heap.size, .cells (prodE s) 115) :: cat0 gc ba) (W.alloc (.cells (prodE s) 115))) := Lib.hid (h.new rfl _)
  have HB := Lib.hid (And.intro (obj_lt (h.obj 0 rfl)) (obj_lt (h.obj 1 rfl)))
  have CK := Lib.hid (fun w (hb : Below W.heap.size W w) => pcheck_ok s w (hs.step hb))
  have CL := Lib.hid (fun w (hb : HasO [] W (cat0 gc ba) w) => clash0_ok s gc ba w ⟨Keep.refl _ _, hb.2⟩)
  clear h hs
  have CC := Lib.hid (fun w (h : TS w s) => copied_ok s w h)
  unfold cat0 at H1 CL
  unfold prodE at CK CL CC ⊢
  go_enter Tryz.func52, Tryz.ntmps52
  go_wp2_with fail
  refine (CK.out _ (Below.al (Below.refl _ _) _)).mono ?_
  rintro e w1 ⟨rfl, hb1⟩
  have H2 := Lib.hid (H1.out.step hb1)
  clear hb1 H1
  go_wp2_with (refine wpListG_row rfl 115 (.tmp 3) rfl W.heap.size rfl 115 #[.int .i64 1, .int .i64 1, .int .i64 0, .int .i64 1, .int .i64 1, .int .i64 0, .int .i64 0, .int .i64 500, s] _ (H2.out.get 0 rfl) Tryz.underlying115 rfl (by first | kernel_rfl | (rw [enc_size]; kernel_rfl)) ?_)
  refine (CL.out _ H2.out.tail).mono ?_
  rintro e w2 ⟨rfl, hb2⟩
  have H3 := Lib.hid (H2.out.step hb2)
  clear hb2 H2
  obtain ⟨g0, hg0⟩ : ∃ g0, g0 = W.heap.size := ⟨_, rfl⟩
  rw [← hg0] at H3
  have H4 : Hid (HasO [gc, ba] W [(g0, .cells (prodE s) 115), (gc, .cells #[.slice none 0 0, .map (some ba)] 105), (ba, .map #[] 0)] w2) := Lib.hid ⟨H3.out.1.mono (by simp), H3.out.2⟩
  have HG0 := Lib.hid hg0
  go_wp2_with fail
  rw [← hg0]
  clear H3 hg0
  refine wp_region_classZ (fun w' => HasO [gc, ba] W [(g0, .cells (prodE s) 115), (gc, .cells #[.slice none 0 0, .map (some ba)] 105), (ba, .map #[] 0)] w') [0, 1, 2, 3, 4, 5, 6, 7, 8, 9, 10, 11, 12, 13] 14 (by kernel_rfl) (by kernel_rfl) H4.out.drew ?_
  simp only [List.map_cons, List.map_nil, opAt, List.getElem?_cons_succ, List.getElem?_cons_zero, Option.getD_some]
  repeat (go_big_quiet_step ((intro _; rfl)))
  refine wpQuiet_cell 102 (.tmp 22) rfl rfl ⟨gc, 1, none⟩ rfl (.map (some ba)) _ (fun w hw => (hw.get 1 rfl).cell 1) Tryz.underlying102 rfl (fun KK hKK => ?_)
  go_simp
  refine hKK _ ?_
  clear hKK KK
  repeat (go_big_quiet_step ((intro _; rfl)))
  refine wpQuiet_cell 2 (.tmp 24) rfl rfl ⟨g0, 0, none⟩ rfl (.int .i64 1) _ (fun w hw => (hw.get 0 rfl).cell 0) Tryz.underlying2 rfl (fun KK hKK => ?_)
  go_simp
  refine hKK _ ?_
  clear hKK KK
  repeat (go_big_quiet_step ((intro _; rfl)))
  refine wpQuiet_cell 3 (.tmp 26) rfl rfl ⟨g0, 3, none⟩ rfl (.int .i64 1) _ (fun w hw => (hw.get 0 rfl).cell 3) Tryz.underlying3 rfl (fun KK hKK => ?_)
  go_simp
  refine hKK _ ?_
  clear hKK KK
  repeat (go_big_quiet_step ((intro _; rfl)))
  refine wpQuiet_cell 103 (.tmp 31) rfl rfl ⟨gc, 0, none⟩ rfl (.slice none 0 0) _ (fun w hw => (hw.get 1 rfl).cell 0) Tryz.underlying103 rfl (fun KK hKK => ?_)
  go_simp
  refine hKK _ ?_
  clear hKK KK
  repeat (go_big_quiet_step ((intro _; rfl)))
  refine wpQuiet_nil ?_
  intro w5 H5
  have H5 := Lib.hid H5
  clear H4
  refine wpList_update2 rfl 102 (.tmp 23) (.tmp 28) (.tmp 33) rfl keyP Tryz.underlying102 (show InR 1 by unfold InR; omega) (show InR 1 by unfold InR; omega) ba [] 0 rfl rfl (fun e he => by cases he) (H5.out.obj 2 rfl) ?_
  intro W7 HM7 hfar7 hbel7 hsz7
  have H7 := Lib.hid (H5.out.turn 2 rfl (Turn.of_map HM7 hfar7 hbel7 hsz7) (.inl (by simp)) (H5.out.apart 2 rfl rfl))
  clear HM7 hfar7 hbel7 hsz7 H5
  go_wp2_with fail
  rw [onlyNormal_normal]
  go_wp2_with fail
  refine wp_region_regL (fun w' => HasO [gc, ba] W [(g0, .cells (prodE s) 115), (gc, .cells #[.slice none 0 0, .map (some ba)] 105)] w') (fun w' => HasO [gc, ba] W [(gc, .cells #[.slice none 0 0, .map (some ba)] 105)] w') (fun _ => (0, #[])) [0, 1, 2, 3, 4, 5] [] [6, 7, 8, 9, 10, 11] [0, 1, 2, 3, 4] (by kernel_rfl) (by kernel_rfl) ?_ (fun w w' h hb => h.step hb) ?_ (fun k hk => by cases hk) ?_
  · exact fun w h => h.of_mem (by simp)
  · exact (H7.out.of_mem (by simp)).drew
  simp only [List.map_cons, List.map_nil, opAt, List.getElem?_cons_succ, List.getElem?_cons_zero, Option.getD_some, List.contains_cons, List.contains_nil, Nat.reduceBEq, Bool.or_false, Bool.or_true, Bool.true_or, Bool.false_or]
  repeat (refine wpX_float rfl ?_; go_big_quiet_step ((intro _; rfl)); refine wpQuiet_nil ?_)
  refine wpX_float rfl ?_
  refine wpQuiet_cell 103 (.tmp 37) rfl rfl ⟨gc, 0, none⟩ rfl (.slice none 0 0) _ (fun w hw => (hw.get 0 rfl).cell 0) Tryz.underlying103 rfl (fun KK hKK => ?_)
  go_simp
  refine hKK _ ?_
  clear hKK KK
  refine wpQuiet_nil ?_
  refine wpX_pure rfl ?_
  refine wpQuiet_row 115 (.tmp 3) rfl rfl g0 rfl 115 (prodE s) _ (fun w hw => hw.get 0 rfl) Tryz.underlying115 rfl (by first | kernel_rfl | (rw [enc_size]; kernel_rfl)) (fun KK hKK => ?_)
  go_simp
  refine hKK _ ?_
  clear hKK KK
  refine wpQuiet_nil ?_
  repeat (refine wpX_pure rfl ?_; go_big_quiet_step ((intro _; rfl)); refine wpQuiet_nil ?_)
  refine wpX_nil ?_
  intro gs w8 H8
  intro hmade
  simp only [putAll, wpTailL, opAt, List.getElem?_cons_succ, List.getElem?_cons_zero, Option.getD_some, Act.put]
  have H8 := Lib.hid H8
  clear hmade H7
  go_wp2_with fail
  refine (CC.out _ (HS.out _ H8.out.1)).mono ?_
  rintro e w9 ⟨⟨s', rfl, hs'⟩, hb9⟩
  have H9 := Lib.hid (H8.out.step hb9)
  have HS9 := Lib.hid hs'
  obtain ⟨g1, c1, cu1, rfl, _⟩ := hs'
  clear hb9 H8
  go_wp2_with fail
  refine ⟨fun _ => H9.out.of_mem (by simp), ?_⟩
  go_wp2_with fail
  obtain ⟨g2, hg2⟩ : ∃ g2, g2 = w9.heap.size := ⟨_, rfl⟩
  have H10 : Hid (HasO [gc, ba] W _ (w9.alloc (.cells (prodE (.slice (some ⟨g1, 0, none⟩) 1 c1)) 115))) := Lib.hid (H9.out.new hg2 _)
  obtain ⟨W10, hW10⟩ : ∃ W10, W10 = w9.alloc (.cells (prodE (.slice (some ⟨g1, 0, none⟩) 1 c1)) 115) := ⟨_, rfl⟩
  have HS10 : Hid (TS W10 (.slice (some ⟨g1, 0, none⟩) 1 c1)) := Lib.hid (by rw [hW10]; exact HS9.out.step (Below.al (Below.refl _ _) _))
  unfold prodE at hW10
  rw [← hg2, ← hW10]
  unfold prodE at H10
  rw [← hW10] at H10
  clear hg2 hW10 HS9 H9
  refine ⟨fun _ => H10.out.of_mem (by simp), ?_⟩
  obtain ⟨i, hi, h2, h3, h4⟩ : ∃ i, Tryz.prog.info? 115 = some i ∧ i.zero = some (.agg prodZ) ∧ i.size = 9 ∧ i.bytes = 88 := ⟨_, rfl, by kernel_rfl, by kernel_rfl, by kernel_rfl⟩
  go_wp2_with (at_builtin
               refine wpList_append_own _ rfl (.tmp 38) (.tmp 41) 103 rfl W10.heap.size 115 i (.agg prodZ) 9 88 Tryz.underlying103 hi h2 h3 h4 rfl (by omega) (.slice none 0 0) 0 [] rfl (World.ownsRow_nil W10 _ _ _) ⟨g2, 0, none⟩ 1 1 (prodE (.slice (some ⟨g1, 0, none⟩) 1 c1)).toList rfl rfl (fun j u hj => by rw [Addr.add_lit, (H10.out.get 0 rfl).cell]; simpa [prodE] using hj) (by intro u hu; simp only [prodE, List.mem_cons, List.not_mem_nil, or_false] at hu; rcases hu with rfl | rfl | rfl | rfl | rfl | rfl | rfl | rfl | rfl <;> rfl) (by simp only [maxLen]; omega) (by omega) (Nat.le_refl _) ?_
               intro v1 w1 hown1 hg1 hat1)
  obtain ⟨_, hn | ⟨g3, cap, cu, rfl, hb, hh, hc1, hc2, hc3, hc4⟩⟩ := hown1
  · exact absurd hn.2 (by simp)
  have hb11 : Below W10.heap.size W10 w1 := Below.of_grown hg1 (by simp [Value.ownBlock])
  have H11 : Hid (HasO [gc, ba] W ((g3, .cells cu 115) :: _) w1) := Lib.hid (HasO.cons hh (H10.out.step hb11))
  have HS11 := Lib.hid (HS10.out.step hb11)
  have HCU := Lib.hid hc4
  have HGE := Lib.hid (Nat.le_trans H10.out.size hb)
  clear hb hh hc1 hc2 hc3 hc4 hb11 hg1 hat1 HS10 H10
  go_wp2_with fail
  refine ⟨H11.out.of_mem (by simp), ?_⟩
  go_wp2_with fail
  refine ⟨H11.out.of_mem (by simp), ?_⟩
  go_wp2_with fail
  refine ⟨H11.out.of_mem (by simp), ?_⟩
  go_wp2_with (refine wpList_turn rfl 103 (.tmp 44) (.tmp 42) rfl gc 0 (.slice (some ⟨g3, 0, none⟩) 1 cap) rfl rfl 105 #[.slice none 0 0, .map (some ba)] #[.slice (some ⟨g3, 0, none⟩) 1 cap, .map (some ba)] (H11.out.get 3 rfl) (by first | kernel_rfl | (rw [enc_size]; kernel_rfl)) (by first | (simp [Value.cells]; done) | (simp [Value.cells, prodE, prodZ]; done) | exact Nat.le_refl _) (by first | exact decE_all _ _ | (simp [Value.cells, Value.oneCell']; done) | (simp [Value.cells, Value.oneCell', prodE, prodZ]; done) | (rw [Array.all_eq_true']; simp [Value.cells, Value.oneCell', prodE, prodZ])) rfl ?_; intro W12 HT12)
  rw [onlyNormal_normal]
  go_wp2_with fail
  have hgc : g3 ≠ gc := by have := HGE.out; have := HB.out.1; omega
  refine bodyPost_ret (results_one rfl _ _ rfl) rfl ⟨rfl, H11.out.1.trans HT12.keep (by simp), g3, cap, cu, .slice (some ⟨g1, 0, none⟩) 1 c1, .map (some ba), HT12.at_, (HT12.far _ hgc).trans (H11.out.get 0 rfl), ?_, HS11.out.keep HT12.keep ?_⟩
  · intro j v hj
    have hj9 : j < 9 := (List.getElem?_eq_some_iff.1 hj).1
    have h1 : (cu.toList.take 9)[j]? = some v := by
      have := HCU.out
      simp only [Nat.zero_add, Nat.one_mul, List.nil_append] at this
      rw [this]; exact hj
    rw [List.getElem?_take, if_pos hj9] at h1
    simpa using h1
  · intro k hk cur hc
    simp only [List.mem_singleton] at hk
    subst hk
    have := H11.out.obj 3 rfl
    rw [this] at hc; cases hc
end Go.Proofs.YtlfomhdphbchpaaGreatDoor.Pr

/-! loads and stores in a round of a range over a function -/
namespace Go.Proofs.YtlfomhdphbchpaaGreatDoor
open Go.RowKit Go.Deep Go.Shelf
set_option linter.unusedVariables false
set_option linter.unusedSimpArgs false
section
variable {F : Fence} {n : Nat} {P : Program} {ops : Array Oper} {rest : List Oper} {o : Oper} {a : Act} {w : World} {Q : Exit → Act → World → Prop}
theorem wpListIn_run (hw : Region.wanted o (yielded ops a.tmps) = true) (hd : ∀ c, o.op ≠ .defer c) (hc : ∀ c, o.op ≠ .call c) (v : Value) (w' : World)
    (hr : (execOp a.eval o).run P w = .ok (.value v) w') (h : wpListIn F n P ops Q rest (a.put o.dst v) w') : wpListIn F n P ops Q (o :: rest) a w := by
  refine wpListIn_step fun K hK => ?_
  rw [if_pos hw]
  unfold Oper.wpIn
  refine ⟨fun f hf => ?_, ?_⟩
  · unfold Oper.about at hf
    cases ho : o.op <;> simp only [ho] at hf <;> first | (cases hf; done) | exact absurd ho (hc _)
  · rw [Oper.semAt_eq _ _ _ hd, hr]
    exact hK _ _ h
theorem wpListIn_runS (hw : Region.wanted o (yielded ops a.tmps) = true) (hd : ∀ c, o.op ≠ .defer c) (hc : ∀ c, o.op ≠ .call c) (w' : World)
    (hr : (execOp a.eval o).run P w = .ok .skip w') (h : wpListIn F n P ops Q rest (a.put o.dst undef) w') : wpListIn F n P ops Q (o :: rest) a w := by
  refine wpListIn_step fun K hK => ?_
  rw [if_pos hw]
  unfold Oper.wpIn
  refine ⟨fun f hf => ?_, ?_⟩
  · unfold Oper.about at hf
    cases ho : o.op <;> simp only [ho] at hf <;> first | (cases hf; done) | exact absurd ho (hc _)
  · rw [Oper.semAt_eq _ _ _ hd, hr]
    exact hK _ _ h
theorem wpListIn_row (hw : Region.wanted o (yielded ops a.tmps) = true) (ty : TypeId) (x : Operand) (ho : o.op = .load ty x)
    (g : Nat) (hx : a.eval x = .pointer (some ⟨g, 0, none⟩)) (t : TypeId) (cs : Array Value) (d : TypeDesc) (hg : Blk w g t cs)
    (hu : P.underlying ty = some d) (hd : (match d with | .struct _ | .array _ _ => true | _ => false) = true) (hi : (P.info? ty).map (·.size) = some cs.size)
    (h : wpListIn F n P ops Q rest (a.put o.dst (.agg cs)) w) : wpListIn F n P ops Q (o :: rest) a w :=
  wpListIn_run hw (by rw [ho]; intro c e; cases e) (by rw [ho]; intro c e; cases e) (.agg cs) w (by
    unfold execOp
    simp only [ho, hx, Instr.loadAt, Instr.sureAddr, Sem.run_bind, Sem.run_pure, Result.andThen_ok, run_loadVar_row w g t ty cs (0, 0) d hg hu hd hi]) h
theorem wpListIn_part (hw : Region.wanted o (yielded ops a.tmps) = true) (ty : TypeId) (x : Operand) (ho : o.op = .load ty x)
    (g off : Nat) (hx : a.eval x = .pointer (some ⟨g, off, none⟩)) (t : TypeId) (cs part : Array Value) (d : TypeDesc) (hg : Blk w g t cs) (hp : ∀ j v, part.toList[j]? = some v → cs[off + j]? = some v)
    (hu : P.underlying ty = some d) (hd : (match d with | .struct _ | .array _ _ => true | _ => false) = true) (hi : (P.info? ty).map (·.size) = some part.size)
    (h : wpListIn F n P ops Q rest (a.put o.dst (.agg part)) w) : wpListIn F n P ops Q (o :: rest) a w :=
  wpListIn_run hw (by rw [ho]; intro c e; cases e) (by rw [ho]; intro c e; cases e) (.agg part) w (by
    unfold execOp
    simp only [ho, hx, Instr.loadAt, Instr.sureAddr, Sem.run_bind, Sem.run_pure, Result.andThen_ok, run_loadVar_part w g off t ty cs part d hg hp hu hd hi]) h
theorem wpListIn_cell (hw : Region.wanted o (yielded ops a.tmps) = true) (ty : TypeId) (x : Operand) (ho : o.op = .load ty x)
    (g off : Nat) (hx : a.eval x = .pointer (some ⟨g, off, none⟩)) (t : TypeId) (cs : Array Value) (v : Value) (hv : cs[off]? = some v) (d : TypeDesc) (hg : Blk w g t cs)
    (hu : P.underlying ty = some d) (hd : (match d with | .struct _ | .array _ _ => false | _ => true) = true)
    (h : wpListIn F n P ops Q rest (a.put o.dst v) w) : wpListIn F n P ops Q (o :: rest) a w :=
  wpListIn_run hw (by rw [ho]; intro c e; cases e) (by rw [ho]; intro c e; cases e) v w (by
    have hagg : (isAgg ty).run P w = .ok false w := by
      unfold isAgg
      rw [Sem.run_bind, run_underlying hu w]
      cases d <;> simp_all
    have hc : w.cell? ⟨g, off, none⟩ = some v := by rw [hg.cell, hv]
    have hl : (loadVar ty ⟨g, off, none⟩).run P w = .ok v w := by simp [loadVar, Sem.run_bind, hagg, hc, go_sem]
    unfold execOp
    simp only [ho, hx, Instr.loadAt, Instr.sureAddr, Sem.run_bind, Sem.run_pure, Result.andThen_ok, hl]) h
theorem wpListIn_turn (hw : Region.wanted o (yielded ops a.tmps) = true) (ty : TypeId) (x y : Operand) (ho : o.op = .store ty x y)
    (g off : Nat) (v : Value) (hx : a.eval x = .pointer (some ⟨g, off, none⟩)) (hy : a.eval y = v) (t : TypeId) (old new : Array Value) (hg : Blk w g t old) (hi : (P.info? ty).map (·.size) = some v.cells.size)
    (hfit : off + v.cells.size ≤ old.size) (h1 : v.cells.all (·.oneCell') = true) (hnew : splice old off v.cells = new)
    (h : ∀ W2, Turn w g (.cells new t) W2 → wpListIn F n P ops Q rest (a.put o.dst undef) W2) : wpListIn F n P ops Q (o :: rest) a w := by
  have hst := run_storeCells_at P g off t v.cells.toList 0 old w hg (by simpa using hfit) (fun v' hv => by rw [Array.all_eq_true'] at h1; exact h1 v' (by simpa using hv))
  have hsv : (storeVar ty ⟨g, off, none⟩ v).run P w = .ok () (w.setRow g new) := by
    cases hq : P.info? ty with
    | none => simp [hq] at hi
    | some i =>
      have hs : i.size = v.cells.size := by simpa [hq] using hi
      rw [← hnew]
      simp [storeVar, Sem.run_bind, sizeOf, typeInfo, hq, hs, hst, splice]
  exact wpListIn_runS hw (by rw [ho]; intro c e; cases e) (by rw [ho]; intro c e; cases e) (w.setRow g new) (by
    unfold execOp
    simp only [ho, hx, hy, Instr.storeAt, Instr.sureAddr, Sem.run_bind, Sem.run_pure, Result.andThen_ok, hsv]) (h _ (turn_setRow hg))
end
end Go.Proofs.YtlfomhdphbchpaaGreatDoor

/-! what a range over a function asks of the blocks that a caller holds -/
namespace Go.Proofs.YtlfomhdphbchpaaGreatDoor
open Go.RowKit Go.Deep Go.Shelf
set_option linter.unusedVariables false
theorem HasO.ownFrom {S : List Nat} {W0 W W' : World} {fs : List (Nat × Obj)} {B : Nat} {row : Option Nat} (h : HasO S W0 fs W) (hW : W0.heap.size ≤ B) (hc : ∀ f ∈ fs, f.1 < B ∨ f.2.isCells = true) (hg : W.grownBy W' row) (hr : ∀ (r : Nat), row = some r → B ≤ r ∧ ∃ o, W.heap[r]? = some o ∧ o.isCells = false) : HasO S W0 fs W' := by
  refine ⟨⟨hg.os.trans h.1.os, hg.tape.trans h.1.tape, hg.output.trans h.1.output, Nat.le_trans h.1.size hg.size, fun k hk hS => ?_⟩, fun f hf => ?_⟩
  · exact (hg.block k (Nat.lt_of_lt_of_le hk h.1.size) (fun e => by have := (hr k e.symm).1; omega)).trans (h.1.block k hk hS)
  · refine (hg.block f.1 (obj_lt (h.2 f hf)) (fun e => ?_)).trans (h.2 f hf)
    obtain ⟨h1, o, ho, hc'⟩ := hr f.1 e.symm
    rcases hc f hf with h2 | h2
    · omega
    · rw [h.2 f hf] at ho; cases ho; rw [h2] at hc'; cases hc'
theorem ownFrom_hasO {β : Type} {S : List Nat} {W0 : World} {fs : List (Nat × Obj)} {B : Nat} (hW : W0.heap.size ≤ B) (hc : ∀ f ∈ fs, f.1 < B ∨ f.2.isCells = true) : OwnFrom B (fun (_ : β) W => HasO S W0 fs W) :=
  fun _ _ _ _ h hg hr => h.ownFrom hW hc hg hr
theorem keepsFrom_refl (B : Nat) (W : World) : KeepsFrom B W W := ⟨Nat.le_refl _, fun _ _ _ h _ => h⟩
theorem keepsFrom_tr {B : Nat} {a b c : World} (h : KeepsFrom B a b) (k : KeepsFrom B b c) : KeepsFrom B a c := ⟨Nat.le_trans h.size k.size, fun i o hi ho hc => k.same i o hi (h.same i o hi ho hc) hc⟩
theorem keepsFrom_below {B : Nat} {W W' : World} (h : Below W.heap.size W W') : KeepsFrom B W W' := ⟨h.size, fun k o _ ho _ => (h.block k (obj_lt ho)).trans ho⟩
theorem keepsFrom_turn {B : Nat} {W W' : World} {g : Nat} {o old : Obj} (h : Turn W g o W') (ho : W.heap[g]? = some old) (hc : old.isCells = true) : KeepsFrom B W W' := ⟨by rw [h.size]; exact Nat.le_refl _, fun k o' _ hk hn => by
  refine (h.far k (fun e => ?_)).trans hk
  subst e; rw [ho] at hk; cases hk; rw [hc] at hn; cases hn⟩
theorem Keep.putObj {S : List Nat} {W0 W : World} (h : Keep S W0 W) {D : Nat} (o : Obj) (hD : W0.heap.size ≤ D) : Keep S W0 (W.putObj D o) := by
  have hg := grownBy_putObj' W D o
  exact ⟨hg.os.trans h.os, hg.tape.trans h.tape, hg.output.trans h.output, Nat.le_trans h.size hg.size, fun k hk hS => (hg.block k (Nat.lt_of_lt_of_le hk h.size) (fun e => by cases e; omega)).trans (h.block k hk hS)⟩
end Go.Proofs.YtlfomhdphbchpaaGreatDoor

/-! prod: slices.Backward, At -/
namespace Go.Proofs.YtlfomhdphbchpaaGreatDoor.Pr
open Go.RowKit Go.Deep Go.Shelf Go.Proofs.YtlfomhdphbchpaaGreatDoor.Wide Go.Proofs.YtlfomhdphbchpaaGreatDoor.Dec Go.Proofs.YtlfomhdphbchpaaGreatDoor.Mp
set_option linter.unusedVariables false
set_option linter.unusedSimpArgs false
attribute [local go_sem] Oper.semAt_some
set_option maxHeartbeats 4000000 in
theorem backward_ok (g cap : Nat) (W : World) : Calls Tryz.prog 79 #[.slice (some ⟨g, 0, none⟩) 1 cap] W fun e w' =>
    e = .returned (.func (.func 123) #[] #[.pointer (some ⟨W.heap.size, 0, none⟩)]) ∧ w' = W.alloc (.cells #[.slice (some ⟨g, 0, none⟩) 1 cap] 103) := by
  go_enter Tryz.func79, Tryz.ntmps79
  go_wp2_with fail
  exact bodyPost_ret (results_one rfl _ _ rfl) rfl ⟨rfl, rfl⟩
theorem results_row_cell {P : Program} {fn : Func} {p u : Tmp} {ty ty' : TypeId} (h : fn.results = #[.cell p ty, .cell u ty']) (tmps : Array Value) (w : World) (g g' : Nat) (t t' : TypeId) (cs cs' : Array Value) (v : Value) (d d' : TypeDesc)
    (hp : tmps.getD p undef = .pointer (some ⟨g, 0, none⟩)) (hg : Blk w g t cs) (hu : P.underlying ty = some d) (hd : (match d with | .struct _ | .array _ _ => true | _ => false) = true) (hi : (P.info? ty).map (·.size) = some cs.size)
    (hp' : tmps.getD u undef = .pointer (some ⟨g', 0, none⟩)) (hg' : Blk w g' t' cs') (hv : cs'[0]? = some v) (hu' : P.underlying ty' = some d') (hd' : (match d' with | .struct _ | .array _ _ => false | _ => true) = true) :
    (results fn tmps).run P w = .ok (.tuple #[.agg cs, v]) w := by
  have hq : tmps[p]?.getD undef = .pointer (some ⟨g, 0, none⟩) := by simpa using hp
  have hq' : tmps[u]?.getD undef = .pointer (some ⟨g', 0, none⟩) := by simpa using hp'
  have hagg : (isAgg ty').run P w = .ok false w := by
    unfold isAgg
    rw [Sem.run_bind, run_underlying hu' w]
    cases d' <;> simp_all
  have hc : w.cell? ⟨g', 0, none⟩ = some v := by rw [hg'.cell, hv]
  have hl : (loadVar ty' ⟨g', 0, none⟩).run P w = .ok v w := by simp [loadVar, Sem.run_bind, hagg, hc, go_sem]
  simp [results, h, hq, hq', asAddr, run_loadVar_row w g t ty cs (0, 0) d hg hu hd hi, hl, Result.andThen]
def encB (s : Value) : Unit → Array Value := fun _ => #[.int .i64 0, .agg (prodE s)]
set_option maxHeartbeats 4000000 in
set_option maxRecDepth 100000 in
theorem backward1_stops (n : Nat) (Bs n₀ gL cap : Nat) (cur : Array Value) (s : Value) (w : World) (hb1 : Bs < n₀) (hb2 : gL < n₀) (hn : n₀ ≤ w.heap.size)
    (hB : w.heap[Bs]? = some (.cells #[.slice (some ⟨gL, 0, none⟩) 1 cap] 103)) (hL : w.heap[gL]? = some (.cells cur 115)) (hp : ∀ (j : Nat) (v : Value), (prodE s).toList[j]? = some v → cur[0 + j]? = some v) :
    SeqStopsK Fence.wide n Tryz.prog 123 #[.pointer (some ⟨Bs, 0, none⟩)] (encB s) (Below n₀) (fun xs => xs = [()]) (fun pre => pre = [()]) 1 w := by
  intro l J Jx W hW hJ hJx hY h0
  have HB := Lib.hid (show W.heap[Bs]? = _ from (hW.block Bs (by omega)).trans hB)
  have HL := Lib.hid (show W.heap[gL]? = _ from (hW.block gL (by omega)).trans hL)
  have HP := Lib.hid hp
  have HN := Lib.hid (And.intro hb1 hb2)
  have HY := Lib.hid hY
  clear hp hb1 hb2 hn hB hL hW hJ hJx hY
  refine callsIn_of_wp Tryz.func123 rfl trivial ?_ rfl
  simp only [Tryz.ntmps123, List.size_toArray, List.length_cons, List.length_nil, Nat.reduceAdd, Nat.reduceSub, Array.replicate_succ, Array.replicate_zero, List.push_toArray, List.append_toArray, List.nil_append, List.cons_append]
  gi_wp2_with (refine wpListIn_cell rfl 103 (.tmp 1) rfl Bs 0 rfl 103 _ _ rfl _ HB.out Tryz.underlying103 rfl ?_)
  gi_loopw [3] (fun i wr => (i = .int .i64 0 ∧ J [] wr ∧ Below n₀ W wr) ∨ (i = .int .i64 (-1) ∧ J [()] wr)) (fun i _ => (intOf i + 1).toNat)
  case atStart => exact .inl ⟨rfl, h0, Below.refl _ _⟩
  case round =>
    clear h0
    rcases hrel with ⟨rfl, hJs, hk⟩ | ⟨rfl, hJs⟩
    · obtain ⟨fn, tmps, assign, body, hy, hR⟩ := HY.out [] () wr hJs (by simp)
      dsimp only [encB] at hy
      have HB2 := Lib.hid (show wr.heap[Bs]? = _ from (hk.block Bs HN.out.1).trans HB.out)
      have HL2 := Lib.hid (show wr.heap[gL]? = _ from (hk.block gL HN.out.2).trans HL.out)
      clear hk HY
      gi_wp2_with (first
        | refine wpListIn_cell rfl 103 (.tmp 1) rfl Bs 0 rfl 103 _ _ rfl _ HB2.out Tryz.underlying103 rfl ?_
        | refine wpListIn_part rfl 115 (.tmp 15) rfl gL 0 rfl 115 cur (prodE s) _ HL2.out HP.out Tryz.underlying115 rfl (by kernel_rfl) ?_)
      refine ⟨fun h => (by cases h), hR.mono ?_⟩
      rintro e W3 (⟨rfl, hJ3, hk3⟩ | ⟨rfl, hJx3⟩)
      · gi_wp2
        go_roundw
        case rel => exact .inr ⟨rfl, hJ3⟩
        case measure => simp [intOf]
      · gi_wp2
        refine bodyPost_ret (results_none rfl _ _ _) rfl ?_
        exact ⟨⟨_, rfl⟩, .inr ⟨[()], rfl, hJx3⟩⟩
    · gi_wp2
      go_end0
      exact ⟨⟨_, rfl⟩, .inl ⟨_, rfl, hJs⟩⟩
set_option maxHeartbeats 4000000 in
set_option maxRecDepth 100000 in
theorem at1_ok (gc : Nat) (day : Int) (hd : 1 ≤ day ∧ day ≤ 3652059) (W : World) (h : Cat1 gc W) : Calls Tryz.prog 43 #[.pointer (some ⟨gc, 0, none⟩), .int .i64 1, .int .i64 day] W fun e w' => (∃ s', e = .returned (.tuple #[.agg (prodE s'), .int .i64 0]) ∧ TS w' s') ∧ Below W.heap.size W w' := by
  obtain ⟨gL, cap, cur, s, m, hg, hL, hp, hs⟩ := h
  have HG := Lib.hid hg
  have HL := Lib.hid hL
  have HP := Lib.hid hp
  have HS := Lib.hid hs
  obtain ⟨gt, ct, cut, rfl, _⟩ := hs
  have HD := Lib.hid hd
  obtain ⟨hd1, hd2⟩ := hd
  clear hg hL hp
  refine callsIn_wide.1 (callsIn_of_wp_marks (n := 8) Tryz.func43 rfl trivial ?_ rfl)
  simp only [Tryz.ntmps43, List.size_toArray, List.length_cons, List.length_nil, Nat.reduceAdd, Nat.reduceSub, Array.replicate_succ, Array.replicate_zero, List.push_toArray, List.append_toArray, List.nil_append, List.cons_append]
  refine wpIn_wide.2 ?_
  have HW4 : Hid (HasO [] W [(W.heap.size + 3, .cells #[.int .i64 0] 25), (W.heap.size + 2, .cells prodZ 115), (W.heap.size + 1, .cells #[.int .i64 day] 3), (W.heap.size, .cells #[.int .i64 1] 2), (gc, _), (gL, _)] ((((W.alloc (Obj.cells #[Value.int IntKind.i64 1] 2)).alloc (Obj.cells #[Value.int IntKind.i64 day] 3)).alloc (Obj.cells prodZ 115)).alloc (Obj.cells #[Value.int IntKind.i64 0] 25))) :=
    Lib.hid (((((HasO.cons HG.out (HasO.cons HL.out (HasO.start [] W))).new rfl _).new (by simp) _).new (by simp) _).new (by simp) _)
  have HGB := Lib.hid (HW4.out.get 4 rfl)
  go_wp2_with (refine wpListG_cell rfl 103 (.tmp 22) rfl gc 0 rfl 105 _ _ rfl _ HGB.out Tryz.underlying103 rfl ?_)
  clear HGB
  refine (backward_ok gL cap _).mono ?_
  rintro e W5 ⟨rfl, hW5⟩
  have H5 : Hid (HasO [] W ((W.heap.size + 4, .cells #[.slice (some ⟨gL, 0, none⟩) 1 cap] 103) :: _) W5) := Lib.hid (by rw [hW5]; exact HW4.out.new (by simp) _)
  have hz5 : W5.heap.size = W.heap.size + 5 := by rw [hW5]; simp
  have hz4 : ((((W.alloc (Obj.cells #[Value.int IntKind.i64 1] 2)).alloc (Obj.cells #[Value.int IntKind.i64 day] 3)).alloc (Obj.cells prodZ 115)).alloc (Obj.cells #[Value.int IntKind.i64 0] 25)).heap.size = W.heap.size + 4 := by simp
  unfold prodZ at hz4
  rw [hz4]
  have HZ := Lib.hid hz5
  clear hW5 hz4 hz5 HW4
  go_wp2_with fail
  refine (wpIn_wide (n := 8)).1 ?_
  have hgcW := Lib.hid (obj_lt HG.out)
  have hgLW := Lib.hid (obj_lt HL.out)
  refine wpIn_rangeFunc_ownH (α := Unit) rfl (by omega) (gf := 123) (lb := #[.pointer (some ⟨W.heap.size + 4, 0, none⟩)]) rfl trivial (enters_of Tryz.func123 (by kernel_rfl) rfl)
    (backward1_stops _ (W.heap.size + 4) W5.heap.size gL cap cur (.slice (some ⟨gt, 0, none⟩) 1 ct) W5 (by rw [HZ.out]; omega) (by rw [HZ.out]; have := hgLW.out; omega) (Nat.le_refl _) (H5.out.obj 0 rfl) (H5.out.obj 6 rfl) HP.out) belowK_t (belowK_b (Nat.le_refl _)) (Below.refl _ _) (fun _ => rfl)
    (fun pre W' => (pre = [] ∧ W.heap.size + 5 ≤ W'.heap.size) ∧ HasO [] W [(W.heap.size + 3, .cells #[.int .i64 0] 25), (W.heap.size + 2, .cells prodZ 115), (W.heap.size + 1, .cells #[.int .i64 day] 3), (W.heap.size, .cells #[.int .i64 1] 2)] W')
    (fun c pre W' => c = .ret ∧ ∃ s', HasO [] W [(W.heap.size + 2, .cells (prodE s') 115), (W.heap.size + 3, .cells #[.int .i64 0] 25)] W' ∧ TS W' s')
    (fun pre X X' row h hg hr => ⟨⟨h.1.1, Nat.le_trans h.1.2 hg.size⟩, h.2.ownFrom (by rw [HZ.out]; omega) (by simp [Obj.isCells]) hg hr⟩)
    (fun c pre X X' row h hg hr => by
      obtain ⟨h1, s', h2, g, c', cu, hs', hgT, h4⟩ := h
      refine ⟨h1, s', h2.ownFrom (by rw [HZ.out]; omega) (by simp [Obj.isCells]) hg hr, g, c', cu, hs', ?_, h4⟩
      refine (hg.block g (obj_lt hgT) (fun e => ?_)).trans hgT
      obtain ⟨_, o, ho, hc⟩ := hr g e.symm
      rw [hgT] at ho; cases ho; cases hc)
    ⟨⟨rfl, by rw [HZ.out]; exact Nat.le_refl _⟩, H5.out.of_mem (by simp)⟩
    (fun x a' W' => ∃ g9, W'.heap[g9]? = some (.cells (prodE (.slice (some ⟨gt, 0, none⟩) 1 ct)) 115) ∧ W.heap.size + 5 ≤ g9 ∧ a' = { tmps := #[.pointer (some ⟨gc, 0, none⟩), .int .i64 1, .int .i64 day, undef, .pointer (some ⟨W.heap.size, 0, none⟩), .pointer (some ⟨W.heap.size + 1, 0, none⟩), .pointer (some ⟨W.heap.size + 1 + 1, 0, none⟩), .pointer (some ⟨W.heap.size + 1 + 1 + 1, 0, none⟩), undef, .pointer (some ⟨g9, 0, none⟩), .int .i64 day, .bool (decide (day < 1)), .bool (decide (day < 1)), .int .i64 day, .bool (decide (3652059 < day)), .bool (decide (day < 1) || decide (3652059 < day)), undef, .pointer (some ⟨gc, 0, none⟩), .bool false, undef, .pointer (some ⟨gc, 0, none⟩), .pointer (some ⟨gc, 0, none⟩), .pointer (some ⟨gc, 0, none⟩), .slice (some ⟨gL, 0, none⟩) 1 cap, .func (.func 123) #[] #[.pointer (some ⟨W.heap.size + 4, 0, none⟩)], .int .i64 0, .agg (prodE (.slice (some ⟨gt, 0, none⟩) 1 ct)), undef, undef, undef, undef, undef, undef, undef, undef, undef, undef, undef, undef, undef], defers := [] })
    (fun x a' pre X X' row h hg hr => by
      obtain ⟨g9, h1, h2⟩ := h
      refine ⟨g9, ?_, h2⟩
      refine (hg.block g9 (obj_lt h1) (fun e => ?_)).trans h1
      obtain ⟨_, o, ho, hc⟩ := hr g9 e.symm
      rw [h1] at ho; cases ho; cases hc) ?assign ?body ?done ?stop
  case assign =>
    rintro l pre x X K ⟨⟨hpre, hz⟩, hi⟩ hK
    unfold prodE at hK
    dsimp only [encB, prodE]
    gi_wp2
    exact hK _ _ (keepsFrom_below (Below.al (Below.refl _ _) _)) ((Below.refl _ X).alloc (by rw [HZ.out]; exact hz) _) ⟨⟨hpre, by simp; omega⟩, hi.alloc _⟩ ⟨X.heap.size, heap_alloc_new X _, hz, rfl⟩
  case body =>
    rintro l pre x a' X hl ⟨r, hr⟩ ⟨⟨rfl, hz⟩, hi⟩ ⟨g9, h9, hg9, rfl⟩ hlt
    have HI := Lib.hid (HasO.cons h9 hi)
    have HX := Lib.hid (HS.out)
    gi_wp2_with (first
      | (refine wpListIn_cell rfl 2 (.tmp 27) rfl g9 0 rfl 115 _ (.int .i64 1) rfl _ (HI.out.get 0 rfl) Tryz.underlying2 rfl ?_)
      | (refine wpListIn_cell rfl 2 (.tmp 4) rfl W.heap.size 0 rfl 2 _ (.int .i64 1) rfl _ (HI.out.get 4 rfl) Tryz.underlying2 rfl ?_)
      | (refine wpListIn_cell rfl 3 (.tmp 32) rfl g9 3 rfl 115 _ (.int .i64 1) rfl _ (HI.out.get 0 rfl) Tryz.underlying3 rfl ?_)
      | (refine wpListIn_cell rfl 3 (.tmp 5) rfl (W.heap.size + 1) 0 rfl 3 _ (.int .i64 day) rfl _ (HI.out.get 3 rfl) Tryz.underlying3 rfl ?_)
      | (refine wpListIn_row rfl 115 (.tmp 9) rfl g9 rfl 115 _ _ (HI.out.get 0 rfl) Tryz.underlying115 rfl (by kernel_rfl) ?_))
    refine ⟨trivial, (CallsIn.inRound l (callsIn_wide.2 (copied_ok _ _ (HS.out.step HI.out.tail.below)))).mono ?_⟩
    rintro e X2 ⟨⟨s', rfl, hs'⟩, hb2⟩
    have HS2 := Lib.hid hs'
    obtain ⟨g5, c5, cu5, rfl, _⟩ := hs'
    have H2 := Lib.hid (HI.out.tail.step hb2)
    have HK2 : Hid (KeepsFrom W5.heap.size X X2) := Lib.hid (keepsFrom_below hb2)
    clear hb2 HI
    gi_wp2_with (first
      | (refine wpListIn_turn rfl 115 (.tmp 6) (.tmp 38) rfl (W.heap.size + 2) 0 (.agg (prodE (.slice (some ⟨g5, 0, none⟩) 1 c5))) rfl rfl 115 prodZ (prodE (.slice (some ⟨g5, 0, none⟩) 1 c5)) (H2.out.get 1 rfl) (by kernel_rfl) (Nat.le_refl _) (by simp [Value.cells, Value.oneCell', prodE]) rfl ?_
         intro W6 HT6)
      | (refine wpListIn_turn rfl 25 (.tmp 7) (.const (.int .i64 0)) rfl (W.heap.size + 3) 0 (.int .i64 0) rfl rfl 25 #[.int .i64 0] #[.int .i64 0] ((HT6.far _ (by omega)).trans (H2.out.get 0 rfl)) (by kernel_rfl) (Nat.le_refl _) (by simp [Value.cells, Value.oneCell']) rfl ?_
         intro W7 HT7))
    have K7 : KeepsFrom W5.heap.size X W7 := keepsFrom_tr HK2.out (keepsFrom_tr (keepsFrom_turn HT6 (H2.out.get 1 rfl) rfl) (keepsFrom_turn HT7 ((HT6.far _ (by omega)).trans (H2.out.get 0 rfl)) rfl))
    have k7 : Keep [W.heap.size + 2, W.heap.size + 3] X2 W7 := (HT6.keep.mono (T := [W.heap.size + 2, W.heap.size + 3]) (by simp)).trans HT7.keep (by simp)
    refine ⟨K7, rfl, .slice (some ⟨g5, 0, none⟩) 1 c5, HasO.cons ((HT7.far _ (by omega)).trans HT6.at_) (HasO.cons HT7.at_ (HasO.nil (H2.out.1.trans k7 (by simp)))), HS2.out.keep k7 ?_⟩
    intro k hk cur hc
    simp only [List.mem_cons, List.not_mem_nil, or_false] at hk
    rcases hk with rfl | rfl
    · rw [H2.out.obj 1 rfl] at hc; cases hc
    · rw [H2.out.obj 0 rfl] at hc; cases hc
  case done =>
    rintro D xs X hD rfl ⟨⟨h1, _⟩, _⟩
    cases h1
  case stop =>
    rintro D c pre X hD hpre ⟨rfl, s', hi, hs'⟩ hK
    gi_wp2
    refine ⟨by simp, .inl ⟨_, _, rfl, run_takeDeferred hK, ?_⟩⟩
    have hDW : W.heap.size ≤ D := by have := HZ.out; omega
    have hX : ∀ (k : Nat) (o : Obj), X.heap[k]? = some o → o.isCells = true → (X.putObj D (.deferred none)).heap[k]? = some o := fun k o hk hc => by
      refine ((grownBy_putObj' X D (.deferred none)).block k (obj_lt hk) (fun e => ?_)).trans hk
      cases e; rw [hK] at hk; cases hk; cases hc
    obtain ⟨g5, c5, cu5, hse, hg5, h5⟩ := hs'
    exact ⟨_, results_row_cell rfl _ _ (W.heap.size + 2) (W.heap.size + 3) 115 25 (prodE s') #[.int .i64 0] (.int .i64 0) _ _ rfl (hX _ _ (hi.obj 0 rfl) rfl) Tryz.underlying115 rfl (by kernel_rfl) rfl (hX _ _ (hi.obj 1 rfl) rfl) rfl Tryz.underlying25 rfl,
      ⟨s', rfl, g5, c5, cu5, hse, hX _ _ hg5 rfl, h5⟩, (hi.1.putObj _ hDW).below⟩
end Go.Proofs.YtlfomhdphbchpaaGreatDoor.Pr
