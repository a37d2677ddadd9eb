/- Lemmas of a claim, several texts in one: MoA, Map1, MoB, MixC, MoC -/
import Derived.Test.YtlfomhdphbchpaaGreatDoorG16
import Derived.Test.YtlfomhdphbchpaaGreatDoorG14
import Derived.MapKept
import Derived.Test.YtlfomhdphbchpaaGreatDoorG02
/-! model: adds, small, version, New; the story -/
namespace Go.Proofs.YtlfomhdphbchpaaGreatDoor.Mo
open Go.RowKit Go.Deep Go.Proofs.YtlfomhdphbchpaaGreatDoor.Wide Go.Proofs.YtlfomhdphbchpaaGreatDoor.Dec Go.Proofs.YtlfomhdphbchpaaGreatDoor.Mp Go.Proofs.YtlfomhdphbchpaaGreatDoor.Pr Go.Proofs.YtlfomhdphbchpaaGreatDoor.Ch
set_option linter.unusedVariables false
set_option linter.unusedSimpArgs false
set_option maxHeartbeats 4000000 in
theorem list0_ok (gc ba : Nat) (W : World) (h : HasO [] W (cat0 gc ba) W) : Calls Tryz.prog 78 #[.pointer (some ⟨gc, 0, none⟩)] W fun e w' => e = .returned (.slice none 0 0) ∧ w' = W := by
  have HG := Lib.hid (h.get 0 rfl)
  clear h
  go_enter Tryz.func78, Tryz.ntmps78
  go_wp2_with (refine wpListG_cell rfl 103 (.tmp 10) rfl gc 0 rfl 105 #[.slice none 0 0, .map (some ba)] (.slice none 0 0) rfl _ HG.out Tryz.underlying103 rfl ?_)
  go_loopw [3, 13] (fun x i wr => x = .slice none 0 0 ∧ i = .int .i64 0 ∧ wr = W) (fun _ _ _ => 0)
  case atStart => exact ⟨rfl, rfl, rfl⟩
  case round =>
    obtain ⟨rfl, rfl, hwr⟩ := hrel
    obtain rfl := hwr
    go_wp2_with fail
    exact bodyPost_ret (results_one rfl _ _ rfl) rfl ⟨rfl, rfl⟩
set_option maxHeartbeats 4000000 in
theorem small_ok (n : Int) (hn : 0 ≤ n ∧ n ≤ 1000) (W : World) : Calls Tryz.prog 49 #[.int .i64 n] W fun e w' => e = .returned (.int .i64 n) ∧ Below W.heap.size W w' := by
  obtain ⟨h1, h2⟩ := hn
  go_enter Tryz.func49, Tryz.ntmps49
  go_wp2_with fail
  refine bodyPost_ret (results_one rfl _ _ rfl) rfl ⟨?_, Below.refl _ _⟩
  have : max (min n 2147483648) (-2147483648) = n := by omega
  rw [this]; rfl
set_option maxHeartbeats 4000000 in
theorem chartNew_ok (W : World) : Calls Tryz.prog 19 #[] W fun e w' => e = .returned (.pointer (some ⟨W.heap.size + 1, 0, none⟩)) ∧ w' = (W.alloc (.map #[] 0)).alloc (.cells #[.map (some W.heap.size), .int .i64 0] 108) := by
  have hmm : (Instr.makeMap 106 none).run Tryz.prog W = .ok (.map (some W.heap.size)) (W.alloc (.map #[] 0)) := run_makeMap _ W
  go_enter Tryz.func19, Tryz.ntmps19
  go_wp2_with fail
  exact bodyPost_ret (results_one rfl _ _ rfl) rfl ⟨rfl, rfl⟩
def modE (day : Int) (gc ba br bk gl : Nat) (seq : Int) (run : Bool) (st : Value) : Array Value := #[.int .i64 day, .pointer (some ⟨gc, 0, none⟩), .map (some ba), .map (some br), .map (some bk), .pointer (some ⟨gl, 0, none⟩), .int .i64 seq, .bool run, st]
set_option maxHeartbeats 4000000 in
theorem modelNew_ok (day : Int) (hd : 1 ≤ day ∧ day ≤ 3652059) (W : World) : Calls Tryz.prog 6 #[.int .i64 day] W fun e w' => e = .returned (.tuple #[.pointer (some ⟨W.heap.size + 7, 0, none⟩), .int .i64 0]) ∧
    w' = (((((((W.alloc (.map #[] 0)).alloc (.cells #[.slice none 0 0, .map (some W.heap.size)] 105)).alloc (.map #[] 0)).alloc (.map #[] 0)).alloc (.map #[] 0)).alloc (.map #[] 0)).alloc (.cells #[.map (some (W.heap.size + 5)), .int .i64 0] 108)).alloc
      (.cells (modE day (W.heap.size + 1) (W.heap.size + 2) (W.heap.size + 3) (W.heap.size + 4) (W.heap.size + 6) 0 false (.slice none 0 0)) 64) := by
  obtain ⟨h1, h2⟩ := hd
  have hmm := fun w : World => (run_makeMap (P := Tryz.prog) 57 w)
  have hmm2 := fun w : World => (run_makeMap (P := Tryz.prog) 58 w)
  have hmm3 := fun w : World => (run_makeMap (P := Tryz.prog) 59 w)
  go_enter Tryz.func6, Tryz.ntmps6
  go_wp2_with fail
  refine (prodNew_ok _).mono ?_
  rintro e w1 ⟨rfl, hw⟩
  obtain rfl := hw
  go_wp2_with fail
  refine (chartNew_ok _).mono ?_
  rintro e w2 ⟨rfl, hw⟩
  obtain rfl := hw
  go_wp2_with fail
  refine bodyPost_ret (results_two rfl _ _ rfl rfl) rfl ⟨?_, ?_⟩
  · simp
  · simp [modE]
set_option maxHeartbeats 4000000 in
set_option maxRecDepth 100000 in
theorem adds0_ok (s : Value) (gm gc ba : Nat) (cm : Array Value) (W : World) (h : HasO [] W ((gm, .cells cm 64) :: cat0 gc ba) W) (hm : cm[1]? = some (.pointer (some ⟨gc, 0, none⟩))) (hs : TS W s) :
    Calls Tryz.prog 40 #[.pointer (some ⟨gm, 0, none⟩), .agg (prodE s)] W fun e w' => e = .returned (.int .i64 0) ∧ Below W.heap.size W w' := by
  have CL := Lib.hid (fun w (hb : HasO [] W (cat0 gc ba) w) => list0_ok gc ba w ⟨Keep.refl _ _, hb.2⟩)
  have CA := Lib.hid (fun w (g b : Nat) (hb : HasO [] w (cat0 g b) w) (hs : TS w s) => add1_ok s g b w hb hs)
  have H := Lib.hid h
  have HS := Lib.hid hs
  have HM := Lib.hid hm
  clear h hs hm
  unfold prodE at CA ⊢
  unfold cat0 at H CL CA
  go_enter Tryz.func40, Tryz.ntmps40
  go_wp2_with fail
  refine (prodNew_ok _).mono ?_
  rintro e w1 ⟨rfl, hw⟩
  have H1 : Hid (HasO [] W ((W.heap.size + 1 + 1, .cells #[.slice none 0 0, .map (some (W.heap.size + 1))] 105) :: (W.heap.size + 1, .map #[] 0) :: (W.heap.size, .cells (prodE s) 115) :: _) w1) := Lib.hid (by
    rw [hw]; simp only [World.size_alloc]; exact ((H.out.new (g := W.heap.size) rfl _).new (g := W.heap.size + 1) (by simp) _).new (g := W.heap.size + 1 + 1) (by simp) _)
  have hsz : Hid (w1.heap.size = W.heap.size + 3) := Lib.hid (by rw [hw]; simp)
  clear hw H
  simp only [World.size_alloc]
  go_wp2_with (refine wpListG_cell rfl 55 (.tmp 11) rfl gm 1 rfl 64 cm _ HM.out _ (H1.out.get 3 rfl) Tryz.underlying55 rfl ?_)
  refine (CL.out _ (H1.out.of_mem (by simp))).mono ?_
  rintro e w2 ⟨rfl, hw⟩
  obtain rfl := hw
  clear CL
  go_wp2_with fail
  go_loopw [15] (fun i wr => i = .int .i64 0 ∧ wr = w2) (fun _ _ => 0)
  case atStart => exact ⟨rfl, rfl⟩
  case round =>
    obtain ⟨rfl, hwr⟩ := hrel
    obtain rfl := hwr
    go_wp2_with (refine wpListG_row rfl 115 (.tmp 3) rfl W.heap.size rfl 115 (prodE s) _ (H1.out.get 2 rfl) Tryz.underlying115 rfl (by kernel_rfl) ?_)
    refine (CA.out _ (W.heap.size + 1 + 1) (W.heap.size + 1) ⟨Keep.refl _ _, fun f hf => ?_⟩ (HS.out.step H1.out.below)).mono ?_
    · simp only [List.mem_cons, List.not_mem_nil, or_false] at hf
      rcases hf with rfl | rfl
      · exact H1.out.obj 0 rfl
      · exact H1.out.obj 1 rfl
    rintro e w3 ⟨rfl, hk3, _⟩
    have hb := H1.out.1.trans hk3 (by simp; omega)
    go_wp2_with fail
    exact bodyPost_ret (results_one rfl _ _ rfl) rfl ⟨rfl, hb.below⟩
def evE (op n0 n1 n2 n3 n4 n5 n6 n7 : Int) (s : Value) : Array Value := #[.int .u8 op, .int .u64 0, .int .i64 n0, .int .i64 n1, .int .i64 n2, .int .i64 n3, .int .i64 n4, .int .i64 n5, .int .i64 n6, .int .i64 n7, s]
set_option maxHeartbeats 4000000 in
set_option maxRecDepth 100000 in
theorem version_ok (g c : Nat) (W : World) : Calls Tryz.prog 41 #[.agg (evE 1 1 1 0 1 1 0 0 500 (.slice (some ⟨g, 0, none⟩) 1 c))] W fun e w' => e = .returned (.agg (prodE (.slice (some ⟨g, 0, none⟩) 1 c))) ∧ Below W.heap.size W w' := by
  have H1 : Hid (HasO [] W [(W.heap.size + 1, .cells prodZ 115), (W.heap.size, .cells (evE 1 1 1 0 1 1 0 0 500 (.slice (some ⟨g, 0, none⟩) 1 c)) 32)] ((W.alloc (.cells (evE 1 1 1 0 1 1 0 0 500 (.slice (some ⟨g, 0, none⟩) 1 c)) 32)).alloc (.cells prodZ 115))) := Lib.hid (((HasO.start [] W).new rfl _).new (by simp) _)
  have CS : ∀ (n : Int) (w : World), 0 ≤ n ∧ n ≤ 1000 → Calls Tryz.prog 49 #[.int .i64 n] w fun e w' => e = .returned (.int .i64 n) ∧ Below w.heap.size w w' := fun n w h => small_ok n h w
  unfold evE prodZ at H1
  unfold evE
  go_enter Tryz.func41, Tryz.ntmps41
  go_wp2_with fail
  obtain ⟨g1, hg1⟩ : ∃ g1, g1 = W.heap.size := ⟨_, rfl⟩
  rw [← hg1] at H1 ⊢
  have HG1 := Lib.hid hg1
  clear hg1
  refine wp_region_classZ (fun w' => HasO [] W [(g1 + 1, .cells prodZ 115), (g1, .cells (evE 1 1 1 0 1 1 0 0 500 (.slice (some ⟨g, 0, none⟩) 1 c)) 32)] w') [0, 1, 2, 3, 4, 5, 6, 7, 8, 9, 10, 11, 12, 13, 14, 15, 16, 17, 18, 19, 20, 21, 22, 23, 24, 25, 26, 27, 28, 29, 30, 31] 32 (by kernel_rfl) (by kernel_rfl) H1.out.drew ?_
  simp only [List.map_cons, List.map_nil, opAt, List.getElem?_cons_succ, List.getElem?_cons_zero, Option.getD_some]
  repeat (go_big_quiet_step ((intro _; rfl)))
  refine wpQuiet_cell 2 (.tmp 4) rfl rfl ⟨g1, 2, none⟩ rfl (.int .i64 1) _ (fun w hw => (hw.get 1 rfl).cell 2) Tryz.underlying2 rfl (fun KK hKK => ?_)
  go_simp
  refine hKK _ ?_
  clear hKK KK
  repeat (go_big_quiet_step ((intro _; rfl)))
  refine wpQuiet_cell 2 (.tmp 7) rfl rfl ⟨g1, 3, none⟩ rfl (.int .i64 1) _ (fun w hw => (hw.get 1 rfl).cell 3) Tryz.underlying2 rfl (fun KK hKK => ?_)
  go_simp
  refine hKK _ ?_
  clear hKK KK
  go_big_quiet_step ((intro hw; exact (CS 1 _ (by omega)).mono fun e w' h => ⟨h.1, hw.step h.2⟩))
  repeat (go_big_quiet_step ((intro _; rfl)))
  refine wpQuiet_cell 2 (.tmp 11) rfl rfl ⟨g1, 4, none⟩ rfl (.int .i64 0) _ (fun w hw => (hw.get 1 rfl).cell 4) Tryz.underlying2 rfl (fun KK hKK => ?_)
  go_simp
  refine hKK _ ?_
  clear hKK KK
  go_big_quiet_step ((intro hw; exact (CS 0 _ (by omega)).mono fun e w' h => ⟨h.1, hw.step h.2⟩))
  repeat (go_big_quiet_step ((intro _; rfl)))
  refine wpQuiet_cell 2 (.tmp 15) rfl rfl ⟨g1, 5, none⟩ rfl (.int .i64 1) _ (fun w hw => (hw.get 1 rfl).cell 5) Tryz.underlying2 rfl (fun KK hKK => ?_)
  go_simp
  refine hKK _ ?_
  clear hKK KK
  go_big_quiet_step ((intro hw; exact (CS 1 _ (by omega)).mono fun e w' h => ⟨h.1, hw.step h.2⟩))
  repeat (go_big_quiet_step ((intro _; rfl)))
  refine wpQuiet_cell 2 (.tmp 19) rfl rfl ⟨g1, 6, none⟩ rfl (.int .i64 1) _ (fun w hw => (hw.get 1 rfl).cell 6) Tryz.underlying2 rfl (fun KK hKK => ?_)
  go_simp
  refine hKK _ ?_
  clear hKK KK
  go_big_quiet_step ((intro hw; exact (CS 1 _ (by omega)).mono fun e w' h => ⟨h.1, hw.step h.2⟩))
  repeat (go_big_quiet_step ((intro _; rfl)))
  refine wpQuiet_cell 2 (.tmp 23) rfl rfl ⟨g1, 7, none⟩ rfl (.int .i64 0) _ (fun w hw => (hw.get 1 rfl).cell 7) Tryz.underlying2 rfl (fun KK hKK => ?_)
  go_simp
  refine hKK _ ?_
  clear hKK KK
  go_big_quiet_step ((intro hw; exact (CS 0 _ (by omega)).mono fun e w' h => ⟨h.1, hw.step h.2⟩))
  repeat (go_big_quiet_step ((intro _; rfl)))
  refine wpQuiet_cell 2 (.tmp 27) rfl rfl ⟨g1, 8, none⟩ rfl (.int .i64 0) _ (fun w hw => (hw.get 1 rfl).cell 8) Tryz.underlying2 rfl (fun KK hKK => ?_)
  go_simp
  refine hKK _ ?_
  clear hKK KK
  repeat (go_big_quiet_step ((intro _; rfl)))
  refine wpQuiet_cell 2 (.tmp 30) rfl rfl ⟨g1, 9, none⟩ rfl (.int .i64 500) _ (fun w hw => (hw.get 1 rfl).cell 9) Tryz.underlying2 rfl (fun KK hKK => ?_)
  go_simp
  refine hKK _ ?_
  clear hKK KK
  repeat (go_big_quiet_step ((intro _; rfl)))
  refine wpQuiet_cell 30 (.tmp 32) rfl rfl ⟨g1, 10, none⟩ rfl (.slice (some ⟨g, 0, none⟩) 1 c) _ (fun w hw => (hw.get 1 rfl).cell 10) Tryz.underlying30 rfl (fun KK hKK => ?_)
  go_simp
  refine hKK _ ?_
  clear hKK KK
  repeat (go_big_quiet_step ((intro _; rfl)))
  refine wpQuiet_nil ?_
  intro w5 H5
  have H5 := Lib.hid H5
  clear H1
  go_wp2_with (refine wpList_turn rfl 115 (.tmp 2) (.tmp 34) rfl (g1 + 1) 0 (.agg (prodE (.slice (some ⟨g, 0, none⟩) 1 c))) rfl rfl 115 prodZ (prodE (.slice (some ⟨g, 0, none⟩) 1 c)) (H5.out.get 0 rfl) (by first | kernel_rfl | (rw [enc_size]; kernel_rfl)) (by first | (simp [Value.cells]; done) | (simp [Value.cells, prodE, prodZ]; done) | exact Nat.le_refl _) (by first | exact decE_all _ _ | (simp [Value.cells, Value.oneCell']; done) | (simp [Value.cells, Value.oneCell', prodE, prodZ]; done) | (rw [Array.all_eq_true']; simp [Value.cells, Value.oneCell', prodE, prodZ])) rfl ?_; intro W6 HT6)
  rw [onlyNormal_normal]
  go_wp2_with fail
  have hk := H5.out.1.trans HT6.keep (by simp [HG1.out])
  exact bodyPost_ret (results_cell_row rfl _ _ (g1 + 1) 115 (prodE (.slice (some ⟨g, 0, none⟩) 1 c)) (0, 0) _ rfl HT6.at_ Tryz.underlying115 rfl (by kernel_rfl)) rfl ⟨rfl, hk.below⟩
end Go.Proofs.YtlfomhdphbchpaaGreatDoor.Mo

/-! Maps with keys of one cell: read, written, by equations. -/
namespace Go.Proofs.YtlfomhdphbchpaaGreatDoor.Mp
open Go.RowKit Go.Deep
open Go.ChangeMaps (setBlock)
set_option linter.unusedVariables false
set_option linter.unusedSimpArgs false
section
variable {P : Program}
/-- what a lookup hands back -/
def lookV (ok : Bool) (z : Value) : Option (Nat × Value) → Value
  | some p => if ok then .tuple #[p.2, .bool true] else p.2
  | none => if ok then .tuple #[z, .bool false] else z
theorem run_lookup1 {T K E : TypeId} {d : TypeDesc} {z k : Value} (hT : P.underlying T = some (.map K E)) (hd : P.underlying K = some d) (hk : MapKept.IsKey d k) (hz : ∀ w, (zeroValue E).run P w = .ok z w) (b : Nat) (es : Array MapEntry) (cl : Nat)
    (r : Option (Nat × Value)) (hf : Instr.findNow d k es.toList 0 = some r) (ok : Bool) (w : World) (hm : w.heap[b]? = some (.map es cl)) :
    (Instr.lookup T (.map (some b)) k ok).run P w = .ok (lookV ok z r) w := by
  simp only [Instr.lookup, Sem.run_bind, run_underlying hT, Result.andThen, MapKept.run_getObj_map hm, MapKept.run_checkKey hd hk, Sem.run_pure, MapKept.run_findKey hd hf]
  cases r with
  | none => cases ok <;> simp [Sem.run_bind, hz, Result.andThen, lookV]
  | some p => obtain ⟨i, v⟩ := p; cases ok <;> simp [Sem.run_bind, Result.andThen, lookV]
theorem run_update1_new {T K E : TypeId} {d : TypeDesc} {k v : Value} (hT : P.underlying T = some (.map K E)) (hd : P.underlying K = some d) (hk : MapKept.IsKey d k) (b : Nat) (es : Array MapEntry) (cl : Nat)
    (hf : Instr.findNow d k es.toList 0 = some none) (w : World) (hm : w.heap[b]? = some (.map es cl)) :
    (Instr.mapUpdate T (.map (some b)) k v).run P w = .ok () (setBlock w b (.map (es.push { key := k, val := v, born := cl }) (cl + 1))) := by
  simp [Instr.mapUpdate, run_underlying hT, MapKept.run_getObj_map hm, MapKept.run_checkKey hd hk, MapKept.run_findKey hd hf, MapKept.run_setObj_map _ hm, Result.andThen, setBlock]
theorem run_update1_old {T K E : TypeId} {d : TypeDesc} {k v u : Value} (hT : P.underlying T = some (.map K E)) (hd : P.underlying K = some d) (hk : MapKept.IsKey d k) (b : Nat) (es : Array MapEntry) (cl : Nat) (i : Nat) (e : MapEntry)
    (hf : Instr.findNow d k es.toList 0 = some (some (i, u))) (he : es[i]? = some e) (hek : e.key = k) (w : World) (hm : w.heap[b]? = some (.map es cl)) :
    (Instr.mapUpdate T (.map (some b)) k v).run P w = .ok () (setBlock w b (.map (es.modify i fun e => { e with key := k, val := v }) cl)) := by
  simp [Instr.mapUpdate, run_underlying hT, MapKept.run_getObj_map hm, MapKept.run_checkKey hd hk, MapKept.run_findKey hd hf, he, hek, MapKept.run_keyThatStays hk, MapKept.run_setObj_map _ hm, Result.andThen, setBlock]
theorem run_len_map1 {T K E : TypeId} (hT : P.underlying T = some (.map K E)) (ty : TypeId) (b : Nat) (es : Array MapEntry) (cl : Nat) (w : World) (hm : w.heap[b]? = some (.map es cl)) : (Builtin.len_ #[T] ty #[.map (some b)]).run P w = .ok (.int .i64 (es.size : Nat)) w := by
  simp [Builtin.len_, run_underlying hT, Result.andThen, MapKept.run_getObj_map hm, goInt]
theorem turn_setBlock {w : World} {b : Nat} {es : Array MapEntry} {cl : Nat} {o : Obj} (hm : w.heap[b]? = some (.map es cl)) : Turn w b o (setBlock w b o) :=
  Turn.of_map (setBlock_same (obj_lt hm)) (fun g hg => setBlock_other hg) (fun B w0 hB hb => setBlock_below hb hB) setBlock_size
section
variable {ops : Array Oper} {rest : List Oper} {o : Oper} {a : Act} {w : World} {Q : Exit → Act → World → Prop}
/-- any operation, by an equation of its run -/
theorem wpListG_run (hw : Region.wanted o (yielded ops a.tmps) = true) (v : Value) (w' : World) (hr : (execOp a.eval o).run P w = .ok (.value v) w') (h : wpList P ops Q rest (a.put o.dst v) w') : wpList P ops Q (o :: rest) a w :=
  wpList_wanted hw fun _ hK => by
    unfold Oper.wp
    rw [hr]
    exact hK _ _ h
theorem wpListG_lookup (hw : Region.wanted o (yielded ops a.tmps) = true) (T : TypeId) (m k : Operand) (ok : Bool) (ho : o.op = .lookup T m k ok) (b : Nat) (key v : Value) (hm : a.eval m = .map (some b)) (hk : a.eval k = key)
    (hr : (Instr.lookup T (.map (some b)) key ok).run P w = .ok v w) (h : wpList P ops Q rest (a.put o.dst v) w) : wpList P ops Q (o :: rest) a w :=
  wpListG_run hw v w (by unfold execOp; simp only [ho, hm, hk, Sem.run_bind, hr, Result.andThen_ok, Sem.run_pure]) h
theorem wpList_update1 (hw : Region.wanted o (yielded ops a.tmps) = true) (T : TypeId) (m k v : Operand) (ho : o.op = .mapUpdate T m k v) (b : Nat) (key u : Value) (hm : a.eval m = .map (some b)) (hk : a.eval k = key) (hv : a.eval v = u) (es : Array MapEntry) (cl : Nat) (obj : Obj)
    (hb : w.heap[b]? = some (.map es cl)) (hr : (Instr.mapUpdate T (.map (some b)) key u).run P w = .ok () (setBlock w b obj)) (h : ∀ W2, Turn w b obj W2 → wpList P ops Q rest (a.put o.dst undef) W2) : wpList P ops Q (o :: rest) a w :=
  wpList_wanted hw fun _ hK => by
    unfold Oper.wp execOp
    simp only [ho, hm, hk, hv, Sem.run_bind, hr, Result.andThen_ok, Sem.run_pure]
    exact hK _ _ (h _ (turn_setBlock hb))
variable {C : World → Prop} {R : Act → Prop}
theorem wpQuiet_lookup (hw : Region.wanted o (yielded ops a.tmps) = true) (T : TypeId) (m k : Operand) (ok : Bool) (ho : o.op = .lookup T m k ok) (b : Nat) (key v : Value) (hm : a.eval m = .map (some b)) (hk : a.eval k = key)
    (hr : ∀ w, C w → (Instr.lookup T (.map (some b)) key ok).run P w = .ok v w) (h2 : ∀ K : Act → Prop, (∀ a, wpQuiet P ops C R rest a → K a) → K (a.put o.dst v)) : wpQuiet P ops C R (o :: rest) a :=
  wpQuiet_val v hw (fun w hw' => by unfold execOp; simp only [ho, hm, hk, Sem.run_bind, hr w hw', Result.andThen_ok, Sem.run_pure]) h2
end
end
end Go.Proofs.YtlfomhdphbchpaaGreatDoor.Mp

/-! model: a plan's questions -/
namespace Go.Proofs.YtlfomhdphbchpaaGreatDoor.Mo
open Go.RowKit Go.Deep Go.Proofs.YtlfomhdphbchpaaGreatDoor.Wide Go.Proofs.YtlfomhdphbchpaaGreatDoor.Dec Go.Proofs.YtlfomhdphbchpaaGreatDoor.Mp Go.Proofs.YtlfomhdphbchpaaGreatDoor.Pr Go.Proofs.YtlfomhdphbchpaaGreatDoor.Ch
set_option linter.unusedVariables false
set_option linter.unusedSimpArgs false
theorem HasO.re {S : List Nat} {W w : World} {fs : List (Nat × Obj)} (h : HasO S W fs w) : HasO [] w fs w := ⟨Keep.refl _ _, h.2⟩
theorem HasO.fresh {S : List Nat} {W w : World} {fs : List (Nat × Obj)} (h : HasO S W fs w) : ∀ f ∈ fs, f.1 ≠ w.heap.size := fun f hf => Nat.ne_of_lt (obj_lt (h.2 f hf))
def planE (gm : Nat) : Array Value := #[.pointer (some ⟨gm, 0, none⟩), .int .i64 0]
def acctE (b a : Int) (bh : Nat) : Array Value := #[.int .i64 10, .int .i64 1, .int .i64 0, .int .i64 1, .bool true, .int .i64 b, .int .i64 0, .int .i64 a, .map (some bh)]
def entA (ga : Nat) : MapEntry := { key := .int .i64 10, val := .pointer (some ⟨ga, 0, none⟩), born := 0 }
def unitR : Ending := .returned (.tuple #[])
set_option maxHeartbeats 4000000 in
theorem no_ok (gp : Nat) (so : Bool) (x : Int) (h : so = false ∨ x = 0) (W : World) : Calls Tryz.prog 39 #[.pointer (some ⟨gp, 0, none⟩), .bool so, .int .i64 x] W fun e w' => e = unitR ∧ w' = W := by
  cases so with
  | false =>
    clear h
    go_enter Tryz.func39, Tryz.ntmps39
    go_wp2_with fail
    go_end0
    exact ⟨rfl, rfl⟩
  | true =>
    obtain rfl : x = 0 := by simpa using h
    clear h
    go_enter Tryz.func39, Tryz.ntmps39
    go_wp2_with fail
    go_end0
    exact ⟨rfl, rfl⟩
theorem no_b (gp : Nat) (so : Bool) (x : Int) (h : so = false ∨ x = 0) (W : World) : Calls Tryz.prog 39 #[.pointer (some ⟨gp, 0, none⟩), .bool so, .int .i64 x] W fun e w' => e = .returned (.tuple #[]) ∧ Below W.heap.size W w' :=
  (no_ok gp so x h W).mono fun _ _ ⟨h1, h2⟩ => ⟨h1, by rw [h2]; exact Below.refl _ _⟩
set_option maxHeartbeats 4000000 in
theorem number_ok (gp : Nat) (n : Int) (h : 1 ≤ n ∧ n ≤ 1000000000) (W : World) : Calls Tryz.prog 42 #[.pointer (some ⟨gp, 0, none⟩), .int .i64 n] W fun e w' => e = unitR ∧ w' = W := by
  have h1 : decide (n < 1) = false := by simp; omega
  have h2 : decide (1000000000 < n) = false := by simp; omega
  clear h
  go_enter Tryz.func42, Tryz.ntmps42
  go_wp2_with fail
  refine (no_ok gp false 1 (.inl rfl) _).mono ?_
  rintro e w1 ⟨rfl, rfl⟩
  unfold unitR
  go_wp2_with fail
  go_end0
  exact ⟨rfl, rfl⟩
set_option maxHeartbeats 4000000 in
theorem amount_ok (gp : Nat) (n : Int) (h : 1 ≤ n ∧ n ≤ 10000000000000) (W : World) : Calls Tryz.prog 45 #[.pointer (some ⟨gp, 0, none⟩), .int .i64 n] W fun e w' => e = unitR ∧ w' = W := by
  have h1 : decide (n < 1) = false := by simp; omega
  have h2 : decide (10000000000000 < n) = false := by simp; omega
  clear h
  go_enter Tryz.func45, Tryz.ntmps45
  go_wp2_with fail
  refine (no_ok gp false 1 (.inl rfl) _).mono ?_
  rintro e w1 ⟨rfl, rfl⟩
  unfold unitR
  go_wp2_with fail
  go_end0
  exact ⟨rfl, rfl⟩
set_option maxHeartbeats 4000000 in
theorem bears_ok (gp ga bh : Nat) (b a n : Int) (hb : 0 ≤ b ∧ b ≤ 10000000000000) (h : n ≤ 10000000000000 - b) (W : World) (hg : Blk W ga 126 (acctE b a bh)) :
    Calls Tryz.prog 46 #[.pointer (some ⟨gp, 0, none⟩), .pointer (some ⟨ga, 0, none⟩), .int .i64 n] W fun e w' => e = unitR ∧ w' = W := by
  obtain ⟨b1, b2⟩ := hb
  have c5 := hg.cell 5
  have h1 : decide (10000000000000 - b < n) = false := by simp; omega
  simp only [acctE, List.getElem?_toArray, List.getElem?_cons_succ, List.getElem?_cons_zero] at c5
  clear h hg
  go_enter Tryz.func46, Tryz.ntmps46
  go_wp2_with fail
  refine (no_ok gp false 4 (.inl rfl) _).mono ?_
  rintro e w1 ⟨rfl, rfl⟩
  unfold unitR
  go_wp2_with fail
  go_end0
  exact ⟨rfl, rfl⟩
theorem look10 (ga ba : Nat) (w : World) (h : w.heap[ba]? = some (.map #[entA ga] 1)) : (Instr.lookup 57 (.map (some ba)) (.int .i64 10) false).run Tryz.prog w = .ok (.pointer (some ⟨ga, 0, none⟩)) w :=
  run_lookup1 (P := Tryz.prog) (d := .int .i64) (z := .pointer none) Tryz.underlying57 (by kernel_rfl) (show MapKept.IsKey (.int .i64) (.int .i64 10) from rfl) (fun w => by first | exact Tryz.zeroValue120 w | exact Tryz.zeroValue120 _) ba #[entA ga] 1 (some (0, .pointer (some ⟨ga, 0, none⟩))) rfl false w h
set_option maxHeartbeats 4000000 in
theorem account_ok (gp gm ba ga bh gc br bk gl : Nat) (day seq b a : Int) (run : Bool) (st : Value) (k : Int) (hk : k = 0 ∨ k = 1) (W : World)
    (h : HasO [] W [(gp, .cells (planE gm) 72), (gm, .cells (modE day gc ba br bk gl seq run st) 64), (ba, .map #[entA ga] 1), (ga, .cells (acctE b a bh) 126)] W) :
    Calls Tryz.prog 44 #[.pointer (some ⟨gp, 0, none⟩), .int .i64 10, .int .i64 k] W fun e w' => e = .returned (.pointer (some ⟨ga, 0, none⟩)) ∧ w' = W := by
  have c0 := (h.get 0 rfl).cell 0
  have c1 := (h.get 1 rfl).cell 2
  have hlk := look10 ga ba W (h.obj 2 rfl)
  have c4 := (h.get 3 rfl).cell 4
  have c3 := (h.get 3 rfl).cell 3
  simp only [acctE, planE, modE, List.getElem?_toArray, List.getElem?_cons_succ, List.getElem?_cons_zero] at c0 c1 c4 c3
  clear h
  rcases hk with rfl | rfl
  all_goals
    go_enter Tryz.func44, Tryz.ntmps44
    go_wp2_with fail
    refine (no_ok gp false 14 (.inl rfl) _).mono ?_
    rintro e w1 ⟨rfl, hw⟩
    obtain rfl := hw
    unfold unitR
    go_wp2_with fail
    refine (no_ok gp false 11 (.inl rfl) _).mono ?_
    rintro e w1 ⟨rfl, hw⟩
    obtain rfl := hw
    unfold unitR
    go_wp2_with fail
    exact bodyPost_ret (results_one rfl _ _ rfl) rfl ⟨rfl, rfl⟩
end Go.Proofs.YtlfomhdphbchpaaGreatDoor.Mo

/-! As 'wp_region_tree', up to what the code behind the region is told. -/
namespace Go.Proofs.YtlfomhdphbchpaaGreatDoor
open Go
set_option linter.unusedVariables false
set_option linter.unusedSimpArgs false
section
variable {P : Program} {C : World → Prop}
theorem wp_region_cut {id : Nat} {Q : Exit → Act → World → Prop} {a : Act} {w : World} {l : List Oper} (C : World → Prop) (R : Act → World → Prop) (p : Plan) (hm : P.follows .mixedOrders = true) (hB : mixT l p = true)
    (hC : C w.drew) (h : wpPlan P l C R p a w.drew) (hR : ∀ a' w', R a' w' → Q .normal a' w') : (Code.region id l.toArray true).wp P Q a w := by
  simp only [mixT, Bool.and_eq_true, beq_iff_eq] at hB
  obtain ⟨h1, h2, h3⟩ := hB
  refine wp_region_any hm (wpAny_of_M (Q := R) (C := C) hR _ _ _ _ ?_)
  have := wpAnyM_of_plan (P := P) (C := C) (md := .any) (Q := R) h1 p _ a w.drew hC h2 h
  rw [h3] at this
  simpa using this
/-- the same: what is told hangs on three, two, one numbers -/
theorem wp_region_cut3 {id : Nat} {Q : Exit → Act → World → Prop} {a : Act} {w : World} {l : List Oper} (C : World → Prop) (F : Nat → Nat → Nat → World → Prop) (G : Nat → Nat → Nat → Act) (p : Plan) (hm : P.follows .mixedOrders = true) (hB : mixT l p = true)
    (hC : C w.drew) (h : wpPlan P l C (fun a' w' => ∃ x y z, F x y z w' ∧ a' = G x y z) p a w.drew) (hR : ∀ x y z w', F x y z w' → Q .normal (G x y z) w') : (Code.region id l.toArray true).wp P Q a w :=
  wp_region_cut C _ p hm hB hC h (by rintro a' w' ⟨x, y, z, hF, rfl⟩; exact hR _ _ _ _ hF)
theorem wp_region_cut1 {id : Nat} {Q : Exit → Act → World → Prop} {a : Act} {w : World} {l : List Oper} (C : World → Prop) (F : Nat → World → Prop) (G : Nat → Act) (p : Plan) (hm : P.follows .mixedOrders = true) (hB : mixT l p = true)
    (hC : C w.drew) (h : wpPlan P l C (fun a' w' => ∃ x, F x w' ∧ a' = G x) p a w.drew) (hR : ∀ x w', F x w' → Q .normal (G x) w') : (Code.region id l.toArray true).wp P Q a w :=
  wp_region_cut C _ p hm hB hC h (by rintro a' w' ⟨x, hF, rfl⟩; exact hR _ _ hF)
end
end Go.Proofs.YtlfomhdphbchpaaGreatDoor

/-! model: look, for the story's commands -/
namespace Go.Proofs.YtlfomhdphbchpaaGreatDoor.Mo
open Go.RowKit Go.Deep Go.Proofs.YtlfomhdphbchpaaGreatDoor.Wide Go.Proofs.YtlfomhdphbchpaaGreatDoor.Dec Go.Proofs.YtlfomhdphbchpaaGreatDoor.Mp Go.Proofs.YtlfomhdphbchpaaGreatDoor.Pr Go.Proofs.YtlfomhdphbchpaaGreatDoor.Ch
set_option linter.unusedVariables false
set_option linter.unusedSimpArgs false
def nsE (n0 n1 n2 n3 n4 n5 n6 n7 : Int) : Array Value := #[.int .i64 n0, .int .i64 n1, .int .i64 n2, .int .i64 n3, .int .i64 n4, .int .i64 n5, .int .i64 n6, .int .i64 n7]
theorem ev_ns (op n0 n1 n2 n3 n4 n5 n6 n7 : Int) (s : Value) : ∀ (j : Nat) (v : Value), (nsE n0 n1 n2 n3 n4 n5 n6 n7).toList[j]? = some v → (evE op n0 n1 n2 n3 n4 n5 n6 n7 s)[2 + j]? = some v := by
  intro j v h
  have hj : j < 8 := (List.getElem?_eq_some_iff.1 h).1
  have : j = 0 ∨ j = 1 ∨ j = 2 ∨ j = 3 ∨ j = 4 ∨ j = 5 ∨ j = 6 ∨ j = 7 := by omega
  rcases this with rfl | rfl | rfl | rfl | rfl | rfl | rfl | rfl <;> exact h
def evZ : Array Value := evE 0 0 0 0 0 0 0 0 0 (.slice none 0 0)
set_option maxHeartbeats 4000000 in
set_option maxRecDepth 100000 in
theorem lookProduct_ok (gp gm ba gc bc br bk gl : Nat) (day seq : Int) (run : Bool) (st : Value) (g c : Nat) (W : World) (hs : TS W (.slice (some ⟨g, 0, none⟩) 1 c))
    (h : HasO [] W ((gp, .cells (planE gm) 72) :: (gm, .cells (modE day gc ba br bk gl seq run st) 64) :: cat0 gc bc) W) :
    Calls Tryz.prog 22 #[.pointer (some ⟨gp, 0, none⟩), .agg (evE 1 1 1 0 1 1 0 0 500 (.slice (some ⟨g, 0, none⟩) 1 c))] W fun e w' => e = .returned (.tuple #[.agg (evE 1 1 1 0 1 1 0 0 500 (.slice (some ⟨g, 0, none⟩) 1 c)), .int .i64 0]) ∧ Below W.heap.size W w' := by
  have CA := Lib.hid (fun w (hb : HasO [] w ((gm, .cells (modE day gc ba br bk gl seq run st) 64) :: cat0 gc bc) w) (hs : TS w (.slice (some ⟨g, 0, none⟩) 1 c)) => adds0_ok (.slice (some ⟨g, 0, none⟩) 1 c) gm gc bc _ w hb rfl hs)
  have CV := Lib.hid (fun W' => version_ok g c W')
  have H1 := Lib.hid (((h.new (g := W.heap.size) rfl (.cells (evE 1 1 1 0 1 1 0 0 500 (.slice (some ⟨g, 0, none⟩) 1 c)) 32)).new (g := W.heap.size + 1) (by simp) (.cells evZ 32)).new (g := W.heap.size + 2) (by simp) (.cells (nsE 1 1 0 1 1 0 0 500) 29))
  have HS := Lib.hid hs
  clear h hs
  unfold evZ evE nsE at H1
  rw [evE]
  go_enter Tryz.func22, Tryz.ntmps22
  go_wp2_with fail
  refine wp_region_class (fun w' => HasO [] W _ w') [0, 1, 2, 3, 4, 5, 6, 7, 8] (by kernel_rfl) (by kernel_rfl) (H1.out.drew) ?_
  simp only [List.map_cons, List.map_nil, opAt, List.getElem?_cons_succ, List.getElem?_cons_zero, Option.getD_some]
  repeat (go_big_quiet_step ((intro _; rfl)))
  refine wpQuiet_cell 24 (.tmp 33) rfl rfl ⟨gp, 0, none⟩ rfl (.pointer (some ⟨gm, 0, none⟩)) _ (fun w hw => (hw.get 3 rfl).cell 0) Tryz.underlying24 rfl (fun KK hKK => ?_)
  go_simp
  refine hKK _ ?_
  clear hKK KK
  refine wpQuiet_row 32 (.tmp 3) rfl rfl W.heap.size rfl 32 (evE 1 1 1 0 1 1 0 0 500 (.slice (some ⟨g, 0, none⟩) 1 c)) _ (fun w hw => hw.get 2 rfl) Tryz.underlying32 rfl (by first | kernel_rfl | (rw [enc_size]; kernel_rfl)) (fun KK hKK => ?_)
  go_simp
  refine hKK _ ?_
  clear hKK KK
  go_big_quiet_step ((intro hw; exact (CV.out _).mono fun e w' h => ⟨h.1, hw.step h.2⟩))
  go_big_quiet_step ((intro hw; exact (CA.out _ (HasO.re hw).tail.tail.tail.tail (HS.out.step hw.below)).mono fun e w' h => ⟨h.1, hw.step h.2⟩))
  go_big_quiet_step ((intro hw; exact (no_b gp true 0 (.inr rfl) _).mono fun e w' h => ⟨h.1, hw.step h.2⟩))
  repeat (go_big_quiet_step ((intro _; rfl)))
  refine wpQuiet_nil ?_
  intro w5 H5
  have H5 := Lib.hid H5
  clear H1
  go_wp2_with (first
    | (refine wpListG_row rfl 32 (.tmp 3) rfl W.heap.size rfl 32 (evE 1 1 1 0 1 1 0 0 500 (.slice (some ⟨g, 0, none⟩) 1 c)) _ (H5.out.get 2 rfl) Tryz.underlying32 rfl (by first | kernel_rfl | (rw [enc_size]; kernel_rfl)) ?_)
    | (refine wpList_turn rfl 32 (.tmp 4) (.tmp 250) rfl (W.heap.size + 1) 0 (.agg (evE 1 1 1 0 1 1 0 0 500 (.slice (some ⟨g, 0, none⟩) 1 c))) rfl rfl 32 evZ (evE 1 1 1 0 1 1 0 0 500 (.slice (some ⟨g, 0, none⟩) 1 c)) (H5.out.get 1 rfl) (by first | kernel_rfl | (rw [enc_size]; kernel_rfl)) (by first | (simp [Value.cells]; done) | (simp [Value.cells, prodE, prodZ, evE, nsE, evZ]; done) | exact Nat.le_refl _) (by first | exact decE_all _ _ | (simp [Value.cells, Value.oneCell']; done) | (simp [Value.cells, Value.oneCell', prodE, prodZ, evE, nsE, evZ]; done) | (rw [Array.all_eq_true']; simp [Value.cells, Value.oneCell', prodE, prodZ, evE, nsE, evZ])) rfl ?_; intro W6 HT6))
  have hk := H5.out.1.trans HT6.keep (by simp)
  exact bodyPost_ret (results_row_tmp rfl _ _ (W.heap.size + 1) 32 (evE 1 1 1 0 1 1 0 0 500 (.slice (some ⟨g, 0, none⟩) 1 c)) _ _ rfl HT6.at_ Tryz.underlying32 rfl (by kernel_rfl) rfl) rfl ⟨rfl, hk.below⟩
theorem cat1_keep {gc : Nat} {w w' : World} {S : List Nat} (h : Cat1 gc w) (hk : Keep S w w') (h1 : gc ∉ S) (h2 : ∀ k ∈ S, ∀ cur, w.heap[k]? ≠ some (.cells cur 115)) (h3 : ∀ k ∈ S, ∀ cur, w.heap[k]? ≠ some (.cells cur 66)) : Cat1 gc w' := by
  obtain ⟨gL, cap, cur, s, m, hg, hL, hp, hs⟩ := h
  exact ⟨gL, cap, cur, s, m, by rw [hk.block gc (obj_lt hg) h1]; exact hg, by rw [hk.block gL (obj_lt hL) (fun hb => h2 gL hb _ hL)]; exact hL, hp, hs.keep hk h3⟩
theorem cat1_step {gc : Nat} {w w' : World} (h : Cat1 gc w) (hb : Below w.heap.size w w') : Cat1 gc w' := cat1_keep (S := []) h (Keep.of_below hb) (by simp) (by simp) (by simp)
theorem look0 (ba : Nat) (n : Int) (w : World) (h : w.heap[ba]? = some (.map #[] 0)) : (Instr.lookup 57 (.map (some ba)) (.int .i64 n) false).run Tryz.prog w = .ok (.pointer none) w :=
  run_lookup1 (P := Tryz.prog) (d := .int .i64) (z := .pointer none) Tryz.underlying57 (by kernel_rfl) (show MapKept.IsKey (.int .i64) (.int .i64 n) from rfl) (fun w => by first | exact Tryz.zeroValue120 w | exact Tryz.zeroValue120 _) ba #[] 0 none rfl false w h
set_option maxHeartbeats 4000000 in
set_option maxRecDepth 100000 in
theorem lookOpen_ok (gp gm ba gc br bk gl : Nat) (day seq : Int) (hd : 1 ≤ day ∧ day ≤ 3652059) (run : Bool) (st : Value) (W : World) (hc : Cat1 gc W)
    (h : HasO [] W [(gp, .cells (planE gm) 72), (gm, .cells (modE day gc ba br bk gl seq run st) 64), (ba, .map #[] 0)] W) :
    Calls Tryz.prog 22 #[.pointer (some ⟨gp, 0, none⟩), .agg (evE 2 10 1 0 0 0 0 0 0 (.slice none 0 0))] W fun e w' => e = .returned (.tuple #[.agg (evE 2 10 1 0 0 0 0 0 0 (.slice none 0 0)), .int .i64 0]) ∧ Below W.heap.size W w' := by
  have CA := Lib.hid (fun w (hb : Below W.heap.size W w) => at1_ok gc day hd w (cat1_step hc hb))
  have H1 := Lib.hid (((h.new (g := W.heap.size) rfl (.cells (evE 2 10 1 0 0 0 0 0 0 (.slice none 0 0)) 32)).new (g := W.heap.size + 1) (by simp) (.cells evZ 32)).new (g := W.heap.size + 2) (by simp) (.cells (nsE 10 1 0 0 0 0 0 0) 29))
  clear h hc hd
  rw [evE]
  go_enter Tryz.func22, Tryz.ntmps22
  go_wp2_with fail
  refine (number_ok gp 10 (by omega) _).mono ?_
  rintro e w1 ⟨rfl, hw⟩
  obtain rfl := hw
  unfold unitR
  go_wp2_with fail
  apply wp_region_cut3 (fun w' => HasO [] W ((W.heap.size + 2, .cells (nsE 10 1 0 0 0 0 0 0) 29) :: (W.heap.size + 1, .cells evZ 32) :: (W.heap.size, .cells (evE 2 10 1 0 0 0 0 0 0 (.slice none 0 0)) 32) :: (gp, .cells (planE gm) 72) :: (gm, .cells (modE day gc ba br bk gl seq run st) 64) :: (ba, .map #[] 0) :: []) w') (fun g7 g5 c5 w' => HasO [] W ((g7, .cells (prodE (.slice (some ⟨g5, 0, none⟩) 1 c5)) 115) :: ((W.heap.size + 2, .cells (nsE 10 1 0 0 0 0 0 0) 29) :: (W.heap.size + 1, .cells evZ 32) :: (W.heap.size, .cells (evE 2 10 1 0 0 0 0 0 0 (.slice none 0 0)) 32) :: (gp, .cells (planE gm) 72) :: (gm, .cells (modE day gc ba br bk gl seq run st) 64) :: (ba, .map #[] 0) :: [])) w') _ (.seg [0, 1, 2, 3, 4, 5, 6, 7, 8, 9, 10, 11, 12, 13, 14, 15] (.fork 16 (.seg [17, 18, 19] (.turn 20 (.turn 21 (.turn 22 .nil)))) 20 (.turn 16 (.seg [17, 18, 19] (.turn 21 (.turn 22 .nil)))))) (by kernel_rfl) (by kernel_rfl) H1.out.drew
  case h =>
    simp only [wpPlan, List.map_cons, List.map_nil, opAt, List.getElem?_cons_succ, List.getElem?_cons_zero, Option.getD_some]
    repeat (go_big_quiet_step ((intro _; rfl)))
    refine wpQuiet_cell 24 (.tmp 48) rfl rfl ⟨gp, 0, none⟩ rfl (.pointer (some ⟨gm, 0, none⟩)) _ (fun w hw => (hw.get 3 rfl).cell 0) Tryz.underlying24 rfl (fun KK hKK => ?_)
    go_simp
    refine hKK _ ?_
    clear hKK KK
    repeat (go_big_quiet_step ((intro _; rfl)))
    refine wpQuiet_cell 55 (.tmp 51) rfl rfl ⟨gm, 1, none⟩ rfl (.pointer (some ⟨gc, 0, none⟩)) _ (fun w hw => (hw.get 4 rfl).cell 1) Tryz.underlying55 rfl (fun KK hKK => ?_)
    go_simp
    refine hKK _ ?_
    clear hKK KK
    repeat (go_big_quiet_step ((intro _; rfl)))
    refine wpQuiet_cell 2 (.tmp 53) rfl rfl ⟨(W.heap.size + 1 + 1), 1, none⟩ rfl (.int .i64 1) _ (fun w hw => (hw.get 0 rfl).cell 1) Tryz.underlying2 rfl (fun KK hKK => ?_)
    go_simp
    refine hKK _ ?_
    clear hKK KK
    repeat (go_big_quiet_step ((intro _; rfl)))
    refine wpQuiet_cell 24 (.tmp 57) rfl rfl ⟨gp, 0, none⟩ rfl (.pointer (some ⟨gm, 0, none⟩)) _ (fun w hw => (hw.get 3 rfl).cell 0) Tryz.underlying24 rfl (fun KK hKK => ?_)
    go_simp
    refine hKK _ ?_
    clear hKK KK
    repeat (go_big_quiet_step ((intro _; rfl)))
    refine wpQuiet_cell 3 (.tmp 60) rfl rfl ⟨gm, 0, none⟩ rfl (.int .i64 day) _ (fun w hw => (hw.get 4 rfl).cell 0) Tryz.underlying3 rfl (fun KK hKK => ?_)
    go_simp
    refine hKK _ ?_
    clear hKK KK
    refine wpQuiet_nil ?_
    have HD := Lib.hid H1.out.drew
    refine ⟨?_, ?_⟩
    · go_wp2_with fail
      refine (CA.out _ HD.out.below).mono ?_
      rintro e w1 ⟨⟨s', rfl, g5, c5, cu5, rfl, _⟩, hb1⟩
      have H2 := Lib.hid (HD.out.step hb1)
      clear hb1 HD
      go_wp2_with fail
      refine ⟨H2.out, ?_⟩
      repeat (go_big_quiet_step ((intro _; rfl)))
      refine wpQuiet_nil ?_
      go_wp2_with fail
      obtain ⟨g7, hg7⟩ : ∃ g7, g7 = w1.heap.size := ⟨_, rfl⟩
      have H3 := Lib.hid (H2.out.new hg7 (.cells prodZ 115))
      have HN := Lib.hid (H2.out.size)
      rw [← hg7] at HN
      rw [← hg7]
      refine ⟨H3.out.tail, ?_⟩
      clear hg7 H2
      go_wp2_with (refine wpList_turn rfl 115 (.tmp 7) (.tmp 63) rfl g7 0 (.agg (prodE (.slice (some ⟨g5, 0, none⟩) 1 c5))) rfl rfl 115 prodZ (prodE (.slice (some ⟨g5, 0, none⟩) 1 c5)) (H3.out.get 0 rfl) (by first | kernel_rfl | (rw [enc_size]; kernel_rfl)) (by first | (simp [Value.cells]; done) | (simp [Value.cells, prodE, prodZ, evE, nsE, evZ]; done) | exact Nat.le_refl _) (by first | exact decE_all _ _ | (simp [Value.cells, Value.oneCell']; done) | (simp [Value.cells, Value.oneCell', prodE, prodZ, evE, nsE, evZ]; done) | (rw [Array.all_eq_true']; simp [Value.cells, Value.oneCell', prodE, prodZ, evE, nsE, evZ])) rfl ?_; intro W6 HT6)
      have H4 := Lib.hid (H3.out.turn 0 rfl HT6 (.inr HN.out) (H3.out.apart 0 rfl rfl))
      refine ⟨H4.out.tail, ?_⟩
      go_wp2_with fail
      refine ⟨H4.out.tail, ?_⟩
      exact ⟨g7, g5, c5, H4.out, rfl⟩
    · go_wp2_with fail
      obtain ⟨g7, hg7⟩ : ∃ g7, g7 = W.heap.size + 3 := ⟨_, rfl⟩
      have H3 : Hid (HasO [] W ((g7, .cells prodZ 115) :: ((W.heap.size + 2, .cells (nsE 10 1 0 0 0 0 0 0) 29) :: (W.heap.size + 1, .cells evZ 32) :: (W.heap.size, .cells (evE 2 10 1 0 0 0 0 0 0 (.slice none 0 0)) 32) :: (gp, .cells (planE gm) 72) :: (gm, .cells (modE day gc ba br bk gl seq run st) 64) :: (ba, .map #[] 0) :: [])) _) := Lib.hid ((H1.out.new (by rw [hg7]; simp) (.cells prodZ 115)).drew)
      have HN : Hid (W.heap.size ≤ g7) := Lib.hid (by omega)
      refine ⟨H3.out.tail, ?_⟩
      have HG := Lib.hid hg7
      clear hg7 HD
      go_wp2_with fail
      refine (CA.out _ H3.out.below).mono ?_
      rintro e w1 ⟨⟨s', rfl, g5, c5, cu5, rfl, _⟩, hb1⟩
      have H2 := Lib.hid (H3.out.step hb1)
      clear hb1 H3
      go_wp2_with fail
      refine ⟨H2.out.tail, ?_⟩
      repeat (go_big_quiet_step ((intro _; rfl)))
      refine wpQuiet_nil ?_
      rw [show W.heap.size + 1 + 1 + 1 = g7 from HG.out.symm]
      go_wp2_with (refine wpList_turn rfl 115 (.tmp 7) (.tmp 63) rfl g7 0 (.agg (prodE (.slice (some ⟨g5, 0, none⟩) 1 c5))) rfl rfl 115 prodZ (prodE (.slice (some ⟨g5, 0, none⟩) 1 c5)) (H2.out.get 0 rfl) (by first | kernel_rfl | (rw [enc_size]; kernel_rfl)) (by first | (simp [Value.cells]; done) | (simp [Value.cells, prodE, prodZ, evE, nsE, evZ]; done) | exact Nat.le_refl _) (by first | exact decE_all _ _ | (simp [Value.cells, Value.oneCell']; done) | (simp [Value.cells, Value.oneCell', prodE, prodZ, evE, nsE, evZ]; done) | (rw [Array.all_eq_true']; simp [Value.cells, Value.oneCell', prodE, prodZ, evE, nsE, evZ])) rfl ?_; intro W6 HT6)
      have H4 := Lib.hid (H2.out.turn 0 rfl HT6 (.inr HN.out) (H2.out.apart 0 rfl rfl))
      refine ⟨H4.out.tail, ?_⟩
      go_wp2_with fail
      refine ⟨H4.out.tail, ?_⟩
      exact ⟨g7, g5, c5, H4.out, rfl⟩
  case hR =>
    intro g7 g5 c5 w5 H5
    have H5 := Lib.hid H5
    clear H1
    go_wp2_with fail
    refine (no_ok gp true 0 (.inr rfl) _).mono ?_
    rintro e w6 ⟨rfl, hw⟩
    obtain rfl := hw
    unfold unitR
    go_wp2_with fail
    refine wp_region_class (fun w' => HasO [] W _ w') [0, 1, 2, 3, 4, 5, 6, 7, 8, 9, 10, 11, 12] (by kernel_rfl) (by kernel_rfl) (H5.out.drew) ?_
    simp only [List.map_cons, List.map_nil, opAt, List.getElem?_cons_succ, List.getElem?_cons_zero, Option.getD_some]
    repeat (go_big_quiet_step ((intro _; rfl)))
    refine wpQuiet_cell 24 (.tmp 71) rfl rfl ⟨gp, 0, none⟩ rfl (.pointer (some ⟨gm, 0, none⟩)) _ (fun w hw => (hw.get 4 rfl).cell 0) Tryz.underlying24 rfl (fun KK hKK => ?_)
    go_simp
    refine hKK _ ?_
    clear hKK KK
    repeat (go_big_quiet_step ((intro _; rfl)))
    refine wpQuiet_cell 57 (.tmp 74) rfl rfl ⟨gm, 2, none⟩ rfl (.map (some ba)) _ (fun w hw => (hw.get 5 rfl).cell 2) Tryz.underlying57 rfl (fun KK hKK => ?_)
    go_simp
    refine hKK _ ?_
    clear hKK KK
    repeat (go_big_quiet_step ((intro _; rfl)))
    refine wpQuiet_cell 2 (.tmp 76) rfl rfl ⟨(W.heap.size + 1 + 1), 0, none⟩ rfl (.int .i64 10) _ (fun w hw => (hw.get 1 rfl).cell 0) Tryz.underlying2 rfl (fun KK hKK => ?_)
    go_simp
    refine hKK _ ?_
    clear hKK KK
    refine wpQuiet_lookup rfl 57 (.tmp 75) (.tmp 77) false rfl ba (.int .i64 10) (.pointer none) rfl rfl (fun w hw => look0 ba 10 w (hw.obj 6 rfl)) (fun KK hKK => ?_)
    go_simp
    refine hKK _ ?_
    clear hKK KK
    repeat (go_big_quiet_step ((intro _; rfl)))
    go_big_quiet_step ((intro hw; exact (no_b gp false 8 (.inl rfl) _).mono fun e w' h => ⟨h.1, hw.step h.2⟩))
    repeat (go_big_quiet_step ((intro _; rfl)))
    refine wpQuiet_nil ?_
    intro w7 H7
    have H7 := Lib.hid H7
    clear H5
    have c0 := (H7.out.get 4 rfl).cell 0
    have c2 := (H7.out.get 5 rfl).cell 2
    have hlen := run_len_map1 (P := Tryz.prog) Tryz.underlying57 3 ba #[] 0 w7 (H7.out.obj 6 rfl)
    simp only [acctE, planE, modE, List.getElem?_toArray, List.getElem?_cons_succ, List.getElem?_cons_zero] at c0 c2
    go_wp2_with fail
    refine (no_ok gp false 17 (.inl rfl) _).mono ?_
    rintro e w8 ⟨rfl, hw⟩
    obtain rfl := hw
    unfold unitR
    clear c0 c2 hlen
    go_wp2_with (first
      | (refine wpListG_row rfl 32 (.tmp 3) rfl W.heap.size rfl 32 (evE 2 10 1 0 0 0 0 0 0 (.slice none 0 0)) _ (H7.out.get 3 rfl) Tryz.underlying32 rfl (by first | kernel_rfl | (rw [enc_size]; kernel_rfl)) ?_)
      | (refine wpList_turn rfl 32 (.tmp 4) (.tmp 250) rfl (W.heap.size + 1) 0 (.agg (evE 2 10 1 0 0 0 0 0 0 (.slice none 0 0))) rfl rfl 32 evZ (evE 2 10 1 0 0 0 0 0 0 (.slice none 0 0)) (H7.out.get 2 rfl) (by first | kernel_rfl | (rw [enc_size]; kernel_rfl)) (by first | (simp [Value.cells]; done) | (simp [Value.cells, prodE, prodZ, evE, nsE, evZ]; done) | exact Nat.le_refl _) (by first | exact decE_all _ _ | (simp [Value.cells, Value.oneCell']; done) | (simp [Value.cells, Value.oneCell', prodE, prodZ, evE, nsE, evZ]; done) | (rw [Array.all_eq_true']; simp [Value.cells, Value.oneCell', prodE, prodZ, evE, nsE, evZ])) rfl ?_; intro W6 HT6))
    have hk := H7.out.1.trans HT6.keep (by simp)
    exact bodyPost_ret (results_row_tmp rfl _ _ (W.heap.size + 1) 32 (evE 2 10 1 0 0 0 0 0 0 (.slice none 0 0)) _ _ rfl HT6.at_ Tryz.underlying32 rfl (by kernel_rfl) rfl) rfl ⟨rfl, hk.below⟩
set_option maxHeartbeats 4000000 in
set_option maxRecDepth 100000 in
theorem lookDeposit_ok (gp gm ba ga bh gc br bk gl : Nat) (day seq b a n : Int) (hn : 1 ≤ n ∧ n ≤ 10000000000000) (hb : 0 ≤ b ∧ b ≤ 10000000000000) (hnb : n ≤ 10000000000000 - b) (run : Bool) (st : Value) (W : World)
    (h : HasO [] W [(gp, .cells (planE gm) 72), (gm, .cells (modE day gc ba br bk gl seq run st) 64), (ba, .map #[entA ga] 1), (ga, .cells (acctE b a bh) 126)] W) :
    Calls Tryz.prog 22 #[.pointer (some ⟨gp, 0, none⟩), .agg (evE 4 10 n 0 0 0 0 0 0 (.slice none 0 0))] W fun e w' => e = .returned (.tuple #[.agg (evE 4 10 n 0 0 0 0 0 0 (.slice none 0 0)), .int .i64 n]) ∧ Below W.heap.size W w' := by
  have H1 := Lib.hid (((h.new (g := W.heap.size) rfl (.cells (evE 4 10 n 0 0 0 0 0 0 (.slice none 0 0)) 32)).new (g := W.heap.size + 1) (by simp) (.cells evZ 32)).new (g := W.heap.size + 2) (by simp) (.cells (nsE 10 n 0 0 0 0 0 0) 29))
  have HLT := Lib.hid (show gp < W.heap.size ∧ gm < W.heap.size ∧ ba < W.heap.size ∧ ga < W.heap.size from ⟨obj_lt (h.obj 0 rfl), obj_lt (h.obj 1 rfl), obj_lt (h.obj 2 rfl), obj_lt (h.obj 3 rfl)⟩)
  have CM := Lib.hid (fun w => amount_ok gp n hn w)
  have CA := Lib.hid (fun w (hw : HasO [] W ((W.heap.size + 2, .cells (nsE 10 n 0 0 0 0 0 0) 29) :: (W.heap.size + 1, .cells evZ 32) :: (W.heap.size, .cells (evE 4 10 n 0 0 0 0 0 0 (.slice none 0 0)) 32) :: (gp, .cells (planE gm) 72) :: (gm, .cells (modE day gc ba br bk gl seq run st) 64) :: (ba, .map #[entA ga] 1) :: (ga, .cells (acctE b a bh) 126) :: []) w) => account_ok gp gm ba ga bh gc br bk gl day seq b a run st 1 (.inr rfl) w (HasO.re hw).tail.tail.tail)
  have CB := Lib.hid (fun w (hw : HasO [] W ((W.heap.size + 2, .cells (nsE 10 n 0 0 0 0 0 0) 29) :: (W.heap.size + 1, .cells evZ 32) :: (W.heap.size, .cells (evE 4 10 n 0 0 0 0 0 0 (.slice none 0 0)) 32) :: (gp, .cells (planE gm) 72) :: (gm, .cells (modE day gc ba br bk gl seq run st) 64) :: (ba, .map #[entA ga] 1) :: (ga, .cells (acctE b a bh) 126) :: []) w) => bears_ok gp ga bh b a n hb hnb w (hw.get 6 rfl))
  clear h hn hb hnb
  rw [evE]
  go_enter Tryz.func22, Tryz.ntmps22
  go_wp2_with fail
  refine (CM.out _).mono ?_
  rintro e w1 ⟨rfl, hw⟩
  obtain rfl := hw
  unfold unitR
  go_wp2_with fail
  refine wp_region_class (fun w' => HasO [] W _ w') [0, 1, 2, 3, 4, 5, 6, 7] (by kernel_rfl) (by kernel_rfl) (H1.out.drew) ?_
  simp only [List.map_cons, List.map_nil, opAt, List.getElem?_cons_succ, List.getElem?_cons_zero, Option.getD_some]
  repeat (go_big_quiet_step ((intro _; rfl)))
  refine wpQuiet_cell 2 (.tmp 122) rfl rfl ⟨(W.heap.size + 1 + 1), 0, none⟩ rfl (.int .i64 10) _ (fun w hw => (hw.get 0 rfl).cell 0) Tryz.underlying2 rfl (fun KK hKK => ?_)
  go_simp
  refine hKK _ ?_
  clear hKK KK
  go_big_quiet_step ((intro hw; exact (CA.out _ hw).mono fun e w' h => ⟨h.1, by rw [h.2]; exact hw⟩))
  repeat (go_big_quiet_step ((intro _; rfl)))
  refine wpQuiet_cell 2 (.tmp 125) rfl rfl ⟨(W.heap.size + 1 + 1), 1, none⟩ rfl (.int .i64 n) _ (fun w hw => (hw.get 0 rfl).cell 1) Tryz.underlying2 rfl (fun KK hKK => ?_)
  go_simp
  refine hKK _ ?_
  clear hKK KK
  go_big_quiet_step ((intro hw; exact (CB.out _ hw).mono fun e w' h => ⟨h.1, by rw [h.2]; exact hw⟩))
  repeat (go_big_quiet_step ((intro _; rfl)))
  refine wpQuiet_nil ?_
  intro w5 H5
  have H5 := Lib.hid H5
  clear H1
  go_wp2_with fail
  refine wp_region_regF (fun w' => HasO [] W ((W.heap.size + 2, .cells (nsE 10 n 0 0 0 0 0 0) 29) :: (W.heap.size + 1, .cells evZ 32) :: (W.heap.size, .cells (evE 4 10 n 0 0 0 0 0 0 (.slice none 0 0)) 32) :: (gp, .cells (planE gm) 72) :: (gm, .cells (modE day gc ba br bk gl seq run st) 64) :: (ba, .map #[entA ga] 1) :: (ga, .cells (acctE b a bh) 126) :: []) w') (fun w' => HasO [] W [(W.heap.size + 2, .cells (nsE 10 n 0 0 0 0 0 0) 29)] w') (fun _ => (0, #[])) [0, 1, 2] [] [3, 4] [1, 2] (by kernel_rfl) (by kernel_rfl) ?_ (fun w w' h hb => h.step hb) ?_ (fun k hk => by cases hk) ?_
  · exact fun w h => h.of_mem (by simp)
  · exact H5.out.drew
  simp only [List.map_cons, List.map_nil, opAt, List.getElem?_cons_succ, List.getElem?_cons_zero, Option.getD_some, List.contains_cons, List.contains_nil, Nat.reduceBEq, Bool.or_false, Bool.or_true, Bool.true_or, Bool.false_or]
  refine wpX_pure rfl ?_
  refine wpQuiet_row 32 (.tmp 3) rfl rfl W.heap.size rfl 32 (evE 4 10 n 0 0 0 0 0 0 (.slice none 0 0)) _ (fun w hw => hw.get 2 rfl) Tryz.underlying32 rfl (by first | kernel_rfl | (rw [enc_size]; kernel_rfl)) (fun KK hKK => ?_)
  go_simp
  refine hKK _ ?_
  clear hKK KK
  refine wpQuiet_nil ?_
  repeat (refine wpX_float rfl ?_; go_big_quiet_step ((intro _; rfl)); refine wpQuiet_nil ?_)
  refine wpX_float rfl ?_
  refine wpQuiet_cell 2 (.tmp 129) rfl rfl ⟨(W.heap.size + 1 + 1), 1, none⟩ rfl (.int .i64 n) _ (fun w hw => (hw.get 0 rfl).cell 1) Tryz.underlying2 rfl (fun KK hKK => ?_)
  go_simp
  refine hKK _ ?_
  clear hKK KK
  refine wpQuiet_nil ?_
  refine wpX_nil ?_
  intro gs w6 H6
  intro hmade
  simp only [putAll, wpTail, opAt, List.getElem?_cons_succ, List.getElem?_cons_zero, Option.getD_some, Act.put]
  have H6 := Lib.hid H6
  clear hmade H5
  go_wp2_with (refine wpList_turn rfl 32 (.tmp 4) (.tmp 128) rfl (W.heap.size + 1) 0 (.agg (evE 4 10 n 0 0 0 0 0 0 (.slice none 0 0))) rfl rfl 32 evZ (evE 4 10 n 0 0 0 0 0 0 (.slice none 0 0)) (H6.out.get 1 rfl) (by first | kernel_rfl | (rw [enc_size]; kernel_rfl)) (by first | (simp [Value.cells]; done) | (simp [Value.cells, prodE, prodZ, evE, nsE, evZ]; done) | exact Nat.le_refl _) (by first | exact decE_all _ _ | (simp [Value.cells, Value.oneCell']; done) | (simp [Value.cells, Value.oneCell', prodE, prodZ, evE, nsE, evZ]; done) | (rw [Array.all_eq_true']; simp [Value.cells, Value.oneCell', prodE, prodZ, evE, nsE, evZ])) rfl ?_; intro W7 HT7)
  have H7 := Lib.hid (H6.out.turn 1 rfl HT7 (.inr (by omega)) (by have := HLT.out; simp; omega))
  clear H6
  refine ⟨H7.out.of_mem (by simp), ?_⟩
  go_wp2_with fail
  refine ⟨H7.out.of_mem (by simp), ?_⟩
  go_wp2_with fail
  exact bodyPost_ret (results_row_tmp rfl _ _ (W.heap.size + 1) 32 (evE 4 10 n 0 0 0 0 0 0 (.slice none 0 0)) _ _ rfl (H7.out.obj 1 rfl) Tryz.underlying32 rfl (by kernel_rfl) rfl) rfl ⟨rfl, H7.out.below⟩
end Go.Proofs.YtlfomhdphbchpaaGreatDoor.Mo
