/- Lemmas of a claim: Map1, MoB, MoC -/
import Derived.Test.YtkdnebalpdebeaaGreatDoorG15
set_option linter.unusedVariables false
set_option linter.unusedSimpArgs false
set_option maxHeartbeats 16000000
set_option maxRecDepth 100000
namespace Go.Proofs.YtkdnebalpdebeaaGreatDoor
namespace Mp
open Go.RowKit Go.Deep
open Go.ChangeMaps (setBlock)
section
variable {P : Program}
def lookV (ok : Bool) (z : Value) : Option (Nat × Value) -> Value
 | some p => if ok then .tuple #[p.2, .bool true] else p.2
 | none => if ok then .tuple #[z, .bool false] else z
theorem run_lookup1 {T K E : TypeId} {d : TypeDesc} {z k : Value} (hT : P.underlying T = some (.map K E)) (hd : P.underlying K = some d) (hk : MapKept.IsKey d k) (hz : ∀ w, (zeroValue E).run P w = .ok z w) (b : Nat) (es : Array MapEntry) (cl : Nat)
 (r : Option (Nat × Value)) (hf : Instr.findNow d k es.toList 0 = some r) (ok : Bool) (w : World) (hm : w.heap[b]? = some (.map es cl)) :
 (Instr.lookup T (.map (some b)) k ok).run P w = .ok (lookV ok z r) w := by
 simp only [Instr.lookup, Sem.run_bind, run_underlying hT, Result.andThen, MapKept.run_getObj_map hm, MapKept.run_checkKey hd hk, Sem.run_pure, MapKept.run_findKey hd hf]
 cases r with
 | none => cases ok <;> simp [Sem.run_bind, hz, Result.andThen, lookV]
 | some p => obtain ⟨i, v⟩ := p; cases ok <;> simp [Sem.run_bind, Result.andThen, lookV]
theorem run_update1_new {T K E : TypeId} {d : TypeDesc} {k v : Value} (hT : P.underlying T = some (.map K E)) (hd : P.underlying K = some d) (hk : MapKept.IsKey d k) (b : Nat) (es : Array MapEntry) (cl : Nat)
 (hf : Instr.findNow d k es.toList 0 = some none) (w : World) (hm : w.heap[b]? = some (.map es cl)) :
 (Instr.mapUpdate T (.map (some b)) k v).run P w = .ok () (setBlock w b (.map (es.push { key := k, val := v, born := cl }) (cl + 1))) := by
 simp [Instr.mapUpdate, run_underlying hT, MapKept.run_getObj_map hm, MapKept.run_checkKey hd hk, MapKept.run_findKey hd hf, MapKept.run_setObj_map _ hm, Result.andThen, setBlock]
theorem run_update1_old {T K E : TypeId} {d : TypeDesc} {k v u : Value} (hT : P.underlying T = some (.map K E)) (hd : P.underlying K = some d) (hk : MapKept.IsKey d k) (b : Nat) (es : Array MapEntry) (cl : Nat) (i : Nat) (e : MapEntry)
 (hf : Instr.findNow d k es.toList 0 = some (some (i, u))) (he : es[i]? = some e) (hek : e.key = k) (w : World) (hm : w.heap[b]? = some (.map es cl)) :
 (Instr.mapUpdate T (.map (some b)) k v).run P w = .ok () (setBlock w b (.map (es.modify i fun e => { e with key := k, val := v }) cl)) := by
 simp [Instr.mapUpdate, run_underlying hT, MapKept.run_getObj_map hm, MapKept.run_checkKey hd hk, MapKept.run_findKey hd hf, he, hek, MapKept.run_keyThatStays hk, MapKept.run_setObj_map _ hm, Result.andThen, setBlock]
theorem run_len_map1 {T K E : TypeId} (hT : P.underlying T = some (.map K E)) (ty : TypeId) (b : Nat) (es : Array MapEntry) (cl : Nat) (w : World) (hm : w.heap[b]? = some (.map es cl)) : (Builtin.len_ #[T] ty #[.map (some b)]).run P w = .ok (.int .i64 (es.size : Nat)) w := by
 simp [Builtin.len_, run_underlying hT, Result.andThen, MapKept.run_getObj_map hm, goInt]
theorem turn_setBlock {w : World} {b : Nat} {es : Array MapEntry} {cl : Nat} {o : Obj} (hm : w.heap[b]? = some (.map es cl)) : Turn w b o (setBlock w b o) :=
 Turn.of_map (setBlock_same (obj_lt hm)) (fun g hg => setBlock_other hg) (fun B w0 hB hb => setBlock_below hb hB) setBlock_size
section
variable {ops : Array Oper} {rest : List Oper} {o : Oper} {a : Act} {w : World} {Q : Exit -> Act -> World -> Prop}
theorem wpList_update1 (hw : Region.wanted o (yielded ops a.tmps) = true) (T : TypeId) (m k v : Operand) (ho : o.op = .mapUpdate T m k v) (b : Nat) (key u : Value) (hm : a.eval m = .map (some b)) (hk : a.eval k = key) (hv : a.eval v = u) (es : Array MapEntry) (cl : Nat) (obj : Obj)
 (hb : w.heap[b]? = some (.map es cl)) (hr : (Instr.mapUpdate T (.map (some b)) key u).run P w = .ok () (setBlock w b obj)) (h : ∀ W2, Turn w b obj W2 -> wpList P ops Q rest (a.put o.dst undef) W2) : wpList P ops Q (o :: rest) a w :=
 wpList_wanted hw fun _ hK => by
  unfold Oper.wp execOp
  simp only [ho, hm, hk, hv, Sem.run_bind, hr, Result.andThen_ok, Sem.run_pure]
  exact hK _ _ (h _ (turn_setBlock hb))
variable {C : World -> Prop} {R : Act -> Prop}
theorem wpQuiet_lookup (hw : Region.wanted o (yielded ops a.tmps) = true) (T : TypeId) (m k : Operand) (ok : Bool) (ho : o.op = .lookup T m k ok) (b : Nat) (key v : Value) (hm : a.eval m = .map (some b)) (hk : a.eval k = key)
 (hr : ∀ w, C w -> (Instr.lookup T (.map (some b)) key ok).run P w = .ok v w) (h2 : ∀ K : Act -> Prop, (∀ a, wpQuiet P ops C R rest a -> K a) -> K (a.put o.dst v)) : wpQuiet P ops C R (o :: rest) a :=
 wpQuiet_val v hw (fun w hw' => by unfold execOp; simp only [ho, hm, hk, Sem.run_bind, hr w hw', Result.andThen_ok, Sem.run_pure]) h2
end
end
end Mp
namespace Mo
open Go.RowKit Go.Deep Wide Dec Mp Pr Ch
theorem HasO.re {S : List Nat} {W w : World} {fs : List (Nat × Obj)} (h : HasO S W fs w) : HasO [] w fs w := ⟨Keep.refl _ _, h.2⟩
theorem HasO.fresh {S : List Nat} {W w : World} {fs : List (Nat × Obj)} (h : HasO S W fs w) : ∀ f ∈ fs, f.1 ≠ w.heap.size := fun f hf => Nat.ne_of_lt (obj_lt (h.2 f hf))
def planE (gm : Nat) : Array Value := #[.pointer (some ⟨gm, 0, none⟩), .int .i64 0]
def acctE (b a : Int) (bh : Nat) : Array Value := #[.int .i64 10, .int .i64 1, .int .i64 0, .int .i64 1, .bool true, .int .i64 b, .int .i64 0, .int .i64 a, .map (some bh)]
def entA (ga : Nat) : MapEntry := { key := .int .i64 10, val := .pointer (some ⟨ga, 0, none⟩), born := 0 }
def unitR : Ending := .returned (.tuple #[])
theorem no_ok (gp : Nat) (so : Bool) (x : Int) (h : so = false ∨ x = 0) (W : World) : Calls Tryz.prog 57 #[.pointer (some ⟨gp, 0, none⟩), .bool so, .int .i64 x] W fun e w' => e = unitR /\ w' = W := by
 cases so with
 | false =>
   clear h
   go_enter Tryz.func57, Tryz.ntmps57
   go_wp2_with fail
   go_end0
   exact ⟨rfl, rfl⟩
 | true =>
   obtain rfl : x = 0 := by simpa using h
   clear h
   go_enter Tryz.func57, Tryz.ntmps57
   go_wp2_with fail
   go_end0
   exact ⟨rfl, rfl⟩
theorem no_b (gp : Nat) (so : Bool) (x : Int) (h : so = false ∨ x = 0) (W : World) : Calls Tryz.prog 57 #[.pointer (some ⟨gp, 0, none⟩), .bool so, .int .i64 x] W fun e w' => e = .returned (.tuple #[]) /\ Below W.heap.size W w' :=
 (no_ok gp so x h W).mono fun _ _ ⟨h1, h2⟩ => ⟨h1, by rw [h2]; exact Below.refl _ _⟩
theorem number_ok (gp : Nat) (n : Int) (h : 1 <= n /\ n <= 1000000000) (W : World) : Calls Tryz.prog 60 #[.pointer (some ⟨gp, 0, none⟩), .int .i64 n] W fun e w' => e = unitR /\ w' = W := by
 have h1 : decide (n < 1) = false := by simp; omega
 have h2 : decide (1000000000 < n) = false := by simp; omega
 clear h
 go_enter Tryz.func60, Tryz.ntmps60
 go_wp2_with fail
 refine (no_ok gp false 1 (.inl rfl) _).mono ?_
 rintro e w1 ⟨rfl, rfl⟩
 unfold unitR
 go_wp2_with fail
 go_end0
 exact ⟨rfl, rfl⟩
theorem amount_ok (gp : Nat) (n : Int) (h : 1 <= n /\ n <= 10000000000000) (W : World) : Calls Tryz.prog 63 #[.pointer (some ⟨gp, 0, none⟩), .int .i64 n] W fun e w' => e = unitR /\ w' = W := by
 have h1 : decide (n < 1) = false := by simp; omega
 have h2 : decide (10000000000000 < n) = false := by simp; omega
 clear h
 go_enter Tryz.func63, Tryz.ntmps63
 go_wp2_with fail
 refine (no_ok gp false 1 (.inl rfl) _).mono ?_
 rintro e w1 ⟨rfl, rfl⟩
 unfold unitR
 go_wp2_with fail
 go_end0
 exact ⟨rfl, rfl⟩
theorem bears_ok (gp ga bh : Nat) (b a n : Int) (hb : 0 <= b /\ b <= 10000000000000) (h : n <= 10000000000000 - b) (W : World) (hg : Blk W ga 112 (acctE b a bh)) :
 Calls Tryz.prog 64 #[.pointer (some ⟨gp, 0, none⟩), .pointer (some ⟨ga, 0, none⟩), .int .i64 n] W fun e w' => e = unitR /\ w' = W := by
 obtain ⟨b1, b2⟩ := hb
 have c5 := hg.cell 5
 have h1 : decide (10000000000000 - b < n) = false := by simp; omega
 simp only [acctE, List.getElem?_toArray, List.getElem?_cons_succ, List.getElem?_cons_zero] at c5
 clear h hg
 go_enter Tryz.func64, Tryz.ntmps64
 go_wp2_with fail
 refine (no_ok gp false 4 (.inl rfl) _).mono ?_
 rintro e w1 ⟨rfl, rfl⟩
 unfold unitR
 go_wp2_with fail
 go_end0
 exact ⟨rfl, rfl⟩
theorem look10 (ga ba : Nat) (w : World) (h : w.heap[ba]? = some (.map #[entA ga] 1)) : (Instr.lookup 75 (.map (some ba)) (.int .i64 10) false).run Tryz.prog w = .ok (.pointer (some ⟨ga, 0, none⟩)) w :=
 run_lookup1 (P := Tryz.prog) (d := .int .i64) (z := .pointer none) Tryz.underlying75 (by kernel_rfl) (show MapKept.IsKey (.int .i64) (.int .i64 10) from rfl) (fun w => by first | exact Tryz.zeroValue109 w | exact Tryz.zeroValue109 _) ba #[entA ga] 1 (some (0, .pointer (some ⟨ga, 0, none⟩))) rfl false w h
theorem account_ok (gp gm ba ga bh gc br bk gl : Nat) (day seq b a : Int) (run : Bool) (st : Value) (k : Int) (hk : k = 0 ∨ k = 1) (W : World)
 (h : HasO [] W [(gp, .cells (planE gm) 88), (gm, .cells (modE day gc ba br bk gl seq run st) 82), (ba, .map #[entA ga] 1), (ga, .cells (acctE b a bh) 112)] W) :
 Calls Tryz.prog 62 #[.pointer (some ⟨gp, 0, none⟩), .int .i64 10, .int .i64 k] W fun e w' => e = .returned (.pointer (some ⟨ga, 0, none⟩)) /\ w' = W := by
 have c0 := (h.get 0 rfl).cell 0
 have c1 := (h.get 1 rfl).cell 2
 have hlk := look10 ga ba W (h.obj 2 rfl)
 have c4 := (h.get 3 rfl).cell 4
 have c3 := (h.get 3 rfl).cell 3
 simp only [acctE, planE, modE, List.getElem?_toArray, List.getElem?_cons_succ, List.getElem?_cons_zero] at c0 c1 c4 c3
 clear h
 rcases hk with rfl | rfl
 all_goals
  go_enter Tryz.func62, Tryz.ntmps62
  go_wp2_with fail
  refine (no_ok gp false 14 (.inl rfl) _).mono ?_
  rintro e w1 ⟨rfl, hw⟩
  obtain rfl := hw
  unfold unitR
  go_wp2_with fail
  refine (no_ok gp false 11 (.inl rfl) _).mono ?_
  rintro e w1 ⟨rfl, hw⟩
  obtain rfl := hw
  unfold unitR
  go_wp2_with fail
  exact bodyPost_ret (results_one rfl _ _ rfl) rfl ⟨rfl, rfl⟩
end Mo
namespace Mo
open Go.RowKit Go.Deep Wide Dec Mp Pr Ch
def nsE (n0 n1 n2 n3 n4 n5 n6 n7 : Int) : Array Value := #[.int .i64 n0, .int .i64 n1, .int .i64 n2, .int .i64 n3, .int .i64 n4, .int .i64 n5, .int .i64 n6, .int .i64 n7]
def evZ : Array Value := evE 0 0 0 0 0 0 0 0 0 (.slice none 0 0)
theorem lookProduct_ok (q : Qd) (gp gm ba gc bc br bk gl : Nat) (day seq : Int) (run : Bool) (st : Value) (g c : Nat) (W : World) (hs : TS q.rate W (.slice (some ⟨g, 0, none⟩) 1 c))
 (h : HasO [] W ((gp, .cells (planE gm) 88) :: (gm, .cells (modE day gc ba br bk gl seq run st) 82) :: cat0 gc bc) W) :
 Calls Tryz.prog 26 #[.pointer (some ⟨gp, 0, none⟩), .agg (evE 1 1 1 0 1 q.how q.mo 0 q.lim (.slice (some ⟨g, 0, none⟩) 1 c))] W fun e w' => e = .returned (.tuple #[.agg (evE 1 1 1 0 1 q.how q.mo 0 q.lim (.slice (some ⟨g, 0, none⟩) 1 c)), .int .i64 0]) /\ Below W.heap.size W w' := by
 have CA := Hd (fun w (hb : HasO [] w ((gm, .cells (modE day gc ba br bk gl seq run st) 82) :: cat0 gc bc) w) (hs : TS q.rate w (.slice (some ⟨g, 0, none⟩) 1 c)) => adds0_ok q (.slice (some ⟨g, 0, none⟩) 1 c) gm gc bc _ w hb rfl hs)
 have CV := Hd (fun W' => version_ok q g c W')
 have H1 := Hd (((h.new (g := W.heap.size) rfl (.cells (evE 1 1 1 0 1 q.how q.mo 0 q.lim (.slice (some ⟨g, 0, none⟩) 1 c)) 34)).new (g := W.heap.size + 1) (by simp) (.cells evZ 34)).new (g := W.heap.size + 2) (by simp) (.cells (nsE 1 1 0 1 q.how q.mo 0 q.lim) 29))
 have HS := Hd hs
 clear h hs
 unfold evZ evE nsE at H1
 rw [evE]
 go_enter Tryz.func26, Tryz.ntmps26
 go_wp2_with fail
 refine wp_region_class (fun w' => HasO [] W _ w') [0, 1, 2, 3, 4, 5, 6, 7, 8] (by kernel_rfl) (by kernel_rfl) (H1.o.drew) ?_
 simp only [List.map_cons, List.map_nil, opAt, List.getElem?_cons_succ, List.getElem?_cons_zero, Option.getD_some]
 repeat (go_big_quiet_step ((intro _; rfl)))
 refine wpQuiet_cell 25 (.tmp 33) rfl rfl ⟨gp, 0, none⟩ rfl (.pointer (some ⟨gm, 0, none⟩)) _ (fun w hw => (hw.get 3 rfl).cell 0) Tryz.underlying25 rfl (fun K1 k1 => ?_)
 go_simp
 refine k1 _ ?_
 clear k1 K1
 refine wpQuiet_row 34 (.tmp 3) rfl rfl W.heap.size rfl 34 (evE 1 1 1 0 1 q.how q.mo 0 q.lim (.slice (some ⟨g, 0, none⟩) 1 c)) _ (fun w hw => hw.get 2 rfl) Tryz.underlying34 rfl (by kernel_rfl) (fun K1 k1 => ?_)
 go_simp
 refine k1 _ ?_
 clear k1 K1
 go_big_quiet_step ((intro hw; exact (CV.o _).mono fun e w' h => ⟨h.1, hw.step h.2⟩))
 go_big_quiet_step ((intro hw; exact (CA.o _ (HasO.re hw).tail.tail.tail.tail (HS.o.step hw.below)).mono fun e w' h => ⟨h.1, hw.step h.2⟩))
 go_big_quiet_step ((intro hw; exact (no_b gp true 0 (.inr rfl) _).mono fun e w' h => ⟨h.1, hw.step h.2⟩))
 repeat (go_big_quiet_step ((intro _; rfl)))
 refine wpQuiet_nil ?_
 intro w5 H5
 have H5 := Hd H5
 clear H1
 go_wp2_with (first
  | (refine wpListG_row rfl 34 (.tmp 3) rfl W.heap.size rfl 34 (evE 1 1 1 0 1 q.how q.mo 0 q.lim (.slice (some ⟨g, 0, none⟩) 1 c)) _ (H5.o.get 2 rfl) Tryz.underlying34 rfl (by kernel_rfl) ?_)
  | (refine wpList_turn rfl 34 (.tmp 4) (.tmp 250) rfl (W.heap.size + 1) 0 (.agg (evE 1 1 1 0 1 q.how q.mo 0 q.lim (.slice (some ⟨g, 0, none⟩) 1 c))) rfl rfl 34 evZ (evE 1 1 1 0 1 q.how q.mo 0 q.lim (.slice (some ⟨g, 0, none⟩) 1 c)) (H5.o.get 1 rfl) (by kernel_rfl) (by simp [Value.cells, prodQ, prodZ, evE, nsE, evZ]) (by simp [Value.cells, Value.oneCell', prodQ, prodZ, evE, nsE, evZ]) rfl ?_; intro W6 HT6))
 have hk := H5.o.1.trans HT6.keep (by simp)
 exact bodyPost_ret (results_row_tmp rfl _ _ (W.heap.size + 1) 34 (evE 1 1 1 0 1 q.how q.mo 0 q.lim (.slice (some ⟨g, 0, none⟩) 1 c)) _ _ rfl HT6.at_ Tryz.underlying34 rfl (by kernel_rfl) rfl) rfl ⟨rfl, hk.below⟩
theorem cat1_keep {q : Qd} {gc : Nat} {w w' : World} {S : List Nat} (h : CatQ q gc w) (hk : Keep S w w') (h1 : gc ∉ S) (h2 : ∀ k ∈ S, ∀ cur, w.heap[k]? ≠ some (.cells cur 153)) (h3 : ∀ k ∈ S, ∀ cur, w.heap[k]? ≠ some (.cells cur 31)) : CatQ q gc w' := by
 obtain ⟨gL, cap, cur, s, m, hg, hL, hp, hs⟩ := h
 exact ⟨gL, cap, cur, s, m, by rw [hk.block gc (obj_lt hg) h1]; exact hg, by rw [hk.block gL (obj_lt hL) (fun hb => h2 gL hb _ hL)]; exact hL, hp, hs.keep hk h3⟩
theorem cat1_step {q : Qd} {gc : Nat} {w w' : World} (h : CatQ q gc w) (hb : Below w.heap.size w w') : CatQ q gc w' := cat1_keep (S := []) h (Keep.of_below hb) (by simp) (by simp) (by simp)
theorem look0 (ba : Nat) (n : Int) (w : World) (h : w.heap[ba]? = some (.map #[] 0)) : (Instr.lookup 75 (.map (some ba)) (.int .i64 n) false).run Tryz.prog w = .ok (.pointer none) w :=
 run_lookup1 (P := Tryz.prog) (d := .int .i64) (z := .pointer none) Tryz.underlying75 (by kernel_rfl) (show MapKept.IsKey (.int .i64) (.int .i64 n) from rfl) (fun w => by first | exact Tryz.zeroValue109 w | exact Tryz.zeroValue109 _) ba #[] 0 none rfl false w h
theorem lookOpen_ok (q : Qd) (gp gm ba gc br bk gl : Nat) (day seq : Int) (hd : 1 <= day /\ day <= 3652059) (run : Bool) (st : Value) (W : World) (hc : CatQ q gc W)
 (h : HasO [] W [(gp, .cells (planE gm) 88), (gm, .cells (modE day gc ba br bk gl seq run st) 82), (ba, .map #[] 0)] W) :
 Calls Tryz.prog 26 #[.pointer (some ⟨gp, 0, none⟩), .agg (evE 2 10 1 0 0 0 0 0 0 (.slice none 0 0))] W fun e w' => e = .returned (.tuple #[.agg (evE 2 10 1 0 0 0 0 0 0 (.slice none 0 0)), .int .i64 0]) /\ Below W.heap.size W w' := by
 have CA := Hd (fun w (hb : Below W.heap.size W w) => atQ_ok q gc day hd w (cat1_step hc hb))
 have H1 := Hd (((h.new (g := W.heap.size) rfl (.cells (evE 2 10 1 0 0 0 0 0 0 (.slice none 0 0)) 34)).new (g := W.heap.size + 1) (by simp) (.cells evZ 34)).new (g := W.heap.size + 2) (by simp) (.cells (nsE 10 1 0 0 0 0 0 0) 29))
 clear h hc hd
 rw [evE]
 go_enter Tryz.func26, Tryz.ntmps26
 go_wp2_with fail
 refine (number_ok gp 10 (by omega) _).mono ?_
 rintro e w1 ⟨rfl, hw⟩
 obtain rfl := hw
 unfold unitR
 go_wp2_with fail
 apply wp_region_cut3 (fun w' => HasO [] W ((W.heap.size + 2, .cells (nsE 10 1 0 0 0 0 0 0) 29) :: (W.heap.size + 1, .cells evZ 34) :: (W.heap.size, .cells (evE 2 10 1 0 0 0 0 0 0 (.slice none 0 0)) 34) :: (gp, .cells (planE gm) 88) :: (gm, .cells (modE day gc ba br bk gl seq run st) 82) :: (ba, .map #[] 0) :: []) w') (fun g7 g5 c5 w' => HasO [] W ((g7, .cells (prodQ q (.slice (some ⟨g5, 0, none⟩) 1 c5)) 153) :: ((W.heap.size + 2, .cells (nsE 10 1 0 0 0 0 0 0) 29) :: (W.heap.size + 1, .cells evZ 34) :: (W.heap.size, .cells (evE 2 10 1 0 0 0 0 0 0 (.slice none 0 0)) 34) :: (gp, .cells (planE gm) 88) :: (gm, .cells (modE day gc ba br bk gl seq run st) 82) :: (ba, .map #[] 0) :: [])) w') _ (.seg [0, 1, 2, 3, 4, 5, 6, 7, 8, 9, 10, 11, 12, 13, 14, 15] (.fork 16 (.seg [17, 18, 19] (.turn 20 (.turn 21 (.turn 22 .nil)))) 20 (.turn 16 (.seg [17, 18, 19] (.turn 21 (.turn 22 .nil)))))) (by kernel_rfl) (by kernel_rfl) H1.o.drew
 case h =>
  simp only [wpPlan, List.map_cons, List.map_nil, opAt, List.getElem?_cons_succ, List.getElem?_cons_zero, Option.getD_some]
  repeat (go_big_quiet_step ((intro _; rfl)))
  refine wpQuiet_cell 25 (.tmp 48) rfl rfl ⟨gp, 0, none⟩ rfl (.pointer (some ⟨gm, 0, none⟩)) _ (fun w hw => (hw.get 3 rfl).cell 0) Tryz.underlying25 rfl (fun K1 k1 => ?_)
  go_simp
  refine k1 _ ?_
  clear k1 K1
  repeat (go_big_quiet_step ((intro _; rfl)))
  refine wpQuiet_cell 73 (.tmp 51) rfl rfl ⟨gm, 1, none⟩ rfl (.pointer (some ⟨gc, 0, none⟩)) _ (fun w hw => (hw.get 4 rfl).cell 1) Tryz.underlying73 rfl (fun K1 k1 => ?_)
  go_simp
  refine k1 _ ?_
  clear k1 K1
  repeat (go_big_quiet_step ((intro _; rfl)))
  refine wpQuiet_cell 2 (.tmp 53) rfl rfl ⟨(W.heap.size + 1 + 1), 1, none⟩ rfl (.int .i64 1) _ (fun w hw => (hw.get 0 rfl).cell 1) Tryz.underlying2 rfl (fun K1 k1 => ?_)
  go_simp
  refine k1 _ ?_
  clear k1 K1
  repeat (go_big_quiet_step ((intro _; rfl)))
  refine wpQuiet_cell 25 (.tmp 57) rfl rfl ⟨gp, 0, none⟩ rfl (.pointer (some ⟨gm, 0, none⟩)) _ (fun w hw => (hw.get 3 rfl).cell 0) Tryz.underlying25 rfl (fun K1 k1 => ?_)
  go_simp
  refine k1 _ ?_
  clear k1 K1
  repeat (go_big_quiet_step ((intro _; rfl)))
  refine wpQuiet_cell 3 (.tmp 60) rfl rfl ⟨gm, 0, none⟩ rfl (.int .i64 day) _ (fun w hw => (hw.get 4 rfl).cell 0) Tryz.underlying3 rfl (fun K1 k1 => ?_)
  go_simp
  refine k1 _ ?_
  clear k1 K1
  refine wpQuiet_nil ?_
  have HD := Hd H1.o.drew
  refine ⟨?_, ?_⟩
  . go_wp2_with fail
    refine (CA.o _ HD.o.below).mono ?_
    rintro e w1 ⟨⟨s', rfl, g5, c5, cu5, rfl, _⟩, hb1⟩
    have H2 := Hd (HD.o.step hb1)
    clear hb1 HD
    go_wp2_with fail
    refine ⟨H2.o, ?_⟩
    repeat (go_big_quiet_step ((intro _; rfl)))
    refine wpQuiet_nil ?_
    go_wp2_with fail
    obtain ⟨g7, hg7⟩ : ∃ g7, g7 = w1.heap.size := ⟨_, rfl⟩
    have H3 := Hd (H2.o.new hg7 (.cells prodZ 153))
    have HN := Hd (H2.o.size)
    rw [<- hg7] at HN
    rw [<- hg7]
    refine ⟨H3.o.tail, ?_⟩
    clear hg7 H2
    go_wp2_with (refine wpList_turn rfl 153 (.tmp 7) (.tmp 63) rfl g7 0 (.agg (prodQ q (.slice (some ⟨g5, 0, none⟩) 1 c5))) rfl rfl 153 prodZ (prodQ q (.slice (some ⟨g5, 0, none⟩) 1 c5)) (H3.o.get 0 rfl) (by kernel_rfl) (by simp [Value.cells, prodQ, prodZ, evE, nsE, evZ]) (by simp [Value.cells, Value.oneCell', prodQ, prodZ, evE, nsE, evZ]) rfl ?_; intro W6 HT6)
    have H4 := Hd (H3.o.turn 0 rfl HT6 (.inr HN.o) (H3.o.apart 0 rfl rfl))
    refine ⟨H4.o.tail, ?_⟩
    go_wp2_with fail
    refine ⟨H4.o.tail, ?_⟩
    exact ⟨g7, g5, c5, H4.o, rfl⟩
  . go_wp2_with fail
    obtain ⟨g7, hg7⟩ : ∃ g7, g7 = W.heap.size + 3 := ⟨_, rfl⟩
    have H3 : Hi (HasO [] W ((g7, .cells prodZ 153) :: ((W.heap.size + 2, .cells (nsE 10 1 0 0 0 0 0 0) 29) :: (W.heap.size + 1, .cells evZ 34) :: (W.heap.size, .cells (evE 2 10 1 0 0 0 0 0 0 (.slice none 0 0)) 34) :: (gp, .cells (planE gm) 88) :: (gm, .cells (modE day gc ba br bk gl seq run st) 82) :: (ba, .map #[] 0) :: [])) _) := Hd ((H1.o.new (by rw [hg7]; simp) (.cells prodZ 153)).drew)
    have HN : Hi (W.heap.size <= g7) := Hd (by omega)
    refine ⟨H3.o.tail, ?_⟩
    have HG := Hd hg7
    clear hg7 HD
    go_wp2_with fail
    refine (CA.o _ H3.o.below).mono ?_
    rintro e w1 ⟨⟨s', rfl, g5, c5, cu5, rfl, _⟩, hb1⟩
    have H2 := Hd (H3.o.step hb1)
    clear hb1 H3
    go_wp2_with fail
    refine ⟨H2.o.tail, ?_⟩
    repeat (go_big_quiet_step ((intro _; rfl)))
    refine wpQuiet_nil ?_
    rw [show W.heap.size + 1 + 1 + 1 = g7 from HG.o.symm]
    go_wp2_with (refine wpList_turn rfl 153 (.tmp 7) (.tmp 63) rfl g7 0 (.agg (prodQ q (.slice (some ⟨g5, 0, none⟩) 1 c5))) rfl rfl 153 prodZ (prodQ q (.slice (some ⟨g5, 0, none⟩) 1 c5)) (H2.o.get 0 rfl) (by kernel_rfl) (by simp [Value.cells, prodQ, prodZ, evE, nsE, evZ]) (by simp [Value.cells, Value.oneCell', prodQ, prodZ, evE, nsE, evZ]) rfl ?_; intro W6 HT6)
    have H4 := Hd (H2.o.turn 0 rfl HT6 (.inr HN.o) (H2.o.apart 0 rfl rfl))
    refine ⟨H4.o.tail, ?_⟩
    go_wp2_with fail
    refine ⟨H4.o.tail, ?_⟩
    exact ⟨g7, g5, c5, H4.o, rfl⟩
 case hR =>
  intro g7 g5 c5 w5 H5
  have H5 := Hd H5
  clear H1
  go_wp2_with fail
  refine (no_ok gp true 0 (.inr rfl) _).mono ?_
  rintro e w6 ⟨rfl, hw⟩
  obtain rfl := hw
  unfold unitR
  go_wp2_with fail
  refine wp_region_class (fun w' => HasO [] W _ w') [0, 1, 2, 3, 4, 5, 6, 7, 8, 9, 10, 11, 12] (by kernel_rfl) (by kernel_rfl) (H5.o.drew) ?_
  simp only [List.map_cons, List.map_nil, opAt, List.getElem?_cons_succ, List.getElem?_cons_zero, Option.getD_some]
  repeat (go_big_quiet_step ((intro _; rfl)))
  refine wpQuiet_cell 25 (.tmp 71) rfl rfl ⟨gp, 0, none⟩ rfl (.pointer (some ⟨gm, 0, none⟩)) _ (fun w hw => (hw.get 4 rfl).cell 0) Tryz.underlying25 rfl (fun K1 k1 => ?_)
  go_simp
  refine k1 _ ?_
  clear k1 K1
  repeat (go_big_quiet_step ((intro _; rfl)))
  refine wpQuiet_cell 75 (.tmp 74) rfl rfl ⟨gm, 2, none⟩ rfl (.map (some ba)) _ (fun w hw => (hw.get 5 rfl).cell 2) Tryz.underlying75 rfl (fun K1 k1 => ?_)
  go_simp
  refine k1 _ ?_
  clear k1 K1
  repeat (go_big_quiet_step ((intro _; rfl)))
  refine wpQuiet_cell 2 (.tmp 76) rfl rfl ⟨(W.heap.size + 1 + 1), 0, none⟩ rfl (.int .i64 10) _ (fun w hw => (hw.get 1 rfl).cell 0) Tryz.underlying2 rfl (fun K1 k1 => ?_)
  go_simp
  refine k1 _ ?_
  clear k1 K1
  refine wpQuiet_lookup rfl 75 (.tmp 75) (.tmp 77) false rfl ba (.int .i64 10) (.pointer none) rfl rfl (fun w hw => look0 ba 10 w (hw.obj 6 rfl)) (fun K1 k1 => ?_)
  go_simp
  refine k1 _ ?_
  clear k1 K1
  repeat (go_big_quiet_step ((intro _; rfl)))
  go_big_quiet_step ((intro hw; exact (no_b gp false 8 (.inl rfl) _).mono fun e w' h => ⟨h.1, hw.step h.2⟩))
  repeat (go_big_quiet_step ((intro _; rfl)))
  refine wpQuiet_nil ?_
  intro w7 H7
  have H7 := Hd H7
  clear H5
  have c0 := (H7.o.get 4 rfl).cell 0
  have c2 := (H7.o.get 5 rfl).cell 2
  have hlen := run_len_map1 (P := Tryz.prog) Tryz.underlying75 3 ba #[] 0 w7 (H7.o.obj 6 rfl)
  simp only [acctE, planE, modE, List.getElem?_toArray, List.getElem?_cons_succ, List.getElem?_cons_zero] at c0 c2
  go_wp2_with fail
  refine (no_ok gp false 17 (.inl rfl) _).mono ?_
  rintro e w8 ⟨rfl, hw⟩
  obtain rfl := hw
  unfold unitR
  clear c0 c2 hlen
  go_wp2_with (first
   | (refine wpListG_row rfl 34 (.tmp 3) rfl W.heap.size rfl 34 (evE 2 10 1 0 0 0 0 0 0 (.slice none 0 0)) _ (H7.o.get 3 rfl) Tryz.underlying34 rfl (by kernel_rfl) ?_)
   | (refine wpList_turn rfl 34 (.tmp 4) (.tmp 250) rfl (W.heap.size + 1) 0 (.agg (evE 2 10 1 0 0 0 0 0 0 (.slice none 0 0))) rfl rfl 34 evZ (evE 2 10 1 0 0 0 0 0 0 (.slice none 0 0)) (H7.o.get 2 rfl) (by kernel_rfl) (by simp [Value.cells, prodQ, prodZ, evE, nsE, evZ]) (by simp [Value.cells, Value.oneCell', prodQ, prodZ, evE, nsE, evZ]) rfl ?_; intro W6 HT6))
  have hk := H7.o.1.trans HT6.keep (by simp)
  exact bodyPost_ret (results_row_tmp rfl _ _ (W.heap.size + 1) 34 (evE 2 10 1 0 0 0 0 0 0 (.slice none 0 0)) _ _ rfl HT6.at_ Tryz.underlying34 rfl (by kernel_rfl) rfl) rfl ⟨rfl, hk.below⟩
theorem lookDeposit_ok (gp gm ba ga bh gc br bk gl : Nat) (day seq b a n : Int) (hn : 1 <= n /\ n <= 10000000000000) (hb : 0 <= b /\ b <= 10000000000000) (hnb : n <= 10000000000000 - b) (run : Bool) (st : Value) (W : World)
 (h : HasO [] W [(gp, .cells (planE gm) 88), (gm, .cells (modE day gc ba br bk gl seq run st) 82), (ba, .map #[entA ga] 1), (ga, .cells (acctE b a bh) 112)] W) :
 Calls Tryz.prog 26 #[.pointer (some ⟨gp, 0, none⟩), .agg (evE 4 10 n 0 0 0 0 0 0 (.slice none 0 0))] W fun e w' => e = .returned (.tuple #[.agg (evE 4 10 n 0 0 0 0 0 0 (.slice none 0 0)), .int .i64 n]) /\ Below W.heap.size W w' := by
 have H1 := Hd (((h.new (g := W.heap.size) rfl (.cells (evE 4 10 n 0 0 0 0 0 0 (.slice none 0 0)) 34)).new (g := W.heap.size + 1) (by simp) (.cells evZ 34)).new (g := W.heap.size + 2) (by simp) (.cells (nsE 10 n 0 0 0 0 0 0) 29))
 have HLT := Hd (show gp < W.heap.size /\ gm < W.heap.size /\ ba < W.heap.size /\ ga < W.heap.size from ⟨obj_lt (h.obj 0 rfl), obj_lt (h.obj 1 rfl), obj_lt (h.obj 2 rfl), obj_lt (h.obj 3 rfl)⟩)
 have CM := Hd (fun w => amount_ok gp n hn w)
 have CA := Hd (fun w (hw : HasO [] W ((W.heap.size + 2, .cells (nsE 10 n 0 0 0 0 0 0) 29) :: (W.heap.size + 1, .cells evZ 34) :: (W.heap.size, .cells (evE 4 10 n 0 0 0 0 0 0 (.slice none 0 0)) 34) :: (gp, .cells (planE gm) 88) :: (gm, .cells (modE day gc ba br bk gl seq run st) 82) :: (ba, .map #[entA ga] 1) :: (ga, .cells (acctE b a bh) 112) :: []) w) => account_ok gp gm ba ga bh gc br bk gl day seq b a run st 1 (.inr rfl) w (HasO.re hw).tail.tail.tail)
 have CB := Hd (fun w (hw : HasO [] W ((W.heap.size + 2, .cells (nsE 10 n 0 0 0 0 0 0) 29) :: (W.heap.size + 1, .cells evZ 34) :: (W.heap.size, .cells (evE 4 10 n 0 0 0 0 0 0 (.slice none 0 0)) 34) :: (gp, .cells (planE gm) 88) :: (gm, .cells (modE day gc ba br bk gl seq run st) 82) :: (ba, .map #[entA ga] 1) :: (ga, .cells (acctE b a bh) 112) :: []) w) => bears_ok gp ga bh b a n hb hnb w (hw.get 6 rfl))
 clear h hn hb hnb
 rw [evE]
 go_enter Tryz.func26, Tryz.ntmps26
 go_wp2_with fail
 refine (CM.o _).mono ?_
 rintro e w1 ⟨rfl, hw⟩
 obtain rfl := hw
 unfold unitR
 go_wp2_with fail
 refine wp_region_class (fun w' => HasO [] W _ w') [0, 1, 2, 3, 4, 5, 6, 7] (by kernel_rfl) (by kernel_rfl) (H1.o.drew) ?_
 simp only [List.map_cons, List.map_nil, opAt, List.getElem?_cons_succ, List.getElem?_cons_zero, Option.getD_some]
 repeat (go_big_quiet_step ((intro _; rfl)))
 refine wpQuiet_cell 2 (.tmp 122) rfl rfl ⟨(W.heap.size + 1 + 1), 0, none⟩ rfl (.int .i64 10) _ (fun w hw => (hw.get 0 rfl).cell 0) Tryz.underlying2 rfl (fun K1 k1 => ?_)
 go_simp
 refine k1 _ ?_
 clear k1 K1
 go_big_quiet_step ((intro hw; exact (CA.o _ hw).mono fun e w' h => ⟨h.1, by rw [h.2]; exact hw⟩))
 repeat (go_big_quiet_step ((intro _; rfl)))
 refine wpQuiet_cell 2 (.tmp 125) rfl rfl ⟨(W.heap.size + 1 + 1), 1, none⟩ rfl (.int .i64 n) _ (fun w hw => (hw.get 0 rfl).cell 1) Tryz.underlying2 rfl (fun K1 k1 => ?_)
 go_simp
 refine k1 _ ?_
 clear k1 K1
 go_big_quiet_step ((intro hw; exact (CB.o _ hw).mono fun e w' h => ⟨h.1, by rw [h.2]; exact hw⟩))
 repeat (go_big_quiet_step ((intro _; rfl)))
 refine wpQuiet_nil ?_
 intro w5 H5
 have H5 := Hd H5
 clear H1
 go_wp2_with fail
 refine wp_region_regF (fun w' => HasO [] W ((W.heap.size + 2, .cells (nsE 10 n 0 0 0 0 0 0) 29) :: (W.heap.size + 1, .cells evZ 34) :: (W.heap.size, .cells (evE 4 10 n 0 0 0 0 0 0 (.slice none 0 0)) 34) :: (gp, .cells (planE gm) 88) :: (gm, .cells (modE day gc ba br bk gl seq run st) 82) :: (ba, .map #[entA ga] 1) :: (ga, .cells (acctE b a bh) 112) :: []) w') (fun w' => HasO [] W [(W.heap.size + 2, .cells (nsE 10 n 0 0 0 0 0 0) 29)] w') (fun _ => (0, #[])) [0, 1, 2] [] [3, 4] [1, 2] (by kernel_rfl) (by kernel_rfl) ?_ (fun w w' h hb => h.step hb) ?_ (fun k hk => by cases hk) ?_
 . exact fun w h => h.of_mem (by simp)
 . exact H5.o.drew
 simp only [List.map_cons, List.map_nil, opAt, List.getElem?_cons_succ, List.getElem?_cons_zero, Option.getD_some, List.contains_cons, List.contains_nil, Nat.reduceBEq, Bool.or_false, Bool.or_true, Bool.true_or, Bool.false_or]
 refine wpX_pure rfl ?_
 refine wpQuiet_row 34 (.tmp 3) rfl rfl W.heap.size rfl 34 (evE 4 10 n 0 0 0 0 0 0 (.slice none 0 0)) _ (fun w hw => hw.get 2 rfl) Tryz.underlying34 rfl (by kernel_rfl) (fun K1 k1 => ?_)
 go_simp
 refine k1 _ ?_
 clear k1 K1
 refine wpQuiet_nil ?_
 repeat (refine wpX_float rfl ?_; go_big_quiet_step ((intro _; rfl)); refine wpQuiet_nil ?_)
 refine wpX_float rfl ?_
 refine wpQuiet_cell 2 (.tmp 129) rfl rfl ⟨(W.heap.size + 1 + 1), 1, none⟩ rfl (.int .i64 n) _ (fun w hw => (hw.get 0 rfl).cell 1) Tryz.underlying2 rfl (fun K1 k1 => ?_)
 go_simp
 refine k1 _ ?_
 clear k1 K1
 refine wpQuiet_nil ?_
 refine wpX_nil ?_
 intro gs w6 H6
 intro hmade
 simp only [putAll, wpTail, opAt, List.getElem?_cons_succ, List.getElem?_cons_zero, Option.getD_some, Act.put]
 have H6 := Hd H6
 clear hmade H5
 go_wp2_with (refine wpList_turn rfl 34 (.tmp 4) (.tmp 128) rfl (W.heap.size + 1) 0 (.agg (evE 4 10 n 0 0 0 0 0 0 (.slice none 0 0))) rfl rfl 34 evZ (evE 4 10 n 0 0 0 0 0 0 (.slice none 0 0)) (H6.o.get 1 rfl) (by kernel_rfl) (by simp [Value.cells, prodQ, prodZ, evE, nsE, evZ]) (by simp [Value.cells, Value.oneCell', prodQ, prodZ, evE, nsE, evZ]) rfl ?_; intro W7 HT7)
 have H7 := Hd (H6.o.turn 1 rfl HT7 (.inr (by omega)) (by have := HLT.o; simp; omega))
 clear H6
 refine ⟨H7.o.of_mem (by simp), ?_⟩
 go_wp2_with fail
 refine ⟨H7.o.of_mem (by simp), ?_⟩
 go_wp2_with fail
 exact bodyPost_ret (results_row_tmp rfl _ _ (W.heap.size + 1) 34 (evE 4 10 n 0 0 0 0 0 0 (.slice none 0 0)) _ _ rfl (H7.o.obj 1 rfl) Tryz.underlying34 rfl (by kernel_rfl) rfl) rfl ⟨rfl, H7.o.below⟩
end Mo
end Go.Proofs.YtkdnebalpdebeaaGreatDoor
