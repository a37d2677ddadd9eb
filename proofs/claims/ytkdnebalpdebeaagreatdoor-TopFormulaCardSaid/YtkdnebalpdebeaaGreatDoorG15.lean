/- Lemmas of a claim: Rng, PrD, MoA -/
import Derived.Test.YtkdnebalpdebeaaGreatDoorG14
set_option linter.unusedVariables false
set_option linter.unusedSimpArgs false
set_option maxHeartbeats 16000000
set_option maxRecDepth 100000
namespace Go.Proofs.YtkdnebalpdebeaaGreatDoor
section
open Go.RowKit Go.Deep Go.Shelf
theorem HasO.ownFrom {S : List Nat} {W0 W W' : World} {fs : List (Nat × Obj)} {B : Nat} {row : Option Nat} (h : HasO S W0 fs W) (hW : W0.heap.size <= B) (hc : ∀ f ∈ fs, f.1 < B ∨ f.2.isCells = true) (hg : W.grownBy W' row) (hr : ∀ (r : Nat), row = some r -> B <= r /\ ∃ o, W.heap[r]? = some o /\ o.isCells = false) : HasO S W0 fs W' := by
 refine ⟨⟨hg.os.trans h.1.os, hg.tape.trans h.1.tape, hg.output.trans h.1.output, Nat.le_trans h.1.size hg.size, fun k hk hS => ?_⟩, fun f hf => ?_⟩
 . exact (hg.block k (Nat.lt_of_lt_of_le hk h.1.size) (fun e => by have := (hr k e.symm).1; omega)).trans (h.1.block k hk hS)
 . refine (hg.block f.1 (obj_lt (h.2 f hf)) (fun e => ?_)).trans (h.2 f hf)
   obtain ⟨h1, o, ho, hc'⟩ := hr f.1 e.symm
   rcases hc f hf with h2 | h2
   . omega
   . rw [h.2 f hf] at ho; cases ho; rw [h2] at hc'; cases hc'
theorem keepsFrom_refl (B : Nat) (W : World) : KeepsFrom B W W := ⟨Nat.le_refl _, fun _ _ _ h _ => h⟩
theorem keepsFrom_tr {B : Nat} {a b c : World} (h : KeepsFrom B a b) (k : KeepsFrom B b c) : KeepsFrom B a c := ⟨Nat.le_trans h.size k.size, fun i o hi ho hc => k.same i o hi (h.same i o hi ho hc) hc⟩
theorem keepsFrom_below {B : Nat} {W W' : World} (h : Below W.heap.size W W') : KeepsFrom B W W' := ⟨h.size, fun k o _ ho _ => (h.block k (obj_lt ho)).trans ho⟩
theorem keepsFrom_turn {B : Nat} {W W' : World} {g : Nat} {o old : Obj} (h : Turn W g o W') (ho : W.heap[g]? = some old) (hc : old.isCells = true) : KeepsFrom B W W' := ⟨by rw [h.size]; exact Nat.le_refl _, fun k o' _ hk hn => by
 refine (h.far k (fun e => ?_)).trans hk
 subst e; rw [ho] at hk; cases hk; rw [hc] at hn; cases hn⟩
theorem Keep.putObj {S : List Nat} {W0 W : World} (h : Keep S W0 W) {D : Nat} (o : Obj) (hD : W0.heap.size <= D) : Keep S W0 (W.putObj D o) := by
 have hg := grownBy_putObj' W D o
 exact ⟨hg.os.trans h.os, hg.tape.trans h.tape, hg.output.trans h.output, Nat.le_trans h.size hg.size, fun k hk hS => (hg.block k (Nat.lt_of_lt_of_le hk h.size) (fun e => by cases e; omega)).trans (h.block k hk hS)⟩
end
namespace Pr
open Go.RowKit Go.Deep Go.Shelf Wide Dec Mp
attribute [local go_sem] Oper.semAt_some
theorem backward_ok (g cap : Nat) (W : World) : Calls Tryz.prog 112 #[.slice (some ⟨g, 0, none⟩) 1 cap] W fun e w' =>
 e = .returned (.func (.func 163) #[] #[.pointer (some ⟨W.heap.size, 0, none⟩)]) /\ w' = W.alloc (.cells #[.slice (some ⟨g, 0, none⟩) 1 cap] 142) := by
 go_enter Tryz.func112, Tryz.ntmps112
 go_wp2_with fail
 exact bodyPost_ret (results_one rfl _ _ rfl) rfl ⟨rfl, rfl⟩
theorem results_row_cell {P : Program} {fn : Func} {p u : Tmp} {ty ty' : TypeId} (h : fn.results = #[.cell p ty, .cell u ty']) (tmps : Array Value) (w : World) (g g' : Nat) (t t' : TypeId) (cs cs' : Array Value) (v : Value) (d d' : TypeDesc)
 (hp : tmps.getD p undef = .pointer (some ⟨g, 0, none⟩)) (hg : Blk w g t cs) (hu : P.underlying ty = some d) (hd : (match d with | .struct _ | .array _ _ => true | _ => false) = true) (hi : (P.info? ty).map (·.size) = some cs.size)
 (hp' : tmps.getD u undef = .pointer (some ⟨g', 0, none⟩)) (hg' : Blk w g' t' cs') (hv : cs'[0]? = some v) (hu' : P.underlying ty' = some d') (hd' : (match d' with | .struct _ | .array _ _ => false | _ => true) = true) :
 (results fn tmps).run P w = .ok (.tuple #[.agg cs, v]) w := by
 have hq : tmps[p]?.getD undef = .pointer (some ⟨g, 0, none⟩) := by simpa using hp
 have hq' : tmps[u]?.getD undef = .pointer (some ⟨g', 0, none⟩) := by simpa using hp'
 have hagg : (isAgg ty').run P w = .ok false w := by
  unfold isAgg
  rw [Sem.run_bind, run_underlying hu' w]
  cases d' <;> simp_all
 have hc : w.cell? ⟨g', 0, none⟩ = some v := by rw [hg'.cell, hv]
 have hl : (loadVar ty' ⟨g', 0, none⟩).run P w = .ok v w := by simp [loadVar, Sem.run_bind, hagg, hc, go_sem]
 simp [results, h, hq, hq', asAddr, run_loadVar_row w g t ty cs (0, 0) d hg hu hd hi, hl, Result.andThen]
def encB (p : Pd) (s : Value) : Unit -> Array Value := fun _ => #[.int .i64 0, .agg (prodE p s)]
theorem backward1_stops (p : Pd) (n : Nat) (Bs n₀ gL cap : Nat) (cur : Array Value) (s : Value) (w : World) (hb1 : Bs < n₀) (hb2 : gL < n₀) (hn : n₀ <= w.heap.size)
 (hB : w.heap[Bs]? = some (.cells #[.slice (some ⟨gL, 0, none⟩) 1 cap] 142)) (hL : w.heap[gL]? = some (.cells cur 153)) (hp : ∀ (j : Nat) (v : Value), (prodE p s).toList[j]? = some v -> cur[0 + j]? = some v) :
 SeqStopsK Fence.wide n Tryz.prog 163 #[.pointer (some ⟨Bs, 0, none⟩)] (encB p s) (Below n₀) (fun xs => xs = [()]) (fun pre => pre = [()]) 1 w := by
 intro l J Jx W hW hJ hJx hY h0
 have HB := Hd (show W.heap[Bs]? = _ from (hW.block Bs (by omega)).trans hB)
 have HL := Hd (show W.heap[gL]? = _ from (hW.block gL (by omega)).trans hL)
 have HP := Hd hp
 have HN := Hd (And.intro hb1 hb2)
 have HY := Hd hY
 clear hp hb1 hb2 hn hB hL hW hJ hJx hY
 refine callsIn_of_wp Tryz.func163 rfl trivial ?_ rfl
 simp only [Tryz.ntmps163, List.size_toArray, List.length_cons, List.length_nil, Nat.reduceAdd, Nat.reduceSub, Array.replicate_succ, Array.replicate_zero, List.push_toArray, List.append_toArray, List.nil_append, List.cons_append]
 gi_wp2_with (refine wpListIn_cell rfl 142 (.tmp 1) rfl Bs 0 rfl 142 _ _ rfl _ HB.o Tryz.underlying142 rfl ?_)
 gi_loopw [3] (fun i wr => (i = .int .i64 0 /\ J [] wr /\ Below n₀ W wr) ∨ (i = .int .i64 (-1) /\ J [()] wr)) (fun i _ => (intOf i + 1).toNat)
 case atStart => exact .inl ⟨rfl, h0, Below.refl _ _⟩
 case round =>
  clear h0
  rcases hrel with ⟨rfl, hJs, hk⟩ | ⟨rfl, hJs⟩
  . obtain ⟨fn, tmps, assign, body, hy, hR⟩ := HY.o [] () wr hJs (by simp)
    dsimp only [encB] at hy
    have HB2 := Hd (show wr.heap[Bs]? = _ from (hk.block Bs HN.o.1).trans HB.o)
    have HL2 := Hd (show wr.heap[gL]? = _ from (hk.block gL HN.o.2).trans HL.o)
    clear hk HY
    gi_wp2_with (first
     | refine wpListIn_cell rfl 142 (.tmp 1) rfl Bs 0 rfl 142 _ _ rfl _ HB2.o Tryz.underlying142 rfl ?_
     | refine wpListIn_part rfl 153 (.tmp 15) rfl gL 0 rfl 153 cur (prodE p s) _ HL2.o HP.o Tryz.underlying153 rfl (by kernel_rfl) ?_)
    refine ⟨fun h => (by cases h), hR.mono ?_⟩
    rintro e W3 (⟨rfl, hJ3, hk3⟩ | ⟨rfl, hJx3⟩)
    . gi_wp2
      go_roundw
      case rel => exact .inr ⟨rfl, hJ3⟩
      case measure => simp [intOf]
    . gi_wp2
      refine bodyPost_ret (results_none rfl _ _ _) rfl ?_
      exact ⟨⟨_, rfl⟩, .inr ⟨[()], rfl, hJx3⟩⟩
  . gi_wp2
    go_end0
    exact ⟨⟨_, rfl⟩, .inl ⟨_, rfl, hJs⟩⟩
theorem at1_ok (p : Pd) (hpp : p.ok) (gc : Nat) (day : Int) (hd : 1 <= day /\ day <= 3652059) (W : World) (h : Cat1 p gc W) : Calls Tryz.prog 61 #[.pointer (some ⟨gc, 0, none⟩), .int .i64 p.id, .int .i64 day] W fun e w' => (∃ s', e = .returned (.tuple #[.agg (prodE p s'), .int .i64 0]) /\ TS p.rate w' s') /\ Below W.heap.size W w' := by
 obtain ⟨gL, cap, cur, s, m, hg, hL, hp, hs⟩ := h
 have HG := Hd hg
 have HL := Hd hL
 have HP := Hd hp
 have HS := Hd hs
 obtain ⟨gt, ct, cut, rfl, _⟩ := hs
 have HD := Hd hd
 obtain ⟨hd1, hd2⟩ := hd
 clear hg hL hp
 refine callsIn_wide.1 (callsIn_of_wp_marks (n := 8) Tryz.func61 rfl trivial ?_ rfl)
 simp only [Tryz.ntmps61, List.size_toArray, List.length_cons, List.length_nil, Nat.reduceAdd, Nat.reduceSub, Array.replicate_succ, Array.replicate_zero, List.push_toArray, List.append_toArray, List.nil_append, List.cons_append]
 refine wpIn_wide.2 ?_
 have HW4 : Hi (HasO [] W [(W.heap.size + 3, .cells #[.int .i64 0] 26), (W.heap.size + 2, .cells prodZ 153), (W.heap.size + 1, .cells #[.int .i64 day] 3), (W.heap.size, .cells #[.int .i64 p.id] 2), (gc, _), (gL, _)] ((((W.alloc (Obj.cells #[Value.int IntKind.i64 p.id] 2)).alloc (Obj.cells #[Value.int IntKind.i64 day] 3)).alloc (Obj.cells prodZ 153)).alloc (Obj.cells #[Value.int IntKind.i64 0] 26))) :=
  Hd (((((HasO.cons HG.o (HasO.cons HL.o (HasO.start [] W))).new rfl _).new (by simp) _).new (by simp) _).new (by simp) _)
 have HGB := Hd (HW4.o.get 4 rfl)
 go_wp2_with (refine wpListG_cell rfl 142 (.tmp 22) rfl gc 0 rfl 144 _ _ rfl _ HGB.o Tryz.underlying142 rfl ?_)
 clear HGB
 refine (backward_ok gL cap _).mono ?_
 rintro e W5 ⟨rfl, hW5⟩
 have H5 : Hi (HasO [] W ((W.heap.size + 4, .cells #[.slice (some ⟨gL, 0, none⟩) 1 cap] 142) :: _) W5) := Hd (by rw [hW5]; exact HW4.o.new (by simp) _)
 have hz5 : W5.heap.size = W.heap.size + 5 := by rw [hW5]; simp
 have hz4 : ((((W.alloc (Obj.cells #[Value.int IntKind.i64 p.id] 2)).alloc (Obj.cells #[Value.int IntKind.i64 day] 3)).alloc (Obj.cells prodZ 153)).alloc (Obj.cells #[Value.int IntKind.i64 0] 26)).heap.size = W.heap.size + 4 := by simp
 unfold prodZ at hz4
 rw [hz4]
 have HZ := Hd hz5
 clear hW5 hz4 hz5 HW4
 go_wp2_with fail
 refine (wpIn_wide (n := 8)).1 ?_
 have hgcW := Hd (obj_lt HG.o)
 have hgLW := Hd (obj_lt HL.o)
 refine wpIn_rangeFunc_ownH (α := Unit) rfl (by omega) (gf := 163) (lb := #[.pointer (some ⟨W.heap.size + 4, 0, none⟩)]) rfl trivial (enters_of Tryz.func163 (by kernel_rfl) rfl)
  (backward1_stops p _ (W.heap.size + 4) W5.heap.size gL cap cur (.slice (some ⟨gt, 0, none⟩) 1 ct) W5 (by rw [HZ.o]; omega) (by rw [HZ.o]; have := hgLW.o; omega) (Nat.le_refl _) (H5.o.obj 0 rfl) (H5.o.obj 6 rfl) HP.o) belowK_t (belowK_b (Nat.le_refl _)) (Below.refl _ _) (fun _ => rfl)
  (fun pre W' => (pre = [] /\ W.heap.size + 5 <= W'.heap.size) /\ HasO [] W [(W.heap.size + 3, .cells #[.int .i64 0] 26), (W.heap.size + 2, .cells prodZ 153), (W.heap.size + 1, .cells #[.int .i64 day] 3), (W.heap.size, .cells #[.int .i64 p.id] 2)] W')
  (fun c pre W' => c = .ret /\ ∃ s', HasO [] W [(W.heap.size + 2, .cells (prodE p s') 153), (W.heap.size + 3, .cells #[.int .i64 0] 26)] W' /\ TS p.rate W' s')
  (fun pre X X' row h hg hr => ⟨⟨h.1.1, Nat.le_trans h.1.2 hg.size⟩, h.2.ownFrom (by rw [HZ.o]; omega) (by simp [Obj.isCells]) hg hr⟩)
  (fun c pre X X' row h hg hr => by
    obtain ⟨h1, s', h2, g, c', cu, hs', hgT, h4⟩ := h
    refine ⟨h1, s', h2.ownFrom (by rw [HZ.o]; omega) (by simp [Obj.isCells]) hg hr, g, c', cu, hs', ?_, h4⟩
    refine (hg.block g (obj_lt hgT) (fun e => ?_)).trans hgT
    obtain ⟨_, o, ho, hc⟩ := hr g e.symm
    rw [hgT] at ho; cases ho; cases hc)
  ⟨⟨rfl, by rw [HZ.o]; exact Nat.le_refl _⟩, H5.o.of_mem (by simp)⟩
  (fun x a' W' => ∃ g9, W'.heap[g9]? = some (.cells (prodE p (.slice (some ⟨gt, 0, none⟩) 1 ct)) 153) /\ W.heap.size + 5 <= g9 /\ a' = { tmps := #[.pointer (some ⟨gc, 0, none⟩), .int .i64 p.id, .int .i64 day, undef, .pointer (some ⟨W.heap.size, 0, none⟩), .pointer (some ⟨W.heap.size + 1, 0, none⟩), .pointer (some ⟨W.heap.size + 1 + 1, 0, none⟩), .pointer (some ⟨W.heap.size + 1 + 1 + 1, 0, none⟩), undef, .pointer (some ⟨g9, 0, none⟩), .int .i64 day, .bool (decide (day < 1)), .bool (decide (day < 1)), .int .i64 day, .bool (decide (3652059 < day)), .bool (decide (day < 1) || decide (3652059 < day)), undef, .pointer (some ⟨gc, 0, none⟩), .bool false, undef, .pointer (some ⟨gc, 0, none⟩), .pointer (some ⟨gc, 0, none⟩), .pointer (some ⟨gc, 0, none⟩), .slice (some ⟨gL, 0, none⟩) 1 cap, .func (.func 163) #[] #[.pointer (some ⟨W.heap.size + 4, 0, none⟩)], .int .i64 0, .agg (prodE p (.slice (some ⟨gt, 0, none⟩) 1 ct)), undef, undef, undef, undef, undef, undef, undef, undef, undef, undef, undef, undef, undef], defers := [] })
  (fun x a' pre X X' row h hg hr => by
    obtain ⟨g9, h1, h2⟩ := h
    refine ⟨g9, ?_, h2⟩
    refine (hg.block g9 (obj_lt h1) (fun e => ?_)).trans h1
    obtain ⟨_, o, ho, hc⟩ := hr g9 e.symm
    rw [h1] at ho; cases ho; cases hc) ?assign ?body ?done ?stop
 case assign =>
  rintro l pre x X K ⟨⟨hpre, hz⟩, hi⟩ hK
  unfold prodE at hK
  dsimp only [encB, prodE]
  gi_wp2
  exact hK _ _ (keepsFrom_below (Below.al (Below.refl _ _) _)) ((Below.refl _ X).alloc (by rw [HZ.o]; exact hz) _) ⟨⟨hpre, by simp; omega⟩, hi.alloc _⟩ ⟨X.heap.size, heap_alloc_new X _, hz, rfl⟩
 case body =>
  rintro l pre x a' X hl ⟨r, hr⟩ ⟨⟨rfl, hz⟩, hi⟩ ⟨g9, h9, hg9, rfl⟩ hlt
  have HI := Hd (HasO.cons h9 hi)
  have HX := Hd (HS.o)
  gi_wp2_with (first
   | (refine wpListIn_cell rfl 2 (.tmp 27) rfl g9 0 rfl 153 _ (.int .i64 p.id) rfl _ (HI.o.get 0 rfl) Tryz.underlying2 rfl ?_)
   | (refine wpListIn_cell rfl 2 (.tmp 4) rfl W.heap.size 0 rfl 2 _ (.int .i64 p.id) rfl _ (HI.o.get 4 rfl) Tryz.underlying2 rfl ?_)
   | (refine wpListIn_cell rfl 3 (.tmp 32) rfl g9 3 rfl 153 _ (.int .i64 1) rfl _ (HI.o.get 0 rfl) Tryz.underlying3 rfl ?_)
   | (refine wpListIn_cell rfl 3 (.tmp 5) rfl (W.heap.size + 1) 0 rfl 3 _ (.int .i64 day) rfl _ (HI.o.get 3 rfl) Tryz.underlying3 rfl ?_)
   | (refine wpListIn_row rfl 153 (.tmp 9) rfl g9 rfl 153 _ _ (HI.o.get 0 rfl) Tryz.underlying153 rfl (by kernel_rfl) ?_))
  refine ⟨trivial, (CallsIn.inRound l (callsIn_wide.2 (copied_ok p _ _ (HS.o.step HI.o.tail.below)))).mono ?_⟩
  rintro e X2 ⟨⟨s', rfl, hs'⟩, hb2⟩
  have HS2 := Hd hs'
  obtain ⟨g5, c5, cu5, rfl, _⟩ := hs'
  have H2 := Hd (HI.o.tail.step hb2)
  have HK2 : Hi (KeepsFrom W5.heap.size X X2) := Hd (keepsFrom_below hb2)
  clear hb2 HI
  gi_wp2_with (first
   | (refine wpListIn_turn rfl 153 (.tmp 6) (.tmp 38) rfl (W.heap.size + 2) 0 (.agg (prodE p (.slice (some ⟨g5, 0, none⟩) 1 c5))) rfl rfl 153 prodZ (prodE p (.slice (some ⟨g5, 0, none⟩) 1 c5)) (H2.o.get 1 rfl) (by kernel_rfl) (Nat.le_refl _) (by simp [Value.cells, Value.oneCell', prodE]) rfl ?_
      intro W6 HT6)
   | (refine wpListIn_turn rfl 26 (.tmp 7) (.const (.int .i64 0)) rfl (W.heap.size + 3) 0 (.int .i64 0) rfl rfl 26 #[.int .i64 0] #[.int .i64 0] ((HT6.far _ (by omega)).trans (H2.o.get 0 rfl)) (by kernel_rfl) (Nat.le_refl _) (by simp [Value.cells, Value.oneCell']) rfl ?_
      intro W7 HT7))
  have K7 : KeepsFrom W5.heap.size X W7 := keepsFrom_tr HK2.o (keepsFrom_tr (keepsFrom_turn HT6 (H2.o.get 1 rfl) rfl) (keepsFrom_turn HT7 ((HT6.far _ (by omega)).trans (H2.o.get 0 rfl)) rfl))
  have k7 : Keep [W.heap.size + 2, W.heap.size + 3] X2 W7 := (HT6.keep.mono (T := [W.heap.size + 2, W.heap.size + 3]) (by simp)).trans HT7.keep (by simp)
  refine ⟨K7, rfl, .slice (some ⟨g5, 0, none⟩) 1 c5, HasO.cons ((HT7.far _ (by omega)).trans HT6.at_) (HasO.cons HT7.at_ (HasO.nil (H2.o.1.trans k7 (by simp)))), HS2.o.keep k7 ?_⟩
  intro k hk cur hc
  simp only [List.mem_cons, List.not_mem_nil, or_false] at hk
  rcases hk with rfl | rfl
  . rw [H2.o.obj 1 rfl] at hc; cases hc
  . rw [H2.o.obj 0 rfl] at hc; cases hc
 case done =>
  rintro D xs X hD rfl ⟨⟨h1, _⟩, _⟩
  cases h1
 case stop =>
  rintro D c pre X hD hpre ⟨rfl, s', hi, hs'⟩ hK
  gi_wp2
  refine ⟨by simp, .inl ⟨_, _, rfl, run_takeDeferred hK, ?_⟩⟩
  have hDW : W.heap.size <= D := by have := HZ.o; omega
  have hX : ∀ (k : Nat) (o : Obj), X.heap[k]? = some o -> o.isCells = true -> (X.putObj D (.deferred none)).heap[k]? = some o := fun k o hk hc => by
   refine ((grownBy_putObj' X D (.deferred none)).block k (obj_lt hk) (fun e => ?_)).trans hk
   cases e; rw [hK] at hk; cases hk; cases hc
  obtain ⟨g5, c5, cu5, hse, hg5, h5⟩ := hs'
  exact ⟨_, results_row_cell rfl _ _ (W.heap.size + 2) (W.heap.size + 3) 153 26 (prodE p s') #[.int .i64 0] (.int .i64 0) _ _ rfl (hX _ _ (hi.obj 0 rfl) rfl) Tryz.underlying153 rfl (by kernel_rfl) rfl (hX _ _ (hi.obj 1 rfl) rfl) rfl Tryz.underlying26 rfl,
   ⟨s', rfl, g5, c5, cu5, hse, hX _ _ hg5 rfl, h5⟩, (hi.1.putObj _ hDW).below⟩
end Pr
namespace Mo
open Go.RowKit Go.Deep Wide Dec Mp Pr Ch
theorem list0_ok (gc ba : Nat) (W : World) (h : HasO [] W (cat0 gc ba) W) : Calls Tryz.prog 111 #[.pointer (some ⟨gc, 0, none⟩)] W fun e w' => e = .returned (.slice none 0 0) /\ w' = W := by
 have HG := Hd (h.get 0 rfl)
 clear h
 go_enter Tryz.func111, Tryz.ntmps111
 go_wp2_with (refine wpListG_cell rfl 142 (.tmp 10) rfl gc 0 rfl 144 #[.slice none 0 0, .map (some ba)] (.slice none 0 0) rfl _ HG.o Tryz.underlying142 rfl ?_)
 go_loopw [3, 13] (fun x i wr => x = .slice none 0 0 /\ i = .int .i64 0 /\ wr = W) (fun _ _ _ => 0)
 case atStart => exact ⟨rfl, rfl, rfl⟩
 case round =>
  obtain ⟨rfl, rfl, hwr⟩ := hrel
  obtain rfl := hwr
  go_wp2_with fail
  exact bodyPost_ret (results_one rfl _ _ rfl) rfl ⟨rfl, rfl⟩
theorem small_ok (n : Int) (hn : 0 <= n /\ n <= 1000) (W : World) : Calls Tryz.prog 67 #[.int .i64 n] W fun e w' => e = .returned (.int .i64 n) /\ Below W.heap.size W w' := by
 obtain ⟨h1, h2⟩ := hn
 go_enter Tryz.func67, Tryz.ntmps67
 go_wp2_with fail
 refine bodyPost_ret (results_one rfl _ _ rfl) rfl ⟨?_, Below.refl _ _⟩
 have : max (min n 2147483648) (-2147483648) = n := by omega
 rw [this]; rfl
theorem chartNew_ok (W : World) : Calls Tryz.prog 23 #[] W fun e w' => e = .returned (.pointer (some ⟨W.heap.size + 1, 0, none⟩)) /\ w' = (W.alloc (.map #[] 0)).alloc (.cells #[.map (some W.heap.size), .int .i64 0] 147) := by
 have hmm : (Instr.makeMap 145 none).run Tryz.prog W = .ok (.map (some W.heap.size)) (W.alloc (.map #[] 0)) := run_makeMap _ W
 go_enter Tryz.func23, Tryz.ntmps23
 go_wp2_with fail
 exact bodyPost_ret (results_one rfl _ _ rfl) rfl ⟨rfl, rfl⟩
def modE (day : Int) (gc ba br bk gl : Nat) (seq : Int) (run : Bool) (st : Value) : Array Value := #[.int .i64 day, .pointer (some ⟨gc, 0, none⟩), .map (some ba), .map (some br), .map (some bk), .pointer (some ⟨gl, 0, none⟩), .int .i64 seq, .bool run, st]
theorem modelNew_ok (day : Int) (hd : 1 <= day /\ day <= 3652059) (W : World) : Calls Tryz.prog 5 #[.int .i64 day] W fun e w' => e = .returned (.tuple #[.pointer (some ⟨W.heap.size + 7, 0, none⟩), .int .i64 0]) /\
 w' = (((((((W.alloc (.map #[] 0)).alloc (.cells #[.slice none 0 0, .map (some W.heap.size)] 144)).alloc (.map #[] 0)).alloc (.map #[] 0)).alloc (.map #[] 0)).alloc (.map #[] 0)).alloc (.cells #[.map (some (W.heap.size + 5)), .int .i64 0] 147)).alloc
  (.cells (modE day (W.heap.size + 1) (W.heap.size + 2) (W.heap.size + 3) (W.heap.size + 4) (W.heap.size + 6) 0 false (.slice none 0 0)) 82) := by
 obtain ⟨h1, h2⟩ := hd
 have hmm := fun w : World => (run_makeMap (P := Tryz.prog) 75 w)
 have hmm2 := fun w : World => (run_makeMap (P := Tryz.prog) 76 w)
 have hmm3 := fun w : World => (run_makeMap (P := Tryz.prog) 77 w)
 go_enter Tryz.func5, Tryz.ntmps5
 go_wp2_with fail
 refine (prodNew_ok _).mono ?_
 rintro e w1 ⟨rfl, hw⟩
 obtain rfl := hw
 go_wp2_with fail
 refine (chartNew_ok _).mono ?_
 rintro e w2 ⟨rfl, hw⟩
 obtain rfl := hw
 go_wp2_with fail
 refine bodyPost_ret (results_two rfl _ _ rfl rfl) rfl ⟨?_, ?_⟩
 . simp
 . simp [modE]
structure Qd where
 how : Int
 mo : Int
 lim : Int
 rate : Int
 ok : (⟨1, 1, how, mo, 0, lim, rate⟩ : Pd).ok
def Qd.pd (q : Qd) : Pd := ⟨1, 1, q.how, q.mo, 0, q.lim, q.rate⟩
def prodQ (q : Qd) (s : Value) : Array Value := #[.int .i64 1, .int .i64 1, .int .i64 0, .int .i64 1, .int .i64 q.how, .int .i64 q.mo, .int .i64 0, .int .i64 q.lim, s]
def CatQ (q : Qd) (gc : Nat) (w : World) : Prop := ∃ (gL cap : Nat) (cur : Array Value) (s m : Value), w.heap[gc]? = some (.cells #[.slice (some ⟨gL, 0, none⟩) 1 cap, m] 144) /\ w.heap[gL]? = some (.cells cur 153) /\ (∀ (j : Nat) (v : Value), (prodQ q s).toList[j]? = some v -> cur[0 + j]? = some v) /\ TS q.rate w s
theorem addQ_ok (q : Qd) (s : Value) (gc ba : Nat) (W : World) (h : HasO [] W (cat0 gc ba) W) (hs : TS q.rate W s) : Calls Tryz.prog 70 #[.pointer (some ⟨gc, 0, none⟩), .agg (prodQ q s)] W fun e w' => e = .returned (.int .i64 0) /\ Keep [gc, ba] W w' /\ CatQ q gc w' := add1_ok q.pd q.ok s gc ba W h hs
theorem atQ_ok (q : Qd) (gc : Nat) (day : Int) (hd : 1 <= day /\ day <= 3652059) (W : World) (h : CatQ q gc W) : Calls Tryz.prog 61 #[.pointer (some ⟨gc, 0, none⟩), .int .i64 1, .int .i64 day] W fun e w' => (∃ s', e = .returned (.tuple #[.agg (prodQ q s'), .int .i64 0]) /\ TS q.rate w' s') /\ Below W.heap.size W w' := at1_ok q.pd q.ok gc day hd W h
theorem adds0_ok (q : Qd) (s : Value) (gm gc ba : Nat) (cm : Array Value) (W : World) (h : HasO [] W ((gm, .cells cm 82) :: cat0 gc ba) W) (hm : cm[1]? = some (.pointer (some ⟨gc, 0, none⟩))) (hs : TS q.rate W s) :
 Calls Tryz.prog 58 #[.pointer (some ⟨gm, 0, none⟩), .agg (prodQ q s)] W fun e w' => e = .returned (.int .i64 0) /\ Below W.heap.size W w' := by
 have CL := Hd (fun w (hb : HasO [] W (cat0 gc ba) w) => list0_ok gc ba w ⟨Keep.refl _ _, hb.2⟩)
 have CA := Hd (fun w (g b : Nat) (hb : HasO [] w (cat0 g b) w) (hs : TS q.rate w s) => addQ_ok q s g b w hb hs)
 have H := Hd h
 have HS := Hd hs
 have HM := Hd hm
 clear h hs hm
 unfold prodQ at CA ⊢
 unfold cat0 at H CL CA
 go_enter Tryz.func58, Tryz.ntmps58
 go_wp2_with fail
 refine (prodNew_ok _).mono ?_
 rintro e w1 ⟨rfl, hw⟩
 have H1 : Hi (HasO [] W ((W.heap.size + 1 + 1, .cells #[.slice none 0 0, .map (some (W.heap.size + 1))] 144) :: (W.heap.size + 1, .map #[] 0) :: (W.heap.size, .cells (prodQ q s) 153) :: _) w1) := Hd (by
  rw [hw]; simp only [World.size_alloc]; exact ((H.o.new (g := W.heap.size) rfl _).new (g := W.heap.size + 1) (by simp) _).new (g := W.heap.size + 1 + 1) (by simp) _)
 have hsz : Hi (w1.heap.size = W.heap.size + 3) := Hd (by rw [hw]; simp)
 clear hw H
 simp only [World.size_alloc]
 go_wp2_with (refine wpListG_cell rfl 73 (.tmp 11) rfl gm 1 rfl 82 cm _ HM.o _ (H1.o.get 3 rfl) Tryz.underlying73 rfl ?_)
 refine (CL.o _ (H1.o.of_mem (by simp))).mono ?_
 rintro e w2 ⟨rfl, hw⟩
 obtain rfl := hw
 clear CL
 go_wp2_with fail
 go_loopw [15] (fun i wr => i = .int .i64 0 /\ wr = w2) (fun _ _ => 0)
 case atStart => exact ⟨rfl, rfl⟩
 case round =>
  obtain ⟨rfl, hwr⟩ := hrel
  obtain rfl := hwr
  go_wp2_with (refine wpListG_row rfl 153 (.tmp 3) rfl W.heap.size rfl 153 (prodQ q s) _ (H1.o.get 2 rfl) Tryz.underlying153 rfl (by kernel_rfl) ?_)
  refine (CA.o _ (W.heap.size + 1 + 1) (W.heap.size + 1) ⟨Keep.refl _ _, fun f hf => ?_⟩ (HS.o.step H1.o.below)).mono ?_
  . simp only [List.mem_cons, List.not_mem_nil, or_false] at hf
    rcases hf with rfl | rfl
    . exact H1.o.obj 0 rfl
    . exact H1.o.obj 1 rfl
  rintro e w3 ⟨rfl, hk3, _⟩
  have hb := H1.o.1.trans hk3 (by simp; omega)
  go_wp2_with fail
  exact bodyPost_ret (results_one rfl _ _ rfl) rfl ⟨rfl, hb.below⟩
def evE (op n0 n1 n2 n3 n4 n5 n6 n7 : Int) (s : Value) : Array Value := #[.int .u8 op, .int .u64 0, .int .i64 n0, .int .i64 n1, .int .i64 n2, .int .i64 n3, .int .i64 n4, .int .i64 n5, .int .i64 n6, .int .i64 n7, s]
theorem version_ok (q : Qd) (g c : Nat) (W : World) : Calls Tryz.prog 59 #[.agg (evE 1 1 1 0 1 q.how q.mo 0 q.lim (.slice (some ⟨g, 0, none⟩) 1 c))] W fun e w' => e = .returned (.agg (prodQ q (.slice (some ⟨g, 0, none⟩) 1 c))) /\ Below W.heap.size W w' := by
 have hq1 : 0 <= q.how /\ q.how <= 3 := by have := q.ok.how; simp only [] at this; omega
 have hq2 : 0 <= q.mo /\ q.mo <= 6 := q.ok.mo
 have H1 : Hi (HasO [] W [(W.heap.size + 1, .cells prodZ 153), (W.heap.size, .cells (evE 1 1 1 0 1 q.how q.mo 0 q.lim (.slice (some ⟨g, 0, none⟩) 1 c)) 34)] ((W.alloc (.cells (evE 1 1 1 0 1 q.how q.mo 0 q.lim (.slice (some ⟨g, 0, none⟩) 1 c)) 34)).alloc (.cells prodZ 153))) := Hd (((HasO.start [] W).new rfl _).new (by simp) _)
 have CS : ∀ (n : Int) (w : World), 0 <= n /\ n <= 1000 -> Calls Tryz.prog 67 #[.int .i64 n] w fun e w' => e = .returned (.int .i64 n) /\ Below w.heap.size w w' := fun n w h => small_ok n h w
 unfold evE prodZ at H1
 unfold evE
 go_enter Tryz.func59, Tryz.ntmps59
 go_wp2_with fail
 obtain ⟨g1, hg1⟩ : ∃ g1, g1 = W.heap.size := ⟨_, rfl⟩
 rw [<- hg1] at H1 ⊢
 have HG1 := Hd hg1
 clear hg1
 refine wp_region_classZ (fun w' => HasO [] W [(g1 + 1, .cells prodZ 153), (g1, .cells (evE 1 1 1 0 1 q.how q.mo 0 q.lim (.slice (some ⟨g, 0, none⟩) 1 c)) 34)] w') [0, 1, 2, 3, 4, 5, 6, 7, 8, 9, 10, 11, 12, 13, 14, 15, 16, 17, 18, 19, 20, 21, 22, 23, 24, 25, 26, 27, 28, 29, 30, 31] 32 (by kernel_rfl) (by kernel_rfl) H1.o.drew ?_
 simp only [List.map_cons, List.map_nil, opAt, List.getElem?_cons_succ, List.getElem?_cons_zero, Option.getD_some]
 repeat (go_big_quiet_step ((intro _; rfl)))
 refine wpQuiet_cell 2 (.tmp 4) rfl rfl ⟨g1, 2, none⟩ rfl (.int .i64 1) _ (fun w hw => (hw.get 1 rfl).cell 2) Tryz.underlying2 rfl (fun K1 k1 => ?_)
 go_simp
 refine k1 _ ?_
 clear k1 K1
 repeat (go_big_quiet_step ((intro _; rfl)))
 refine wpQuiet_cell 2 (.tmp 7) rfl rfl ⟨g1, 3, none⟩ rfl (.int .i64 1) _ (fun w hw => (hw.get 1 rfl).cell 3) Tryz.underlying2 rfl (fun K1 k1 => ?_)
 go_simp
 refine k1 _ ?_
 clear k1 K1
 go_big_quiet_step ((intro hw; exact (CS 1 _ (by omega)).mono fun e w' h => ⟨h.1, hw.step h.2⟩))
 repeat (go_big_quiet_step ((intro _; rfl)))
 refine wpQuiet_cell 2 (.tmp 11) rfl rfl ⟨g1, 4, none⟩ rfl (.int .i64 0) _ (fun w hw => (hw.get 1 rfl).cell 4) Tryz.underlying2 rfl (fun K1 k1 => ?_)
 go_simp
 refine k1 _ ?_
 clear k1 K1
 go_big_quiet_step ((intro hw; exact (CS 0 _ (by omega)).mono fun e w' h => ⟨h.1, hw.step h.2⟩))
 repeat (go_big_quiet_step ((intro _; rfl)))
 refine wpQuiet_cell 2 (.tmp 15) rfl rfl ⟨g1, 5, none⟩ rfl (.int .i64 1) _ (fun w hw => (hw.get 1 rfl).cell 5) Tryz.underlying2 rfl (fun K1 k1 => ?_)
 go_simp
 refine k1 _ ?_
 clear k1 K1
 go_big_quiet_step ((intro hw; exact (CS 1 _ (by omega)).mono fun e w' h => ⟨h.1, hw.step h.2⟩))
 repeat (go_big_quiet_step ((intro _; rfl)))
 refine wpQuiet_cell 2 (.tmp 19) rfl rfl ⟨g1, 6, none⟩ rfl (.int .i64 q.how) _ (fun w hw => (hw.get 1 rfl).cell 6) Tryz.underlying2 rfl (fun K1 k1 => ?_)
 go_simp
 refine k1 _ ?_
 clear k1 K1
 go_big_quiet_step ((intro hw; exact (CS q.how _ (by omega)).mono fun e w' h => ⟨h.1, hw.step h.2⟩))
 repeat (go_big_quiet_step ((intro _; rfl)))
 refine wpQuiet_cell 2 (.tmp 23) rfl rfl ⟨g1, 7, none⟩ rfl (.int .i64 q.mo) _ (fun w hw => (hw.get 1 rfl).cell 7) Tryz.underlying2 rfl (fun K1 k1 => ?_)
 go_simp
 refine k1 _ ?_
 clear k1 K1
 go_big_quiet_step ((intro hw; exact (CS q.mo _ (by omega)).mono fun e w' h => ⟨h.1, hw.step h.2⟩))
 repeat (go_big_quiet_step ((intro _; rfl)))
 refine wpQuiet_cell 2 (.tmp 27) rfl rfl ⟨g1, 8, none⟩ rfl (.int .i64 0) _ (fun w hw => (hw.get 1 rfl).cell 8) Tryz.underlying2 rfl (fun K1 k1 => ?_)
 go_simp
 refine k1 _ ?_
 clear k1 K1
 repeat (go_big_quiet_step ((intro _; rfl)))
 refine wpQuiet_cell 2 (.tmp 30) rfl rfl ⟨g1, 9, none⟩ rfl (.int .i64 q.lim) _ (fun w hw => (hw.get 1 rfl).cell 9) Tryz.underlying2 rfl (fun K1 k1 => ?_)
 go_simp
 refine k1 _ ?_
 clear k1 K1
 repeat (go_big_quiet_step ((intro _; rfl)))
 refine wpQuiet_cell 32 (.tmp 32) rfl rfl ⟨g1, 10, none⟩ rfl (.slice (some ⟨g, 0, none⟩) 1 c) _ (fun w hw => (hw.get 1 rfl).cell 10) Tryz.underlying32 rfl (fun K1 k1 => ?_)
 go_simp
 refine k1 _ ?_
 clear k1 K1
 repeat (go_big_quiet_step ((intro _; rfl)))
 refine wpQuiet_nil ?_
 intro w5 H5
 have H5 := Hd H5
 clear H1
 go_wp2_with (refine wpList_turn rfl 153 (.tmp 2) (.tmp 34) rfl (g1 + 1) 0 (.agg (prodQ q (.slice (some ⟨g, 0, none⟩) 1 c))) rfl rfl 153 prodZ (prodQ q (.slice (some ⟨g, 0, none⟩) 1 c)) (H5.o.get 0 rfl) (by kernel_rfl) (by simp [Value.cells, prodQ, prodZ]) (by simp [Value.cells, Value.oneCell', prodQ, prodZ]) rfl ?_; intro W6 HT6)
 rw [onlyNormal_normal]
 go_wp2_with fail
 have hk := H5.o.1.trans HT6.keep (by simp [HG1.o])
 exact bodyPost_ret (results_cell_row rfl _ _ (g1 + 1) 153 (prodQ q (.slice (some ⟨g, 0, none⟩) 1 c)) (0, 0) _ rfl HT6.at_ Tryz.underlying153 rfl (by kernel_rfl)) rfl ⟨rfl, hk.below⟩
end Mo
end Go.Proofs.YtkdnebalpdebeaaGreatDoor
