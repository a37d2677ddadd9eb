/- Lemmas of a claim: MoI, MoJ, Iter -/
import Derived.Test.YtkdnebalpdebeaaGreatDoorG22
import Derived.Shelf.SlIterI.Nil
import Derived.Shelf.SlIter.Nil
import Derived.Shelf.SortM.Plain
import Derived.Shelf.SortM.SortNone
import Derived.Ground.GgzProg
import Derived.Ground.SlgmProg
set_option linter.unusedVariables false
set_option linter.unusedSimpArgs false
set_option maxHeartbeats 16000000
set_option maxRecDepth 100000
namespace Go.Proofs.YtkdnebalpdebeaaGreatDoor
namespace Mo
open Go.RowKit Go.Deep Wide Dec Mp Pr Ch
def stepB (k b a n : Int) : Int := if k = 1 then b else if k = 2 then b + n else b - n
def stepA (k b a n : Int) : Int := if k = 1 then a + n else if k = 2 then Acc.payY a (10000000000000 - b) else a
def stepF (f : Int -> Int) (k n : Int) : Int -> Int := if k = 1 then f else if k = 2 then mvF f 4 2 n else mvF f 2 6 n
theorem led_turn {f : Int -> Int} {gl : Nat} {w w' : World} {g : Nat} {o old : Obj} (h : Led f gl w) (ht : Turn w g o w') (ho : w.heap[g]? = some old) (hd : alikeO old (.map #[] 0) = false) (hl : g ≠ gl) : Led f gl w' :=
 h.keep (S := [g]) ht.keep (by simpa using Ne.symm hl) (by
  intro k hk
  simp only [List.mem_singleton] at hk
  subst hk
  refine .inr (fun es cl hm => ?_)
  rw [hm] at ho; cases ho; simp [alikeO] at hd)
theorem led_ne {f : Int -> Int} {gl g : Nat} {w : World} {o : Obj} (h : Led f gl w) (hg : w.heap[g]? = some o) (hd : alikeO o (.cells #[] 147) = false) : g ≠ gl := by
 intro e
 obtain ⟨b, cl, L, n, h1, _⟩ := h
 rw [<- e, hg] at h1
 cases h1
 simp [alikeO] at hd
theorem stepped_ok (gm gc ba br bk gl ga bh : Nat) (day seq b a k n : Int) (run : Bool) (st : Value) (hk : k = 1 ∨ k = 2 ∨ k = 3) (hb : 0 <= b /\ b <= 10000000000000) (ha : 0 <= a /\ a <= 4000000000000000000) (hn : 0 <= n /\ n <= 1000000000000000000) (W : World)
 (hm : W.heap[gm]? = some (.cells (modE day gc ba br bk gl seq run st) 82)) (hg : W.heap[ga]? = some (.cells (acctE b a bh) 112)) (f : Int -> Int) (hf : FB 10000000000000000000000 f) (hl : Led f gl W) :
 Calls Tryz.prog 74 #[.pointer (some ⟨gm, 0, none⟩), .pointer (some ⟨ga, 0, none⟩), .int .i64 k, .int .i64 n] W fun e w' => e = unitR /\ Keep [ga, gl] W w' /\ w'.heap[ga]? = some (.cells (acctE (stepB k b a n) (stepA k b a n) bh) 112) /\ Led (stepF f k n) gl w' := by
 have H1 := Hd (HasO.cons hg (HasO.cons hm (HasO.start [ga, gl] W)))
 have H0 := Hd (HasO.cons hg (HasO.cons hm (HasO.start [] W)))
 have HL := Hd hl
 have HNE := Hd (led_ne hl hg rfl)
 clear hm hg hl
 obtain ⟨b1, b2⟩ := hb
 obtain ⟨a1, a2⟩ := ha
 obtain ⟨n1, n2⟩ := hn
 rcases hk with rfl | rfl | rfl
 . have e1 : IntKind.i64.wrap (a + n) = a + n := IntWalk.i64_in _ (by omega)
   go_enter Tryz.func74, Tryz.ntmps74
   go_wp2_with (first
    | (refine wpListG_cell rfl 2 (.tmp 14) rfl ga 7 rfl 112 (acctE b a bh) (.int .i64 a) rfl _ (H1.o.get 0 rfl) Tryz.underlying2 rfl ?_)
    | (refine wpList_turn rfl 2 (.tmp 20) (.tmp 17) rfl ga 7 (.int .i64 (a + n)) rfl rfl 112 (acctE b a bh) (acctE b (a + n) bh) (H1.o.get 0 rfl) (by kernel_rfl) (by simp [Value.cells, prodQ, prodZ, evE, nsE, evZ, acctE]) (by simp [Value.cells, Value.oneCell', prodQ, prodZ, evE, nsE, evZ, acctE]) rfl ?_; intro W2 HT2))
   go_end0
   exact ⟨rfl, HT2.keep.mono (by simp), HT2.at_, led_turn HL.o HT2 (H1.o.obj 0 rfl) rfl HNE.o⟩
 . have e1 : IntKind.i64.wrap (10000000000000 - b) = 10000000000000 - b := IntWalk.i64_in _ (by omega)
   have e2 : IntKind.i64.wrap (b + n) = b + n := IntWalk.i64_in _ (by omega)
   have CD := Hd (fun w => Acc.pay_ok a (10000000000000 - b) w)
   obtain ⟨y, hy⟩ : ∃ y, y = Acc.payY a (10000000000000 - b) := ⟨_, rfl⟩
   rw [show stepA 2 b a n = y from hy.symm, show stepB 2 b a n = b + n from rfl]
   rw [<- hy] at CD
   have CM := Hd (fun w hm hl => moves_ok gm gc ba br bk gl day seq 4 2 n run st (by omega) (by omega) (by omega) w hm f hf hl)
   clear hy
   go_enter Tryz.func74, Tryz.ntmps74
   go_wp2_with fail
   refine wp_region_regF (fun w' => HasO [] W [(ga, .cells (acctE b a bh) 112), (gm, .cells (modE day gc ba br bk gl seq run st) 82)] w') (fun w' => HasO [ga, gl] W [] w') (fun _ => (0, #[])) [0, 1, 2, 3, 4, 5, 6, 7, 8, 9, 10, 11, 12, 13, 14, 15, 16, 17, 18, 19] [] [20] [16] (by kernel_rfl) (by kernel_rfl) ?_ (fun w w' h hb => h.step hb) ?_ (fun k hk => by cases hk) ?_
   . exact fun w h => HasO.nil (h.1.mono (by simp))
   . exact H0.o.drew
   simp only [List.map_cons, List.map_nil, opAt, List.getElem?_cons_succ, List.getElem?_cons_zero, Option.getD_some, List.contains_cons, List.contains_nil, Nat.reduceBEq, Bool.or_false, Bool.or_true, Bool.true_or, Bool.false_or]
   repeat (refine wpX_pure rfl ?_; go_big_quiet_step ((intro _; rfl)); refine wpQuiet_nil ?_)
   refine wpX_pure rfl ?_
   refine wpQuiet_cell 2 (.tmp 28) rfl rfl ⟨ga, 7, none⟩ rfl (.int .i64 a) _ (fun w hw => (hw.get 0 rfl).cell 7) Tryz.underlying2 rfl (fun K1 k1 => ?_)
   go_simp
   refine k1 _ ?_
   clear k1 K1
   refine wpQuiet_nil ?_
   repeat (refine wpX_pure rfl ?_; go_big_quiet_step ((intro _; rfl)); refine wpQuiet_nil ?_)
   refine wpX_pure rfl ?_
   refine wpQuiet_cell 2 (.tmp 33) rfl rfl ⟨ga, 5, none⟩ rfl (.int .i64 b) _ (fun w hw => (hw.get 0 rfl).cell 5) Tryz.underlying2 rfl (fun K1 k1 => ?_)
   go_simp
   refine k1 _ ?_
   clear k1 K1
   refine wpQuiet_nil ?_
   repeat (refine wpX_pure rfl ?_; go_big_quiet_step ((intro _; rfl)); refine wpQuiet_nil ?_)
   refine wpX_call (.tuple #[.int .i64 (Acc.payX a (10000000000000 - b)), .int .i64 y, .int .i64 (Acc.payE a (10000000000000 - b))]) 13 #[.int .i64 a, .int .i64 (10000000000000 - b)] rfl (fun w => by go_simp) (fun w hw => (CD.o w).mono fun e w' h => ⟨h.1, by rw [h.2]; exact Below.refl _ _⟩) (fun K1 k1 => ?_)
   go_simp
   refine k1 _ ?_
   clear k1 K1
   repeat (refine wpX_pure rfl ?_; go_big_quiet_step ((intro _; rfl)); refine wpQuiet_nil ?_)
   repeat (refine wpX_float rfl ?_; go_big_quiet_step ((intro _; rfl)); refine wpQuiet_nil ?_)
   repeat (refine wpX_pure rfl ?_; go_big_quiet_step ((intro _; rfl)); refine wpQuiet_nil ?_)
   refine wpX_nil ?_
   intro gs5 w5 H5
   intro hmade
   simp only [putAll, wpTail, opAt, List.getElem?_cons_succ, List.getElem?_cons_zero, Option.getD_some, Act.put]
   have HL5 := Hd (HL.o.step H5.below)
   have H5 : Hi (HasO [ga, gl] W [(ga, .cells (acctE b a bh) 112), (gm, .cells (modE day gc ba br bk gl seq run st) 82)] w5) := Hd ⟨H5.1.mono (by simp), H5.2⟩
   clear hmade H1 H0
   go_wp2_with (refine wpList_turn rfl 2 (.tmp 42) (.tmp 38) rfl ga 7 (.int .i64 y) rfl rfl 112 (acctE b a bh) (acctE b y bh) (H5.o.get 0 rfl) (by kernel_rfl) (by simp [Value.cells, prodQ, prodZ, evE, nsE, evZ, acctE]) (by simp [Value.cells, Value.oneCell', prodQ, prodZ, evE, nsE, evZ, acctE]) rfl ?_; intro W6 HT6)
   have H6 := Hd (H5.o.turn 0 rfl HT6 (.inl (by simp)) (H5.o.apart 0 rfl rfl))
   have HL6 := Hd (led_turn HL5.o HT6 (H5.o.obj 0 rfl) rfl HNE.o)
   clear H5
   refine ⟨H6.o.of_mem (by simp), ?_⟩
   go_wp2_with (first
    | (refine wpListG_cell rfl 2 (.tmp 46) rfl ga 5 rfl 112 (acctE b y bh) (.int .i64 b) rfl _ (H6.o.get 0 rfl) Tryz.underlying2 rfl ?_)
    | (refine wpList_turn rfl 2 (.tmp 52) (.tmp 49) rfl ga 5 (.int .i64 (b + n)) rfl rfl 112 (acctE b y bh) (acctE (b + n) y bh) (H6.o.get 0 rfl) (by kernel_rfl) (by simp [Value.cells, prodQ, prodZ, evE, nsE, evZ, acctE]) (by simp [Value.cells, Value.oneCell', prodQ, prodZ, evE, nsE, evZ, acctE]) rfl ?_; intro W7 HT7
       have H7 := Hd (H6.o.turn 0 rfl HT7 (.inl (by simp)) (H6.o.apart 0 rfl rfl))
       have HL7 := Hd (led_turn HL6.o HT7 (H6.o.obj 0 rfl) rfl HNE.o)
       clear H6 HL6)
    | (refine wpListG_cell rfl 3 (.tmp 56) rfl ga 3 rfl 112 (acctE (b + n) y bh) (.int .i64 1) rfl _ (H7.o.get 0 rfl) Tryz.underlying3 rfl ?_)
    | (refine wpListG_cell rfl 3 (.tmp 71) rfl ga 2 rfl 112 (acctE (b + n) y bh) (.int .i64 0) rfl _ (H7.o.get 0 rfl) Tryz.underlying3 rfl ?_))
   refine (CM.o _ (H7.o.obj 1 rfl) HL7.o).mono ?_
   rintro e w8 ⟨rfl, hk8, hl8⟩
   have hg8 := (hk8.block ga (obj_lt (H7.o.obj 0 rfl)) (by simpa using HNE.o)).trans (H7.o.obj 0 rfl)
   have HK8 := Hd (H7.o.1.trans hk8 (by simp))
   have HG8 := Hd hg8
   have HL8 := Hd hl8
   clear hk8 hl8 hg8
   unfold unitR
   go_wp2_with fail
   go_end0
   exact ⟨rfl, HK8.o, HG8.o, HL8.o⟩
 . have e2 : IntKind.i64.wrap (b - n) = b - n := IntWalk.i64_in _ (by omega)
   have CM := Hd (fun w hm hl => moves_ok gm gc ba br bk gl day seq 2 6 n run st (by omega) (by omega) (by omega) w hm f hf hl)
   go_enter Tryz.func74, Tryz.ntmps74
   go_wp2_with (first
    | (refine wpListG_cell rfl 2 (.tmp 80) rfl ga 5 rfl 112 (acctE b a bh) (.int .i64 b) rfl _ (H1.o.get 0 rfl) Tryz.underlying2 rfl ?_)
    | (refine wpList_turn rfl 2 (.tmp 86) (.tmp 83) rfl ga 5 (.int .i64 (b - n)) rfl rfl 112 (acctE b a bh) (acctE (b - n) a bh) (H1.o.get 0 rfl) (by kernel_rfl) (by simp [Value.cells, prodQ, prodZ, evE, nsE, evZ, acctE]) (by simp [Value.cells, Value.oneCell', prodQ, prodZ, evE, nsE, evZ, acctE]) rfl ?_; intro W7 HT7
       have H7 := Hd (H1.o.turn 0 rfl HT7 (.inl (by simp)) (H1.o.apart 0 rfl rfl))
       have HL7 := Hd (led_turn HL.o HT7 (H1.o.obj 0 rfl) rfl HNE.o))
    | (refine wpListG_cell rfl 3 (.tmp 91) rfl ga 2 rfl 112 (acctE (b - n) a bh) (.int .i64 0) rfl _ (H7.o.get 0 rfl) Tryz.underlying3 rfl ?_))
   refine (CM.o _ (H7.o.obj 1 rfl) HL7.o).mono ?_
   rintro e w8 ⟨rfl, hk8, hl8⟩
   have hg8 := (hk8.block ga (obj_lt (H7.o.obj 0 rfl)) (by simpa using HNE.o)).trans (H7.o.obj 0 rfl)
   have HK8 := Hd (H7.o.1.trans hk8 (by simp))
   have HG8 := Hd hg8
   have HL8 := Hd hl8
   clear hk8 hl8 hg8
   unfold unitR
   go_wp2_with fail
   go_end0
   exact ⟨rfl, HK8.o, HG8.o, HL8.o⟩
end Mo
namespace Mo
open Go.RowKit Go.Deep Wide Dec Mp Pr Ch
def lookA (n : Int) (ga : Nat) : Value := if n = 10 then .pointer (some ⟨ga, 0, none⟩) else .pointer none
theorem lookN (ga ba : Nat) (n : Int) (w : World) (h : w.heap[ba]? = some (.map #[entA ga] 1)) : (Instr.lookup 75 (.map (some ba)) (.int .i64 n) false).run Tryz.prog w = .ok (lookA n ga) w := by
 by_cases hn : n = 10
 . subst hn; exact look10 ga ba w h
 . have := run_lookup1 (P := Tryz.prog) (d := .int .i64) (z := .pointer none) Tryz.underlying75 (by kernel_rfl) (show MapKept.IsKey (.int .i64) (.int .i64 n) from rfl) (fun w => by first | exact Tryz.zeroValue109 w | exact Tryz.zeroValue109 _) ba #[entA ga] 1 none (by
    have hb : (n == 10) = false := beq_eq_false_iff_ne.2 hn
    simp [Instr.findNow, Instr.sameNow, entA, hb]) false w h
   rw [this]
   unfold lookA lookV
   rw [if_neg hn]
   rfl
theorem happen_roll (gm gc ba br bk gl ga : Nat) (day seq : Int) (st : Value) (hd : 1 <= day /\ day < 3652059) (W : World)
 (h : HasO [] W [(gm, .cells (modE day gc ba br bk gl seq true st) 82), (ba, .map #[entA ga] 1)] W) :
 Calls Tryz.prog 28 #[.pointer (some ⟨gm, 0, none⟩), .agg (evE 15 (day + 1) 0 0 0 0 0 0 0 (.slice none 0 0))] W fun e w' => e = unitR /\ Keep [gm] W w' /\ w'.heap[gm]? = some (.cells (modE (day + 1) gc ba br bk gl seq false st) 82) := by
 have HLT := Hd (obj_lt (h.obj 0 rfl))
 have H1 : Hi (HasO [] W [(W.heap.size + 1, .cells (nsE (day + 1) 0 0 0 0 0 0 0) 29), (W.heap.size, .cells (evE 15 (day + 1) 0 0 0 0 0 0 0 (.slice none 0 0)) 34), (gm, .cells (modE day gc ba br bk gl seq true st) 82), (ba, .map #[entA ga] 1)] _) := Hd ((h.new (g := W.heap.size) rfl (.cells (evE 15 (day + 1) 0 0 0 0 0 0 0 (.slice none 0 0)) 34)).new (g := W.heap.size + 1) (by simp) (.cells (nsE (day + 1) 0 0 0 0 0 0 0) 29))
 obtain ⟨d1, d2⟩ := hd
 have e1 : IntKind.i64.wrap (day + 1) = day + 1 := IntWalk.i64_in _ (by omega)
 clear h
 rw [evE]
 go_enter Tryz.func28, Tryz.ntmps28
 go_wp2_with fail
 refine wp_region_class (fun w' => HasO [] W _ w') [0, 1, 2, 3, 4, 5, 6, 7, 8, 9, 10, 11, 12, 13, 14, 15] (by kernel_rfl) (by kernel_rfl) (H1.o.drew) ?_
 simp only [List.map_cons, List.map_nil, opAt, List.getElem?_cons_succ, List.getElem?_cons_zero, Option.getD_some]
 repeat (go_big_quiet_step ((intro _; rfl)))
 refine wpQuiet_cell 75 (.tmp 13) rfl rfl ⟨gm, 2, none⟩ rfl (.map (some ba)) _ (fun w hw => (hw.get 2 rfl).cell 2) Tryz.underlying75 rfl (fun K1 k1 => ?_)
 go_simp
 refine k1 _ ?_
 clear k1 K1
 repeat (go_big_quiet_step ((intro _; rfl)))
 refine wpQuiet_cell 2 (.tmp 15) rfl rfl ⟨(W.heap.size + 1), 0, none⟩ rfl (.int .i64 (day + 1)) _ (fun w hw => (hw.get 0 rfl).cell 0) Tryz.underlying2 rfl (fun K1 k1 => ?_)
 go_simp
 refine k1 _ ?_
 clear k1 K1
 refine wpQuiet_lookup rfl 75 (.tmp 14) (.tmp 16) false rfl ba (.int .i64 (day + 1)) (lookA (day + 1) ga) rfl rfl (fun w hw => lookN ga ba _ w (hw.obj 3 rfl)) (fun K1 k1 => ?_)
 go_simp
 refine k1 _ ?_
 clear k1 K1
 repeat (go_big_quiet_step ((intro _; rfl)))
 refine wpQuiet_cell 75 (.tmp 20) rfl rfl ⟨gm, 2, none⟩ rfl (.map (some ba)) _ (fun w hw => (hw.get 2 rfl).cell 2) Tryz.underlying75 rfl (fun K1 k1 => ?_)
 go_simp
 refine k1 _ ?_
 clear k1 K1
 repeat (go_big_quiet_step ((intro _; rfl)))
 refine wpQuiet_cell 2 (.tmp 22) rfl rfl ⟨(W.heap.size + 1), 1, none⟩ rfl (.int .i64 0) _ (fun w hw => (hw.get 0 rfl).cell 1) Tryz.underlying2 rfl (fun K1 k1 => ?_)
 go_simp
 refine k1 _ ?_
 clear k1 K1
 refine wpQuiet_lookup rfl 75 (.tmp 21) (.tmp 23) false rfl ba (.int .i64 0) (lookA 0 ga) rfl rfl (fun w hw => lookN ga ba _ w (hw.obj 3 rfl)) (fun K1 k1 => ?_)
 go_simp
 refine k1 _ ?_
 clear k1 K1
 repeat (go_big_quiet_step ((intro _; rfl)))
 refine wpQuiet_nil ?_
 intro w5 H5
 have H5 : Hi (HasO [gm] W [(W.heap.size + 1, .cells (nsE (day + 1) 0 0 0 0 0 0 0) 29), (W.heap.size, .cells (evE 15 (day + 1) 0 0 0 0 0 0 0 (.slice none 0 0)) 34), (gm, .cells (modE day gc ba br bk gl seq true st) 82), (ba, .map #[entA ga] 1)] w5) := Hd ⟨H5.1.mono (by simp), H5.2⟩
 clear H1
 go_wp2_with (first
  | (refine wpListG_cell rfl 5 (.tmp 25) rfl W.heap.size 0 rfl 34 (evE 15 (day + 1) 0 0 0 0 0 0 0 (.slice none 0 0)) (.int .u8 15) rfl _ (H5.o.get 1 rfl) Tryz.underlying5 rfl ?_)
  | (refine wpList_turn rfl 4 (.tmp 320) (.const (.bool false)) rfl gm 7 (.bool false) rfl rfl 82 (modE day gc ba br bk gl seq true st) (modE day gc ba br bk gl seq false st) (H5.o.get 2 rfl) (by kernel_rfl) (by simp [Value.cells, prodQ, prodZ, evE, nsE, evZ, acctE, modE]) (by simp [Value.cells, Value.oneCell', prodQ, prodZ, evE, nsE, evZ, acctE, modE]) rfl ?_; intro W6 HT6
     have H6 := Hd (H5.o.turn 2 rfl HT6 (.inl (by simp)) (H5.o.apart 2 rfl rfl)))
  | (refine wpListG_cell rfl 3 (.tmp 323) rfl gm 0 rfl 82 (modE day gc ba br bk gl seq false st) (.int .i64 day) rfl _ (H6.o.get 2 rfl) Tryz.underlying3 rfl ?_)
  | (refine wpList_turn rfl 3 (.tmp 327) (.tmp 325) rfl gm 0 (.int .i64 (day + 1)) rfl rfl 82 (modE day gc ba br bk gl seq false st) (modE (day + 1) gc ba br bk gl seq false st) (H6.o.get 2 rfl) (by kernel_rfl) (by simp [Value.cells, prodQ, prodZ, evE, nsE, evZ, acctE, modE]) (by simp [Value.cells, Value.oneCell', prodQ, prodZ, evE, nsE, evZ, acctE, modE]) rfl ?_; intro W7 HT7))
 go_end0
 exact ⟨rfl, H6.o.1.trans HT7.keep (by simp), HT7.at_⟩
end Mo
/- the sorted keys of a map: the shelf's contracts at this program (the layings were written by the kit's tool: function and type numbers are this seat's own) -/
end Go.Proofs.YtkdnebalpdebeaaGreatDoor
namespace Go.Proofs
open Go.Shelf
def Tryz.keys91_ren : Go.Shelf.Ren := ⟨fun | 7 => 125 | 10 => 179 | n => n, fun | 23 => 75 | 26 => 2 | 3 => 109 | 28 => 228 | 0 => 0 | 27 => 227 | 33 => 233 | 4 => 4 | n => n, fun | n => n⟩
theorem Tryz.keys91 : Go.Proofs.SlLaysZI.n7 Tryz.prog Tryz.keys91_ren := {
 mixed := by kernel_rfl
 f7 := ⟨Tryz.f125.name, by decide, Tryz.func125.trans (congrArg some (by kernel_rfl))⟩
 f10 := ⟨Tryz.f179.name, by decide, Tryz.func179.trans (congrArg some (by kernel_rfl))⟩
 t0 := Tryz.underlying0
 a0 := Tryz.isAgg0
 z0 := Tryz.sizeOf0
 v0 := Tryz.zeroValue0
 t4 := Tryz.underlying4
 a4 := Tryz.isAgg4
 z4 := Tryz.sizeOf4
 v4 := Tryz.zeroValue4
 t23 := Tryz.underlying75
 a23 := Tryz.isAgg75
 z23 := Tryz.sizeOf75
 v23 := Tryz.zeroValue75
 t26 := Tryz.underlying2
 a26 := Tryz.isAgg2
 z26 := Tryz.sizeOf2
 v26 := Tryz.zeroValue2
 t27 := Tryz.underlying227
 a27 := Tryz.isAgg227
 z27 := Tryz.sizeOf227
 v27 := Tryz.zeroValue227
 t28 := Tryz.underlying228
 a28 := Tryz.isAgg228
 z28 := Tryz.sizeOf228
 v28 := Tryz.zeroValue228
 t33 := Tryz.underlying233
 a33 := Tryz.isAgg233
 z33 := Tryz.sizeOf233
 v33 := Tryz.zeroValue233 }
def Tryz.sorted90_ren : Go.Shelf.Ren := ⟨fun | 6 => 124 | 8 => 178 | 9 => 144 | 11 => 216 | 13 => 192 | 12 => 191 | 23 => 234 | 24 => 94 | 14 => 225 | 15 => 226 | 16 => 227 | 17 => 228 | 18 => 229 | 19 => 230 | 20 => 231 | 21 => 232 | 22 => 233 | 25 => 247 | 26 => 248 | 27 => 249 | 28 => 250 | 29 => 251 | 30 => 252 | 31 => 269 | n => n, fun | 26 => 2 | 28 => 228 | 24 => 95 | 0 => 0 | 3 => 3 | 37 => 124 | 48 => 304 | 50 => 24 | 4 => 4 | 40 => 331 | 39 => 330 | 45 => 279 | 5 => 5 | 9 => 9 | 51 => 343 | 55 => 346 | 57 => 361 | 58 => 287 | 33 => 233 | n => n, fun | n => n⟩
theorem Tryz.sorted90 : Go.Proofs.SlLaysZI.n6 Tryz.prog Tryz.sorted90_ren := {
 mixed := by kernel_rfl
 f6 := ⟨Tryz.f124.name, by decide, Tryz.func124.trans (congrArg some (by kernel_rfl))⟩
 f8 := ⟨Tryz.f178.name, by decide, Tryz.func178.trans (congrArg some (by kernel_rfl))⟩
 f11 := ⟨Tryz.f216.name, by decide, Tryz.func216.trans (congrArg some (by kernel_rfl))⟩
 t0 := Tryz.underlying0
 a0 := Tryz.isAgg0
 z0 := Tryz.sizeOf0
 v0 := Tryz.zeroValue0
 t24 := Tryz.underlying95
 a24 := Tryz.isAgg95
 z24 := Tryz.sizeOf95
 v24 := Tryz.zeroValue95
 t26 := Tryz.underlying2
 a26 := Tryz.isAgg2
 z26 := Tryz.sizeOf2
 v26 := Tryz.zeroValue2
 t28 := Tryz.underlying228
 a28 := Tryz.isAgg228
 z28 := Tryz.sizeOf228
 v28 := Tryz.zeroValue228
 i26 := by kernel_rfl }
def Tryz.sort104_ren : Go.Shelf.Ren := ⟨fun | 5 => 144 | 8 => 192 | 7 => 191 | 19 => 234 | 20 => 94 | 10 => 225 | 11 => 226 | 12 => 227 | 13 => 228 | 14 => 229 | 15 => 230 | 16 => 231 | 17 => 232 | 18 => 233 | 30 => 247 | 31 => 248 | 32 => 249 | 33 => 250 | 34 => 251 | 35 => 252 | 40 => 269 | n => n, fun | 23 => 95 | 25 => 2 | 3 => 3 | 32 => 124 | 22 => 95 | 0 => 0 | 44 => 304 | 46 => 24 | 4 => 4 | 36 => 331 | 35 => 330 | 41 => 279 | 5 => 5 | 9 => 9 | 53 => 343 | 57 => 346 | 63 => 361 | 64 => 287 | n => n, fun | n => n⟩
theorem Tryz.sort104 : Go.Proofs.SlLaysM.n5 Tryz.prog Tryz.sort104_ren := {
 mixed := by kernel_rfl
 f5 := ⟨Tryz.f144.name, by decide, Tryz.func144.trans (congrArg some (by kernel_rfl))⟩
 f7 := ⟨Tryz.f191.name, by decide, Tryz.func191.trans (congrArg some (by kernel_rfl))⟩
 f8 := Tryz.func192.trans (congrArg some (by kernel_rfl))
 f10 := ⟨Tryz.f225.name, by decide, Tryz.func225.trans (congrArg some (by kernel_rfl))⟩
 f11 := ⟨Tryz.f226.name, by decide, Tryz.func226.trans (congrArg some (by kernel_rfl))⟩
 f12 := ⟨Tryz.f227.name, by decide, Tryz.func227.trans (congrArg some (by kernel_rfl))⟩
 f13 := ⟨Tryz.f228.name, by decide, Tryz.func228.trans (congrArg some (by kernel_rfl))⟩
 f14 := ⟨Tryz.f229.name, by decide, Tryz.func229.trans (congrArg some (by kernel_rfl))⟩
 f15 := ⟨Tryz.f230.name, by decide, Tryz.func230.trans (congrArg some (by kernel_rfl))⟩
 f16 := ⟨Tryz.f231.name, by decide, Tryz.func231.trans (congrArg some (by kernel_rfl))⟩
 f17 := ⟨Tryz.f232.name, by decide, Tryz.func232.trans (congrArg some (by kernel_rfl))⟩
 f18 := ⟨Tryz.f233.name, by decide, Tryz.func233.trans (congrArg some (by kernel_rfl))⟩
 f19 := Tryz.func234.trans (congrArg some (by kernel_rfl))
 f20 := Tryz.func94.trans (congrArg some (by kernel_rfl))
 f30 := ⟨Tryz.f247.name, by decide, Tryz.func247.trans (congrArg some (by kernel_rfl))⟩
 f31 := Tryz.func248.trans (congrArg some (by kernel_rfl))
 f32 := Tryz.func249.trans (congrArg some (by kernel_rfl))
 f33 := ⟨Tryz.f250.name, by decide, Tryz.func250.trans (congrArg some (by kernel_rfl))⟩
 f34 := ⟨Tryz.f251.name, by decide, Tryz.func251.trans (congrArg some (by kernel_rfl))⟩
 f35 := ⟨Tryz.f252.name, by decide, Tryz.func252.trans (congrArg some (by kernel_rfl))⟩
 f40 := ⟨Tryz.f269.name, by decide, Tryz.func269.trans (congrArg some (by kernel_rfl))⟩
 t0 := Tryz.underlying0
 a0 := Tryz.isAgg0
 z0 := Tryz.sizeOf0
 v0 := Tryz.zeroValue0
 t3 := Tryz.underlying3
 a3 := Tryz.isAgg3
 z3 := Tryz.sizeOf3
 v3 := Tryz.zeroValue3
 t4 := Tryz.underlying4
 a4 := Tryz.isAgg4
 z4 := Tryz.sizeOf4
 v4 := Tryz.zeroValue4
 t5 := Tryz.underlying5
 a5 := Tryz.isAgg5
 z5 := Tryz.sizeOf5
 v5 := Tryz.zeroValue5
 t9 := Tryz.underlying9
 a9 := Tryz.isAgg9
 z9 := Tryz.sizeOf9
 v9 := Tryz.zeroValue9
 t22 := Tryz.underlying95
 a22 := Tryz.isAgg95
 z22 := Tryz.sizeOf95
 v22 := Tryz.zeroValue95
 t23 := Tryz.underlying95
 a23 := Tryz.isAgg95
 z23 := Tryz.sizeOf95
 v23 := Tryz.zeroValue95
 t25 := Tryz.underlying2
 a25 := Tryz.isAgg2
 z25 := Tryz.sizeOf2
 v25 := Tryz.zeroValue2
 t32 := Tryz.underlying124
 a32 := Tryz.isAgg124
 z32 := Tryz.sizeOf124
 v32 := Tryz.zeroValue124
 t35 := Tryz.underlying330
 a35 := Tryz.isAgg330
 z35 := Tryz.sizeOf330
 v35 := Tryz.zeroValue330
 t36 := Tryz.underlying331
 a36 := Tryz.isAgg331
 z36 := Tryz.sizeOf331
 v36 := Tryz.zeroValue331
 t41 := Tryz.underlying279
 a41 := Tryz.isAgg279
 z41 := Tryz.sizeOf279
 v41 := Tryz.zeroValue279
 t44 := Tryz.underlying304
 a44 := Tryz.isAgg304
 z44 := Tryz.sizeOf304
 v44 := Tryz.zeroValue304
 t46 := Tryz.underlying24
 a46 := Tryz.isAgg24
 z46 := Tryz.sizeOf24
 v46 := Tryz.zeroValue24
 t53 := Tryz.underlying343
 a53 := Tryz.isAgg343
 z53 := Tryz.sizeOf343
 v53 := Tryz.zeroValue343
 t57 := Tryz.underlying346
 a57 := Tryz.isAgg346
 z57 := Tryz.sizeOf346
 v57 := Tryz.zeroValue346
 t63 := Tryz.underlying361
 a63 := Tryz.isAgg361
 z63 := Tryz.sizeOf361
 v63 := Tryz.zeroValue361
 t64 := Tryz.underlying287
 a64 := Tryz.isAgg287
 z64 := Tryz.sizeOf287
 v64 := Tryz.zeroValue287 }
def Tryz.keys154_ren : Go.Shelf.Ren := ⟨fun | 7 => 190 | 10 => 224 | n => n, fun | 23 => 125 | 26 => 9 | 3 => 250 | 28 => 297 | 0 => 0 | 27 => 296 | 33 => 307 | 4 => 4 | n => n, fun | n => n⟩
theorem Tryz.keys154 : Go.Proofs.SlLaysZ.n7 Tryz.prog Tryz.keys154_ren := {
 mixed := by kernel_rfl
 f7 := ⟨Tryz.f190.name, by decide, Tryz.func190.trans (congrArg some (by kernel_rfl))⟩
 f10 := ⟨Tryz.f224.name, by decide, Tryz.func224.trans (congrArg some (by kernel_rfl))⟩
 t0 := Tryz.underlying0
 a0 := Tryz.isAgg0
 z0 := Tryz.sizeOf0
 v0 := Tryz.zeroValue0
 t4 := Tryz.underlying4
 a4 := Tryz.isAgg4
 z4 := Tryz.sizeOf4
 v4 := Tryz.zeroValue4
 t23 := Tryz.underlying125
 a23 := Tryz.isAgg125
 z23 := Tryz.sizeOf125
 v23 := Tryz.zeroValue125
 t26 := Tryz.underlying9
 a26 := Tryz.isAgg9
 z26 := Tryz.sizeOf9
 v26 := Tryz.zeroValue9
 t27 := Tryz.underlying296
 a27 := Tryz.isAgg296
 z27 := Tryz.sizeOf296
 v27 := Tryz.zeroValue296
 t28 := Tryz.underlying297
 a28 := Tryz.isAgg297
 z28 := Tryz.sizeOf297
 v28 := Tryz.zeroValue297
 t33 := Tryz.underlying307
 a33 := Tryz.isAgg307
 z33 := Tryz.sizeOf307
 v33 := Tryz.zeroValue307 }
def Tryz.sorted153_ren : Go.Shelf.Ren := ⟨fun | 6 => 189 | 8 => 222 | 9 => 223 | 11 => 245 | 13 => 192 | 12 => 246 | 23 => 234 | 24 => 94 | 14 => 260 | 15 => 261 | 16 => 262 | 17 => 263 | 18 => 264 | 19 => 265 | 20 => 266 | 21 => 267 | 22 => 268 | 25 => 277 | 26 => 248 | 27 => 249 | 28 => 278 | 29 => 279 | 30 => 280 | 31 => 283 | n => n, fun | 26 => 9 | 28 => 297 | 24 => 244 | 0 => 0 | 3 => 3 | 37 => 124 | 48 => 304 | 50 => 24 | 4 => 4 | 40 => 331 | 39 => 330 | 45 => 279 | 5 => 5 | 9 => 9 | 51 => 343 | 55 => 346 | 57 => 361 | 58 => 287 | 33 => 307 | n => n, fun | n => n⟩
theorem Tryz.sorted153 : Go.Proofs.SlLaysZ.n6 Tryz.prog Tryz.sorted153_ren := {
 mixed := by kernel_rfl
 f6 := ⟨Tryz.f189.name, by decide, Tryz.func189.trans (congrArg some (by kernel_rfl))⟩
 f8 := ⟨Tryz.f222.name, by decide, Tryz.func222.trans (congrArg some (by kernel_rfl))⟩
 f11 := ⟨Tryz.f245.name, by decide, Tryz.func245.trans (congrArg some (by kernel_rfl))⟩
 t0 := Tryz.underlying0
 a0 := Tryz.isAgg0
 z0 := Tryz.sizeOf0
 v0 := Tryz.zeroValue0
 t24 := Tryz.underlying244
 a24 := Tryz.isAgg244
 z24 := Tryz.sizeOf244
 v24 := Tryz.zeroValue244
 t26 := Tryz.underlying9
 a26 := Tryz.isAgg9
 z26 := Tryz.sizeOf9
 v26 := Tryz.zeroValue9
 t28 := Tryz.underlying297
 a28 := Tryz.isAgg297
 z28 := Tryz.sizeOf297
 v28 := Tryz.zeroValue297
 i26 := by kernel_rfl }
def Tryz.sort194_ren : Go.Shelf.Ren := ⟨fun | 6 => 223 | 8 => 192 | 9 => 246 | 19 => 234 | 20 => 94 | 21 => 260 | 22 => 261 | 23 => 262 | 24 => 263 | 25 => 264 | 26 => 265 | 27 => 266 | 28 => 267 | 29 => 268 | 36 => 277 | 31 => 248 | 32 => 249 | 37 => 278 | 38 => 279 | 39 => 280 | 41 => 283 | n => n, fun | 27 => 244 | 29 => 9 | 3 => 3 | 32 => 124 | 26 => 244 | 0 => 0 | 44 => 304 | 46 => 24 | 4 => 4 | 36 => 331 | 35 => 330 | 41 => 279 | 5 => 5 | 9 => 9 | 53 => 343 | 57 => 346 | 63 => 361 | 64 => 287 | n => n, fun | n => n⟩
theorem Tryz.sort194 : Go.Proofs.SlLaysM.n6 Tryz.prog Tryz.sort194_ren := {
 mixed := by kernel_rfl
 f6 := ⟨Tryz.f223.name, by decide, Tryz.func223.trans (congrArg some (by kernel_rfl))⟩
 f8 := Tryz.func192.trans (congrArg some (by kernel_rfl))
 f9 := ⟨Tryz.f246.name, by decide, Tryz.func246.trans (congrArg some (by kernel_rfl))⟩
 f19 := Tryz.func234.trans (congrArg some (by kernel_rfl))
 f20 := Tryz.func94.trans (congrArg some (by kernel_rfl))
 f21 := ⟨Tryz.f260.name, by decide, Tryz.func260.trans (congrArg some (by kernel_rfl))⟩
 f22 := ⟨Tryz.f261.name, by decide, Tryz.func261.trans (congrArg some (by kernel_rfl))⟩
 f23 := ⟨Tryz.f262.name, by decide, Tryz.func262.trans (congrArg some (by kernel_rfl))⟩
 f24 := ⟨Tryz.f263.name, by decide, Tryz.func263.trans (congrArg some (by kernel_rfl))⟩
 f25 := ⟨Tryz.f264.name, by decide, Tryz.func264.trans (congrArg some (by kernel_rfl))⟩
 f26 := ⟨Tryz.f265.name, by decide, Tryz.func265.trans (congrArg some (by kernel_rfl))⟩
 f27 := ⟨Tryz.f266.name, by decide, Tryz.func266.trans (congrArg some (by kernel_rfl))⟩
 f28 := ⟨Tryz.f267.name, by decide, Tryz.func267.trans (congrArg some (by kernel_rfl))⟩
 f29 := ⟨Tryz.f268.name, by decide, Tryz.func268.trans (congrArg some (by kernel_rfl))⟩
 f31 := Tryz.func248.trans (congrArg some (by kernel_rfl))
 f32 := Tryz.func249.trans (congrArg some (by kernel_rfl))
 f36 := ⟨Tryz.f277.name, by decide, Tryz.func277.trans (congrArg some (by kernel_rfl))⟩
 f37 := ⟨Tryz.f278.name, by decide, Tryz.func278.trans (congrArg some (by kernel_rfl))⟩
 f38 := ⟨Tryz.f279.name, by decide, Tryz.func279.trans (congrArg some (by kernel_rfl))⟩
 f39 := ⟨Tryz.f280.name, by decide, Tryz.func280.trans (congrArg some (by kernel_rfl))⟩
 f41 := ⟨Tryz.f283.name, by decide, Tryz.func283.trans (congrArg some (by kernel_rfl))⟩
 t0 := Tryz.underlying0
 a0 := Tryz.isAgg0
 z0 := Tryz.sizeOf0
 v0 := Tryz.zeroValue0
 t3 := Tryz.underlying3
 a3 := Tryz.isAgg3
 z3 := Tryz.sizeOf3
 v3 := Tryz.zeroValue3
 t4 := Tryz.underlying4
 a4 := Tryz.isAgg4
 z4 := Tryz.sizeOf4
 v4 := Tryz.zeroValue4
 t5 := Tryz.underlying5
 a5 := Tryz.isAgg5
 z5 := Tryz.sizeOf5
 v5 := Tryz.zeroValue5
 t9 := Tryz.underlying9
 a9 := Tryz.isAgg9
 z9 := Tryz.sizeOf9
 v9 := Tryz.zeroValue9
 t26 := Tryz.underlying244
 a26 := Tryz.isAgg244
 z26 := Tryz.sizeOf244
 v26 := Tryz.zeroValue244
 t27 := Tryz.underlying244
 a27 := Tryz.isAgg244
 z27 := Tryz.sizeOf244
 v27 := Tryz.zeroValue244
 t29 := Tryz.underlying9
 a29 := Tryz.isAgg9
 z29 := Tryz.sizeOf9
 v29 := Tryz.zeroValue9
 t32 := Tryz.underlying124
 a32 := Tryz.isAgg124
 z32 := Tryz.sizeOf124
 v32 := Tryz.zeroValue124
 t35 := Tryz.underlying330
 a35 := Tryz.isAgg330
 z35 := Tryz.sizeOf330
 v35 := Tryz.zeroValue330
 t36 := Tryz.underlying331
 a36 := Tryz.isAgg331
 z36 := Tryz.sizeOf331
 v36 := Tryz.zeroValue331
 t41 := Tryz.underlying279
 a41 := Tryz.isAgg279
 z41 := Tryz.sizeOf279
 v41 := Tryz.zeroValue279
 t44 := Tryz.underlying304
 a44 := Tryz.isAgg304
 z44 := Tryz.sizeOf304
 v44 := Tryz.zeroValue304
 t46 := Tryz.underlying24
 a46 := Tryz.isAgg24
 z46 := Tryz.sizeOf24
 v46 := Tryz.zeroValue24
 t53 := Tryz.underlying343
 a53 := Tryz.isAgg343
 z53 := Tryz.sizeOf343
 v53 := Tryz.zeroValue343
 t57 := Tryz.underlying346
 a57 := Tryz.isAgg346
 z57 := Tryz.sizeOf346
 v57 := Tryz.zeroValue346
 t63 := Tryz.underlying361
 a63 := Tryz.isAgg361
 z63 := Tryz.sizeOf361
 v63 := Tryz.zeroValue361
 t64 := Tryz.underlying287
 a64 := Tryz.isAgg287
 z64 := Tryz.sizeOf287
 v64 := Tryz.zeroValue287 }
end Go.Proofs
namespace Go.Proofs.YtkdnebalpdebeaaGreatDoor
namespace Mo
open Go.RowKit Go.Maps Go.Sort Go.Shelf Go.Proofs.YtkdnebalpdebeaaGreatDoor.Mp
theorem sorts90 (m : Nat) : AnyZI.SortsIn Tryz.prog Tryz.sorted90_ren Fence.wide m :=
 ⟨fun blk off cap ss W hH hblk hsz => callsIn_wide.2 (AnyM.slices_Sort_int Tryz.sort104 blk off cap ss W hH hblk hsz), fun p cap W => callsIn_wide.2 (AnyM.slices_Sort_int_none Tryz.sort104 p cap W)⟩
theorem sorts153 (m : Nat) : AnyZ.SortsIn Tryz.prog Tryz.sorted153_ren Fence.wide m :=
 ⟨fun blk off cap ss W hH hblk hsz => callsIn_wide.2 (AnyM.slices_Sort_string Tryz.sort194 blk off cap ss W hH hblk hsz), fun p cap W => callsIn_wide.2 (AnyM.slices_Sort_string_none Tryz.sort194 p cap W)⟩
theorem keysA_ok (mb : Option Nat) (W : World) : Calls Tryz.prog 125 #[.map mb] W fun e w' => e = .returned (.func (.func 179) #[] #[.pointer (some ⟨W.heap.size, 0, none⟩)]) /\ w' = W.alloc (.cells #[.map mb] 75) :=
 (callsIn_wide (n := 5)).1 (AnyZI.keys_in Tryz.keys91 Fence.wide 5 trivial rfl mb W)
theorem keysD_ok (mb : Option Nat) (W : World) : Calls Tryz.prog 190 #[.map mb] W fun e w' => e = .returned (.func (.func 224) #[] #[.pointer (some ⟨W.heap.size, 0, none⟩)]) /\ w' = W.alloc (.cells #[.map mb] 125) :=
 (callsIn_wide (n := 5)).1 (AnyZ.keys_in Tryz.keys154 Fence.wide 5 trivial rfl mb W)
def anyR : Value -> Option (DataW Unit × List MemPlace) := fun _ => some (.agg [], [])
theorem own1 (ga b : Nat) (w : World) (hm : w.heap[b]? = some (.map #[entA ga] 1)) : w.ownsMap Tryz.prog 2 anyR b 1 (.map [(.int .i64 10, .agg [])]) := by
 have hk : keyOf Tryz.prog 2 (.int .i64 10) = some (.int .i64 10) := by
  have : Tryz.prog.underlying 2 = some (.int .i64) := by kernel_rfl
  simp [keyOf, mapKey, this, Lit.wf, IntKind.min, IntKind.max, IntKind.signed, IntKind.bits]
 have hr : Go.WideElems.rd Tryz.prog 2 anyR (entA ga) = some (.int .i64 10, .agg []) := by
  unfold Go.WideElems.rd
  rw [show (entA ga).key = .int .i64 10 from rfl, hk]
  rfl
 refine ⟨#[entA ga], 1, hm, ⟨by simp [maxLen], ?_, ?_⟩, by simp, ?_⟩
 . exact MapKept.stamped_push (es := #[]) (clock := 0) (MapKept.stamped_empty 0) (key := .int .i64 10) (val := .pointer (some ⟨ga, 0, none⟩)) (by simp)
 . intro x hx
   simp only [List.mem_singleton] at hx
   subst hx
   exact ⟨_, hr⟩
 . simp only [List.map_cons, List.map_nil, List.foldr_cons, List.foldr_nil, Go.WideElems.rg, hr, Option.getD_some]
   rfl
theorem sortedA_ok (ga b : Nat) (w : World) (hm : w.heap[b]? = some (.map #[entA ga] 1)) : Calls Tryz.prog 124 #[.func (.func 179) #[] #[.pointer (some ⟨w.heap.size, 0, none⟩)]] (w.alloc (.cells #[.map (some b)] 75)) fun e w' =>
 (∃ g c cu, e = .returned (.slice (some ⟨g, 0, none⟩) 1 c) /\ w'.heap[g]? = some (.cells cu 2) /\ cu[0]? = some (.int .i64 10)) /\ Below (w.alloc (.cells #[.map (some b)] 75)).heap.size (w.alloc (.cells #[.map (some b)] 75)) w' := by
 have hbl := obj_lt hm
 have hown := own1 ga b w hm
 have hseq : SeqGives Fence.wide 2 Tryz.prog 179 #[.pointer (some ⟨w.heap.size, 0, none⟩)] encZ (fun ss => ss.Perm (intKeys (.map [(.int .i64 10, .agg [])] : DataW Unit))) (Maps.size (.map [(.int .i64 10, .agg [])] : DataW Unit)) (w.alloc (.cells #[.map (some b)] 75)) :=
  AnyZI.keys_gives (ρ := Tryz.keys91_ren) { Tryz.keys91 with } Fence.wide _ trivial rfl (by omega) w.heap.size b 1 _ _ (by simp) (by simp) (by
   obtain ⟨es, clock, hb, Ft, hs, hD⟩ := hown
   exact ⟨es, clock, (Below.heap_alloc _ _ b hbl).trans hb, Ft, hs, hD⟩)
 have cS := AnyZI.sorted_in Tryz.sorted90 Fence.wide 5 trivial trivial trivial trivial rfl (by omega) (sorts90 _) (enters_of Tryz.func144 (by kernel_rfl) rfl) 179 #[.pointer (some ⟨w.heap.size, 0, none⟩)] trivial (enters_of Tryz.func179 (by kernel_rfl) rfl) _ _ (by simp [Maps.size, maxLen]) (by simp [Maps.size]) _ hseq
 refine ((callsIn_wide (n := 5)).1 cS).mono ?_
 rintro e w' ⟨v, ss, rfl, hS, hrow, hnil, hb⟩
 have hss : ss = [10] := List.perm_singleton.1 hS
 subst hss
 rw [List.mergeSort_singleton] at hrow
 refine ⟨?_, hb⟩
 obtain ⟨_, hn | ⟨g3, cap, cu, rfl, _, hh, _, _, _, h4⟩⟩ := hrow
 . exact absurd hn.2 (by simp)
 refine ⟨g3, cap, cu, rfl, hh, ?_⟩
 have h5 : (cu.toList.take 1)[0]? = some (.int .i64 10) := by
  have := h4
  simp only [List.length_cons, List.length_nil, Nat.zero_add, Nat.one_mul] at this
  rw [this]; rfl
 simpa using h5
theorem sortedD_ok (b : Nat) (w : World) (hm : w.heap[b]? = some (.map #[] 0)) : Calls Tryz.prog 189 #[.func (.func 224) #[] #[.pointer (some ⟨w.heap.size, 0, none⟩)]] (w.alloc (.cells #[.map (some b)] 125)) fun e w' =>
 e = .returned (.slice none 0 0) /\ Below (w.alloc (.cells #[.map (some b)] 125)).heap.size (w.alloc (.cells #[.map (some b)] 125)) w' := by
 have hbl := obj_lt hm
 have hown : w.ownsMap Tryz.prog 9 anyR b 0 (.map []) := ⟨#[], 0, hm, ⟨by simp, MapKept.stamped_empty 0, by simp⟩, Nat.le_refl _, rfl⟩
 have hseq : SeqGives Fence.wide 2 Tryz.prog 224 #[.pointer (some ⟨w.heap.size, 0, none⟩)] encStr (fun ss => ss.Perm (strKeys (.map [] : DataW Unit))) (Maps.size (.map [] : DataW Unit)) (w.alloc (.cells #[.map (some b)] 125)) :=
  AnyZ.keys_gives (ρ := Tryz.keys154_ren) { Tryz.keys154 with } Fence.wide _ trivial rfl (by omega) w.heap.size b 0 _ _ (by simp) (by simp) (by
   obtain ⟨es, clock, hb, Ft, hs, hD⟩ := hown
   exact ⟨es, clock, (Below.heap_alloc _ _ b hbl).trans hb, Ft, hs, hD⟩)
 have cS := AnyZ.sorted_in Tryz.sorted153 Fence.wide 5 trivial trivial trivial trivial rfl (by omega) (sorts153 _) (enters_of Tryz.func223 (by kernel_rfl) rfl) 224 #[.pointer (some ⟨w.heap.size, 0, none⟩)] trivial (enters_of Tryz.func224 (by kernel_rfl) rfl) _ _ (by simp [Maps.size, maxLen]) (by simp [Maps.size]) _ hseq
 refine ((callsIn_wide (n := 5)).1 cS).mono ?_
 rintro e w' ⟨v, ss, rfl, hS, hrow, hnil, hb⟩
 have hss : ss = [] := List.Perm.eq_nil hS
 exact ⟨by rw [hnil.2 hss], hb⟩
end Mo
end Go.Proofs.YtkdnebalpdebeaaGreatDoor
