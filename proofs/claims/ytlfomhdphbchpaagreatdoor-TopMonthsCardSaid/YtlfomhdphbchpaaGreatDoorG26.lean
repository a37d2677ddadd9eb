/- Lemmas of a claim, several texts in one: MoI, MoJ, Iter -/
import Derived.Test.YtlfomhdphbchpaaGreatDoorG25
import Derived.Shelf.SlIterI.Nil
import Derived.Shelf.SlIter.Nil
import Derived.Shelf.SortM.Plain
import Derived.Shelf.SortM.SortNone
import Derived.Ground.GgzProg
import Derived.Ground.SlgmProg
/-! model: stepped -/
namespace Go.Proofs.YtlfomhdphbchpaaGreatDoor.Mo
open Go.RowKit Go.Deep Go.Proofs.YtlfomhdphbchpaaGreatDoor.Wide Go.Proofs.YtlfomhdphbchpaaGreatDoor.Dec Go.Proofs.YtlfomhdphbchpaaGreatDoor.Mp Go.Proofs.YtlfomhdphbchpaaGreatDoor.Pr Go.Proofs.YtlfomhdphbchpaaGreatDoor.Ch
set_option linter.unusedVariables false
set_option linter.unusedSimpArgs false
/-- what a step leaves: the balance, what is accrued -/
def stepB (k b a n : Int) : Int := if k = 1 then b else if k = 2 then b + n else b - n
def stepA (k b a n : Int) : Int := if k = 1 then a + n else if k = 2 then Acc.payY a (10000000000000 - b) else a
theorem led_turn {gl : Nat} {w w' : World} {g : Nat} {o old : Obj} (h : Led gl w) (ht : Turn w g o w') (ho : w.heap[g]? = some old) (hd : alikeO old (.map #[] 0) = false) (hl : g ≠ gl) : Led gl w' :=
  h.keep (S := [g]) ht.keep (by simpa using Ne.symm hl) (by
    intro k hk
    simp only [List.mem_singleton] at hk
    subst hk
    refine .inr (fun es cl hm => ?_)
    rw [hm] at ho; cases ho; simp [alikeO] at hd)
theorem led_ne {gl g : Nat} {w : World} {o : Obj} (h : Led gl w) (hg : w.heap[g]? = some o) (hd : alikeO o (.cells #[] 108) = false) : g ≠ gl := by
  intro e
  obtain ⟨b, cl, L, n, h1, _⟩ := h
  rw [← e, hg] at h1
  cases h1
  simp [alikeO] at hd
set_option maxHeartbeats 4000000 in
set_option maxRecDepth 100000 in
theorem stepped_ok (gm gc ba br bk gl ga bh : Nat) (day seq b a k n : Int) (run : Bool) (st : Value) (hk : k = 1 ∨ k = 2 ∨ k = 3) (hb : 0 ≤ b ∧ b ≤ 10000000000000) (ha : 0 ≤ a ∧ a ≤ 4000000000000000000) (hn : 0 ≤ n ∧ n ≤ 1000000000000000000) (W : World)
    (hm : W.heap[gm]? = some (.cells (modE day gc ba br bk gl seq run st) 64)) (hg : W.heap[ga]? = some (.cells (acctE b a bh) 126)) (hl : Led gl W) :
    Calls Tryz.prog 56 #[.pointer (some ⟨gm, 0, none⟩), .pointer (some ⟨ga, 0, none⟩), .int .i64 k, .int .i64 n] W fun e w' => e = unitR ∧ Keep [ga, gl] W w' ∧ w'.heap[ga]? = some (.cells (acctE (stepB k b a n) (stepA k b a n) bh) 126) ∧ Led gl w' := by
  have H1 := Lib.hid (HasO.cons hg (HasO.cons hm (HasO.start [ga, gl] W)))
  have H0 := Lib.hid (HasO.cons hg (HasO.cons hm (HasO.start [] W)))
  have HL := Lib.hid hl
  have HNE := Lib.hid (led_ne hl hg rfl)
  clear hm hg hl
  obtain ⟨b1, b2⟩ := hb
  obtain ⟨a1, a2⟩ := ha
  obtain ⟨n1, n2⟩ := hn
  rcases hk with rfl | rfl | rfl
  · have e1 : IntKind.i64.wrap (a + n) = a + n := IntWalk.i64_in _ (by omega)
    go_enter Tryz.func56, Tryz.ntmps56
    go_wp2_with (first
      | (refine wpListG_cell rfl 2 (.tmp 14) rfl ga 7 rfl 126 (acctE b a bh) (.int .i64 a) rfl _ (H1.out.get 0 rfl) Tryz.underlying2 rfl ?_)
      | (refine wpList_turn rfl 2 (.tmp 20) (.tmp 17) rfl ga 7 (.int .i64 (a + n)) rfl rfl 126 (acctE b a bh) (acctE b (a + n) bh) (H1.out.get 0 rfl) (by first | kernel_rfl | (rw [enc_size]; kernel_rfl)) (by first | (simp [Value.cells]; done) | (simp [Value.cells, prodE, prodZ, evE, nsE, evZ, acctE]; done) | exact Nat.le_refl _) (by first | exact decE_all _ _ | (simp [Value.cells, Value.oneCell']; done) | (simp [Value.cells, Value.oneCell', prodE, prodZ, evE, nsE, evZ, acctE]; done) | (rw [Array.all_eq_true']; simp [Value.cells, Value.oneCell', prodE, prodZ, evE, nsE, evZ, acctE])) rfl ?_; intro W2 HT2))
    go_end0
    exact ⟨rfl, HT2.keep.mono (by simp), HT2.at_, led_turn HL.out HT2 (H1.out.obj 0 rfl) rfl HNE.out⟩
  · have e1 : IntKind.i64.wrap (10000000000000 - b) = 10000000000000 - b := IntWalk.i64_in _ (by omega)
    have e2 : IntKind.i64.wrap (b + n) = b + n := IntWalk.i64_in _ (by omega)
    have CD := Lib.hid (fun w => Acc.pay_ok a (10000000000000 - b) w)
    obtain ⟨y, hy⟩ : ∃ y, y = Acc.payY a (10000000000000 - b) := ⟨_, rfl⟩
    rw [show stepA 2 b a n = y from hy.symm, show stepB 2 b a n = b + n from rfl]
    rw [← hy] at CD
    have CM := Lib.hid (fun w hm hl => moves_ok gm gc ba br bk gl day seq 4 2 n run st (by omega) (by omega) (by omega) w hm hl)
    clear hy
    go_enter Tryz.func56, Tryz.ntmps56
    go_wp2_with fail
    refine wp_region_regF (fun w' => HasO [] W [(ga, .cells (acctE b a bh) 126), (gm, .cells (modE day gc ba br bk gl seq run st) 64)] w') (fun w' => HasO [ga, gl] W [] w') (fun _ => (0, #[])) [0, 1, 2, 3, 4, 5, 6, 7, 8, 9, 10, 11, 12, 13, 14, 15, 16, 17, 18, 19] [] [20] [16] (by kernel_rfl) (by kernel_rfl) ?_ (fun w w' h hb => h.step hb) ?_ (fun k hk => by cases hk) ?_
    · exact fun w h => HasO.nil (h.1.mono (by simp))
    · exact H0.out.drew
    simp only [List.map_cons, List.map_nil, opAt, List.getElem?_cons_succ, List.getElem?_cons_zero, Option.getD_some, List.contains_cons, List.contains_nil, Nat.reduceBEq, Bool.or_false, Bool.or_true, Bool.true_or, Bool.false_or]
    repeat (refine wpX_pure rfl ?_; go_big_quiet_step ((intro _; rfl)); refine wpQuiet_nil ?_)
    refine wpX_pure rfl ?_
    refine wpQuiet_cell 2 (.tmp 28) rfl rfl ⟨ga, 7, none⟩ rfl (.int .i64 a) _ (fun w hw => (hw.get 0 rfl).cell 7) Tryz.underlying2 rfl (fun KK hKK => ?_)
    go_simp
    refine hKK _ ?_
    clear hKK KK
    refine wpQuiet_nil ?_
    repeat (refine wpX_pure rfl ?_; go_big_quiet_step ((intro _; rfl)); refine wpQuiet_nil ?_)
    refine wpX_pure rfl ?_
    refine wpQuiet_cell 2 (.tmp 33) rfl rfl ⟨ga, 5, none⟩ rfl (.int .i64 b) _ (fun w hw => (hw.get 0 rfl).cell 5) Tryz.underlying2 rfl (fun KK hKK => ?_)
    go_simp
    refine hKK _ ?_
    clear hKK KK
    refine wpQuiet_nil ?_
    repeat (refine wpX_pure rfl ?_; go_big_quiet_step ((intro _; rfl)); refine wpQuiet_nil ?_)
    refine wpX_call (.tuple #[.int .i64 (Acc.payX a (10000000000000 - b)), .int .i64 y, .int .i64 (Acc.payE a (10000000000000 - b))]) 60 #[.int .i64 a, .int .i64 (10000000000000 - b)] rfl (fun w => by go_simp) (fun w hw => (CD.out w).mono fun e w' h => ⟨h.1, by rw [h.2]; exact Below.refl _ _⟩) (fun KK hKK => ?_)
    go_simp
    refine hKK _ ?_
    clear hKK KK
    repeat (refine wpX_pure rfl ?_; go_big_quiet_step ((intro _; rfl)); refine wpQuiet_nil ?_)
    repeat (refine wpX_float rfl ?_; go_big_quiet_step ((intro _; rfl)); refine wpQuiet_nil ?_)
    repeat (refine wpX_pure rfl ?_; go_big_quiet_step ((intro _; rfl)); refine wpQuiet_nil ?_)
    refine wpX_nil ?_
    intro gs5 w5 H5
    intro hmade
    simp only [putAll, wpTail, opAt, List.getElem?_cons_succ, List.getElem?_cons_zero, Option.getD_some, Act.put]
    have HL5 := Lib.hid (HL.out.step H5.below)
    have H5 : Hid (HasO [ga, gl] W [(ga, .cells (acctE b a bh) 126), (gm, .cells (modE day gc ba br bk gl seq run st) 64)] w5) := Lib.hid ⟨H5.1.mono (by simp), H5.2⟩
    clear hmade H1 H0
    go_wp2_with (refine wpList_turn rfl 2 (.tmp 42) (.tmp 38) rfl ga 7 (.int .i64 y) rfl rfl 126 (acctE b a bh) (acctE b y bh) (H5.out.get 0 rfl) (by first | kernel_rfl | (rw [enc_size]; kernel_rfl)) (by first | (simp [Value.cells]; done) | (simp [Value.cells, prodE, prodZ, evE, nsE, evZ, acctE]; done) | exact Nat.le_refl _) (by first | exact decE_all _ _ | (simp [Value.cells, Value.oneCell']; done) | (simp [Value.cells, Value.oneCell', prodE, prodZ, evE, nsE, evZ, acctE]; done) | (rw [Array.all_eq_true']; simp [Value.cells, Value.oneCell', prodE, prodZ, evE, nsE, evZ, acctE])) rfl ?_; intro W6 HT6)
    have H6 := Lib.hid (H5.out.turn 0 rfl HT6 (.inl (by simp)) (H5.out.apart 0 rfl rfl))
    have HL6 := Lib.hid (led_turn HL5.out HT6 (H5.out.obj 0 rfl) rfl HNE.out)
    clear H5
    refine ⟨H6.out.of_mem (by simp), ?_⟩
    go_wp2_with (first
      | (refine wpListG_cell rfl 2 (.tmp 46) rfl ga 5 rfl 126 (acctE b y bh) (.int .i64 b) rfl _ (H6.out.get 0 rfl) Tryz.underlying2 rfl ?_)
      | (refine wpList_turn rfl 2 (.tmp 52) (.tmp 49) rfl ga 5 (.int .i64 (b + n)) rfl rfl 126 (acctE b y bh) (acctE (b + n) y bh) (H6.out.get 0 rfl) (by first | kernel_rfl | (rw [enc_size]; kernel_rfl)) (by first | (simp [Value.cells]; done) | (simp [Value.cells, prodE, prodZ, evE, nsE, evZ, acctE]; done) | exact Nat.le_refl _) (by first | exact decE_all _ _ | (simp [Value.cells, Value.oneCell']; done) | (simp [Value.cells, Value.oneCell', prodE, prodZ, evE, nsE, evZ, acctE]; done) | (rw [Array.all_eq_true']; simp [Value.cells, Value.oneCell', prodE, prodZ, evE, nsE, evZ, acctE])) rfl ?_; intro W7 HT7
         have H7 := Lib.hid (H6.out.turn 0 rfl HT7 (.inl (by simp)) (H6.out.apart 0 rfl rfl))
         have HL7 := Lib.hid (led_turn HL6.out HT7 (H6.out.obj 0 rfl) rfl HNE.out)
         clear H6 HL6)
      | (refine wpListG_cell rfl 3 (.tmp 56) rfl ga 3 rfl 126 (acctE (b + n) y bh) (.int .i64 1) rfl _ (H7.out.get 0 rfl) Tryz.underlying3 rfl ?_)
      | (refine wpListG_cell rfl 3 (.tmp 71) rfl ga 2 rfl 126 (acctE (b + n) y bh) (.int .i64 0) rfl _ (H7.out.get 0 rfl) Tryz.underlying3 rfl ?_))
    refine (CM.out _ (H7.out.obj 1 rfl) HL7.out).mono ?_
    rintro e w8 ⟨rfl, hk8, hl8⟩
    have hg8 := (hk8.block ga (obj_lt (H7.out.obj 0 rfl)) (by simpa using HNE.out)).trans (H7.out.obj 0 rfl)
    have HK8 := Lib.hid (H7.out.1.trans hk8 (by simp))
    have HG8 := Lib.hid hg8
    have HL8 := Lib.hid hl8
    clear hk8 hl8 hg8
    unfold unitR
    go_wp2_with fail
    go_end0
    exact ⟨rfl, HK8.out, HG8.out, HL8.out⟩
  · have e2 : IntKind.i64.wrap (b - n) = b - n := IntWalk.i64_in _ (by omega)
    have CM := Lib.hid (fun w hm hl => moves_ok gm gc ba br bk gl day seq 2 6 n run st (by omega) (by omega) (by omega) w hm hl)
    go_enter Tryz.func56, Tryz.ntmps56
    go_wp2_with (first
      | (refine wpListG_cell rfl 2 (.tmp 80) rfl ga 5 rfl 126 (acctE b a bh) (.int .i64 b) rfl _ (H1.out.get 0 rfl) Tryz.underlying2 rfl ?_)
      | (refine wpList_turn rfl 2 (.tmp 86) (.tmp 83) rfl ga 5 (.int .i64 (b - n)) rfl rfl 126 (acctE b a bh) (acctE (b - n) a bh) (H1.out.get 0 rfl) (by first | kernel_rfl | (rw [enc_size]; kernel_rfl)) (by first | (simp [Value.cells]; done) | (simp [Value.cells, prodE, prodZ, evE, nsE, evZ, acctE]; done) | exact Nat.le_refl _) (by first | exact decE_all _ _ | (simp [Value.cells, Value.oneCell']; done) | (simp [Value.cells, Value.oneCell', prodE, prodZ, evE, nsE, evZ, acctE]; done) | (rw [Array.all_eq_true']; simp [Value.cells, Value.oneCell', prodE, prodZ, evE, nsE, evZ, acctE])) rfl ?_; intro W7 HT7
         have H7 := Lib.hid (H1.out.turn 0 rfl HT7 (.inl (by simp)) (H1.out.apart 0 rfl rfl))
         have HL7 := Lib.hid (led_turn HL.out HT7 (H1.out.obj 0 rfl) rfl HNE.out))
      | (refine wpListG_cell rfl 3 (.tmp 91) rfl ga 2 rfl 126 (acctE (b - n) a bh) (.int .i64 0) rfl _ (H7.out.get 0 rfl) Tryz.underlying3 rfl ?_))
    refine (CM.out _ (H7.out.obj 1 rfl) HL7.out).mono ?_
    rintro e w8 ⟨rfl, hk8, hl8⟩
    have hg8 := (hk8.block ga (obj_lt (H7.out.obj 0 rfl)) (by simpa using HNE.out)).trans (H7.out.obj 0 rfl)
    have HK8 := Lib.hid (H7.out.1.trans hk8 (by simp))
    have HG8 := Lib.hid hg8
    have HL8 := Lib.hid hl8
    clear hk8 hl8 hg8
    unfold unitR
    go_wp2_with fail
    go_end0
    exact ⟨rfl, HK8.out, HG8.out, HL8.out⟩
end Go.Proofs.YtlfomhdphbchpaaGreatDoor.Mo

/-! model: happen, of a roll, of a step -/
namespace Go.Proofs.YtlfomhdphbchpaaGreatDoor.Mo
open Go.RowKit Go.Deep Go.Proofs.YtlfomhdphbchpaaGreatDoor.Wide Go.Proofs.YtlfomhdphbchpaaGreatDoor.Dec Go.Proofs.YtlfomhdphbchpaaGreatDoor.Mp Go.Proofs.YtlfomhdphbchpaaGreatDoor.Pr Go.Proofs.YtlfomhdphbchpaaGreatDoor.Ch
set_option linter.unusedVariables false
set_option linter.unusedSimpArgs false
def lookA (n : Int) (ga : Nat) : Value := if n = 10 then .pointer (some ⟨ga, 0, none⟩) else .pointer none
theorem lookN (ga ba : Nat) (n : Int) (w : World) (h : w.heap[ba]? = some (.map #[entA ga] 1)) : (Instr.lookup 57 (.map (some ba)) (.int .i64 n) false).run Tryz.prog w = .ok (lookA n ga) w := by
  by_cases hn : n = 10
  · subst hn; exact look10 ga ba w h
  · have := run_lookup1 (P := Tryz.prog) (d := .int .i64) (z := .pointer none) Tryz.underlying57 (by kernel_rfl) (show MapKept.IsKey (.int .i64) (.int .i64 n) from rfl) (fun w => by first | exact Tryz.zeroValue120 w | exact Tryz.zeroValue120 _) ba #[entA ga] 1 none (by
      have hb : (n == 10) = false := beq_eq_false_iff_ne.2 hn
      simp [Instr.findNow, Instr.sameNow, entA, hb]) false w h
    rw [this]
    unfold lookA lookV
    rw [if_neg hn]
    rfl
set_option maxHeartbeats 4000000 in
set_option maxRecDepth 100000 in
theorem happen_roll (gm gc ba br bk gl ga : Nat) (day seq : Int) (st : Value) (hd : 1 ≤ day ∧ day < 3652059) (W : World)
    (h : HasO [] W [(gm, .cells (modE day gc ba br bk gl seq true st) 64), (ba, .map #[entA ga] 1)] W) :
    Calls Tryz.prog 24 #[.pointer (some ⟨gm, 0, none⟩), .agg (evE 15 (day + 1) 0 0 0 0 0 0 0 (.slice none 0 0))] W fun e w' => e = unitR ∧ Keep [gm] W w' ∧ w'.heap[gm]? = some (.cells (modE (day + 1) gc ba br bk gl seq false st) 64) := by
  have HLT := Lib.hid (obj_lt (h.obj 0 rfl))
  have H1 : Hid (HasO [] W [(W.heap.size + 1, .cells (nsE (day + 1) 0 0 0 0 0 0 0) 29), (W.heap.size, .cells (evE 15 (day + 1) 0 0 0 0 0 0 0 (.slice none 0 0)) 32), (gm, .cells (modE day gc ba br bk gl seq true st) 64), (ba, .map #[entA ga] 1)] _) := Lib.hid ((h.new (g := W.heap.size) rfl (.cells (evE 15 (day + 1) 0 0 0 0 0 0 0 (.slice none 0 0)) 32)).new (g := W.heap.size + 1) (by simp) (.cells (nsE (day + 1) 0 0 0 0 0 0 0) 29))
  obtain ⟨d1, d2⟩ := hd
  have e1 : IntKind.i64.wrap (day + 1) = day + 1 := IntWalk.i64_in _ (by omega)
  clear h
  rw [evE]
  go_enter Tryz.func24, Tryz.ntmps24
  go_wp2_with fail
  refine wp_region_class (fun w' => HasO [] W _ w') [0, 1, 2, 3, 4, 5, 6, 7, 8, 9, 10, 11, 12, 13, 14, 15] (by kernel_rfl) (by kernel_rfl) (H1.out.drew) ?_
  simp only [List.map_cons, List.map_nil, opAt, List.getElem?_cons_succ, List.getElem?_cons_zero, Option.getD_some]
  repeat (go_big_quiet_step ((intro _; rfl)))
  refine wpQuiet_cell 57 (.tmp 13) rfl rfl ⟨gm, 2, none⟩ rfl (.map (some ba)) _ (fun w hw => (hw.get 2 rfl).cell 2) Tryz.underlying57 rfl (fun KK hKK => ?_)
  go_simp
  refine hKK _ ?_
  clear hKK KK
  repeat (go_big_quiet_step ((intro _; rfl)))
  refine wpQuiet_cell 2 (.tmp 15) rfl rfl ⟨(W.heap.size + 1), 0, none⟩ rfl (.int .i64 (day + 1)) _ (fun w hw => (hw.get 0 rfl).cell 0) Tryz.underlying2 rfl (fun KK hKK => ?_)
  go_simp
  refine hKK _ ?_
  clear hKK KK
  refine wpQuiet_lookup rfl 57 (.tmp 14) (.tmp 16) false rfl ba (.int .i64 (day + 1)) (lookA (day + 1) ga) rfl rfl (fun w hw => lookN ga ba _ w (hw.obj 3 rfl)) (fun KK hKK => ?_)
  go_simp
  refine hKK _ ?_
  clear hKK KK
  repeat (go_big_quiet_step ((intro _; rfl)))
  refine wpQuiet_cell 57 (.tmp 20) rfl rfl ⟨gm, 2, none⟩ rfl (.map (some ba)) _ (fun w hw => (hw.get 2 rfl).cell 2) Tryz.underlying57 rfl (fun KK hKK => ?_)
  go_simp
  refine hKK _ ?_
  clear hKK KK
  repeat (go_big_quiet_step ((intro _; rfl)))
  refine wpQuiet_cell 2 (.tmp 22) rfl rfl ⟨(W.heap.size + 1), 1, none⟩ rfl (.int .i64 0) _ (fun w hw => (hw.get 0 rfl).cell 1) Tryz.underlying2 rfl (fun KK hKK => ?_)
  go_simp
  refine hKK _ ?_
  clear hKK KK
  refine wpQuiet_lookup rfl 57 (.tmp 21) (.tmp 23) false rfl ba (.int .i64 0) (lookA 0 ga) rfl rfl (fun w hw => lookN ga ba _ w (hw.obj 3 rfl)) (fun KK hKK => ?_)
  go_simp
  refine hKK _ ?_
  clear hKK KK
  repeat (go_big_quiet_step ((intro _; rfl)))
  refine wpQuiet_nil ?_
  intro w5 H5
  have H5 : Hid (HasO [gm] W [(W.heap.size + 1, .cells (nsE (day + 1) 0 0 0 0 0 0 0) 29), (W.heap.size, .cells (evE 15 (day + 1) 0 0 0 0 0 0 0 (.slice none 0 0)) 32), (gm, .cells (modE day gc ba br bk gl seq true st) 64), (ba, .map #[entA ga] 1)] w5) := Lib.hid ⟨H5.1.mono (by simp), H5.2⟩
  clear H1
  go_wp2_with (first
    | (refine wpListG_cell rfl 5 (.tmp 25) rfl W.heap.size 0 rfl 32 (evE 15 (day + 1) 0 0 0 0 0 0 0 (.slice none 0 0)) (.int .u8 15) rfl _ (H5.out.get 1 rfl) Tryz.underlying5 rfl ?_)
    | (refine wpList_turn rfl 4 (.tmp 320) (.const (.bool false)) rfl gm 7 (.bool false) rfl rfl 64 (modE day gc ba br bk gl seq true st) (modE day gc ba br bk gl seq false st) (H5.out.get 2 rfl) (by first | kernel_rfl | (rw [enc_size]; kernel_rfl)) (by first | (simp [Value.cells]; done) | (simp [Value.cells, prodE, prodZ, evE, nsE, evZ, acctE, modE]; done) | exact Nat.le_refl _) (by first | exact decE_all _ _ | (simp [Value.cells, Value.oneCell']; done) | (simp [Value.cells, Value.oneCell', prodE, prodZ, evE, nsE, evZ, acctE, modE]; done) | (rw [Array.all_eq_true']; simp [Value.cells, Value.oneCell', prodE, prodZ, evE, nsE, evZ, acctE, modE])) rfl ?_; intro W6 HT6
       have H6 := Lib.hid (H5.out.turn 2 rfl HT6 (.inl (by simp)) (H5.out.apart 2 rfl rfl)))
    | (refine wpListG_cell rfl 3 (.tmp 323) rfl gm 0 rfl 64 (modE day gc ba br bk gl seq false st) (.int .i64 day) rfl _ (H6.out.get 2 rfl) Tryz.underlying3 rfl ?_)
    | (refine wpList_turn rfl 3 (.tmp 327) (.tmp 325) rfl gm 0 (.int .i64 (day + 1)) rfl rfl 64 (modE day gc ba br bk gl seq false st) (modE (day + 1) gc ba br bk gl seq false st) (H6.out.get 2 rfl) (by first | kernel_rfl | (rw [enc_size]; kernel_rfl)) (by first | (simp [Value.cells]; done) | (simp [Value.cells, prodE, prodZ, evE, nsE, evZ, acctE, modE]; done) | exact Nat.le_refl _) (by first | exact decE_all _ _ | (simp [Value.cells, Value.oneCell']; done) | (simp [Value.cells, Value.oneCell', prodE, prodZ, evE, nsE, evZ, acctE, modE]; done) | (rw [Array.all_eq_true']; simp [Value.cells, Value.oneCell', prodE, prodZ, evE, nsE, evZ, acctE, modE])) rfl ?_; intro W7 HT7))
  go_end0
  exact ⟨rfl, H6.out.1.trans HT7.keep (by simp), HT7.at_⟩
end Go.Proofs.YtlfomhdphbchpaaGreatDoor.Mo

/- the sorted keys of a map: the shelf's contracts at this program (the layings were written by the kit's tool: function and type numbers are this seat's own) -/
namespace Go.Proofs
open Go.Shelf
def Tryz.keys91_ren : Go.Shelf.Ren := ⟨fun | 7 => 91 | 10 => 136 | n => n, fun | 23 => 57 | 26 => 2 | 3 => 120 | 28 => 182 | 0 => 0 | 27 => 181 | 33 => 185 | 4 => 4 | n => n, fun | n => n⟩
theorem Tryz.keys91 : Go.Proofs.SlLaysZI.n7 Tryz.prog Tryz.keys91_ren := {
  mixed := by kernel_rfl
  f7 := ⟨Tryz.f91.name, by decide, Tryz.func91.trans (congrArg some (by kernel_rfl))⟩
  f10 := ⟨Tryz.f136.name, by decide, Tryz.func136.trans (congrArg some (by kernel_rfl))⟩
  t0 := Tryz.underlying0
  a0 := Tryz.isAgg0
  z0 := Tryz.sizeOf0
  v0 := Tryz.zeroValue0
  t4 := Tryz.underlying4
  a4 := Tryz.isAgg4
  z4 := Tryz.sizeOf4
  v4 := Tryz.zeroValue4
  t23 := Tryz.underlying57
  a23 := Tryz.isAgg57
  z23 := Tryz.sizeOf57
  v23 := Tryz.zeroValue57
  t26 := Tryz.underlying2
  a26 := Tryz.isAgg2
  z26 := Tryz.sizeOf2
  v26 := Tryz.zeroValue2
  t27 := Tryz.underlying181
  a27 := Tryz.isAgg181
  z27 := Tryz.sizeOf181
  v27 := Tryz.zeroValue181
  t28 := Tryz.underlying182
  a28 := Tryz.isAgg182
  z28 := Tryz.sizeOf182
  v28 := Tryz.zeroValue182
  t33 := Tryz.underlying185
  a33 := Tryz.isAgg185
  z33 := Tryz.sizeOf185
  v33 := Tryz.zeroValue185 }
def Tryz.sorted90_ren : Go.Shelf.Ren := ⟨fun | 6 => 90 | 8 => 135 | 9 => 104 | 11 => 180 | 13 => 156 | 12 => 155 | 23 => 205 | 24 => 188 | 14 => 196 | 15 => 197 | 16 => 198 | 17 => 199 | 18 => 200 | 19 => 201 | 20 => 202 | 21 => 203 | 22 => 204 | 25 => 219 | 26 => 220 | 27 => 221 | 28 => 222 | 29 => 223 | 30 => 224 | 31 => 241 | n => n, fun | 26 => 2 | 28 => 182 | 24 => 111 | 0 => 0 | 3 => 3 | 37 => 54 | 48 => 268 | 50 => 28 | 4 => 4 | 40 => 303 | 39 => 302 | 45 => 230 | 5 => 5 | 9 => 9 | 51 => 316 | 55 => 319 | 57 => 334 | 58 => 240 | 33 => 185 | n => n, fun | n => n⟩
theorem Tryz.sorted90 : Go.Proofs.SlLaysZI.n6 Tryz.prog Tryz.sorted90_ren := {
  mixed := by kernel_rfl
  f6 := ⟨Tryz.f90.name, by decide, Tryz.func90.trans (congrArg some (by kernel_rfl))⟩
  f8 := ⟨Tryz.f135.name, by decide, Tryz.func135.trans (congrArg some (by kernel_rfl))⟩
  f11 := ⟨Tryz.f180.name, by decide, Tryz.func180.trans (congrArg some (by kernel_rfl))⟩
  t0 := Tryz.underlying0
  a0 := Tryz.isAgg0
  z0 := Tryz.sizeOf0
  v0 := Tryz.zeroValue0
  t24 := Tryz.underlying111
  a24 := Tryz.isAgg111
  z24 := Tryz.sizeOf111
  v24 := Tryz.zeroValue111
  t26 := Tryz.underlying2
  a26 := Tryz.isAgg2
  z26 := Tryz.sizeOf2
  v26 := Tryz.zeroValue2
  t28 := Tryz.underlying182
  a28 := Tryz.isAgg182
  z28 := Tryz.sizeOf182
  v28 := Tryz.zeroValue182
  i26 := by kernel_rfl }
def Tryz.sort104_ren : Go.Shelf.Ren := ⟨fun | 5 => 104 | 8 => 156 | 7 => 155 | 19 => 205 | 20 => 188 | 10 => 196 | 11 => 197 | 12 => 198 | 13 => 199 | 14 => 200 | 15 => 201 | 16 => 202 | 17 => 203 | 18 => 204 | 30 => 219 | 31 => 220 | 32 => 221 | 33 => 222 | 34 => 223 | 35 => 224 | 40 => 241 | n => n, fun | 23 => 111 | 25 => 2 | 3 => 3 | 32 => 54 | 22 => 111 | 0 => 0 | 44 => 268 | 46 => 28 | 4 => 4 | 36 => 303 | 35 => 302 | 41 => 230 | 5 => 5 | 9 => 9 | 53 => 316 | 57 => 319 | 63 => 334 | 64 => 240 | n => n, fun | n => n⟩
theorem Tryz.sort104 : Go.Proofs.SlLaysM.n5 Tryz.prog Tryz.sort104_ren := {
  mixed := by kernel_rfl
  f5 := ⟨Tryz.f104.name, by decide, Tryz.func104.trans (congrArg some (by kernel_rfl))⟩
  f7 := ⟨Tryz.f155.name, by decide, Tryz.func155.trans (congrArg some (by kernel_rfl))⟩
  f8 := Tryz.func156.trans (congrArg some (by kernel_rfl))
  f10 := ⟨Tryz.f196.name, by decide, Tryz.func196.trans (congrArg some (by kernel_rfl))⟩
  f11 := ⟨Tryz.f197.name, by decide, Tryz.func197.trans (congrArg some (by kernel_rfl))⟩
  f12 := ⟨Tryz.f198.name, by decide, Tryz.func198.trans (congrArg some (by kernel_rfl))⟩
  f13 := ⟨Tryz.f199.name, by decide, Tryz.func199.trans (congrArg some (by kernel_rfl))⟩
  f14 := ⟨Tryz.f200.name, by decide, Tryz.func200.trans (congrArg some (by kernel_rfl))⟩
  f15 := ⟨Tryz.f201.name, by decide, Tryz.func201.trans (congrArg some (by kernel_rfl))⟩
  f16 := ⟨Tryz.f202.name, by decide, Tryz.func202.trans (congrArg some (by kernel_rfl))⟩
  f17 := ⟨Tryz.f203.name, by decide, Tryz.func203.trans (congrArg some (by kernel_rfl))⟩
  f18 := ⟨Tryz.f204.name, by decide, Tryz.func204.trans (congrArg some (by kernel_rfl))⟩
  f19 := Tryz.func205.trans (congrArg some (by kernel_rfl))
  f20 := Tryz.func188.trans (congrArg some (by kernel_rfl))
  f30 := ⟨Tryz.f219.name, by decide, Tryz.func219.trans (congrArg some (by kernel_rfl))⟩
  f31 := Tryz.func220.trans (congrArg some (by kernel_rfl))
  f32 := Tryz.func221.trans (congrArg some (by kernel_rfl))
  f33 := ⟨Tryz.f222.name, by decide, Tryz.func222.trans (congrArg some (by kernel_rfl))⟩
  f34 := ⟨Tryz.f223.name, by decide, Tryz.func223.trans (congrArg some (by kernel_rfl))⟩
  f35 := ⟨Tryz.f224.name, by decide, Tryz.func224.trans (congrArg some (by kernel_rfl))⟩
  f40 := ⟨Tryz.f241.name, by decide, Tryz.func241.trans (congrArg some (by kernel_rfl))⟩
  t0 := Tryz.underlying0
  a0 := Tryz.isAgg0
  z0 := Tryz.sizeOf0
  v0 := Tryz.zeroValue0
  t3 := Tryz.underlying3
  a3 := Tryz.isAgg3
  z3 := Tryz.sizeOf3
  v3 := Tryz.zeroValue3
  t4 := Tryz.underlying4
  a4 := Tryz.isAgg4
  z4 := Tryz.sizeOf4
  v4 := Tryz.zeroValue4
  t5 := Tryz.underlying5
  a5 := Tryz.isAgg5
  z5 := Tryz.sizeOf5
  v5 := Tryz.zeroValue5
  t9 := Tryz.underlying9
  a9 := Tryz.isAgg9
  z9 := Tryz.sizeOf9
  v9 := Tryz.zeroValue9
  t22 := Tryz.underlying111
  a22 := Tryz.isAgg111
  z22 := Tryz.sizeOf111
  v22 := Tryz.zeroValue111
  t23 := Tryz.underlying111
  a23 := Tryz.isAgg111
  z23 := Tryz.sizeOf111
  v23 := Tryz.zeroValue111
  t25 := Tryz.underlying2
  a25 := Tryz.isAgg2
  z25 := Tryz.sizeOf2
  v25 := Tryz.zeroValue2
  t32 := Tryz.underlying54
  a32 := Tryz.isAgg54
  z32 := Tryz.sizeOf54
  v32 := Tryz.zeroValue54
  t35 := Tryz.underlying302
  a35 := Tryz.isAgg302
  z35 := Tryz.sizeOf302
  v35 := Tryz.zeroValue302
  t36 := Tryz.underlying303
  a36 := Tryz.isAgg303
  z36 := Tryz.sizeOf303
  v36 := Tryz.zeroValue303
  t41 := Tryz.underlying230
  a41 := Tryz.isAgg230
  z41 := Tryz.sizeOf230
  v41 := Tryz.zeroValue230
  t44 := Tryz.underlying268
  a44 := Tryz.isAgg268
  z44 := Tryz.sizeOf268
  v44 := Tryz.zeroValue268
  t46 := Tryz.underlying28
  a46 := Tryz.isAgg28
  z46 := Tryz.sizeOf28
  v46 := Tryz.zeroValue28
  t53 := Tryz.underlying316
  a53 := Tryz.isAgg316
  z53 := Tryz.sizeOf316
  v53 := Tryz.zeroValue316
  t57 := Tryz.underlying319
  a57 := Tryz.isAgg319
  z57 := Tryz.sizeOf319
  v57 := Tryz.zeroValue319
  t63 := Tryz.underlying334
  a63 := Tryz.isAgg334
  z63 := Tryz.sizeOf334
  v63 := Tryz.zeroValue334
  t64 := Tryz.underlying240
  a64 := Tryz.isAgg240
  z64 := Tryz.sizeOf240
  v64 := Tryz.zeroValue240 }
def Tryz.keys154_ren : Go.Shelf.Ren := ⟨fun | 7 => 154 | 10 => 195 | n => n, fun | 23 => 85 | 26 => 9 | 3 => 201 | 28 => 261 | 0 => 0 | 27 => 260 | 33 => 271 | 4 => 4 | n => n, fun | n => n⟩
theorem Tryz.keys154 : Go.Proofs.SlLaysZ.n7 Tryz.prog Tryz.keys154_ren := {
  mixed := by kernel_rfl
  f7 := ⟨Tryz.f154.name, by decide, Tryz.func154.trans (congrArg some (by kernel_rfl))⟩
  f10 := ⟨Tryz.f195.name, by decide, Tryz.func195.trans (congrArg some (by kernel_rfl))⟩
  t0 := Tryz.underlying0
  a0 := Tryz.isAgg0
  z0 := Tryz.sizeOf0
  v0 := Tryz.zeroValue0
  t4 := Tryz.underlying4
  a4 := Tryz.isAgg4
  z4 := Tryz.sizeOf4
  v4 := Tryz.zeroValue4
  t23 := Tryz.underlying85
  a23 := Tryz.isAgg85
  z23 := Tryz.sizeOf85
  v23 := Tryz.zeroValue85
  t26 := Tryz.underlying9
  a26 := Tryz.isAgg9
  z26 := Tryz.sizeOf9
  v26 := Tryz.zeroValue9
  t27 := Tryz.underlying260
  a27 := Tryz.isAgg260
  z27 := Tryz.sizeOf260
  v27 := Tryz.zeroValue260
  t28 := Tryz.underlying261
  a28 := Tryz.isAgg261
  z28 := Tryz.sizeOf261
  v28 := Tryz.zeroValue261
  t33 := Tryz.underlying271
  a33 := Tryz.isAgg271
  z33 := Tryz.sizeOf271
  v33 := Tryz.zeroValue271 }
def Tryz.sorted153_ren : Go.Shelf.Ren := ⟨fun | 6 => 153 | 8 => 193 | 9 => 194 | 11 => 217 | 13 => 156 | 12 => 218 | 23 => 205 | 24 => 188 | 14 => 232 | 15 => 233 | 16 => 234 | 17 => 235 | 18 => 236 | 19 => 237 | 20 => 238 | 21 => 239 | 22 => 240 | 25 => 249 | 26 => 220 | 27 => 221 | 28 => 250 | 29 => 251 | 30 => 252 | 31 => 255 | n => n, fun | 26 => 9 | 28 => 261 | 24 => 195 | 0 => 0 | 3 => 3 | 37 => 54 | 48 => 268 | 50 => 28 | 4 => 4 | 40 => 303 | 39 => 302 | 45 => 230 | 5 => 5 | 9 => 9 | 51 => 316 | 55 => 319 | 57 => 334 | 58 => 240 | 33 => 271 | n => n, fun | n => n⟩
theorem Tryz.sorted153 : Go.Proofs.SlLaysZ.n6 Tryz.prog Tryz.sorted153_ren := {
  mixed := by kernel_rfl
  f6 := ⟨Tryz.f153.name, by decide, Tryz.func153.trans (congrArg some (by kernel_rfl))⟩
  f8 := ⟨Tryz.f193.name, by decide, Tryz.func193.trans (congrArg some (by kernel_rfl))⟩
  f11 := ⟨Tryz.f217.name, by decide, Tryz.func217.trans (congrArg some (by kernel_rfl))⟩
  t0 := Tryz.underlying0
  a0 := Tryz.isAgg0
  z0 := Tryz.sizeOf0
  v0 := Tryz.zeroValue0
  t24 := Tryz.underlying195
  a24 := Tryz.isAgg195
  z24 := Tryz.sizeOf195
  v24 := Tryz.zeroValue195
  t26 := Tryz.underlying9
  a26 := Tryz.isAgg9
  z26 := Tryz.sizeOf9
  v26 := Tryz.zeroValue9
  t28 := Tryz.underlying261
  a28 := Tryz.isAgg261
  z28 := Tryz.sizeOf261
  v28 := Tryz.zeroValue261
  i26 := by kernel_rfl }
def Tryz.sort194_ren : Go.Shelf.Ren := ⟨fun | 6 => 194 | 8 => 156 | 9 => 218 | 19 => 205 | 20 => 188 | 21 => 232 | 22 => 233 | 23 => 234 | 24 => 235 | 25 => 236 | 26 => 237 | 27 => 238 | 28 => 239 | 29 => 240 | 36 => 249 | 31 => 220 | 32 => 221 | 37 => 250 | 38 => 251 | 39 => 252 | 41 => 255 | n => n, fun | 27 => 195 | 29 => 9 | 3 => 3 | 32 => 54 | 26 => 195 | 0 => 0 | 44 => 268 | 46 => 28 | 4 => 4 | 36 => 303 | 35 => 302 | 41 => 230 | 5 => 5 | 9 => 9 | 53 => 316 | 57 => 319 | 63 => 334 | 64 => 240 | n => n, fun | n => n⟩
theorem Tryz.sort194 : Go.Proofs.SlLaysM.n6 Tryz.prog Tryz.sort194_ren := {
  mixed := by kernel_rfl
  f6 := ⟨Tryz.f194.name, by decide, Tryz.func194.trans (congrArg some (by kernel_rfl))⟩
  f8 := Tryz.func156.trans (congrArg some (by kernel_rfl))
  f9 := ⟨Tryz.f218.name, by decide, Tryz.func218.trans (congrArg some (by kernel_rfl))⟩
  f19 := Tryz.func205.trans (congrArg some (by kernel_rfl))
  f20 := Tryz.func188.trans (congrArg some (by kernel_rfl))
  f21 := ⟨Tryz.f232.name, by decide, Tryz.func232.trans (congrArg some (by kernel_rfl))⟩
  f22 := ⟨Tryz.f233.name, by decide, Tryz.func233.trans (congrArg some (by kernel_rfl))⟩
  f23 := ⟨Tryz.f234.name, by decide, Tryz.func234.trans (congrArg some (by kernel_rfl))⟩
  f24 := ⟨Tryz.f235.name, by decide, Tryz.func235.trans (congrArg some (by kernel_rfl))⟩
  f25 := ⟨Tryz.f236.name, by decide, Tryz.func236.trans (congrArg some (by kernel_rfl))⟩
  f26 := ⟨Tryz.f237.name, by decide, Tryz.func237.trans (congrArg some (by kernel_rfl))⟩
  f27 := ⟨Tryz.f238.name, by decide, Tryz.func238.trans (congrArg some (by kernel_rfl))⟩
  f28 := ⟨Tryz.f239.name, by decide, Tryz.func239.trans (congrArg some (by kernel_rfl))⟩
  f29 := ⟨Tryz.f240.name, by decide, Tryz.func240.trans (congrArg some (by kernel_rfl))⟩
  f31 := Tryz.func220.trans (congrArg some (by kernel_rfl))
  f32 := Tryz.func221.trans (congrArg some (by kernel_rfl))
  f36 := ⟨Tryz.f249.name, by decide, Tryz.func249.trans (congrArg some (by kernel_rfl))⟩
  f37 := ⟨Tryz.f250.name, by decide, Tryz.func250.trans (congrArg some (by kernel_rfl))⟩
  f38 := ⟨Tryz.f251.name, by decide, Tryz.func251.trans (congrArg some (by kernel_rfl))⟩
  f39 := ⟨Tryz.f252.name, by decide, Tryz.func252.trans (congrArg some (by kernel_rfl))⟩
  f41 := ⟨Tryz.f255.name, by decide, Tryz.func255.trans (congrArg some (by kernel_rfl))⟩
  t0 := Tryz.underlying0
  a0 := Tryz.isAgg0
  z0 := Tryz.sizeOf0
  v0 := Tryz.zeroValue0
  t3 := Tryz.underlying3
  a3 := Tryz.isAgg3
  z3 := Tryz.sizeOf3
  v3 := Tryz.zeroValue3
  t4 := Tryz.underlying4
  a4 := Tryz.isAgg4
  z4 := Tryz.sizeOf4
  v4 := Tryz.zeroValue4
  t5 := Tryz.underlying5
  a5 := Tryz.isAgg5
  z5 := Tryz.sizeOf5
  v5 := Tryz.zeroValue5
  t9 := Tryz.underlying9
  a9 := Tryz.isAgg9
  z9 := Tryz.sizeOf9
  v9 := Tryz.zeroValue9
  t26 := Tryz.underlying195
  a26 := Tryz.isAgg195
  z26 := Tryz.sizeOf195
  v26 := Tryz.zeroValue195
  t27 := Tryz.underlying195
  a27 := Tryz.isAgg195
  z27 := Tryz.sizeOf195
  v27 := Tryz.zeroValue195
  t29 := Tryz.underlying9
  a29 := Tryz.isAgg9
  z29 := Tryz.sizeOf9
  v29 := Tryz.zeroValue9
  t32 := Tryz.underlying54
  a32 := Tryz.isAgg54
  z32 := Tryz.sizeOf54
  v32 := Tryz.zeroValue54
  t35 := Tryz.underlying302
  a35 := Tryz.isAgg302
  z35 := Tryz.sizeOf302
  v35 := Tryz.zeroValue302
  t36 := Tryz.underlying303
  a36 := Tryz.isAgg303
  z36 := Tryz.sizeOf303
  v36 := Tryz.zeroValue303
  t41 := Tryz.underlying230
  a41 := Tryz.isAgg230
  z41 := Tryz.sizeOf230
  v41 := Tryz.zeroValue230
  t44 := Tryz.underlying268
  a44 := Tryz.isAgg268
  z44 := Tryz.sizeOf268
  v44 := Tryz.zeroValue268
  t46 := Tryz.underlying28
  a46 := Tryz.isAgg28
  z46 := Tryz.sizeOf28
  v46 := Tryz.zeroValue28
  t53 := Tryz.underlying316
  a53 := Tryz.isAgg316
  z53 := Tryz.sizeOf316
  v53 := Tryz.zeroValue316
  t57 := Tryz.underlying319
  a57 := Tryz.isAgg319
  z57 := Tryz.sizeOf319
  v57 := Tryz.zeroValue319
  t63 := Tryz.underlying334
  a63 := Tryz.isAgg334
  z63 := Tryz.sizeOf334
  v63 := Tryz.zeroValue334
  t64 := Tryz.underlying240
  a64 := Tryz.isAgg240
  z64 := Tryz.sizeOf240
  v64 := Tryz.zeroValue240 }
end Go.Proofs
namespace Go.Proofs.YtlfomhdphbchpaaGreatDoor.Mo
open Go.RowKit Go.Maps Go.Sort Go.Shelf Go.Proofs.YtlfomhdphbchpaaGreatDoor.Mp
set_option linter.unusedVariables false
set_option linter.unusedSimpArgs false
theorem sorts90 (m : Nat) : AnyZI.SortsIn Tryz.prog Tryz.sorted90_ren Fence.wide m :=
  ⟨fun blk off cap ss W hH hblk hsz => callsIn_wide.2 (AnyM.slices_Sort_int Tryz.sort104 blk off cap ss W hH hblk hsz), fun p cap W => callsIn_wide.2 (AnyM.slices_Sort_int_none Tryz.sort104 p cap W)⟩
theorem sorts153 (m : Nat) : AnyZ.SortsIn Tryz.prog Tryz.sorted153_ren Fence.wide m :=
  ⟨fun blk off cap ss W hH hblk hsz => callsIn_wide.2 (AnyM.slices_Sort_string Tryz.sort194 blk off cap ss W hH hblk hsz), fun p cap W => callsIn_wide.2 (AnyM.slices_Sort_string_none Tryz.sort194 p cap W)⟩
theorem keysA_ok (mb : Option Nat) (W : World) : Calls Tryz.prog 91 #[.map mb] W fun e w' => e = .returned (.func (.func 136) #[] #[.pointer (some ⟨W.heap.size, 0, none⟩)]) ∧ w' = W.alloc (.cells #[.map mb] 57) :=
  (callsIn_wide (n := 5)).1 (AnyZI.keys_in Tryz.keys91 Fence.wide 5 trivial rfl mb W)
theorem keysD_ok (mb : Option Nat) (W : World) : Calls Tryz.prog 154 #[.map mb] W fun e w' => e = .returned (.func (.func 195) #[] #[.pointer (some ⟨W.heap.size, 0, none⟩)]) ∧ w' = W.alloc (.cells #[.map mb] 85) :=
  (callsIn_wide (n := 5)).1 (AnyZ.keys_in Tryz.keys154 Fence.wide 5 trivial rfl mb W)
def anyR : Value → Option (DataW Unit × List MemPlace) := fun _ => some (.agg [], [])
theorem own1 (ga b : Nat) (w : World) (hm : w.heap[b]? = some (.map #[entA ga] 1)) : w.ownsMap Tryz.prog 2 anyR b 1 (.map [(.int .i64 10, .agg [])]) := by
  have hk : keyOf Tryz.prog 2 (.int .i64 10) = some (.int .i64 10) := by
    have : Tryz.prog.underlying 2 = some (.int .i64) := by kernel_rfl
    simp [keyOf, mapKey, this, Lit.wf, IntKind.min, IntKind.max, IntKind.signed, IntKind.bits]
  have hr : Go.WideElems.rd Tryz.prog 2 anyR (entA ga) = some (.int .i64 10, .agg []) := by
    unfold Go.WideElems.rd
    rw [show (entA ga).key = .int .i64 10 from rfl, hk]
    rfl
  refine ⟨#[entA ga], 1, hm, ⟨by simp [maxLen], ?_, ?_⟩, by simp, ?_⟩
  · exact MapKept.stamped_push (es := #[]) (clock := 0) (MapKept.stamped_empty 0) (key := .int .i64 10) (val := .pointer (some ⟨ga, 0, none⟩)) (by simp)
  · intro x hx
    simp only [List.mem_singleton] at hx
    subst hx
    exact ⟨_, hr⟩
  · simp only [List.map_cons, List.map_nil, List.foldr_cons, List.foldr_nil, Go.WideElems.rg, hr, Option.getD_some]
    rfl
set_option maxHeartbeats 1000000 in
theorem sortedA_ok (ga b : Nat) (w : World) (hm : w.heap[b]? = some (.map #[entA ga] 1)) : Calls Tryz.prog 90 #[.func (.func 136) #[] #[.pointer (some ⟨w.heap.size, 0, none⟩)]] (w.alloc (.cells #[.map (some b)] 57)) fun e w' =>
    (∃ g c cu, e = .returned (.slice (some ⟨g, 0, none⟩) 1 c) ∧ w'.heap[g]? = some (.cells cu 2) ∧ cu[0]? = some (.int .i64 10)) ∧ Below (w.alloc (.cells #[.map (some b)] 57)).heap.size (w.alloc (.cells #[.map (some b)] 57)) w' := by
  have hbl := obj_lt hm
  have hown := own1 ga b w hm
  have hseq : SeqGives Fence.wide 2 Tryz.prog 136 #[.pointer (some ⟨w.heap.size, 0, none⟩)] encZ (fun ss => ss.Perm (intKeys (.map [(.int .i64 10, .agg [])] : DataW Unit))) (Maps.size (.map [(.int .i64 10, .agg [])] : DataW Unit)) (w.alloc (.cells #[.map (some b)] 57)) :=
    AnyZI.keys_gives (ρ := Tryz.keys91_ren) { Tryz.keys91 with } Fence.wide _ trivial rfl (by omega) w.heap.size b 1 _ _ (by simp) (by simp) (by
      obtain ⟨es, clock, hb, Ft, hs, hD⟩ := hown
      exact ⟨es, clock, (Below.heap_alloc _ _ b hbl).trans hb, Ft, hs, hD⟩)
  have cS := AnyZI.sorted_in Tryz.sorted90 Fence.wide 5 trivial trivial trivial trivial rfl (by omega) (sorts90 _) (enters_of Tryz.func104 (by kernel_rfl) rfl) 136 #[.pointer (some ⟨w.heap.size, 0, none⟩)] trivial (enters_of Tryz.func136 (by kernel_rfl) rfl) _ _ (by simp [Maps.size, maxLen]) (by simp [Maps.size]) _ hseq
  refine ((callsIn_wide (n := 5)).1 cS).mono ?_
  rintro e w' ⟨v, ss, rfl, hS, hrow, hnil, hb⟩
  have hss : ss = [10] := List.perm_singleton.1 hS
  subst hss
  rw [List.mergeSort_singleton] at hrow
  refine ⟨?_, hb⟩
  obtain ⟨_, hn | ⟨g3, cap, cu, rfl, _, hh, _, _, _, h4⟩⟩ := hrow
  · exact absurd hn.2 (by simp)
  refine ⟨g3, cap, cu, rfl, hh, ?_⟩
  have h5 : (cu.toList.take 1)[0]? = some (.int .i64 10) := by
    have := h4
    simp only [List.length_cons, List.length_nil, Nat.zero_add, Nat.one_mul] at this
    rw [this]; rfl
  simpa using h5
set_option maxHeartbeats 1000000 in
theorem sortedD_ok (b : Nat) (w : World) (hm : w.heap[b]? = some (.map #[] 0)) : Calls Tryz.prog 153 #[.func (.func 195) #[] #[.pointer (some ⟨w.heap.size, 0, none⟩)]] (w.alloc (.cells #[.map (some b)] 85)) fun e w' =>
    e = .returned (.slice none 0 0) ∧ Below (w.alloc (.cells #[.map (some b)] 85)).heap.size (w.alloc (.cells #[.map (some b)] 85)) w' := by
  have hbl := obj_lt hm
  have hown : w.ownsMap Tryz.prog 9 anyR b 0 (.map []) := ⟨#[], 0, hm, ⟨by simp, MapKept.stamped_empty 0, by simp⟩, Nat.le_refl _, rfl⟩
  have hseq : SeqGives Fence.wide 2 Tryz.prog 195 #[.pointer (some ⟨w.heap.size, 0, none⟩)] encStr (fun ss => ss.Perm (strKeys (.map [] : DataW Unit))) (Maps.size (.map [] : DataW Unit)) (w.alloc (.cells #[.map (some b)] 85)) :=
    AnyZ.keys_gives (ρ := Tryz.keys154_ren) { Tryz.keys154 with } Fence.wide _ trivial rfl (by omega) w.heap.size b 0 _ _ (by simp) (by simp) (by
      obtain ⟨es, clock, hb, Ft, hs, hD⟩ := hown
      exact ⟨es, clock, (Below.heap_alloc _ _ b hbl).trans hb, Ft, hs, hD⟩)
  have cS := AnyZ.sorted_in Tryz.sorted153 Fence.wide 5 trivial trivial trivial trivial rfl (by omega) (sorts153 _) (enters_of Tryz.func194 (by kernel_rfl) rfl) 195 #[.pointer (some ⟨w.heap.size, 0, none⟩)] trivial (enters_of Tryz.func195 (by kernel_rfl) rfl) _ _ (by simp [Maps.size, maxLen]) (by simp [Maps.size]) _ hseq
  refine ((callsIn_wide (n := 5)).1 cS).mono ?_
  rintro e w' ⟨v, ss, rfl, hS, hrow, hnil, hb⟩
  have hss : ss = [] := List.Perm.eq_nil hS
  exact ⟨by rw [hnil.2 hss], hb⟩
end Go.Proofs.YtlfomhdphbchpaaGreatDoor.Mo
