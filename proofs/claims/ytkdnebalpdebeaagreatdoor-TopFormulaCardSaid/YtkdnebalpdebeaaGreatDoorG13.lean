/- Lemmas of a claim: Gd, ChE, Kp, ChP, PrA, RegG, MixC -/
import Derived.Test.YtkdnebalpdebeaaGreatDoorG12
import Derived.Laws.AppendOwn
set_option linter.unusedVariables false
set_option linter.unusedSimpArgs false
set_option maxHeartbeats 16000000
set_option maxRecDepth 100000
namespace Go.Proofs.YtkdnebalpdebeaaGreatDoor
section
open Go.RowKit Go.Deep
section
variable {P : Program} {ops : Array Oper} {rest : List Oper} {o : Oper} {a : Act} {w : World} {Q : Exit -> Act -> World -> Prop}
theorem wpList_wanted (hw : Region.wanted o (yielded ops a.tmps) = true)
 (h : ∀ K : Act -> World -> Prop, (∀ a w, wpList P ops Q rest a w -> K a w) -> o.wp P a w K Q) : wpList P ops Q (o :: rest) a w :=
 wpList_step fun K hK => by simp only [hw, if_true]; exact h K hK
theorem wpListG_row (hw : Region.wanted o (yielded ops a.tmps) = true) (ty : TypeId) (x : Operand) (ho : o.op = .load ty x)
 (g : Nat) (hx : a.eval x = .pointer (some ⟨g, 0, none⟩)) (t : TypeId) (cs : Array Value) (d : TypeDesc) (hg : Blk w g t cs)
 (hu : P.underlying ty = some d) (hd : (match d with | .struct _ | .array _ _ => true | _ => false) = true) (hi : (P.info? ty).map (·.size) = some cs.size)
 (h : wpList P ops Q rest (a.put o.dst (.agg cs)) w) : wpList P ops Q (o :: rest) a w :=
 wpList_wanted hw fun _ hK => by
  unfold Oper.wp execOp
  simp only [ho, hx, Instr.loadAt, Instr.sureAddr, Sem.run_bind, Sem.run_pure, Result.andThen_ok, run_loadVar_row w g t ty cs (0, 0) d hg hu hd hi]
  exact hK _ _ h
theorem wpListG_part (hw : Region.wanted o (yielded ops a.tmps) = true) (ty : TypeId) (x : Operand) (ho : o.op = .load ty x)
 (g off : Nat) (hx : a.eval x = .pointer (some ⟨g, off, none⟩)) (t : TypeId) (cs part : Array Value) (d : TypeDesc) (hg : Blk w g t cs) (hp : ∀ j v, part.toList[j]? = some v -> cs[off + j]? = some v)
 (hu : P.underlying ty = some d) (hd : (match d with | .struct _ | .array _ _ => true | _ => false) = true) (hi : (P.info? ty).map (·.size) = some part.size)
 (h : wpList P ops Q rest (a.put o.dst (.agg part)) w) : wpList P ops Q (o :: rest) a w :=
 wpList_wanted hw fun _ hK => by
  unfold Oper.wp execOp
  simp only [ho, hx, Instr.loadAt, Instr.sureAddr, Sem.run_bind, Sem.run_pure, Result.andThen_ok, run_loadVar_part w g off t ty cs part d hg hp hu hd hi]
  exact hK _ _ h
theorem wpListG_cell (hw : Region.wanted o (yielded ops a.tmps) = true) (ty : TypeId) (x : Operand) (ho : o.op = .load ty x)
 (g off : Nat) (hx : a.eval x = .pointer (some ⟨g, off, none⟩)) (t : TypeId) (cs : Array Value) (v : Value) (hv : cs[off]? = some v) (d : TypeDesc) (hg : Blk w g t cs)
 (hu : P.underlying ty = some d) (hd : (match d with | .struct _ | .array _ _ => false | _ => true) = true)
 (h : wpList P ops Q rest (a.put o.dst v) w) : wpList P ops Q (o :: rest) a w :=
 wpList_wanted hw fun _ hK => by
  unfold Oper.wp execOp
  have hagg : (isAgg ty).run P w = .ok false w := by
   unfold isAgg
   rw [Sem.run_bind, run_underlying hu w]
   cases d <;> simp_all
  have hc : w.cell? ⟨g, off, none⟩ = some v := by rw [hg.cell, hv]
  have hl : (loadVar ty ⟨g, off, none⟩).run P w = .ok v w := by simp [loadVar, Sem.run_bind, hagg, hc, go_sem]
  simp only [ho, hx, Instr.loadAt, Instr.sureAddr, Sem.run_bind, Sem.run_pure, Result.andThen_ok, hl]
  exact hK _ _ h
end
end
namespace Ch
open Go.RowKit Go.Deep Wide Dec Go.Proofs.YtkdnebalpdebeaaGreatDoor.Acc Mp
open Cal hiding results_one results_two
theorem chcheck_ok (p q : Int × Int) (hp : LineOk p) (hq : LineOk q) (ge cap : Nat) (W : World) (hE : Blk W ge 58 (entE p q)) :
 Calls Tryz.prog 165 #[.slice (some ⟨ge, 0, none⟩) 2 cap] W fun e w' => e = .returned (.int .i64 0) /\ Below W.heap.size W w' := by
 have HE := Hd hE
 have hge := hE.lt
 have HP := Hd hp
 have HQ := Hd hq
 clear hE hp hq
 go_enter Tryz.func165, Tryz.ntmps165
 have H1 : Hi (Has W [] W) := Hd (Has.start _)
 go_wp2_with fail
 go_loopw [3, 8] (fun er i wr => ∃ (k : Nat), k <= 2 /\ i = .int .i64 k /\ er = .int .i64 0 /\ Hi (Has W [] wr)) (fun _ i _ => 2 - (intOf i).toNat)
 case atStart => exact ⟨0, by omega, rfl, rfl, H1⟩
 case round =>
  clear H1
  obtain ⟨k, hk, rfl, rfl, HH⟩ := hrel
  by_cases hk0 : k = 0
  . subst hk0
    have PL := Hd (line_dec p.1 p.2)
    have CI := Hd (fun W' => is_ok p.1 HP.o.1 W')
    have CC := Hd (fun W' => check_ok p.2 0 HP.o.inT W')
    have CW := Hd (fun W' => within_ok p.2 0 20 (by omega) HP.o.inT HP.o.chk W')
    have hz := HP.o.chk
    rw [hz] at CC
    clear hz
    rw [win20 (c := p.2) (by have := HP.o.2; omega)] at CW
    go_wp2_with (refine wpList_load_part rfl 58 (.tmp 10) rfl ge 0 rfl 58 (entE p q) #[.int .i64 p.1, .int .i64 0, .int .i64 (p.2 / 18446744073709551616), .int .u64 (p.2 % 18446744073709551616), .int .i64 0] _ (HE.o.below HH.o.below hge) (entE_part0 p q) Tryz.underlying58 rfl (by kernel_rfl) ?_)
    obtain ⟨g, hg⟩ : ∃ g, g = wr.heap.size := ⟨_, rfl⟩
    have H2 : Hi (Has W [(g, 58, #[.int .i64 p.1, .int .i64 0, .int .i64 (p.2 / 18446744073709551616), .int .u64 (p.2 % 18446744073709551616), .int .i64 0])] (wr.alloc (.cells #[.int .i64 p.1, .int .i64 0, .int .i64 (p.2 / 18446744073709551616), .int .u64 (p.2 % 18446744073709551616), .int .i64 0] 58))) := Hd (by
     rw [hg]; exact Has.cons (Blk.new _ _ _) (Has.nil (Below.al HH.o.below _)))
    rw [<- hg]
    clear hg HH
    refine (CI.o _).mono ?_
    rintro e w1 ⟨rfl, rfl⟩
    go_wp2_with (refine wpList_load_part rfl 56 (.tmp 18) rfl g 2 rfl 58 #[.int .i64 p.1, .int .i64 0, .int .i64 (p.2 / 18446744073709551616), .int .u64 (p.2 % 18446744073709551616), .int .i64 0] (decE p.2 0) _ (H2.o.get 0 rfl) PL.o Tryz.underlying56 rfl (by kernel_rfl) ?_)
    refine (CC.o _).mono ?_
    rintro e w3 ⟨rfl, hb3⟩
    have H3 := Hd (H2.o.step hb3)
    clear hb3 H2
    go_wp2_with (first
     | (refine wpListG_cell rfl 3 (.tmp 24) rfl g 4 rfl 58 #[.int .i64 p.1, .int .i64 0, .int .i64 (p.2 / 18446744073709551616), .int .u64 (p.2 % 18446744073709551616), .int .i64 0] (.int .i64 0) rfl _ (H3.o.get 0 rfl) Tryz.underlying3 rfl ?_)
     | (refine wpListG_part rfl 56 (.tmp 29) rfl g 2 rfl 58 #[.int .i64 p.1, .int .i64 0, .int .i64 (p.2 / 18446744073709551616), .int .u64 (p.2 % 18446744073709551616), .int .i64 0] (decE p.2 0) _ (H3.o.get 0 rfl) PL.o Tryz.underlying56 rfl (by kernel_rfl) ?_))
    refine (CW.o _).mono ?_
    rintro e w4 ⟨rfl, hb4⟩
    have H4 := Hd (H3.o.step hb4)
    clear hb4 H3
    . skip
      go_wp2_with fail
      go_roundw
      case rel => exact ⟨0+1, by omega, by go_num, rfl, Hd (H4.o.of_mem (by simp))⟩
      case measure => simp [intOf]
  . by_cases hk1 : k = 1
    . subst hk1
      have PL := Hd (line_dec q.1 q.2)
      have CI := Hd (fun W' => is_ok q.1 HQ.o.1 W')
      have CC := Hd (fun W' => check_ok q.2 0 HQ.o.inT W')
      have CW := Hd (fun W' => within_ok q.2 0 20 (by omega) HQ.o.inT HQ.o.chk W')
      have hz := HQ.o.chk
      rw [hz] at CC
      clear hz
      rw [win20 (c := q.2) (by have := HQ.o.2; omega)] at CW
      go_wp2_with (refine wpList_load_part rfl 58 (.tmp 10) rfl ge 5 rfl 58 (entE p q) #[.int .i64 q.1, .int .i64 0, .int .i64 (q.2 / 18446744073709551616), .int .u64 (q.2 % 18446744073709551616), .int .i64 0] _ (HE.o.below HH.o.below hge) (entE_part1 p q) Tryz.underlying58 rfl (by kernel_rfl) ?_)
      obtain ⟨g, hg⟩ : ∃ g, g = wr.heap.size := ⟨_, rfl⟩
      have H2 : Hi (Has W [(g, 58, #[.int .i64 q.1, .int .i64 0, .int .i64 (q.2 / 18446744073709551616), .int .u64 (q.2 % 18446744073709551616), .int .i64 0])] (wr.alloc (.cells #[.int .i64 q.1, .int .i64 0, .int .i64 (q.2 / 18446744073709551616), .int .u64 (q.2 % 18446744073709551616), .int .i64 0] 58))) := Hd (by
       rw [hg]; exact Has.cons (Blk.new _ _ _) (Has.nil (Below.al HH.o.below _)))
      rw [<- hg]
      clear hg HH
      refine (CI.o _).mono ?_
      rintro e w1 ⟨rfl, rfl⟩
      go_wp2_with (refine wpList_load_part rfl 56 (.tmp 18) rfl g 2 rfl 58 #[.int .i64 q.1, .int .i64 0, .int .i64 (q.2 / 18446744073709551616), .int .u64 (q.2 % 18446744073709551616), .int .i64 0] (decE q.2 0) _ (H2.o.get 0 rfl) PL.o Tryz.underlying56 rfl (by kernel_rfl) ?_)
      refine (CC.o _).mono ?_
      rintro e w3 ⟨rfl, hb3⟩
      have H3 := Hd (H2.o.step hb3)
      clear hb3 H2
      go_wp2_with (first
       | (refine wpListG_cell rfl 3 (.tmp 24) rfl g 4 rfl 58 #[.int .i64 q.1, .int .i64 0, .int .i64 (q.2 / 18446744073709551616), .int .u64 (q.2 % 18446744073709551616), .int .i64 0] (.int .i64 0) rfl _ (H3.o.get 0 rfl) Tryz.underlying3 rfl ?_)
       | (refine wpListG_part rfl 56 (.tmp 29) rfl g 2 rfl 58 #[.int .i64 q.1, .int .i64 0, .int .i64 (q.2 / 18446744073709551616), .int .u64 (q.2 % 18446744073709551616), .int .i64 0] (decE q.2 0) _ (H3.o.get 0 rfl) PL.o Tryz.underlying56 rfl (by kernel_rfl) ?_))
      refine (CW.o _).mono ?_
      rintro e w4 ⟨rfl, hb4⟩
      have H4 := Hd (H3.o.step hb4)
      clear hb4 H3
      . skip
        go_wp2_with fail
        go_roundw
        case rel => exact ⟨1+1, by omega, by go_num, rfl, Hd (H4.o.of_mem (by simp))⟩
        case measure => simp [intOf]
    . obtain rfl : k = 2 := by omega
      go_wp2_with fail
      exact bodyPost_ret (results_one rfl _ _ rfl) rfl ⟨rfl, HH.o.below⟩
end Ch
section
open Go.RowKit Go.Deep
structure Keep (S : List Nat) (W w : World) : Prop where
 os : w.os = W.os
 tape : w.tape = W.tape
 output : w.output = W.output
 size : W.heap.size <= w.heap.size
 block : ∀ k, k < W.heap.size -> k ∉ S -> w.heap[k]? = W.heap[k]?
theorem Keep.refl (S : List Nat) (W : World) : Keep S W W := ⟨rfl, rfl, rfl, Nat.le_refl _, fun _ _ _ => rfl⟩
theorem Keep.of_below {S : List Nat} {W w : World} (h : Below W.heap.size W w) : Keep S W w := ⟨h.os, h.tape, h.output, h.size, fun k hk _ => h.block k hk⟩
theorem Keep.below {W w : World} (h : Keep [] W w) : Below W.heap.size W w := ⟨h.os, h.tape, h.output, h.size, fun k hk => h.block k hk (by simp)⟩
theorem Keep.trans {S T : List Nat} {a b c : World} (h : Keep S a b) (h' : Keep T b c) (hT : ∀ k ∈ T, k ∈ S ∨ a.heap.size <= k) : Keep S a c :=
 ⟨h'.os.trans h.os, h'.tape.trans h.tape, h'.output.trans h.output, Nat.le_trans h.size h'.size, fun k hk hS =>
  (h'.block k (Nat.lt_of_lt_of_le hk h.size) (fun hT' => by rcases hT k hT' with h1 | h1; exact hS h1; omega)).trans (h.block k hk hS)⟩
theorem Keep.mono {S T : List Nat} {a b : World} (h : Keep S a b) (hT : ∀ k ∈ S, k ∈ T ∨ a.heap.size <= k) : Keep T a b :=
 ⟨h.os, h.tape, h.output, h.size, fun k hk hS => h.block k hk (fun h' => by rcases hT k h' with h1 | h1; exact hS h1; omega)⟩
theorem Keep.step {S : List Nat} {W w w' : World} (h : Keep S W w) (hb : Below w.heap.size w w') : Keep S W w' := h.trans (T := []) (Keep.of_below hb) (by simp)
structure Turn (w : World) (g : Nat) (o : Obj) (w' : World) : Prop where
 os : w'.os = w.os
 tape : w'.tape = w.tape
 output : w'.output = w.output
 size : w'.heap.size = w.heap.size
 at_ : w'.heap[g]? = some o
 far : ∀ k, k ≠ g -> w'.heap[k]? = w.heap[k]?
theorem Turn.keep {w w' : World} {g : Nat} {o : Obj} (h : Turn w g o w') : Keep [g] w w' := ⟨h.os, h.tape, h.output, by rw [h.size]; exact Nat.le_refl _, fun k _ hk => h.far k (by simpa using hk)⟩
theorem obj_lt {w : World} {g : Nat} {o : Obj} (h : w.heap[g]? = some o) : g < w.heap.size := by
 rcases Nat.lt_or_ge g w.heap.size with h' | h'
 . exact h'
 . rw [Array.getElem?_eq_none h'] at h; cases h
def HasO (S : List Nat) (W : World) (fs : List (Nat × Obj)) (w : World) : Prop := Keep S W w /\ ∀ f ∈ fs, w.heap[f.1]? = some f.2
section
variable {S T : List Nat} {W w w' : World} {fs gs : List (Nat × Obj)} {g : Nat} {o o' : Obj}
theorem HasO.nil (h : Keep S W w) : HasO S W [] w := ⟨h, fun _ h => by cases h⟩
theorem HasO.start (S : List Nat) (W : World) : HasO S W [] W := HasO.nil (Keep.refl _ _)
theorem HasO.cons (h : w.heap[g]? = some o) (hf : HasO S W fs w) : HasO S W ((g, o) :: fs) w := ⟨hf.1, fun f hm => by rcases List.mem_cons.1 hm with rfl | hm; exact h; exact hf.2 f hm⟩
theorem HasO.add (hf : HasO S W fs w) (h : ∀ f ∈ gs, w.heap[f.1]? = some f.2) : HasO S W (gs ++ fs) w := ⟨hf.1, fun f hm => by rcases List.mem_append.1 hm with hm | hm; exact h f hm; exact hf.2 f hm⟩
theorem HasO.keep (h : HasO S W fs w) : Keep S W w := h.1
theorem HasO.size (h : HasO S W fs w) : W.heap.size <= w.heap.size := h.1.size
theorem HasO.obj (h : HasO S W fs w) (i : Nat) {g : Nat} {o : Obj} (hi : fs[i]? = some (g, o)) : w.heap[g]? = some o := h.2 (g, o) (List.mem_of_getElem? hi)
theorem HasO.get (h : HasO S W fs w) (i : Nat) {g : Nat} {t : TypeId} {cs : Array Value} (hi : fs[i]? = some (g, .cells cs t)) : Blk w g t cs := h.obj i hi
theorem HasO.below (h : HasO [] W fs w) : Below W.heap.size W w := h.1.below
theorem HasO.of_mem (h : HasO S W fs w) (hm : ∀ f ∈ gs, f ∈ fs) : HasO S W gs w := ⟨h.1, fun f hf => h.2 f (hm f hf)⟩
theorem HasO.tail {f : Nat × Obj} (h : HasO S W (f :: fs) w) : HasO S W fs w := ⟨h.1, fun g hm => h.2 g (List.mem_cons_of_mem _ hm)⟩
theorem HasO.step (h : HasO S W fs w) (hb : Below w.heap.size w w') : HasO S W fs w' :=
 ⟨h.1.step hb, fun f hf => by rw [hb.block f.1 (obj_lt (h.2 f hf))]; exact h.2 f hf⟩
theorem HasO.drew (h : HasO S W fs w) : HasO S W fs w.drew := h.step (Below.refl _ _).drew
theorem HasO.alloc (h : HasO S W fs w) (o : Obj) : HasO S W fs (w.alloc o) := h.step ((Below.refl _ _).alloc (Nat.le_refl _) o)
theorem HasO.new (h : HasO S W fs w) (hg : g = w.heap.size) (o : Obj) : HasO S W ((g, o) :: fs) (w.alloc o) := by
 subst hg; exact HasO.cons (heap_alloc_new w o) (h.alloc o)
theorem HasO.call (h : HasO S W fs w) (hk : Keep T w w') (hT : ∀ k ∈ T, k ∈ S ∨ W.heap.size <= k) (hn : ∀ f ∈ fs, f.1 ∉ T) : HasO S W fs w' :=
 ⟨h.1.trans hk hT, fun f hf => by rw [hk.block f.1 (obj_lt (h.2 f hf)) (hn f hf)]; exact h.2 f hf⟩
theorem HasO.turn (h : HasO S W fs w) (i : Nat) (hi : fs[i]? = some (g, o)) (ht : Turn w g o' w') (hS : g ∈ S ∨ W.heap.size <= g) (hne : ∀ f ∈ fs.eraseIdx i, f.1 ≠ g) : HasO S W (fs.set i (g, o')) w' := by
 refine ⟨h.1.trans ht.keep (fun k hk => by simp only [List.mem_singleton] at hk; subst hk; exact hS), fun f hf => ?_⟩
 obtain ⟨j, hj⟩ := List.mem_iff_getElem?.1 hf
 by_cases hij : i = j
 . subst hij
   have hlt : i < fs.length := (List.getElem?_eq_some_iff.1 hi).1
   rw [List.getElem?_set_self hlt] at hj
   cases hj; exact ht.at_
 . rw [List.getElem?_set_ne hij] at hj
   rw [ht.far f.1 (hne f (List.mem_eraseIdx_iff_getElem?.2 ⟨j, fun e => hij e.symm, hj⟩))]
   exact h.2 f (List.mem_of_getElem? hj)
end
def alikeO : Obj -> Obj -> Bool
 | .cells _ t _, .cells _ t' _ => t == t'
 | .cells _ _ _, .map _ _ => false
 | .map _ _, .cells _ _ _ => false
 | _, _ => true
theorem ne_alike {w : World} {g k : Nat} {o o' : Obj} (h : w.heap[g]? = some o) (h' : w.heap[k]? = some o') (hd : alikeO o' o = false) : k ≠ g := by
 intro e; subst e
 rw [h] at h'; cases h'
 cases o <;> simp [alikeO] at hd
theorem HasO.far {S : List Nat} {W w : World} {fs : List (Nat × Obj)} {g : Nat} {o : Obj} (h : HasO S W fs w) (hg : w.heap[g]? = some o) (hd : fs.all (fun f => !alikeO f.2 o) = true) : ∀ f ∈ fs, f.1 ≠ g := fun f hf =>
 ne_alike hg (h.2 f hf) (by have := List.all_eq_true.1 hd f hf; simpa using this)
theorem HasO.apart {S : List Nat} {W w : World} {fs : List (Nat × Obj)} {g : Nat} {o : Obj} (h : HasO S W fs w) (i : Nat) (hi : fs[i]? = some (g, o)) (hd : (fs.eraseIdx i).all (fun f => !alikeO f.2 o) = true) : ∀ f ∈ fs.eraseIdx i, f.1 ≠ g := fun f hf =>
 ne_alike (h.obj i hi) (h.2 f (List.mem_of_mem_eraseIdx hf)) (by have := List.all_eq_true.1 hd f hf; simpa using this)
theorem Turn.of_map {w w' : World} {b : Nat} {o : Obj} (hat : w'.heap[b]? = some o) (hfar : ∀ g, g ≠ b -> w'.heap[g]? = w.heap[g]?) (hbel : ∀ B w0, B <= b -> Below B w0 w -> Below B w0 w') (hsz : w'.heap.size = w.heap.size) : Turn w b o w' :=
 ⟨(hbel 0 w (Nat.zero_le _) (Below.refl _ _)).os, (hbel 0 w (Nat.zero_le _) (Below.refl _ _)).tape, (hbel 0 w (Nat.zero_le _) (Below.refl _ _)).output, hsz, hat, hfar⟩
section
variable {P : Program} {ops : Array Oper} {rest : List Oper} {o : Oper} {a : Act} {w : World} {Q : Exit -> Act -> World -> Prop}
theorem turn_setRow {w : World} {g : Nat} {old new : Array Value} {t : TypeId} (hg : Blk w g t old) : Turn w g (.cells new t) (w.setRow g new) :=
 ⟨(below_setRow (Below.refl 0 w) (Nat.zero_le _) _).os, (below_setRow (Below.refl 0 w) (Nat.zero_le _) _).tape, (below_setRow (Below.refl 0 w) (Nat.zero_le _) _).output, by simp, setRow_heap w g old new t (0, 0) hg, fun k hk => setRow_other w g k _ hk⟩
theorem wpList_turn (hw : Region.wanted o (yielded ops a.tmps) = true) (ty : TypeId) (x y : Operand) (ho : o.op = .store ty x y)
 (g off : Nat) (v : Value) (hx : a.eval x = .pointer (some ⟨g, off, none⟩)) (hy : a.eval y = v) (t : TypeId) (old new : Array Value) (hg : Blk w g t old) (hi : (P.info? ty).map (·.size) = some v.cells.size)
 (hfit : off + v.cells.size <= old.size) (h1 : v.cells.all (·.oneCell') = true) (hnew : splice old off v.cells = new)
 (h : ∀ W2, Turn w g (.cells new t) W2 -> wpList P ops Q rest (a.put o.dst undef) W2) : wpList P ops Q (o :: rest) a w := by
 refine wpList_wanted hw fun _ hK => ?_
 have hst := run_storeCells_at P g off t v.cells.toList 0 old w hg (by simpa using hfit) (fun v' hv => by rw [Array.all_eq_true'] at h1; exact h1 v' (by simpa using hv))
 have hsv : (storeVar ty ⟨g, off, none⟩ v).run P w = .ok () (w.setRow g new) := by
  cases hq : P.info? ty with
  | none => simp [hq] at hi
  | some i =>
    have hs : i.size = v.cells.size := by simpa [hq] using hi
    rw [<- hnew]
    simp [storeVar, Sem.run_bind, sizeOf, typeInfo, hq, hs, hst, splice]
 unfold Oper.wp execOp
 simp only [ho, hx, hy, Instr.storeAt, Instr.sureAddr, Sem.run_bind, Sem.run_pure, Result.andThen_ok, hsv]
 exact hK _ _ (h _ (turn_setRow hg))
end
end
namespace Ch
open Go.RowKit Go.Deep Wide Dec Go.Proofs.YtkdnebalpdebeaaGreatDoor.Acc Mp
open Cal hiding results_one results_two
def Led (f : Int -> Int) (gl : Nat) (w : World) : Prop := ∃ (b cl : Nat) (L : List Ent) (n : Int), w.heap[gl]? = some (.cells #[.map (some b), .int .i64 n] 147) /\ Map w b L cl /\ LX f L /\ LB L cl /\ InR n /\ gl <= b + 1
theorem Led.lt {f : Int -> Int} {gl : Nat} {w : World} (h : Led f gl w) : gl < w.heap.size := by
 obtain ⟨b, cl, L, n, h, _⟩ := h; exact obj_lt h
theorem Led.keep {f : Int -> Int} {gl : Nat} {w w' : World} {S : List Nat} (h : Led f gl w) (hk : Keep S w w') (hg : gl ∉ S) (hm : ∀ k ∈ S, k + 1 < gl ∨ ∀ es cl, w.heap[k]? ≠ some (.map es cl)) : Led f gl w' := by
 obtain ⟨b, cl, L, n, h, h2, h3, h4, h5, h6⟩ := h
 refine ⟨b, cl, L, n, by rw [hk.block gl (obj_lt h) hg]; exact h, ?_, h3, h4, h5, h6⟩
 unfold Map at *
 rw [hk.block b (obj_lt h2) (fun hb => by rcases hm b hb with h | h; omega; exact h _ _ h2)]; exact h2
theorem Led.step {f : Int -> Int} {gl : Nat} {w w' : World} (h : Led f gl w) (hb : Below w.heap.size w w') : Led f gl w' := h.keep (S := []) (Keep.of_below hb) (by simp) (by simp)
theorem post_ok (p q : Int × Int) (hp : LineOk p) (hq : LineOk q) (hpq : p.2 + q.2 = 0) (f : Int -> Int) (hf : FB 10000000000000000000000 f) (gl ge cap : Nat) (W : World) (hE : Blk W ge 58 (entE p q)) (hL : Led f gl W) :
 Calls Tryz.prog 120 #[.pointer (some ⟨gl, 0, none⟩), .slice (some ⟨ge, 0, none⟩) 2 cap] W fun e w' => e = .returned (.int .i64 0) /\ Keep [gl] W w' /\ Led (addF (addF f p.1 p.2) q.1 q.2) gl w' := by
 have HL := Hd hL
 obtain ⟨b0, cl0, L0, n, hgl, hm0, hl0, hb0, hn⟩ := hL
 have CC := Hd (chcheck_ok p q hp hq ge cap W hE)
 have CP := Hd (fun w (h : Below W.heap.size W w) => posted_ok L0 p q hp hq f hf hl0 b0 cl0 ge cap w (hm0.step h) hb0 (hE.below h hE.lt))
 have CB := Hd (fun w (h : Below W.heap.size W w) => balanced_ok p q hp hq ge cap hpq w (hE.below h hE.lt))
 have HG := Hd hgl
 have HN := Hd hn
 clear hp hq hpq hf hE hl0 hb0 hm0 hgl hn
 go_enter Tryz.func120, Tryz.ntmps120
 go_wp2_with fail
 refine (CC.o).mono ?_
 rintro e w1 ⟨rfl, hb1⟩
 have H1 := Hd (HasO.cons (show w1.heap[gl]? = some _ from by rw [hb1.block gl HL.o.lt]; exact HG.o) (HasO.nil (Keep.of_below (S := []) hb1)))
 clear hb1
 . go_wp2_with (refine wpListG_cell rfl 145 (.tmp 18) rfl gl 0 rfl 147 #[.map (some b0), .int .i64 n] (.map (some b0)) rfl _ (H1.o.get 0 rfl) Tryz.underlying145 rfl ?_)
   refine (CP.o _ H1.o.keep.below).mono ?_
   rintro e w2 ⟨rfl, L, cl, hL, hB, hM, hb2⟩
   obtain ⟨b, hb⟩ : ∃ b, b = w1.heap.size := ⟨_, rfl⟩
   rw [<- hb] at hM ⊢
   have hWb : Hi (W.heap.size <= b) := Hd (by rw [hb]; exact H1.o.size)
   have HH : Hi (HasM W [] b L cl w2) := Hd ⟨Has.nil ((H1.o.step hb2).keep.below), hM⟩
   have HLO := Hd hL
   have HLB := Hd hB
   clear hb hM hL hB hb2 H1
   go_wp2_with (refine wpList_range2 rfl 145 (.tmp 22) rfl Tryz.underlying145 b _ cl rfl HH.o.map ?_
                intro W2 hW2
                obtain ⟨r, hr⟩ : ∃ r, r = w2.heap.size := ⟨_, rfl⟩
                have HR : Hi (Ranging b cl r W2) := Hd (by rw [hW2, hr]; exact ⟨#[], cl, heap_alloc_new w2 _, Nat.le_refl _⟩)
                have H2 : Hi (HasM W [] b L cl W2) := Hd (by rw [hW2]; exact HH.o.step ((Below.refl _ _).alloc (Nat.le_refl _) _))
                have hrW : Hi (b < r) := Hd (by rw [hr]; exact HH.o.map.lt)
                rw [<- hr]
                clear hW2 hr HH)
   simp only [Act.put, List.setIfInBounds_toArray, List.set_cons_succ, List.set_cons_zero]
   go_loopw [] (fun wr => Hi (Ranging b cl r wr) /\ Hi (HasM W [] b L cl wr)) (fun wr => wr.rangeLeft b r)
   case atStart => exact ⟨HR, H2⟩
   case round =>
    clear HR H2
    obtain ⟨HR, H2⟩ := hrel
    obtain ⟨seen, c0, hr, hc0⟩ := HR.o
    have HRR := Hd hr
    have HC0 := Hd hc0
    clear hr hc0
    go_wp2_with (refine wpList_next2 rfl (.tmp 23) rfl r b cl c0 seen _ cl rfl HRR.o H2.o.map HLB.o.hold HC0.o ?_ ?_)
    . intro h0
      clear HR HRR
      go_wp2_with fail
      refine (CB.o _ H2.o.below).mono ?_
      rintro e w3 ⟨rfl, hb3⟩
      have H3 := Hd (H2.o.step hb3)
      clear hb3 H2
      . skip
        have HG3 : Hi (w3.heap[gl]? = some (Obj.cells #[Value.map (some b0), Value.int IntKind.i64 n] 147)) := Hd (by rw [H3.o.below.block gl HL.o.lt]; exact HG.o)
        have hgb : Hi (b ≠ gl) := Hd (by have := hWb.o; have := HL.o.lt; omega)
        go_wp2_with (first
         | (refine wpList_turn rfl 145 (.tmp 37) (.tmp 35) rfl gl 0 (.map (some b)) rfl rfl 147 #[.map (some b0), .int .i64 n] #[.map (some b), .int .i64 n] HG3.o (by kernel_rfl) (by first | (simp [Value.cells]; done) | (simp [Value.cells]; done) | exact Nat.le_refl _) (by first | exact decE_all _ _ | (simp [Value.cells, Value.oneCell']; done) | (simp [Value.cells, Value.oneCell']; done) | (rw [Array.all_eq_true']; simp [Value.cells, Value.oneCell'])) rfl ?_; intro W4 HT4
            have H4 : Hi (HasM W [] b L cl w3 /\ Turn w3 gl _ W4) := Hd ⟨H3.o, HT4⟩)
         | (refine wpListG_cell rfl 3 (.tmp 40) rfl gl 1 rfl 147 #[.map (some b), .int .i64 n] (.int .i64 n) rfl _ (H4.o.2.at_) Tryz.underlying3 rfl ?_)
         | (refine wpList_turn rfl 3 (.tmp 44) (.tmp 42) rfl gl 1 (.int .i64 (wrap64 (n + 1))) rfl rfl 147 #[.map (some b), .int .i64 n] #[.map (some b), .int .i64 (wrap64 (n + 1))] (H4.o.2.at_) (by kernel_rfl) (by first | (simp [Value.cells]; done) | (simp [Value.cells]; done) | exact Nat.le_refl _) (by first | exact decE_all _ _ | (simp [Value.cells, Value.oneCell']; done) | (simp [Value.cells, Value.oneCell']; done) | (rw [Array.all_eq_true']; simp [Value.cells, Value.oneCell'])) rfl ?_; intro W5 HT5
            have H5 := Hd (And.intro (HT4.keep.trans HT5.keep (fun k hk => .inl hk)) (And.intro HT5.at_ (show Map W5 b L cl from (HT5.far b hgb.o).trans ((HT4.far b hgb.o).trans H3.o.map))))
            have H6 := Hd ((Keep.of_below (S := [gl]) H3.o.below).trans H5.o.1 (fun k hk => .inl hk))))
        exact bodyPost_ret (results_one rfl _ _ rfl) rfl ⟨rfl, H6.o, ⟨b, cl, L, _, H5.o.2.1, H5.o.2.2, HLO.o, HLB.o, by unfold InR wrap64; omega, by have := hWb.o; have := HL.o.lt; omega⟩⟩
    . intro e he W3 hr3 hfar3 hbel3 hsz3
      obtain ⟨hem, hes⟩ := mem_left (by simpa using he)
      have hsh := left_shrinks _ _ _ (by simpa using he)
      have hL1 : wr.rangeLeft b r = (leftOf (L.map Ent.row).toArray seen).size := left_eq H2.o.map HRR.o
      have hm3 : Map W3 b L cl := (hfar3 _ (by have := hrW.o; omega)).trans H2.o.map
      have hL3 := left_eq hm3 hr3
      have hen := run_entry_at (P := Tryz.prog) W3 r b cl seen _ cl e hr3 hm3 hem HLB.o.nodup
      have hem2 := hem
      simp only [List.mem_map] at hem2
      obtain ⟨f, hf, rfl⟩ := hem2
      obtain ⟨c, hv, hc1, hc2⟩ := (HLO.o.1 f hf).2.2
      have hc : InT c := by unfold InT; omega
      have hs : chk c 12 = 0 := chk_yes (by omega)
      have CW := Hd (fun W' => within_ok c 12 24 (by omega) hc hs W')
      have hfv : f.row.val = .agg (decE c 12) := hv
      rw [hfv] at hen ⊢
      have H3 : Hi (HasM W [] b L cl W3) := Hd ⟨Has.nil (hbel3 _ _ (by have := hrW.o; have := hWb.o; omega) H2.o.below), hm3⟩
      have HR3 : Hi (Ranging b cl r W3) := Hd ⟨_, cl, hr3, Nat.le_refl _⟩
      have HLT : Hi (W3.rangeLeft b r < wr.rangeLeft b r) := Hd (by rw [hL1, hL3]; exact hsh)
      obtain ⟨fk, hfk⟩ : ∃ fk, fk = f.row.key := ⟨_, rfl⟩
      rw [<- hfk] at hen ⊢
      rw [win24 ⟨hc1, hc2⟩] at CW
      rw [decE_lit] at hen CW ⊢
      clear hc1 hc2 hL1 hL3 hsh hm3 hem hes hf hv hc hs hfv hr3 hfar3 hbel3 hsz3 hfk he HRR HC0 H2 HR
      go_wp2_with fail
      refine (CW.o _).mono ?_
      rintro e w4 ⟨rfl, hb4⟩
      have hb5 : Below W3.heap.size W3 w4 := ((Below.refl _ _).alloc (Nat.le_refl _) _).trans (hb4.mono (by simp))
      have H6 : Hi (HasM W [] b L cl w4) := Hd (H3.o.step hb5)
      have HR6 : Hi (Ranging b cl r w4) := Hd (HR3.o.step hb5)
      have HLT6 : Hi (w4.rangeLeft b r < wr.rangeLeft b r) := Hd (by rw [left_step hb5 H3.o.map.lt HR3.o.lt]; exact HLT.o)
      clear hb4 hb5 H3 HR3 HLT
      . skip
        go_wp2_with fail
        go_roundw
        case rel => exact ⟨HR6, H6⟩
        case measure => exact HLT6.o
end Ch
namespace Pr
open Go.RowKit Go.Deep Wide Dec Mp
theorem Keep.of_grown {w w' : World} {row : Option Nat} {S : List Nat} (h : w.grownBy w' row) (hr : ∀ k, row = some k -> k ∈ S ∨ w.heap.size <= k) : Keep S w w' :=
 ⟨h.os, h.tape, h.output, h.size, fun k hk hS => h.block k hk (fun e => by rcases hr k e.symm with h1 | h1; exact hS h1; omega)⟩
theorem Below.of_grown {w w' : World} {row : Option Nat} (h : w.grownBy w' row) (hr : ∀ k, row = some k -> w.heap.size <= k) : Below w.heap.size w w' := Keep.below (Keep.of_grown h (fun k hk => .inr (hr k hk)))
def TS (r : Int) (w : World) (s : Value) : Prop := ∃ (g c : Nat) (cur : Array Value), s = .slice (some ⟨g, 0, none⟩) 1 c /\ w.heap[g]? = some (.cells cur 31) /\ cur[0]? = some (.int .i64 0) /\ cur[1]? = some (.int .i64 r)
theorem TS.step {r : Int} {w w' : World} {s : Value} (h : TS r w s) (hb : Below w.heap.size w w') : TS r w' s := by
 obtain ⟨g, c, cur, hs, hg, h2⟩ := h
 exact ⟨g, c, cur, hs, by rw [hb.block g (obj_lt hg)]; exact hg, h2⟩
theorem TS.keep {r : Int} {w w' : World} {s : Value} {S : List Nat} (h : TS r w s) (hk : Keep S w w') (hS : ∀ k ∈ S, ∀ cur, w.heap[k]? ≠ some (.cells cur 31)) : TS r w' s := by
 obtain ⟨g, c, cur, hs, hg, h2⟩ := h
 exact ⟨g, c, cur, hs, by rw [hk.block g (obj_lt hg) (fun hb => hS g hb _ hg)]; exact hg, h2⟩
structure Pd where
 id : Int
 kind : Int
 how : Int
 mo : Int
 fee : Int
 lim : Int
 rate : Int
structure Pd.ok (p : Pd) : Prop where
 id : 1 <= p.id /\ p.id <= 1000000000
 kind : p.kind = 1 ∨ p.kind = 2
 how : p.how = 0 ∨ p.how = 1 ∨ p.how = 2 ∨ p.how = 3
 mo : 0 <= p.mo /\ p.mo <= 6
 fee : 0 <= p.fee /\ p.fee <= 10000000000000
 lim : 0 <= p.lim /\ p.lim <= 10000000000000
 rate : 0 <= p.rate /\ p.rate <= 1000000000
def prodE (p : Pd) (s : Value) : Array Value := #[.int .i64 p.id, .int .i64 p.kind, .int .i64 0, .int .i64 1, .int .i64 p.how, .int .i64 p.mo, .int .i64 p.fee, .int .i64 p.lim, s]
def prodZ : Array Value := #[.int .i64 0, .int .i64 0, .int .i64 0, .int .i64 0, .int .i64 0, .int .i64 0, .int .i64 0, .int .i64 0, .slice none 0 0]
theorem prodNew_ok (W : World) : Calls Tryz.prog 22 #[] W fun e w' => e = .returned (.pointer (some ⟨W.heap.size + 1, 0, none⟩)) /\ w' = (W.alloc (.map #[] 0)).alloc (.cells #[.slice none 0 0, .map (some W.heap.size)] 144) := by
 have hmm : (Instr.makeMap 141 none).run Tryz.prog W = .ok (.map (some W.heap.size)) (W.alloc (.map #[] 0)) := run_makeMap _ W
 go_enter Tryz.func22, Tryz.ntmps22
 go_wp2_with fail
 exact bodyPost_ret (results_one rfl _ _ rfl) rfl ⟨rfl, rfl⟩
theorem cloneT_ok (r : Int) (s : Value) (W : World) (h : TS r W s) : Calls Tryz.prog 25 #[s] W fun e w' => (∃ s', e = .returned s' /\ TS r w' s') /\ Below W.heap.size W w' := by
 obtain ⟨g, c, cur, rfl, hg, h0, h1⟩ := h
 have hq : ∀ w : World, (binOp .eql 32 (.slice (some ⟨g, 0, none⟩) 1 c) (.slice none 0 0)).run Tryz.prog w = .ok (.bool false) w := fun w => Lib.run_eql_slice_nil w _ _ (some ⟨g, 0, none⟩) 1 c 0 0 Tryz.underlying32
 obtain ⟨i, hi, h2, h3, h4⟩ : ∃ i, Tryz.prog.info? 31 = some i /\ i.zero = some (.agg #[.int .i64 0, .int .i64 0]) /\ i.size = 2 /\ i.bytes = 16 := ⟨_, rfl, by kernel_rfl, by kernel_rfl, by kernel_rfl⟩
 have HG := Hd hg
 have c0 : Hi (∀ w : World, w.heap[g]? = some (.cells cur 31) -> ∀ (j : Nat) (u : Value), [Value.int .i64 0, Value.int .i64 r][j]? = some u -> w.cell? ((⟨g, 0, none⟩ : Addr).add j) = some u) := Hd (fun w hw j u hj => by
  have hj2 : j < 2 := (List.getElem?_eq_some_iff.1 hj).1
  have : j = 0 ∨ j = 1 := by omega
  rw [Addr.add_lit, Blk.cell (t := 31) (cs := cur) hw]
  rcases this with rfl | rfl
  . simp only [Nat.zero_add] at *; rw [h0]; exact hj
  . simp only [Nat.zero_add] at *; rw [h1]; exact hj)
 clear h0 h1
 go_enter Tryz.func25, Tryz.ntmps25
 go_wp2_with (at_builtin
              refine wpList_append_own _ rfl (.tmp 5) (.tmp 6) 32 rfl W.heap.size 31 i (.agg #[.int .i64 0, .int .i64 0]) 2 16 Tryz.underlying32 hi h2 h3 h4 rfl (by omega) (.slice (some ⟨W.heap.size, 0, none⟩) 0 0) 0 [] rfl (World.ownsRow_made W #[] 0 (Nat.le_refl _) (Nat.zero_le _) rfl) ⟨g, 0, none⟩ 1 c [.int .i64 0, .int .i64 r] rfl rfl (c0.o _ (((Below.al (Below.refl _ W) _).block g (obj_lt HG.o)).trans HG.o)) (by intro u hu; simp only [List.mem_cons, List.not_mem_nil, or_false] at hu; rcases hu with rfl | rfl <;> rfl) (by simp only [maxLen]; omega) (by omega) (by simp) ?_
              intro v1 w1 hown1 hg1 hat1)
 obtain ⟨_, hn | ⟨g1, cap, cu, rfl, hb, hh, hc1, hc2, hc3, hc4⟩⟩ := hown1
 . exact absurd hn.2 (by simp)
 go_wp2_with fail
 refine bodyPost_ret (results_one rfl _ _ rfl) rfl ⟨⟨_, rfl, g1, cap, cu, rfl, hh, ?_, ?_⟩, ?_⟩
 . have : (cu.toList.take 2)[0]? = some (.int .i64 0) := by rw [hc4]; rfl
   simpa using this
 . have : (cu.toList.take 2)[1]? = some (.int .i64 r) := by rw [hc4]; rfl
   simpa using this
 . refine ((Below.refl _ W).alloc (Nat.le_refl _) _).grown hg1 (by simp) (by intro k hk; simp [Value.ownBlock] at hk; omega)
theorem cloneT_nil (n c : Nat) (W : World) : Calls Tryz.prog 25 #[.slice none n c] W fun e w' => e = .returned (.slice none 0 0) /\ w' = W := by
 have hq : ∀ w : World, (binOp .eql 32 (.slice none n c) (.slice none 0 0)).run Tryz.prog w = .ok (.bool true) w := fun w => Lib.run_eql_slice_nil w _ _ none n c 0 0 Tryz.underlying32
 go_enter Tryz.func25, Tryz.ntmps25
 go_wp2_with fail
 exact bodyPost_ret (results_one rfl _ _ rfl) rfl ⟨rfl, rfl⟩
theorem copied_ok (p : Pd) (s : Value) (W : World) (h : TS p.rate W s) : Calls Tryz.prog 113 #[.agg (prodE p s)] W fun e w' => (∃ s', e = .returned (.agg (prodE p s')) /\ TS p.rate w' s') /\ Below W.heap.size W w' := by
 have HT := Hd h
 clear h
 unfold prodE
 go_enter Tryz.func113, Tryz.ntmps113
 go_wp2_with fail
 have d1 : Below W.heap.size W ((W.alloc (.cells (prodE p s) 153)).alloc (.cells prodZ 153)) := Below.al (Below.al (Below.refl _ _) _) _
 refine (cloneT_ok p.rate s _ (HT.o.step d1)).mono ?_
 rintro e w1 ⟨⟨s', rfl, hs'⟩, hb1⟩
 have HS := Hd hs'
 have H1 : Hi (Has W [(W.heap.size, 153, #[.int .i64 p.id, .int .i64 p.kind, .int .i64 0, .int .i64 1, .int .i64 p.how, .int .i64 p.mo, .int .i64 p.fee, .int .i64 p.lim, s]), (W.heap.size + 1, 153, #[.int .i64 0, .int .i64 0, .int .i64 0, .int .i64 0, .int .i64 0, .int .i64 0, .int .i64 0, .int .i64 0, .slice none 0 0])] w1) := Hd ((Has.cons ((Blk.new _ _ _).alloc _) (Has.cons (Blk.new' (by simp)) (Has.nil d1))).step hb1)
 clear hb1 hs' d1
 obtain ⟨g1, c1, cu, rfl, _⟩ := HS.o
 go_wp2_with (first
  | (refine wpList_turn rfl 32 (.tmp 6) (.tmp 5) rfl W.heap.size 8 (.slice (some ⟨g1, 0, none⟩) 1 c1) rfl rfl 153 #[.int .i64 p.id, .int .i64 p.kind, .int .i64 0, .int .i64 1, .int .i64 p.how, .int .i64 p.mo, .int .i64 p.fee, .int .i64 p.lim, s] (prodE p (.slice (some ⟨g1, 0, none⟩) 1 c1)) (H1.o.get 0 rfl) (by kernel_rfl) (by simp [Value.cells, prodE, prodZ]) (by simp [Value.cells, Value.oneCell', prodE, prodZ]) rfl ?_; intro W2 HT2)
  | (refine wpListG_row rfl 153 (.tmp 1) rfl W.heap.size rfl 153 (prodE p (.slice (some ⟨g1, 0, none⟩) 1 c1)) _ HT2.at_ Tryz.underlying153 rfl (by kernel_rfl) ?_)
  | (refine wpList_turn rfl 153 (.tmp 2) (.tmp 7) rfl (W.heap.size + 1) 0 (.agg (prodE p (.slice (some ⟨g1, 0, none⟩) 1 c1))) rfl rfl 153 prodZ (prodE p (.slice (some ⟨g1, 0, none⟩) 1 c1)) ((HT2.far _ (by omega)).trans (H1.o.get 1 rfl)) (by kernel_rfl) (by simp [Value.cells, prodE, prodZ]) (by simp [Value.cells, Value.oneCell', prodE, prodZ]) rfl ?_; intro W3 HT3))
 have k3 : Below W.heap.size W W3 := ((Keep.of_below (S := []) H1.o.below).trans ((HT2.keep.mono (T := [W.heap.size, W.heap.size + 1]) (by simp)).trans HT3.keep (by simp)) (by simp)).below
 have hs3 : TS p.rate W3 (.slice (some ⟨g1, 0, none⟩) 1 c1) := HS.o.keep ((HT2.keep.mono (T := [W.heap.size, W.heap.size + 1]) (by simp)).trans HT3.keep (by simp)) (by
  intro k hk cur hc
  simp only [List.mem_cons, List.not_mem_nil, or_false] at hk
  rcases hk with rfl | rfl
  . have := H1.o.get 0 rfl
    unfold Blk at this; rw [hc] at this; cases this
  . have := H1.o.get 1 rfl
    unfold Blk at this; rw [hc] at this; cases this)
 exact bodyPost_ret (results_cell_row rfl _ _ (W.heap.size + 1) 153 (prodE p (.slice (some ⟨g1, 0, none⟩) 1 c1)) (0, 0) _ rfl HT3.at_ Tryz.underlying153 rfl (by kernel_rfl)) rfl ⟨⟨_, rfl, hs3⟩, k3⟩
theorem pwithin_ok (n m : Int) (hn : 0 <= n /\ n <= m) (hm : InR m) (W : World) : Calls Tryz.prog 164 #[.int .i64 n, .int .i64 m] W fun e w' => e = .returned (.bool true) /\ w' = W := by
 obtain ⟨h1, h2⟩ := hn
 unfold InR at hm
 go_enter Tryz.func164, Tryz.ntmps164
 go_wp2_with fail
 exact bodyPost_ret (results_one rfl _ _ rfl) rfl ⟨rfl, rfl⟩
end Pr
section
open Go Go.RowKit
section
variable {P : Program} {ops : Array Oper} {C D : World -> Prop}
def wpTailL (P : Program) (l : List Oper) (D : World -> Prop) (Q : Act -> World -> Prop) : List Nat -> Act -> World -> Prop
 | [], a, w => Q a w
 | z :: zs, a, w => wpList P l.toArray (onlyNormal fun a w => (zs ≠ [] -> D w) /\ wpTailL P l D Q zs a w) [opAt l z] a w
def regLB (l : List Oper) (ks bs zs fs : List Nat) : Bool := regFB l ks bs zs fs && (match zs.getLast? with | none => true | some z => fs.all fun k => edgeB .any l k z)
theorem tailC_false (l : List Oper) (Q : Act -> World -> Prop) (zs : List Nat) : wpTailC False P l D Q zs = wpTailL P l D Q zs := by
 induction zs with
 | nil => rfl
 | cons z zs ih => funext a w; simp only [wpTailC, wpTailL, ih, or_false]
theorem wp_region_regL {id : Nat} {Q : Exit -> Act -> World -> Prop} {a : Act} {w : World} {l : List Oper} (C D : World -> Prop) (tz : Nat -> TypeId × Array Value) (ks bs zs fs : List Nat) (hm : P.follows .mixedOrders = true)
 (hB : (regLB l ks bs zs fs && (nodupB bs && nodupB zs)) = true) (hCD : ∀ w, C w -> D w) (hCB : ∀ w w', C w -> Below w.heap.size w w' -> C w') (hC : C w.drew) (hal : ∀ k ∈ bs, AllocB P l.toArray (opAt l k) (tz k).1 (tz k).2)
 (h : wpX P l.toArray C D (fun a' => ∀ (gs : Nat -> Nat) (w' : World), C w' -> Made tz w.heap.size bs gs w' -> wpTailL P l D (fun a w => Q .normal a w) zs (putAll l gs bs a') w') (ks.map fun k => (fs.contains k, opAt l k)) a) :
 (Code.region id l.toArray true).wp P Q a w := by
 simp only [regLB, Bool.and_eq_true] at hB
 obtain ⟨⟨hB, h13⟩, h2⟩ := hB
 refine wp_region_regC (c := False) C D tz ks bs zs fs hm (by rw [hB, Bool.true_and, Bool.and_eq_true]; exact h2) (.inr fun zl hz k hk => by rw [hz] at h13; simp only [List.all_eq_true] at h13; exact h13 k hk) hCD hCB hC hal (by simpa only [tailC_false] using h)
end
end
section
open Go
section
variable {P : Program} {C : World -> Prop}
theorem wp_region_cut {id : Nat} {Q : Exit -> Act -> World -> Prop} {a : Act} {w : World} {l : List Oper} (C : World -> Prop) (R : Act -> World -> Prop) (p : Plan) (hm : P.follows .mixedOrders = true) (hB : mixT l p = true)
 (hC : C w.drew) (h : wpPlan P l C R p a w.drew) (hR : ∀ a' w', R a' w' -> Q .normal a' w') : (Code.region id l.toArray true).wp P Q a w := by
 simp only [mixT, Bool.and_eq_true, beq_iff_eq] at hB
 obtain ⟨h1, h2, h3⟩ := hB
 refine wp_region_any hm (wpAny_of_M (Q := R) (C := C) hR _ _ _ _ ?_)
 have := wpAnyM_of_plan (P := P) (C := C) (md := .any) (Q := R) h1 p _ a w.drew hC h2 h
 rw [h3] at this
 simpa using this
theorem wp_region_cut3 {id : Nat} {Q : Exit -> Act -> World -> Prop} {a : Act} {w : World} {l : List Oper} (C : World -> Prop) (F : Nat -> Nat -> Nat -> World -> Prop) (G : Nat -> Nat -> Nat -> Act) (p : Plan) (hm : P.follows .mixedOrders = true) (hB : mixT l p = true)
 (hC : C w.drew) (h : wpPlan P l C (fun a' w' => ∃ x y z, F x y z w' /\ a' = G x y z) p a w.drew) (hR : ∀ x y z w', F x y z w' -> Q .normal (G x y z) w') : (Code.region id l.toArray true).wp P Q a w :=
 wp_region_cut C _ p hm hB hC h (by rintro a' w' ⟨x, y, z, hF, rfl⟩; exact hR _ _ _ _ hF)
end
end
end Go.Proofs.YtkdnebalpdebeaaGreatDoor
