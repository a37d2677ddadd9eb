/- Lemmas of a claim, several texts in one: Gd, ChE, Kp, ChP -/
import Derived.Test.YtlfomhdphbchpaaGreatDoorG07
import Derived.Test.YtlfomhdphbchpaaGreatDoorG03
import Derived.Test.YtlfomhdphbchpaaGreatDoorG13
import Derived.Test.YtlfomhdphbchpaaGreatDoorG11
/-! loads under a guard -/
namespace Go.Proofs.YtlfomhdphbchpaaGreatDoor
open Go.RowKit Go.Deep
section
variable {P : Program} {ops : Array Oper} {rest : List Oper} {o : Oper} {a : Act} {w : World} {Q : Exit → Act → World → Prop}
theorem wpList_wanted (hw : Region.wanted o (yielded ops a.tmps) = true)
    (h : ∀ K : Act → World → Prop, (∀ a w, wpList P ops Q rest a w → K a w) → o.wp P a w K Q) : wpList P ops Q (o :: rest) a w :=
  wpList_step fun K hK => by simp only [hw, if_true]; exact h K hK
theorem wpListG_row (hw : Region.wanted o (yielded ops a.tmps) = true) (ty : TypeId) (x : Operand) (ho : o.op = .load ty x)
    (g : Nat) (hx : a.eval x = .pointer (some ⟨g, 0, none⟩)) (t : TypeId) (cs : Array Value) (d : TypeDesc) (hg : Blk w g t cs)
    (hu : P.underlying ty = some d) (hd : (match d with | .struct _ | .array _ _ => true | _ => false) = true) (hi : (P.info? ty).map (·.size) = some cs.size)
    (h : wpList P ops Q rest (a.put o.dst (.agg cs)) w) : wpList P ops Q (o :: rest) a w :=
  wpList_wanted hw fun _ hK => by
    unfold Oper.wp execOp
    simp only [ho, hx, Instr.loadAt, Instr.sureAddr, Sem.run_bind, Sem.run_pure, Result.andThen_ok, run_loadVar_row w g t ty cs (0, 0) d hg hu hd hi]
    exact hK _ _ h
theorem wpListG_part (hw : Region.wanted o (yielded ops a.tmps) = true) (ty : TypeId) (x : Operand) (ho : o.op = .load ty x)
    (g off : Nat) (hx : a.eval x = .pointer (some ⟨g, off, none⟩)) (t : TypeId) (cs part : Array Value) (d : TypeDesc) (hg : Blk w g t cs) (hp : ∀ j v, part.toList[j]? = some v → cs[off + j]? = some v)
    (hu : P.underlying ty = some d) (hd : (match d with | .struct _ | .array _ _ => true | _ => false) = true) (hi : (P.info? ty).map (·.size) = some part.size)
    (h : wpList P ops Q rest (a.put o.dst (.agg part)) w) : wpList P ops Q (o :: rest) a w :=
  wpList_wanted hw fun _ hK => by
    unfold Oper.wp execOp
    simp only [ho, hx, Instr.loadAt, Instr.sureAddr, Sem.run_bind, Sem.run_pure, Result.andThen_ok, run_loadVar_part w g off t ty cs part d hg hp hu hd hi]
    exact hK _ _ h
theorem wpListG_cell (hw : Region.wanted o (yielded ops a.tmps) = true) (ty : TypeId) (x : Operand) (ho : o.op = .load ty x)
    (g off : Nat) (hx : a.eval x = .pointer (some ⟨g, off, none⟩)) (t : TypeId) (cs : Array Value) (v : Value) (hv : cs[off]? = some v) (d : TypeDesc) (hg : Blk w g t cs)
    (hu : P.underlying ty = some d) (hd : (match d with | .struct _ | .array _ _ => false | _ => true) = true)
    (h : wpList P ops Q rest (a.put o.dst v) w) : wpList P ops Q (o :: rest) a w :=
  wpList_wanted hw fun _ hK => by
    unfold Oper.wp execOp
    have hagg : (isAgg ty).run P w = .ok false w := by
      unfold isAgg
      rw [Sem.run_bind, run_underlying hu w]
      cases d <;> simp_all
    have hc : w.cell? ⟨g, off, none⟩ = some v := by rw [hg.cell, hv]
    have hl : (loadVar ty ⟨g, off, none⟩).run P w = .ok v w := by simp [loadVar, Sem.run_bind, hagg, hc, go_sem]
    simp only [ho, hx, Instr.loadAt, Instr.sureAddr, Sem.run_bind, Sem.run_pure, Result.andThen_ok, hl]
    exact hK _ _ h
end
end Go.Proofs.YtlfomhdphbchpaaGreatDoor

/-! chart: check, Post -/
namespace Go.Proofs.YtlfomhdphbchpaaGreatDoor.Ch
open Go.RowKit Go.Deep Go.Proofs.YtlfomhdphbchpaaGreatDoor.Wide Go.Proofs.YtlfomhdphbchpaaGreatDoor.Dec Go.Proofs.YtlfomhdphbchpaaGreatDoor.Acc Go.Proofs.YtlfomhdphbchpaaGreatDoor.Mp
open Go.Proofs.YtlfomhdphbchpaaGreatDoor.Cal hiding results_one results_two
set_option linter.unusedVariables false
set_option linter.unusedSimpArgs false
def SomeE (e : Ending) : Prop := ∃ r : Int, (r = 0 ∨ r = 3) ∧ e = .returned (.int .i64 r)
set_option maxHeartbeats 4000000 in
set_option maxRecDepth 100000 in
theorem chcheck_ok (p q : Int × Int) (hp : LineOk p) (hq : LineOk q) (ge cap : Nat) (W : World) (hE : Blk W ge 175 (entE p q)) :
    Calls Tryz.prog 125 #[.slice (some ⟨ge, 0, none⟩) 2 cap] W fun e w' => SomeE e ∧ Below W.heap.size W w' := by
  have HE := Lib.hid hE
  have hge := hE.lt
  have HP := Lib.hid hp
  have HQ := Lib.hid hq
  clear hE hp hq
  go_enter Tryz.func125, Tryz.ntmps125
  have H1 : Hid (Has W [] W) := Lib.hid (Has.start _)
  go_wp2_with fail
  go_loopw [3, 8] (fun er i wr => ∃ (k : Nat) (r : Int), k ≤ 2 ∧ i = .int .i64 k ∧ (r = 0 ∨ r = 3) ∧ er = .int .i64 r ∧ Hid (Has W [] wr)) (fun _ i _ => 2 - (intOf i).toNat)
  case atStart => exact ⟨0, 0, by omega, rfl, .inl rfl, rfl, H1⟩
  case round =>
    clear H1
    obtain ⟨k, er, hk, rfl, her, rfl, HH⟩ := hrel
    by_cases hk0 : k = 0
    · subst hk0
      have PL := Lib.hid (line_dec p.1 p.2)
      have CI := Lib.hid (fun W' => is_ok p.1 HP.out.1 W')
      have CC := Lib.hid (fun W' => check_ok p.2 0 HP.out.2.1 W')
      have CW := Lib.hid (fun W' => within_ok p.2 0 20 (by omega) HP.out.2.1 HP.out.2.2 W')
      have hz := HP.out.2.2
      rw [hz] at CC
      clear hz
      obtain ⟨b, hb⟩ : ∃ b, b = winB p.2 0 20 := ⟨_, rfl⟩
      rw [← hb] at CW
      clear hb
      go_wp2_with (refine wpList_load_part rfl 175 (.tmp 10) rfl ge 0 rfl 175 (entE p q) #[.int .i64 p.1, .int .i64 0, .int .i64 (p.2 / 18446744073709551616), .int .u64 (p.2 % 18446744073709551616), .int .i64 0] _ (HE.out.below HH.out.below hge) (entE_part0 p q) Tryz.underlying175 rfl (by first | kernel_rfl | (rw [enc_size]; kernel_rfl)) ?_)
      obtain ⟨g, hg⟩ : ∃ g, g = wr.heap.size := ⟨_, rfl⟩
      have H2 : Hid (Has W [(g, 175, #[.int .i64 p.1, .int .i64 0, .int .i64 (p.2 / 18446744073709551616), .int .u64 (p.2 % 18446744073709551616), .int .i64 0])] (wr.alloc (.cells #[.int .i64 p.1, .int .i64 0, .int .i64 (p.2 / 18446744073709551616), .int .u64 (p.2 % 18446744073709551616), .int .i64 0] 175))) := Lib.hid (by
        rw [hg]; exact Has.cons (Blk.new _ _ _) (Has.nil (Below.al HH.out.below _)))
      rw [← hg]
      clear hg HH
      refine (CI.out _).mono ?_
      rintro e w1 ⟨rfl, rfl⟩
      go_wp2_with (refine wpList_load_part rfl 168 (.tmp 18) rfl g 2 rfl 175 #[.int .i64 p.1, .int .i64 0, .int .i64 (p.2 / 18446744073709551616), .int .u64 (p.2 % 18446744073709551616), .int .i64 0] (decE p.2 0) _ (H2.out.get 0 rfl) PL.out Tryz.underlying168 rfl (by first | kernel_rfl | (rw [enc_size]; kernel_rfl)) ?_)
      refine (CC.out _).mono ?_
      rintro e w3 ⟨rfl, hb3⟩
      have H3 := Lib.hid (H2.out.step hb3)
      clear hb3 H2
      go_wp2_with (first
        | (refine wpListG_cell rfl 3 (.tmp 24) rfl g 4 rfl 175 #[.int .i64 p.1, .int .i64 0, .int .i64 (p.2 / 18446744073709551616), .int .u64 (p.2 % 18446744073709551616), .int .i64 0] (.int .i64 0) rfl _ (H3.out.get 0 rfl) Tryz.underlying3 rfl ?_)
        | (refine wpListG_part rfl 168 (.tmp 29) rfl g 2 rfl 175 #[.int .i64 p.1, .int .i64 0, .int .i64 (p.2 / 18446744073709551616), .int .u64 (p.2 % 18446744073709551616), .int .i64 0] (decE p.2 0) _ (H3.out.get 0 rfl) PL.out Tryz.underlying168 rfl (by first | kernel_rfl | (rw [enc_size]; kernel_rfl)) ?_))
      refine (CW.out _).mono ?_
      rintro e w4 ⟨rfl, hb4⟩
      have H4 := Lib.hid (H3.out.step hb4)
      clear hb4 H3
      cases b with
      | true =>
        go_wp2_with fail
        go_roundw
        case rel => exact ⟨0+1, er, by omega, by go_num, her, rfl, Lib.hid (H4.out.of_mem (by simp))⟩
        case measure => simp [intOf]
      | false =>
        go_wp2_with fail
        go_roundw
        case rel => exact ⟨0+1, 3, by omega, by go_num, .inr rfl, rfl, Lib.hid (H4.out.of_mem (by simp))⟩
        case measure => simp [intOf]
    · by_cases hk1 : k = 1
      · subst hk1
        have PL := Lib.hid (line_dec q.1 q.2)
        have CI := Lib.hid (fun W' => is_ok q.1 HQ.out.1 W')
        have CC := Lib.hid (fun W' => check_ok q.2 0 HQ.out.2.1 W')
        have CW := Lib.hid (fun W' => within_ok q.2 0 20 (by omega) HQ.out.2.1 HQ.out.2.2 W')
        have hz := HQ.out.2.2
        rw [hz] at CC
        clear hz
        obtain ⟨b, hb⟩ : ∃ b, b = winB q.2 0 20 := ⟨_, rfl⟩
        rw [← hb] at CW
        clear hb
        go_wp2_with (refine wpList_load_part rfl 175 (.tmp 10) rfl ge 5 rfl 175 (entE p q) #[.int .i64 q.1, .int .i64 0, .int .i64 (q.2 / 18446744073709551616), .int .u64 (q.2 % 18446744073709551616), .int .i64 0] _ (HE.out.below HH.out.below hge) (entE_part1 p q) Tryz.underlying175 rfl (by first | kernel_rfl | (rw [enc_size]; kernel_rfl)) ?_)
        obtain ⟨g, hg⟩ : ∃ g, g = wr.heap.size := ⟨_, rfl⟩
        have H2 : Hid (Has W [(g, 175, #[.int .i64 q.1, .int .i64 0, .int .i64 (q.2 / 18446744073709551616), .int .u64 (q.2 % 18446744073709551616), .int .i64 0])] (wr.alloc (.cells #[.int .i64 q.1, .int .i64 0, .int .i64 (q.2 / 18446744073709551616), .int .u64 (q.2 % 18446744073709551616), .int .i64 0] 175))) := Lib.hid (by
          rw [hg]; exact Has.cons (Blk.new _ _ _) (Has.nil (Below.al HH.out.below _)))
        rw [← hg]
        clear hg HH
        refine (CI.out _).mono ?_
        rintro e w1 ⟨rfl, rfl⟩
        go_wp2_with (refine wpList_load_part rfl 168 (.tmp 18) rfl g 2 rfl 175 #[.int .i64 q.1, .int .i64 0, .int .i64 (q.2 / 18446744073709551616), .int .u64 (q.2 % 18446744073709551616), .int .i64 0] (decE q.2 0) _ (H2.out.get 0 rfl) PL.out Tryz.underlying168 rfl (by first | kernel_rfl | (rw [enc_size]; kernel_rfl)) ?_)
        refine (CC.out _).mono ?_
        rintro e w3 ⟨rfl, hb3⟩
        have H3 := Lib.hid (H2.out.step hb3)
        clear hb3 H2
        go_wp2_with (first
          | (refine wpListG_cell rfl 3 (.tmp 24) rfl g 4 rfl 175 #[.int .i64 q.1, .int .i64 0, .int .i64 (q.2 / 18446744073709551616), .int .u64 (q.2 % 18446744073709551616), .int .i64 0] (.int .i64 0) rfl _ (H3.out.get 0 rfl) Tryz.underlying3 rfl ?_)
          | (refine wpListG_part rfl 168 (.tmp 29) rfl g 2 rfl 175 #[.int .i64 q.1, .int .i64 0, .int .i64 (q.2 / 18446744073709551616), .int .u64 (q.2 % 18446744073709551616), .int .i64 0] (decE q.2 0) _ (H3.out.get 0 rfl) PL.out Tryz.underlying168 rfl (by first | kernel_rfl | (rw [enc_size]; kernel_rfl)) ?_))
        refine (CW.out _).mono ?_
        rintro e w4 ⟨rfl, hb4⟩
        have H4 := Lib.hid (H3.out.step hb4)
        clear hb4 H3
        cases b with
        | true =>
          go_wp2_with fail
          go_roundw
          case rel => exact ⟨1+1, er, by omega, by go_num, her, rfl, Lib.hid (H4.out.of_mem (by simp))⟩
          case measure => simp [intOf]
        | false =>
          go_wp2_with fail
          go_roundw
          case rel => exact ⟨1+1, 3, by omega, by go_num, .inr rfl, rfl, Lib.hid (H4.out.of_mem (by simp))⟩
          case measure => simp [intOf]
      · obtain rfl : k = 2 := by omega
        go_wp2_with fail
        exact bodyPost_ret (results_one rfl _ _ rfl) rfl ⟨⟨er, her, rfl⟩, HH.out.below⟩
end Go.Proofs.YtlfomhdphbchpaaGreatDoor.Ch

/-! What a world holds and what of an old one has stayed: objects with their addresses; old blocks may turn. -/
namespace Go.Proofs.YtlfomhdphbchpaaGreatDoor
open Go.RowKit Go.Deep
set_option linter.unusedVariables false
set_option linter.unusedSimpArgs false
/-- of the old blocks none but these has turned -/
structure Keep (S : List Nat) (W w : World) : Prop where
  os : w.os = W.os
  tape : w.tape = W.tape
  output : w.output = W.output
  size : W.heap.size ≤ w.heap.size
  block : ∀ k, k < W.heap.size → k ∉ S → w.heap[k]? = W.heap[k]?
theorem Keep.refl (S : List Nat) (W : World) : Keep S W W := ⟨rfl, rfl, rfl, Nat.le_refl _, fun _ _ _ => rfl⟩
theorem Keep.of_below {S : List Nat} {W w : World} (h : Below W.heap.size W w) : Keep S W w := ⟨h.os, h.tape, h.output, h.size, fun k hk _ => h.block k hk⟩
theorem Keep.below {W w : World} (h : Keep [] W w) : Below W.heap.size W w := ⟨h.os, h.tape, h.output, h.size, fun k hk => h.block k hk (by simp)⟩
theorem Keep.trans {S T : List Nat} {a b c : World} (h : Keep S a b) (h' : Keep T b c) (hT : ∀ k ∈ T, k ∈ S ∨ a.heap.size ≤ k) : Keep S a c :=
  ⟨h'.os.trans h.os, h'.tape.trans h.tape, h'.output.trans h.output, Nat.le_trans h.size h'.size, fun k hk hS =>
    (h'.block k (Nat.lt_of_lt_of_le hk h.size) (fun hT' => by rcases hT k hT' with h1 | h1; exact hS h1; omega)).trans (h.block k hk hS)⟩
theorem Keep.mono {S T : List Nat} {a b : World} (h : Keep S a b) (hT : ∀ k ∈ S, k ∈ T ∨ a.heap.size ≤ k) : Keep T a b :=
  ⟨h.os, h.tape, h.output, h.size, fun k hk hS => h.block k hk (fun h' => by rcases hT k h' with h1 | h1; exact hS h1; omega)⟩
theorem Keep.step {S : List Nat} {W w w' : World} (h : Keep S W w) (hb : Below w.heap.size w w') : Keep S W w' := h.trans (T := []) (Keep.of_below hb) (by simp)
/-- one block has turned -/
structure Turn (w : World) (g : Nat) (o : Obj) (w' : World) : Prop where
  os : w'.os = w.os
  tape : w'.tape = w.tape
  output : w'.output = w.output
  size : w'.heap.size = w.heap.size
  at_ : w'.heap[g]? = some o
  far : ∀ k, k ≠ g → w'.heap[k]? = w.heap[k]?
theorem Turn.keep {w w' : World} {g : Nat} {o : Obj} (h : Turn w g o w') : Keep [g] w w' := ⟨h.os, h.tape, h.output, by rw [h.size]; exact Nat.le_refl _, fun k _ hk => h.far k (by simpa using hk)⟩
theorem obj_lt {w : World} {g : Nat} {o : Obj} (h : w.heap[g]? = some o) : g < w.heap.size := by
  rcases Nat.lt_or_ge g w.heap.size with h' | h'
  · exact h'
  · rw [Array.getElem?_eq_none h'] at h; cases h
/-- old blocks but S have stayed, and these objects lie there -/
def HasO (S : List Nat) (W : World) (fs : List (Nat × Obj)) (w : World) : Prop := Keep S W w ∧ ∀ f ∈ fs, w.heap[f.1]? = some f.2
section
variable {S T : List Nat} {W w w' : World} {fs gs : List (Nat × Obj)} {g : Nat} {o o' : Obj}
theorem HasO.nil (h : Keep S W w) : HasO S W [] w := ⟨h, fun _ h => by cases h⟩
theorem HasO.start (S : List Nat) (W : World) : HasO S W [] W := HasO.nil (Keep.refl _ _)
theorem HasO.cons (h : w.heap[g]? = some o) (hf : HasO S W fs w) : HasO S W ((g, o) :: fs) w := ⟨hf.1, fun f hm => by rcases List.mem_cons.1 hm with rfl | hm; exact h; exact hf.2 f hm⟩
theorem HasO.add (hf : HasO S W fs w) (h : ∀ f ∈ gs, w.heap[f.1]? = some f.2) : HasO S W (gs ++ fs) w := ⟨hf.1, fun f hm => by rcases List.mem_append.1 hm with hm | hm; exact h f hm; exact hf.2 f hm⟩
theorem HasO.keep (h : HasO S W fs w) : Keep S W w := h.1
theorem HasO.size (h : HasO S W fs w) : W.heap.size ≤ w.heap.size := h.1.size
theorem HasO.obj (h : HasO S W fs w) (i : Nat) {g : Nat} {o : Obj} (hi : fs[i]? = some (g, o)) : w.heap[g]? = some o := h.2 (g, o) (List.mem_of_getElem? hi)
theorem HasO.get (h : HasO S W fs w) (i : Nat) {g : Nat} {t : TypeId} {cs : Array Value} (hi : fs[i]? = some (g, .cells cs t)) : Blk w g t cs := h.obj i hi
theorem HasO.below (h : HasO [] W fs w) : Below W.heap.size W w := h.1.below
theorem HasO.of_mem (h : HasO S W fs w) (hm : ∀ f ∈ gs, f ∈ fs) : HasO S W gs w := ⟨h.1, fun f hf => h.2 f (hm f hf)⟩
theorem HasO.tail {f : Nat × Obj} (h : HasO S W (f :: fs) w) : HasO S W fs w := ⟨h.1, fun g hm => h.2 g (List.mem_cons_of_mem _ hm)⟩
theorem HasO.step (h : HasO S W fs w) (hb : Below w.heap.size w w') : HasO S W fs w' :=
  ⟨h.1.step hb, fun f hf => by rw [hb.block f.1 (obj_lt (h.2 f hf))]; exact h.2 f hf⟩
theorem HasO.drew (h : HasO S W fs w) : HasO S W fs w.drew := h.step (Below.refl _ _).drew
theorem HasO.alloc (h : HasO S W fs w) (o : Obj) : HasO S W fs (w.alloc o) := h.step ((Below.refl _ _).alloc (Nat.le_refl _) o)
theorem HasO.new (h : HasO S W fs w) (hg : g = w.heap.size) (o : Obj) : HasO S W ((g, o) :: fs) (w.alloc o) := by
  subst hg; exact HasO.cons (heap_alloc_new w o) (h.alloc o)
/-- a callee that turns some of the blocks -/
theorem HasO.call (h : HasO S W fs w) (hk : Keep T w w') (hT : ∀ k ∈ T, k ∈ S ∨ W.heap.size ≤ k) (hn : ∀ f ∈ fs, f.1 ∉ T) : HasO S W fs w' :=
  ⟨h.1.trans hk hT, fun f hf => by rw [hk.block f.1 (obj_lt (h.2 f hf)) (hn f hf)]; exact h.2 f hf⟩
theorem HasO.turn (h : HasO S W fs w) (i : Nat) (hi : fs[i]? = some (g, o)) (ht : Turn w g o' w') (hS : g ∈ S ∨ W.heap.size ≤ g) (hne : ∀ f ∈ fs.eraseIdx i, f.1 ≠ g) : HasO S W (fs.set i (g, o')) w' := by
  refine ⟨h.1.trans ht.keep (fun k hk => by simp only [List.mem_singleton] at hk; subst hk; exact hS), fun f hf => ?_⟩
  obtain ⟨j, hj⟩ := List.mem_iff_getElem?.1 hf
  by_cases hij : i = j
  · subst hij
    have hlt : i < fs.length := (List.getElem?_eq_some_iff.1 hi).1
    rw [List.getElem?_set_self hlt] at hj
    cases hj; exact ht.at_
  · rw [List.getElem?_set_ne hij] at hj
    rw [ht.far f.1 (hne f (List.mem_eraseIdx_iff_getElem?.2 ⟨j, fun e => hij e.symm, hj⟩))]
    exact h.2 f (List.mem_of_getElem? hj)
end
/-- of one kind: two rows of one type, two maps -/
def alikeO : Obj → Obj → Bool
  | .cells _ t _, .cells _ t' _ => t == t'
  | .cells _ _ _, .map _ _ => false
  | .map _ _, .cells _ _ _ => false
  | _, _ => true
theorem ne_alike {w : World} {g k : Nat} {o o' : Obj} (h : w.heap[g]? = some o) (h' : w.heap[k]? = some o') (hd : alikeO o' o = false) : k ≠ g := by
  intro e; subst e
  rw [h] at h'; cases h'
  cases o <;> simp [alikeO] at hd
theorem HasO.far {S : List Nat} {W w : World} {fs : List (Nat × Obj)} {g : Nat} {o : Obj} (h : HasO S W fs w) (hg : w.heap[g]? = some o) (hd : fs.all (fun f => !alikeO f.2 o) = true) : ∀ f ∈ fs, f.1 ≠ g := fun f hf =>
  ne_alike hg (h.2 f hf) (by have := List.all_eq_true.1 hd f hf; simpa using this)
theorem HasO.apart {S : List Nat} {W w : World} {fs : List (Nat × Obj)} {g : Nat} {o : Obj} (h : HasO S W fs w) (i : Nat) (hi : fs[i]? = some (g, o)) (hd : (fs.eraseIdx i).all (fun f => !alikeO f.2 o) = true) : ∀ f ∈ fs.eraseIdx i, f.1 ≠ g := fun f hf =>
  ne_alike (h.obj i hi) (h.2 f (List.mem_of_mem_eraseIdx hf)) (by have := List.all_eq_true.1 hd f hf; simpa using this)
/-- the same with a map -/
theorem Turn.of_map {w w' : World} {b : Nat} {o : Obj} (hat : w'.heap[b]? = some o) (hfar : ∀ g, g ≠ b → w'.heap[g]? = w.heap[g]?) (hbel : ∀ B w0, B ≤ b → Below B w0 w → Below B w0 w') (hsz : w'.heap.size = w.heap.size) : Turn w b o w' :=
  ⟨(hbel 0 w (Nat.zero_le _) (Below.refl _ _)).os, (hbel 0 w (Nat.zero_le _) (Below.refl _ _)).tape, (hbel 0 w (Nat.zero_le _) (Below.refl _ _)).output, hsz, hat, hfar⟩
section
variable {P : Program} {ops : Array Oper} {rest : List Oper} {o : Oper} {a : Act} {w : World} {Q : Exit → Act → World → Prop}
theorem turn_setRow {w : World} {g : Nat} {old new : Array Value} {t : TypeId} (hg : Blk w g t old) : Turn w g (.cells new t) (w.setRow g new) :=
  ⟨(below_setRow (Below.refl 0 w) (Nat.zero_le _) _).os, (below_setRow (Below.refl 0 w) (Nat.zero_le _) _).tape, (below_setRow (Below.refl 0 w) (Nat.zero_le _) _).output, by simp, setRow_heap w g old new t (0, 0) hg, fun k hk => setRow_other w g k _ hk⟩
/-- a store, of a whole block or of a part -/
theorem wpList_turn (hw : Region.wanted o (yielded ops a.tmps) = true) (ty : TypeId) (x y : Operand) (ho : o.op = .store ty x y)
    (g off : Nat) (v : Value) (hx : a.eval x = .pointer (some ⟨g, off, none⟩)) (hy : a.eval y = v) (t : TypeId) (old new : Array Value) (hg : Blk w g t old) (hi : (P.info? ty).map (·.size) = some v.cells.size)
    (hfit : off + v.cells.size ≤ old.size) (h1 : v.cells.all (·.oneCell') = true) (hnew : splice old off v.cells = new)
    (h : ∀ W2, Turn w g (.cells new t) W2 → wpList P ops Q rest (a.put o.dst undef) W2) : wpList P ops Q (o :: rest) a w := by
  refine wpList_wanted hw fun _ hK => ?_
  have hst := run_storeCells_at P g off t v.cells.toList 0 old w hg (by simpa using hfit) (fun v' hv => by rw [Array.all_eq_true'] at h1; exact h1 v' (by simpa using hv))
  have hsv : (storeVar ty ⟨g, off, none⟩ v).run P w = .ok () (w.setRow g new) := by
    cases hq : P.info? ty with
    | none => simp [hq] at hi
    | some i =>
      have hs : i.size = v.cells.size := by simpa [hq] using hi
      rw [← hnew]
      simp [storeVar, Sem.run_bind, sizeOf, typeInfo, hq, hs, hst, splice]
  unfold Oper.wp execOp
  simp only [ho, hx, hy, Instr.storeAt, Instr.sureAddr, Sem.run_bind, Sem.run_pure, Result.andThen_ok, hsv]
  exact hK _ _ (h _ (turn_setRow hg))
end
end Go.Proofs.YtlfomhdphbchpaaGreatDoor

/-! chart: Post -/
namespace Go.Proofs.YtlfomhdphbchpaaGreatDoor.Ch
open Go.RowKit Go.Deep Go.Proofs.YtlfomhdphbchpaaGreatDoor.Wide Go.Proofs.YtlfomhdphbchpaaGreatDoor.Dec Go.Proofs.YtlfomhdphbchpaaGreatDoor.Acc Go.Proofs.YtlfomhdphbchpaaGreatDoor.Mp
open Go.Proofs.YtlfomhdphbchpaaGreatDoor.Cal hiding results_one results_two
set_option linter.unusedVariables false
set_option linter.unusedSimpArgs false
/-- a ledger -/
def Led (gl : Nat) (w : World) : Prop := ∃ (b cl : Nat) (L : List Ent) (n : Int), w.heap[gl]? = some (.cells #[.map (some b), .int .i64 n] 108) ∧ Map w b L cl ∧ LOk L ∧ LB L cl ∧ InR n ∧ gl ≤ b + 1
theorem Led.lt {gl : Nat} {w : World} (h : Led gl w) : gl < w.heap.size := by
  obtain ⟨b, cl, L, n, h, _⟩ := h; exact obj_lt h
theorem Led.keep {gl : Nat} {w w' : World} {S : List Nat} (h : Led gl w) (hk : Keep S w w') (hg : gl ∉ S) (hm : ∀ k ∈ S, k + 1 < gl ∨ ∀ es cl, w.heap[k]? ≠ some (.map es cl)) : Led gl w' := by
  obtain ⟨b, cl, L, n, h, h2, h3, h4, h5, h6⟩ := h
  refine ⟨b, cl, L, n, by rw [hk.block gl (obj_lt h) hg]; exact h, ?_, h3, h4, h5, h6⟩
  unfold Map at *
  rw [hk.block b (obj_lt h2) (fun hb => by rcases hm b hb with h | h; omega; exact h _ _ h2)]; exact h2
theorem Led.step {gl : Nat} {w w' : World} (h : Led gl w) (hb : Below w.heap.size w w') : Led gl w' := h.keep (S := []) (Keep.of_below hb) (by simp) (by simp)
def SomeI (e : Ending) : Prop := ∃ r : Int, e = .returned (.int .i64 r)
set_option maxHeartbeats 4000000 in
set_option maxRecDepth 100000 in
theorem post_ok (p q : Int × Int) (hp : LineOk p) (hq : LineOk q) (gl ge cap : Nat) (W : World) (hE : Blk W ge 175 (entE p q)) (hL : Led gl W) :
    Calls Tryz.prog 87 #[.pointer (some ⟨gl, 0, none⟩), .slice (some ⟨ge, 0, none⟩) 2 cap] W fun e w' => SomeI e ∧ Keep [gl] W w' ∧ Led gl w' := by
  have HL := Lib.hid hL
  obtain ⟨b0, cl0, L0, n, hgl, hm0, hl0, hb0, hn⟩ := hL
  have CC := Lib.hid (chcheck_ok p q hp hq ge cap W hE)
  have CP := Lib.hid (fun w (h : Below W.heap.size W w) => posted_ok L0 p q hp hq hl0 b0 cl0 ge cap w (hm0.step h) hb0 (hE.below h hE.lt))
  have CB := Lib.hid (fun w (h : Below W.heap.size W w) => balanced_ok p q hp hq ge cap w (hE.below h hE.lt))
  have HG := Lib.hid hgl
  have HN := Lib.hid hn
  clear hp hq hE hl0 hb0 hm0 hgl hn
  go_enter Tryz.func87, Tryz.ntmps87
  go_wp2_with fail
  refine (CC.out).mono ?_
  rintro e w1 ⟨⟨r, hr, rfl⟩, hb1⟩
  have H1 := Lib.hid (HasO.cons (show w1.heap[gl]? = some _ from by rw [hb1.block gl HL.out.lt]; exact HG.out) (HasO.nil (Keep.of_below (S := []) hb1)))
  clear hb1
  rcases hr with rfl | rfl
  · go_wp2_with (refine wpListG_cell rfl 106 (.tmp 18) rfl gl 0 rfl 108 #[.map (some b0), .int .i64 n] (.map (some b0)) rfl _ (H1.out.get 0 rfl) Tryz.underlying106 rfl ?_)
    refine (CP.out _ H1.out.keep.below).mono ?_
    rintro e w2 ⟨rfl, L, cl, hL, hB, hM, hb2⟩
    obtain ⟨b, hb⟩ : ∃ b, b = w1.heap.size := ⟨_, rfl⟩
    rw [← hb] at hM ⊢
    have hWb : Hid (W.heap.size ≤ b) := Lib.hid (by rw [hb]; exact H1.out.size)
    have HH : Hid (HasM W [] b L cl w2) := Lib.hid ⟨Has.nil ((H1.out.step hb2).keep.below), hM⟩
    have HLO := Lib.hid hL
    have HLB := Lib.hid hB
    clear hb hM hL hB hb2 H1
    go_wp2_with (refine wpList_range2 rfl 106 (.tmp 22) rfl Tryz.underlying106 b _ cl rfl HH.out.map ?_
                 intro W2 hW2
                 obtain ⟨r, hr⟩ : ∃ r, r = w2.heap.size := ⟨_, rfl⟩
                 have HR : Hid (Ranging b cl r W2) := Lib.hid (by rw [hW2, hr]; exact ⟨#[], cl, heap_alloc_new w2 _, Nat.le_refl _⟩)
                 have H2 : Hid (HasM W [] b L cl W2) := Lib.hid (by rw [hW2]; exact HH.out.step ((Below.refl _ _).alloc (Nat.le_refl _) _))
                 have hrW : Hid (b < r) := Lib.hid (by rw [hr]; exact HH.out.map.lt)
                 rw [← hr]
                 clear hW2 hr HH)
    simp only [Act.put, List.setIfInBounds_toArray, List.set_cons_succ, List.set_cons_zero]
    go_loopw [] (fun wr => Hid (Ranging b cl r wr) ∧ Hid (HasM W [] b L cl wr)) (fun wr => wr.rangeLeft b r)
    case atStart => exact ⟨HR, H2⟩
    case round =>
      clear HR H2
      obtain ⟨HR, H2⟩ := hrel
      obtain ⟨seen, c0, hr, hc0⟩ := HR.out
      have HRR := Lib.hid hr
      have HC0 := Lib.hid hc0
      clear hr hc0
      go_wp2_with (refine wpList_next2 rfl (.tmp 23) rfl r b cl c0 seen _ cl rfl HRR.out H2.out.map HLB.out.hold HC0.out ?_ ?_)
      · intro h0
        clear HR HRR
        go_wp2_with fail
        refine (CB.out _ H2.out.below).mono ?_
        rintro e w3 ⟨⟨rb, rfl⟩, hb3⟩
        have H3 := Lib.hid (H2.out.step hb3)
        clear hb3 H2
        cases rb with
        | false =>
          go_wp2_with fail
          exact bodyPost_ret (results_one rfl _ _ rfl) rfl ⟨⟨_, rfl⟩, Keep.of_below H3.out.below, HL.out.step H3.out.below⟩
        | true =>
          have HG3 : Hid (w3.heap[gl]? = some (Obj.cells #[Value.map (some b0), Value.int IntKind.i64 n] 108)) := Lib.hid (by rw [H3.out.below.block gl HL.out.lt]; exact HG.out)
          have hgb : Hid (b ≠ gl) := Lib.hid (by have := hWb.out; have := HL.out.lt; omega)
          go_wp2_with (first
            | (refine wpList_turn rfl 106 (.tmp 37) (.tmp 35) rfl gl 0 (.map (some b)) rfl rfl 108 #[.map (some b0), .int .i64 n] #[.map (some b), .int .i64 n] HG3.out (by first | kernel_rfl | (rw [enc_size]; kernel_rfl)) (by first | (simp [Value.cells]; done) | (simp [Value.cells]; done) | exact Nat.le_refl _) (by first | exact decE_all _ _ | (simp [Value.cells, Value.oneCell']; done) | (simp [Value.cells, Value.oneCell']; done) | (rw [Array.all_eq_true']; simp [Value.cells, Value.oneCell'])) rfl ?_; intro W4 HT4
               have H4 : Hid (HasM W [] b L cl w3 ∧ Turn w3 gl _ W4) := Lib.hid ⟨H3.out, HT4⟩)
            | (refine wpListG_cell rfl 3 (.tmp 40) rfl gl 1 rfl 108 #[.map (some b), .int .i64 n] (.int .i64 n) rfl _ (H4.out.2.at_) Tryz.underlying3 rfl ?_)
            | (refine wpList_turn rfl 3 (.tmp 44) (.tmp 42) rfl gl 1 (.int .i64 (wrap64 (n + 1))) rfl rfl 108 #[.map (some b), .int .i64 n] #[.map (some b), .int .i64 (wrap64 (n + 1))] (H4.out.2.at_) (by first | kernel_rfl | (rw [enc_size]; kernel_rfl)) (by first | (simp [Value.cells]; done) | (simp [Value.cells]; done) | exact Nat.le_refl _) (by first | exact decE_all _ _ | (simp [Value.cells, Value.oneCell']; done) | (simp [Value.cells, Value.oneCell']; done) | (rw [Array.all_eq_true']; simp [Value.cells, Value.oneCell'])) rfl ?_; intro W5 HT5
               have H5 := Lib.hid (And.intro (HT4.keep.trans HT5.keep (fun k hk => .inl hk)) (And.intro HT5.at_ (show Map W5 b L cl from (HT5.far b hgb.out).trans ((HT4.far b hgb.out).trans H3.out.map))))
               have H6 := Lib.hid ((Keep.of_below (S := [gl]) H3.out.below).trans H5.out.1 (fun k hk => .inl hk))))
          exact bodyPost_ret (results_one rfl _ _ rfl) rfl ⟨⟨_, rfl⟩, H6.out, ⟨b, cl, L, _, H5.out.2.1, H5.out.2.2, HLO.out, HLB.out, by unfold InR wrap64; omega, by have := hWb.out; have := HL.out.lt; omega⟩⟩
      · intro e he W3 hr3 hfar3 hbel3 hsz3
        obtain ⟨hem, hes⟩ := mem_left (by simpa using he)
        have hsh := left_shrinks _ _ _ (by simpa using he)
        have hL1 : wr.rangeLeft b r = (leftOf (L.map Ent.row).toArray seen).size := left_eq H2.out.map HRR.out
        have hm3 : Map W3 b L cl := (hfar3 _ (by have := hrW.out; omega)).trans H2.out.map
        have hL3 := left_eq hm3 hr3
        have hen := run_entry_at (P := Tryz.prog) W3 r b cl seen _ cl e hr3 hm3 hem HLB.out.nodup
        have hem2 := hem
        simp only [List.mem_map] at hem2
        obtain ⟨f, hf, rfl⟩ := hem2
        obtain ⟨c, s, hv, hc, hs⟩ := (HLO.out f hf).2.2
        have CW := Lib.hid (fun W' => within_ok c s 24 (by omega) hc hs W')
        have hfv : f.row.val = .agg (decE c s) := hv
        rw [hfv] at hen ⊢
        have H3 : Hid (HasM W [] b L cl W3) := Lib.hid ⟨Has.nil (hbel3 _ _ (by have := hrW.out; have := hWb.out; omega) H2.out.below), hm3⟩
        have HR3 : Hid (Ranging b cl r W3) := Lib.hid ⟨_, cl, hr3, Nat.le_refl _⟩
        have HLT : Hid (W3.rangeLeft b r < wr.rangeLeft b r) := Lib.hid (by rw [hL1, hL3]; exact hsh)
        obtain ⟨fk, hfk⟩ : ∃ fk, fk = f.row.key := ⟨_, rfl⟩
        rw [← hfk] at hen ⊢
        obtain ⟨rb, hrb⟩ : ∃ rb, rb = winB c s 24 := ⟨_, rfl⟩
        rw [← hrb] at CW
        rw [decE_lit] at hen CW ⊢
        clear hrb hL1 hL3 hsh hm3 hem hes hf hv hc hs hfv hr3 hfar3 hbel3 hsz3 hfk he HRR HC0 H2 HR
        go_wp2_with fail
        refine (CW.out _).mono ?_
        rintro e w4 ⟨rfl, hb4⟩
        have hb5 : Below W3.heap.size W3 w4 := ((Below.refl _ _).alloc (Nat.le_refl _) _).trans (hb4.mono (by simp))
        have H6 : Hid (HasM W [] b L cl w4) := Lib.hid (H3.out.step hb5)
        have HR6 : Hid (Ranging b cl r w4) := Lib.hid (HR3.out.step hb5)
        have HLT6 : Hid (w4.rangeLeft b r < wr.rangeLeft b r) := Lib.hid (by rw [left_step hb5 H3.out.map.lt HR3.out.lt]; exact HLT.out)
        clear hb4 hb5 H3 HR3 HLT
        cases rb with
        | false =>
          go_wp2_with fail
          exact bodyPost_ret (results_one rfl _ _ rfl) rfl ⟨⟨_, rfl⟩, Keep.of_below H6.out.below, HL.out.step H6.out.below⟩
        | true =>
          go_wp2_with fail
          go_roundw
          case rel => exact ⟨HR6, H6⟩
          case measure => exact HLT6.out
  · go_wp2_with fail
    exact bodyPost_ret (results_one rfl _ _ rfl) rfl ⟨⟨_, rfl⟩, (H1.out.keep.mono (by simp)), HL.out.step H1.out.keep.below⟩
end Go.Proofs.YtlfomhdphbchpaaGreatDoor.Ch
