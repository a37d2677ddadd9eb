/- Lemmas of a claim, several texts in one: BkR, BkL, BkS, BkT -/
import Derived.Test.YtlfomhdphbchpaaGreatDoorG29
/-! what the bank's own blocks leave alone of the model, and the model's own of the bank -/
namespace Go.Proofs.YtlfomhdphbchpaaGreatDoor.Bk
open Go.RowKit Go.Deep Go.Proofs.YtlfomhdphbchpaaGreatDoor.Mp Go.Proofs.YtlfomhdphbchpaaGreatDoor.Mo
open Go.Proofs.YtlfomhdphbchpaaGreatDoor.Pr (TS Cat1)
open Go.Proofs.YtlfomhdphbchpaaGreatDoor.Ch (Led)
set_option linter.unusedVariables false
set_option linter.unusedSimpArgs false
/-- types of the bank's own blocks -/
def bankT (t : TypeId) : Bool := t == 87 || t == 144 || t == 93 || t == 32 || t == 209 || t == 51
/-- the blocks are the bank's: the disk's map lies below n -/
def FarM (n : Nat) (W : World) (S : List Nat) : Prop := ∀ k ∈ S, (k < n ∧ ∃ es cl, W.heap[k]? = some (.map es cl)) ∨ ∃ cur t, W.heap[k]? = some (.cells cur t) ∧ bankT t = true
/-- a block of the model's -/
def okM (n : Nat) (f : Nat × Obj) : Prop := match f.2 with
  | .cells _ t _ => bankT t = false
  | .map _ _ => n ≤ f.1
  | _ => True
theorem FarM.cells {n : Nat} {W : World} {S : List Nat} (h : FarM n W S) {t : TypeId} (ht : bankT t = false) : ∀ k ∈ S, ∀ cur, W.heap[k]? ≠ some (.cells cur t) := by
  intro k hk cur hc
  rcases h k hk with ⟨_, es, cl, h⟩ | ⟨cur', t', h, h'⟩
  · rw [h] at hc; cases hc
  · rw [h] at hc; cases hc; rw [ht] at h'; cases h'
theorem FarM.not_mem {n : Nat} {W : World} {S : List Nat} (h : FarM n W S) {g : Nat} {o : Obj} (hg : W.heap[g]? = some o) (ho : okM n (g, o)) : g ∉ S := by
  intro hm
  rcases h g hm with ⟨hl, es, cl, h⟩ | ⟨cur, t, h, h'⟩
  · rw [h] at hg; cases hg
    have : n ≤ g := ho
    omega
  · rw [h] at hg; cases hg
    have : bankT t = false := ho
    rw [this] at h'; cases h'
theorem hasO_far {n : Nat} {W w : World} {fs : List (Nat × Obj)} {S : List Nat} (h : HasO [] W fs W) (hk : Keep S W w) (hf : FarM n W S) (ho : ∀ f ∈ fs, okM n f) : HasO [] w fs w :=
  ⟨Keep.refl _ _, fun f hm => (hk.block f.1 (obj_lt (h.2 f hm)) (hf.not_mem (h.2 f hm) (ho f hm))).trans (h.2 f hm)⟩
theorem led_far {n : Nat} {W w : World} {S : List Nat} (h : Led (n + 6) W) (hk : Keep S W w) (hf : FarM n W S) : Led (n + 6) w := by
  refine h.keep hk ?_ ?_
  · obtain ⟨b, cl, L, m, h, _⟩ := h
    exact hf.not_mem h rfl
  · intro k hm
    rcases hf k hm with ⟨hl, _⟩ | ⟨cur, t, h, _⟩
    · left; omega
    · right; intro es cl hc; rw [h] at hc; cases hc
theorem cat_far {n : Nat} {W w : World} {S : List Nat} (h : Cat1 (n + 1) W) (hk : Keep S W w) (hf : FarM n W S) : Cat1 (n + 1) w := by
  refine cat1_keep h hk ?_ (hf.cells rfl) (hf.cells rfl)
  obtain ⟨gL, cap, cur, s, m, hg, _⟩ := h
  exact hf.not_mem hg rfl
theorem ts_far {n : Nat} {W w : World} {S : List Nat} {s : Value} (h : TS W s) (hk : Keep S W w) (hf : FarM n W S) : TS w s := h.keep hk (hf.cells rfl)
theorem st0_far {n : Nat} {day : Int} {W w : World} {S : List Nat} (h : St0 n day W) (hk : Keep S W w) (hf : FarM n W S) : St0 n day w := by
  refine ⟨hasO_far h.1 hk hf ?_, led_far h.2 hk hf⟩
  simp only [List.forall_mem_cons]
  refine ⟨rfl, rfl, ?_, ?_, ?_, by simp⟩
  · show n ≤ n; omega
  · show n ≤ n + 2; omega
  · show n ≤ n + 4; omega
theorem st1_far {n : Nat} {day : Int} {W w : World} {S : List Nat} (h : St1 n day W) (hk : Keep S W w) (hf : FarM n W S) : St1 n day w := by
  refine ⟨hasO_far h.1 hk hf ?_, cat_far h.2.1 hk hf, led_far h.2.2 hk hf⟩
  simp only [List.forall_mem_cons]
  refine ⟨rfl, ?_, ?_, by simp⟩
  · show n ≤ n + 2; omega
  · show n ≤ n + 4; omega
theorem st2_far {n ga bh : Nat} {day seq b a : Int} {run : Bool} {ks : List Int} {W w : World} {S : List Nat} (h : St2 n ga bh day seq b a run ks W) (hk : Keep S W w) (hf : FarM n W S) : St2 n ga bh day seq b a run ks w := by
  obtain ⟨st, h1, h2, h3, h4, h5⟩ := h
  refine ⟨st, hasO_far h1 hk hf ?_, cat_far h2 hk hf, led_far h3 hk hf, h4.keep hk (hf.cells rfl), h5⟩
  simp only [List.forall_mem_cons]
  refine ⟨rfl, ?_, rfl, ?_, by simp⟩
  · show n ≤ n + 2; omega
  · show n ≤ n + 4; omega
/-- the blocks are the model's -/
def OwnM (n : Nat) (S : List Nat) (w : World) : Prop := ∀ k ∈ S, n ≤ k ∧ ∀ cur t, w.heap[k]? = some (.cells cur t) → bankT t = false
theorem ownM_one {n g : Nat} {w : World} {o : Obj} (h : w.heap[g]? = some o) (hn : n ≤ g) (ho : match o with | .cells _ t _ => bankT t = false | _ => True) : n ≤ g ∧ ∀ cur t, w.heap[g]? = some (.cells cur t) → bankT t = false :=
  ⟨hn, fun cur t hc => by rw [h] at hc; cases hc; exact ho⟩
theorem OwnM.not_mem {n : Nat} {w : World} {S : List Nat} (h : OwnM n S w) {g : Nat} {cur : Array Value} {t : TypeId} (hg : w.heap[g]? = some (.cells cur t)) (ht : bankT t = true) : g ∉ S := by
  intro hm
  have := (h g hm).2 _ _ hg
  rw [ht] at this; cases this
theorem OwnM.cells {n : Nat} {w : World} {S : List Nat} (h : OwnM n S w) {t : TypeId} (ht : bankT t = true) : ∀ k ∈ S, ∀ cur, w.heap[k]? ≠ some (.cells cur t) := fun k hk cur hc => h.not_mem hc ht hk
theorem led_own {n : Nat} {w : World} (h : Led (n + 6) w) : n ≤ n + 6 ∧ ∀ cur t, w.heap[n + 6]? = some (.cells cur t) → bankT t = false := by
  obtain ⟨b, cl, L, m, h, _⟩ := h
  exact ownM_one h (by omega) rfl
theorem st0_own {n : Nat} {day : Int} {w : World} (h : St0 n day w) : OwnM n (own0 n) w := by
  unfold OwnM own0
  simp only [List.forall_mem_cons]
  exact ⟨ownM_one (h.1.obj 2 rfl) (by omega) trivial, ownM_one (h.1.obj 1 rfl) (by omega) rfl, ownM_one (h.1.obj 3 rfl) (by omega) trivial, led_own h.2, ownM_one (h.1.obj 0 rfl) (by omega) rfl, by simp⟩
theorem st1_own {n : Nat} {day : Int} {w : World} (h : St1 n day w) : OwnM n (ownO n) w := by
  unfold OwnM ownO
  simp only [List.forall_mem_cons]
  exact ⟨ownM_one (h.1.obj 1 rfl) (by omega) trivial, ownM_one (h.1.obj 0 rfl) (by omega) rfl, by simp⟩
theorem st2_own {n ga bh : Nat} {day seq b a : Int} {run : Bool} {ks : List Int} {w : World} (h : St2 n ga bh day seq b a run ks w) : OwnM n (own2 n ga) w := by
  obtain ⟨st, h1, h2, h3, h4, h5⟩ := h
  unfold OwnM own2
  simp only [List.forall_mem_cons]
  exact ⟨led_own h3, ownM_one (h1.obj 0 rfl) (by omega) rfl, ownM_one (h1.obj 2 rfl) (by omega) rfl, by simp⟩
end Go.Proofs.YtlfomhdphbchpaaGreatDoor.Bk

/-! the model's Seq and Day, the bank's Day, the top's start, story, goes -/
namespace Go.Proofs.YtlfomhdphbchpaaGreatDoor.Bk
open Go.RowKit Go.Deep Go.Proofs.YtlfomhdphbchpaaGreatDoor.Mp Go.Proofs.YtlfomhdphbchpaaGreatDoor.Mo
open Go.Proofs.YtlfomhdphbchpaaGreatDoor.Cal (results_one results_two results_three)
set_option linter.unusedVariables false
set_option linter.unusedSimpArgs false
set_option maxHeartbeats 4000000 in
theorem seq_ok (gm : Nat) (seq : Int) (W : World) (c6 : W.cell? ⟨gm, 6, none⟩ = some (.int .i64 seq)) : Calls Tryz.prog 37 #[.pointer (some ⟨gm, 0, none⟩)] W fun e w' => e = .returned (.int .i64 seq) ∧ w' = W := by
  go_enter Tryz.func37, Tryz.ntmps37
  go_wp2_with fail
  exact bodyPost_ret (results_one rfl _ _ rfl) rfl ⟨rfl, rfl⟩
set_option maxHeartbeats 4000000 in
theorem mday_ok (gm : Nat) (day : Int) (W : World) (c0 : W.cell? ⟨gm, 0, none⟩ = some (.int .i64 day)) : Calls Tryz.prog 10 #[.pointer (some ⟨gm, 0, none⟩)] W fun e w' => e = .returned (.int .i64 day) ∧ w' = W := by
  go_enter Tryz.func10, Tryz.ntmps10
  go_wp2_with fail
  exact bodyPost_ret (results_one rfl _ _ rfl) rfl ⟨rfl, rfl⟩
set_option maxHeartbeats 4000000 in
theorem bday_ok (gb gm : Nat) (day : Int) (W : World) (c2 : W.cell? ⟨gb, 2, none⟩ = some (.pointer (some ⟨gm, 0, none⟩))) (c0 : W.cell? ⟨gm, 0, none⟩ = some (.int .i64 day)) : Calls Tryz.prog 17 #[.pointer (some ⟨gb, 0, none⟩)] W fun e w' => e = .returned (.int .i64 day) ∧ w' = W := by
  go_enter Tryz.func17, Tryz.ntmps17
  go_wp2_with fail
  refine (mday_ok gm day W c0).mono ?_
  rintro e w' ⟨rfl, hw⟩
  obtain rfl : W = w' := hw.symm
  go_wp2_with fail
  exact bodyPost_ret (results_one rfl _ _ rfl) rfl ⟨rfl, rfl⟩
set_option maxHeartbeats 4000000 in
theorem start_ok (n : Int) (h : In64 n) (W : World) : Calls Tryz.prog 5 #[.int .i64 n] W fun e w' => (∃ d : Int, 1 ≤ d ∧ d ≤ 3600000 ∧ e = .returned (.int .i64 d)) ∧ w' = W := by
  unfold In64 at h
  obtain ⟨h1, h2⟩ := h
  go_enter Tryz.func5, Tryz.ntmps5
  go_wp2_with fail
  have hq : 0 ≤ IntKind.u64.wrap n := wrap_u64_nonneg n
  have e1 : (IntKind.u64.wrap n).tmod 3600000 = IntKind.u64.wrap n % 3600000 := Int.tmod_eq_emod_of_nonneg hq
  obtain ⟨d, hd, hd0, hd1⟩ : ∃ d, d = IntKind.u64.wrap n % 3600000 ∧ 0 ≤ d ∧ d < 3600000 := ⟨_, rfl, by omega, by omega⟩
  have hw : ∀ x : Int, -9223372036854775808 ≤ x → x ≤ 9223372036854775807 → wrap64 x = x := fun x h1 h2 => by unfold wrap64; omega
  rw [e1, ← hd, hw d (by omega) (by omega), hw (1 + d) (by omega) (by omega)]
  exact bodyPost_ret (results_one rfl _ _ rfl) rfl ⟨⟨_, by omega, by omega, rfl⟩, rfl⟩
def tierC : Array Value := #[.int .i64 0, .int .i64 36500000]
def storyC (g : Nat) : Array Value := ((evE 1 1 1 0 1 1 0 0 500 (.slice (some ⟨g, 0, none⟩) 1 1)).toList ++ (evE 2 10 1 0 0 0 0 0 0 (.slice none 0 0)).toList ++ (evE 4 10 1000000 0 0 0 0 0 0 (.slice none 0 0)).toList).toArray
def storyW (W : World) : World := (W.alloc (.cells tierC 66)).alloc (.cells (storyC W.heap.size) 32)
set_option maxHeartbeats 4000000 in
theorem story_ok (W : World) : Calls Tryz.prog 7 #[] W fun e w' => e = .returned (.slice (some ⟨W.heap.size + 1, 0, none⟩) 3 3) ∧ w' = storyW W := by
  go_enter Tryz.func7, Tryz.ntmps7
  go_wp2_with fail
  exact bodyPost_ret (results_one rfl _ _ rfl) rfl ⟨by first | rfl | simp, by first | rfl | (unfold storyW storyC tierC evE; simp)⟩
set_option maxHeartbeats 4000000 in
theorem goes_ok (n : Int) (W : World) : Calls Tryz.prog 16 #[.int .i64 n] W fun e w' => e = .returned (.agg (evE 13 n 0 0 0 0 0 0 0 (.slice none 0 0))) ∧ Below W.heap.size W w' := by
  go_enter Tryz.func16, Tryz.ntmps16
  go_wp2_with fail
  exact bodyPost_ret (results_cell_row rfl _ _ W.heap.size 32 (evE 13 n 0 0 0 0 0 0 0 (.slice none 0 0)) (0, 0) _ rfl ((Blk.new _ _ _).alloc _) Tryz.underlying32 rfl (by kernel_rfl)) rfl ⟨rfl, Below.al (Below.al (Below.refl _ _) _) _⟩
end Go.Proofs.YtlfomhdphbchpaaGreatDoor.Bk

/-! the story's events, the model behind each -/
namespace Go.Proofs.YtlfomhdphbchpaaGreatDoor.Bk
open Go.RowKit Go.Deep Go.Proofs.YtlfomhdphbchpaaGreatDoor.Mp Go.Proofs.YtlfomhdphbchpaaGreatDoor.Mo
open Go.Proofs.YtlfomhdphbchpaaGreatDoor.Pr (TS)
set_option linter.unusedVariables false
set_option linter.unusedSimpArgs false
def ev3 (g0 : Nat) : Nat → Array Value
  | 0 => evE 1 1 1 0 1 1 0 0 500 (.slice (some ⟨g0, 0, none⟩) 1 1)
  | 1 => evE 2 10 1 0 0 0 0 0 0 (.slice none 0 0)
  | _ => evE 4 10 1000000 0 0 0 0 0 0 (.slice none 0 0)
theorem story_part (g0 i : Nat) (hi : i < 3) : ∀ (j : Nat) (v : Value), (ev3 g0 i).toList[j]? = some v → (storyC g0)[11 * i + j]? = some v := by
  have : i = 0 ∨ i = 1 ∨ i = 2 := by omega
  intro j v h
  have hj : j < 11 := by
    have := (List.getElem?_eq_some_iff.1 h).1
    rcases ‹i = 0 ∨ i = 1 ∨ i = 2› with rfl | rfl | rfl <;> simpa [ev3, evE] using this
  have hj' : j = 0 ∨ j = 1 ∨ j = 2 ∨ j = 3 ∨ j = 4 ∨ j = 5 ∨ j = 6 ∨ j = 7 ∨ j = 8 ∨ j = 9 ∨ j = 10 := by omega
  rcases this with rfl | rfl | rfl <;> rcases hj' with rfl | rfl | rfl | rfl | rfl | rfl | rfl | rfl | rfl | rfl | rfl <;> exact h
/-- the model behind i of the story's commands -/
def Tm (n : Nat) (d : Int) (i : Nat) (w : World) : Prop := (i = 0 ∧ St0 n d w) ∨ (i = 1 ∧ St1 n d w) ∨ (i = 2 ∧ ∃ ga bh, St2 n ga bh d 2 0 0 false [] w) ∨ (i = 3 ∧ ∃ ga bh, St2 n ga bh d 3 1000000 0 false [] w)
theorem Tm.step {n : Nat} {d : Int} {i : Nat} {w w' : World} (h : Tm n d i w) (hb : Below w.heap.size w w') : Tm n d i w' := by
  rcases h with ⟨e, h⟩ | ⟨e, h⟩ | ⟨e, ga, bh, h⟩ | ⟨e, ga, bh, h⟩
  · exact .inl ⟨e, h.step hb⟩
  · exact .inr (.inl ⟨e, h.step hb⟩)
  · exact .inr (.inr (.inl ⟨e, ga, bh, h.step hb⟩))
  · exact .inr (.inr (.inr ⟨e, ga, bh, h.step hb⟩))
theorem ts_tier {w : World} {g0 : Nat} (h : w.heap[g0]? = some (.cells tierC 66)) : TS w (.slice (some ⟨g0, 0, none⟩) 1 1) := ⟨g0, 1, tierC, rfl, h, rfl, rfl⟩
theorem storyW_size (w : World) : (storyW w).heap.size = w.heap.size + 2 := by simp [storyW]
theorem storyW_below (w : World) : Below w.heap.size w (storyW w) := Below.al (Below.al (Below.refl _ _) _) _
theorem storyW_ev (w : World) : (storyW w).heap[w.heap.size + 1]? = some (.cells (storyC w.heap.size) 32) := by
  have := heap_alloc_new (w.alloc (.cells tierC 66)) (.cells (storyC w.heap.size) 32)
  simpa [storyW] using this
theorem storyW_ti (w : World) : (storyW w).heap[w.heap.size]? = some (.cells tierC 66) := by
  have h1 := heap_alloc_new w (.cells tierC 66)
  unfold storyW
  rw [Below.heap_alloc _ _ _ (by simp)]
  exact h1
end Go.Proofs.YtlfomhdphbchpaaGreatDoor.Bk

/-! TopMonths: its loops' states; the plain law of a day's end -/
namespace Go.Proofs.YtlfomhdphbchpaaGreatDoor.Bk
open Go.RowKit Go.Deep Go.Proofs.YtlfomhdphbchpaaGreatDoor.Mp Go.Proofs.YtlfomhdphbchpaaGreatDoor.Mo
open Go.Proofs.YtlfomhdphbchpaaGreatDoor.Pr (TS)
set_option linter.unusedVariables false
set_option linter.unusedSimpArgs false
theorem below_turnT {W w w' : World} {g : Nat} {o : Obj} (h : Below W.heap.size W w) (ht : Turn w g o w') (hg : W.heap.size ≤ g) : Below W.heap.size W w' := ((Keep.of_below (S := []) h).trans ht.keep (fun k hk => .inr (by simp only [List.mem_singleton] at hk; subst hk; exact hg))).below
/-- the model behind i of the story's commands, its row of events -/
def Lp (W : World) (n : Nat) (d : Int) (g0 x i : Nat) (w : World) : Prop := Below W.heap.size W w ∧ w.heap[x]? = some (.cells (storyC g0) 32) ∧ (i = 0 → w.heap[g0]? = some (.cells tierC 66)) ∧ Tm n d i w
theorem Lp.step {W : World} {n : Nat} {d : Int} {g0 x i : Nat} {w w' : World} (h : Lp W n d g0 x i w) (hb : Below w.heap.size w w') : Lp W n d g0 x i w' :=
  ⟨h.1.trans (hb.mono h.1.size), (hb.block _ (obj_lt h.2.1)).trans h.2.1, fun e => (hb.block _ (obj_lt (h.2.2.1 e))).trans (h.2.2.1 e), h.2.2.2.step hb⟩
theorem Lp.next {W : World} {n : Nat} {d : Int} {g0 x i : Nat} {w w' : World} {own : List Nat} (h : Lp W n d g0 x i w) (hn : W.heap.size ≤ n) (ho : OwnM n own w) (hk : Keep own w w') (hT : Tm n d (i + 1) w') : Lp W n d g0 x (i + 1) w' :=
  ⟨((Keep.of_below (S := []) h.1).trans hk (fun k hm => .inr (by have := (ho k hm).1; omega))).below, (hk.block _ (obj_lt h.2.1) (ho.not_mem h.2.1 rfl)).trans h.2.1, fun e => by omega, hT⟩
theorem Lp.s0 {W : World} {n : Nat} {d : Int} {g0 x : Nat} {w : World} (h : Lp W n d g0 x 0 w) : St0 n d w := by
  rcases h.2.2.2 with ⟨_, h⟩ | ⟨e, _⟩ | ⟨e, _⟩ | ⟨e, _⟩
  · exact h
  all_goals cases e
theorem Lp.s1 {W : World} {n : Nat} {d : Int} {g0 x : Nat} {w : World} (h : Lp W n d g0 x 1 w) : St1 n d w := by
  rcases h.2.2.2 with ⟨e, _⟩ | ⟨_, h⟩ | ⟨e, _⟩ | ⟨e, _⟩
  · cases e
  · exact h
  all_goals cases e
theorem Lp.s2 {W : World} {n : Nat} {d : Int} {g0 x : Nat} {w : World} (h : Lp W n d g0 x 2 w) : ∃ ga bh, St2 n ga bh d 2 0 0 false [] w := by
  rcases h.2.2.2 with ⟨e, _⟩ | ⟨e, _⟩ | ⟨_, h⟩ | ⟨e, _⟩
  · cases e
  · cases e
  · exact h
  · cases e
theorem Lp.s3 {W : World} {n : Nat} {d : Int} {g0 x : Nat} {w : World} (h : Lp W n d g0 x 3 w) : ∃ ga bh, St2 n ga bh d 3 1000000 0 false [] w := by
  rcases h.2.2.2 with ⟨e, _⟩ | ⟨e, _⟩ | ⟨e, _⟩ | ⟨_, h⟩
  · cases e
  · cases e
  · cases e
  · exact h
theorem lp_apply0 {W : World} {n : Nat} {d : Int} {g0 x : Nat} {w : World} (hn : W.heap.size ≤ n) (h : Lp W n d g0 x 0 w) (A : Option Addr) (k c : Nat) (hs : TS w (.slice A k c)) :
    Calls Tryz.prog 9 #[.pointer (some ⟨n + 7, 0, none⟩), .agg (evE 1 1 1 0 1 1 0 0 500 (.slice A k c))] w fun e w' => e = .returned (.int .i64 0) ∧ Lp W n d g0 x 1 w' :=
  (applyP_ok n d A k c w h.s0 hs).mono fun e w' he => ⟨he.1, h.next hn (st0_own h.s0) he.2.1 (.inr (.inl ⟨rfl, he.2.2⟩))⟩
theorem lp_apply1 {W : World} {n : Nat} {d : Int} {g0 x : Nat} {w : World} (hn : W.heap.size ≤ n) (hd : 1 ≤ d ∧ d ≤ 3652059) (h : Lp W n d g0 x 1 w) :
    Calls Tryz.prog 9 #[.pointer (some ⟨n + 7, 0, none⟩), .agg (evE 2 10 1 0 0 0 0 0 0 (.slice none 0 0))] w fun e w' => e = .returned (.int .i64 0) ∧ Lp W n d g0 x 2 w' :=
  (applyO_ok n d hd w h.s1).mono fun e w' he => ⟨he.1, by
    obtain ⟨_, h2, ga, bh, _, h3⟩ := he
    exact h.next hn (st1_own h.s1) h2 (.inr (.inr (.inl ⟨rfl, ga, bh, h3⟩)))⟩
theorem lp_apply2 {W : World} {n : Nat} {d : Int} {g0 x : Nat} {w : World} (hn : W.heap.size ≤ n) (h : Lp W n d g0 x 2 w) :
    Calls Tryz.prog 9 #[.pointer (some ⟨n + 7, 0, none⟩), .agg (evE 4 10 1000000 0 0 0 0 0 0 (.slice none 0 0))] w fun e w' => e = .returned (.int .i64 0) ∧ Lp W n d g0 x 3 w' := by
  obtain ⟨ga, bh, hs⟩ := h.s2
  refine (applyD_ok n ga bh d 2 0 0 1000000 (by omega) (by omega) (by omega) (by omega) w hs).mono fun e w' he => ⟨he.1, ?_⟩
  exact h.next hn (st2_own hs) he.2.1 (.inr (.inr (.inr ⟨rfl, ga, bh, he.2.2⟩)))
theorem lp_plan0 {W : World} {n : Nat} {d : Int} {g0 x : Nat} {w : World} (h : Lp W n d g0 x 0 w) :
    Calls Tryz.prog 8 #[.pointer (some ⟨n + 7, 0, none⟩), .agg (ev3 g0 0)] w fun e w' => (∃ A' k' c', e = .returned (.tuple #[.agg (evE 1 1 1 0 1 1 0 0 500 (.slice A' k' c')), .int .i64 0, .int .i64 0]) ∧ TS w' (.slice A' k' c')) ∧ Below w.heap.size w w' :=
  planP_ok n d (some ⟨g0, 0, none⟩) 1 1 w h.s0 (ts_tier (h.2.2.1 rfl))
theorem lp_plan1 {W : World} {n : Nat} {d : Int} {g0 x : Nat} {w : World} (hd : 1 ≤ d ∧ d ≤ 3652059) (h : Lp W n d g0 x 1 w) :
    Calls Tryz.prog 8 #[.pointer (some ⟨n + 7, 0, none⟩), .agg (ev3 g0 1)] w fun e w' => e = .returned (.tuple #[.agg (evE 2 10 1 0 0 0 0 0 0 (.slice none 0 0)), .int .i64 0, .int .i64 0]) ∧ Below w.heap.size w w' :=
  (planO_ok n d hd w h.s1).mono fun e w' he => by
    obtain ⟨⟨A', k', c', h1, h2⟩, h3⟩ := he
    cases h2
    exact ⟨h1, h3⟩
theorem lp_plan2 {W : World} {n : Nat} {d : Int} {g0 x : Nat} {w : World} (h : Lp W n d g0 x 2 w) :
    Calls Tryz.prog 8 #[.pointer (some ⟨n + 7, 0, none⟩), .agg (ev3 g0 2)] w fun e w' => e = .returned (.tuple #[.agg (evE 4 10 1000000 0 0 0 0 0 0 (.slice none 0 0)), .int .i64 1000000, .int .i64 0]) ∧ Below w.heap.size w w' := by
  obtain ⟨ga, bh, hs⟩ := h.s2
  refine (planD_ok n ga bh d 2 0 0 1000000 (by omega) (by omega) (by omega) w hs).mono fun e w' he => ?_
  obtain ⟨⟨A', k', c', h1, h2⟩, h3⟩ := he
  cases h2
  exact ⟨h1, h3⟩
/-- what is owed, in millionths -/
def pot (b a : Int) : Int := 1000000 * b + a
def BB (i : Nat) : Int := 1000000000000 + 200000000 * i
/-- the steps that are still to come, the payments so far, whether the day's interest is there -/
inductive Ph (e : Bool) : List Int → Int → Nat → Prop
  | a1 : e = true → Ph e [1, 2, 3] 0 0
  | a0 : e = false → Ph e [1] 0 0
  | b : e = true → Ph e [2, 3] 0 1
  | c : e = true → Ph e [3] 1 1
  | d1 : e = true → Ph e [] 1 1
  | d0 : e = false → Ph e [] 0 1
theorem Ph.begin (d : Int) : Ph (Cal.endB d) (dueKs d) 0 0 := by
  unfold dueKs
  cases h : Cal.endB d
  · exact .a0 rfl
  · exact .a1 rfl
theorem Ph.len {e : Bool} {ks : List Int} {p : Int} {j : Nat} (h : Ph e ks p j) : ks.length ≤ 3 ∧ j ≤ 1 := by cases h <;> simp
theorem Ph.done {e : Bool} {p : Int} {j : Nat} (h : Ph e [] p j) : p = (if e then 1 else 0) ∧ j = 1 := by
  cases h with
  | d1 h => subst h; exact ⟨rfl, rfl⟩
  | d0 h => subst h; exact ⟨rfl, rfl⟩
theorem dayI_le {b : Int} (hb : 0 ≤ b ∧ b ≤ 10000000000000) : Acc.dayI b 36500000 0 ≤ 100 * b + 1 := by
  unfold Acc.dayI Dec.roundN
  split <;> omega
theorem Ph.step {e : Bool} {k : Int} {ks : List Int} {p : Int} {i j : Nat} {b a : Int} (h : Ph e (k :: ks) p j) (hi : i ≤ 69) (hb : 0 ≤ b) (ha : 0 ≤ a) (hp : pot b a ≤ BB (i + j)) :
    (k = 1 ∨ k = 2 ∨ k = 3) ∧ ∃ j', Ph e ks (if k = 2 then p + 1 else p) j' ∧ 0 ≤ stepB k b a (worthV k b a) ∧ 0 ≤ stepA k b a (worthV k b a) ∧ pot (stepB k b a (worthV k b a)) (stepA k b a (worthV k b a)) ≤ BB (i + j') := by
  have hj := h.len.2
  unfold pot BB at hp ⊢
  have hb1 : b ≤ 10000000000000 := by omega
  have h1 := dayI_le ⟨hb, hb1⟩
  have h2 := (Acc.dayI_in (b := b) (r := 36500000) (mode := 0) ⟨hb, hb1⟩ (by omega)).1
  have k1 : stepB 1 b a (worthV 1 b a) = b ∧ stepA 1 b a (worthV 1 b a) = a + Acc.dayI b 36500000 0 := ⟨rfl, rfl⟩
  have k2 : stepB 2 b a (worthV 2 b a) = b + Acc.payX a (10000000000000 - b) ∧ stepA 2 b a (worthV 2 b a) = Acc.payY a (10000000000000 - b) := ⟨rfl, rfl⟩
  have k3 : stepB 3 b a (worthV 3 b a) = b - 0 ∧ stepA 3 b a (worthV 3 b a) = a := ⟨rfl, rfl⟩
  cases h with
  | a1 h => rw [k1.1, k1.2]; exact ⟨.inl rfl, 1, .b h, by omega, by omega, by omega⟩
  | a0 h => rw [k1.1, k1.2]; exact ⟨.inl rfl, 1, .d0 h, by omega, by omega, by omega⟩
  | b h =>
    rw [k2.1, k2.2]
    refine ⟨.inr (.inl rfl), 1, .c h, ?_⟩
    unfold Acc.payX Acc.payY
    split <;> refine ⟨by omega, by omega, by omega⟩
  | c h => rw [k3.1, k3.2]; exact ⟨.inr (.inr rfl), 1, .d1 h, by omega, by omega, by omega⟩
/-- the model at the beginning of day i -/
def Dn (W : World) (n ga bh : Nat) (d : Int) (i : Nat) (w : World) : Prop := Below W.heap.size W w ∧ ∃ seq b a : Int, (0 ≤ seq ∧ seq ≤ 3 + 6 * i) ∧ (0 ≤ b ∧ 0 ≤ a ∧ pot b a ≤ BB i) ∧ St2 n ga bh (d + i) seq b a false [] w
/-- within the end of day i: p payments so far, is it done? -/
def Dm (W : World) (n ga bh : Nat) (d : Int) (i : Nat) (p : Int) (dn : Bool) (m : Nat) (w : World) : Prop :=
  (dn = false ∧ p = 0 ∧ m = 6 ∧ Dn W n ga bh d i w) ∨
  (∃ ks j, dn = false ∧ Ph (Cal.endB (d + i)) ks p j ∧ m = ks.length + 1 ∧ Below W.heap.size W w ∧ ∃ seq b a : Int, (0 ≤ seq ∧ seq + ks.length ≤ 3 + 6 * i + 5) ∧ (0 ≤ b ∧ 0 ≤ a ∧ pot b a ≤ BB (i + j)) ∧ St2 n ga bh (d + i) seq b a true ks w) ∨
  (dn = true ∧ p = (if Cal.endB (d + i) then 1 else 0) ∧ m = 0 ∧ Dn W n ga bh d (i + 1) w)
/-- how many calls the day's end still asks for, off the model's own cells -/
def mu (n : Nat) (dn : Value) (w : World) : Nat := match dn with
  | .bool true => 0
  | _ => match w.cell? ⟨n + 7, 7, none⟩ with
    | some (.bool true) => (match w.cell? ⟨n + 7, 8, none⟩ with
      | some (.slice _ l _) => l + 1
      | _ => 0)
    | _ => 6
theorem st2_cells {n ga bh : Nat} {day seq b a : Int} {run : Bool} {ks : List Int} {w : World} (h : St2 n ga bh day seq b a run ks w) : w.cell? ⟨n + 7, 0, none⟩ = some (.int .i64 day) ∧ w.cell? ⟨n + 7, 7, none⟩ = some (.bool run) ∧ ∃ A c, w.cell? ⟨n + 7, 8, none⟩ = some (.slice A ks.length c) := by
  obtain ⟨st, h1, _, _, h4, _⟩ := h
  obtain ⟨A, c, rfl, _⟩ := h4
  exact ⟨by rw [Blk.cell (h1.get 0 rfl) 0]; rfl, by rw [Blk.cell (h1.get 0 rfl) 7]; rfl, A, c, by rw [Blk.cell (h1.get 0 rfl) 8]; rfl⟩
theorem Dm.mu {W : World} {n ga bh : Nat} {d : Int} {i : Nat} {p : Int} {dn : Bool} {m : Nat} {w : World} (h : Dm W n ga bh d i p dn m w) : m = mu n (.bool dn) w := by
  rcases h with ⟨rfl, _, rfl, _, seq, b, a, _, _, h⟩ | ⟨ks, j, rfl, _, rfl, _, seq, b, a, _, _, h⟩ | ⟨rfl, _, rfl, _⟩
  · obtain ⟨_, c7, _⟩ := st2_cells h
    simp [Bk.mu, c7]
  · obtain ⟨_, c7, A, c, c8⟩ := st2_cells h
    simp [Bk.mu, c7, c8]
  · rfl
theorem Ph.pb {e : Bool} {ks : List Int} {p : Int} {j : Nat} (h : Ph e ks p j) : 0 ≤ p ∧ p ≤ 1 := by cases h <;> omega
theorem Dm.pb {W : World} {n ga bh : Nat} {d : Int} {i : Nat} {p : Int} {dn : Bool} {m : Nat} {w : World} (h : Dm W n ga bh d i p dn m w) : 0 ≤ p ∧ p ≤ 1 := by
  rcases h with ⟨_, rfl, _⟩ | ⟨ks, j, _, h, _⟩ | ⟨_, rfl, _⟩
  · omega
  · exact h.pb
  · split <;> omega
theorem Dm.fin {W : World} {n ga bh : Nat} {d : Int} {i : Nat} {p : Int} {m : Nat} {w : World} (h : Dm W n ga bh d i p true m w) : p = (if Cal.endB (d + i) then 1 else 0) ∧ Dn W n ga bh d (i + 1) w := by
  rcases h with ⟨e, _⟩ | ⟨ks, j, e, _⟩ | ⟨_, h1, _, h2⟩
  · cases e
  · cases e
  · exact ⟨h1, h2⟩
theorem Dn.step {W : World} {n ga bh : Nat} {d : Int} {i : Nat} {w w' : World} (h : Dn W n ga bh d i w) (hb : Below w.heap.size w w') : Dn W n ga bh d i w' := by
  obtain ⟨h1, seq, b, a, h2, h3, h4⟩ := h
  exact ⟨h1.trans (hb.mono h1.size), seq, b, a, h2, h3, h4.step hb⟩
theorem Dm.step {W : World} {n ga bh : Nat} {d : Int} {i : Nat} {p : Int} {dn : Bool} {m : Nat} {w w' : World} (h : Dm W n ga bh d i p dn m w) (hb : Below w.heap.size w w') : Dm W n ga bh d i p dn m w' := by
  rcases h with ⟨e1, e2, e3, h⟩ | ⟨ks, j, e1, e2, e3, h1, seq, b, a, h2, h3, h4⟩ | ⟨e1, e2, e3, h⟩
  · exact .inl ⟨e1, e2, e3, h.step hb⟩
  · exact .inr (.inl ⟨ks, j, e1, e2, e3, h1.trans (hb.mono h1.size), seq, b, a, h2, h3, h4.step hb⟩)
  · exact .inr (.inr ⟨e1, e2, e3, h.step hb⟩)
theorem below_own2 {W w w' : World} {n : Nat} {own : List Nat} (h : Below W.heap.size W w) (hn : W.heap.size ≤ n) (ho : OwnM n own w) (hk : Keep own w w') : Below W.heap.size W w' := ((Keep.of_below (S := []) h).trans hk (fun k hm => .inr (by have := (ho k hm).1; omega))).below
/-- one more event of the day's end -/
theorem Dm.round {W : World} {n ga bh : Nat} {d : Int} {i : Nat} {p : Int} {m : Nat} {w : World} (h : Dm W n ga bh d i p false m w) (hn : W.heap.size ≤ n) (hi : i ≤ 69) (hd : 1 ≤ d ∧ d ≤ 3600000) :
    ∃ (op n0 n1 n2 p' : Int) (dn' : Bool) (m' : Nat), ((op = 13 ∧ n1 = 0 ∧ p' = p ∧ dn' = false) ∨ (op = 14 ∧ n1 = 1 ∧ p' = p ∧ dn' = false) ∨ (op = 14 ∧ n1 = 2 ∧ p' = p + 1 ∧ dn' = false) ∨ (op = 14 ∧ n1 = 3 ∧ p' = p ∧ dn' = false) ∨ (op = 15 ∧ n1 = 0 ∧ p' = p ∧ dn' = true)) ∧ m' < m ∧
      (∀ w1, Below w.heap.size w w1 → Calls Tryz.prog 12 #[.pointer (some ⟨n + 7, 0, none⟩)] w1 fun e w' => e = .returned (.tuple #[.agg (evE op n0 n1 n2 0 0 0 0 0 (.slice none 0 0)), .int .i64 0]) ∧ Below w1.heap.size w1 w') ∧
      ∀ w1, Below w.heap.size w w1 → OwnM n (own2 n ga) w1 ∧ Calls Tryz.prog 9 #[.pointer (some ⟨n + 7, 0, none⟩), .agg (evE op n0 n1 n2 0 0 0 0 0 (.slice none 0 0))] w1 fun e w' => e = .returned (.int .i64 0) ∧ Keep (own2 n ga) w1 w' ∧ Dm W n ga bh d i p' dn' m' w' := by
  rcases h with ⟨_, rfl, rfl, hb, seq, b, a, h2, h3, h4⟩ | ⟨ks, j, _, hph, rfl, hb, seq, b, a, h2, h3, h4⟩ | ⟨e, _⟩
  · refine ⟨13, d + i, 0, 0, 0, false, (dueKs (d + i)).length + 1, .inl ⟨rfl, rfl, rfl, rfl⟩, by have := (Ph.begin (d + i)).len.1; omega, fun w1 hw => nextB_ok n ga bh (d + i) seq b a (by omega) w1 (h4.step hw), fun w1 hw => ⟨st2_own (h4.step hw), ?_⟩⟩
    refine (applyB_ok n ga bh (d + i) seq b a (by omega) (by omega) w1 (h4.step hw)).mono fun e w' he => ⟨he.1, he.2.1, .inr (.inl ⟨dueKs (d + i), 0, rfl, Ph.begin _, rfl, below_own2 (hb.trans (hw.mono hb.size)) hn (st2_own (h4.step hw)) he.2.1, seq + 1, b, a, ?_, h3, he.2.2⟩)⟩
    have := (Ph.begin (d + i)).len.1
    omega
  · cases ks with
    | nil =>
      obtain ⟨hp, rfl⟩ := hph.done
      refine ⟨15, d + i + 1, 0, 0, p, true, 0, .inr (.inr (.inr (.inr ⟨rfl, rfl, rfl, rfl⟩))), by omega, fun w1 hw => nextR_ok n ga bh (d + i) seq b a (by omega) w1 (h4.step hw), fun w1 hw => ⟨st2_own (h4.step hw), ?_⟩⟩
      refine (applyR_ok n ga bh (d + i) seq b a (by simp at h2; omega) (by omega) w1 (h4.step hw)).mono fun e w' he => ⟨he.1, he.2.1, .inr (.inr ⟨rfl, hp, rfl, below_own2 (hb.trans (hw.mono hb.size)) hn (st2_own (h4.step hw)) he.2.1, seq + 1, b, a, ?_, h3, ?_⟩)⟩
      · simp at h2; omega
      · rw [show d + ((i + 1 : Nat) : Int) = d + i + 1 by omega]; exact he.2.2
    | cons k ks =>
      obtain ⟨hk, j', hph', g1, g2, g3⟩ := hph.step hi h3.1 h3.2.1 h3.2.2
      have hj := hph.len.2
      have hb1 : 0 ≤ b ∧ b ≤ 10000000000000 := by unfold pot BB at h3; omega
      have ha1 : 0 ≤ a ∧ a ≤ 4000000000000000000 := by unfold pot BB at h3; omega
      have hsq : 0 ≤ seq ∧ seq ≤ 1000000000 := by simp at h2; omega
      refine ⟨14, 10, k, worthV k b a, if k = 2 then p + 1 else p, false, ks.length + 1, ?_, by simp, fun w1 hw => nextS_ok n ga bh (d + i) seq b a k ks hk (by omega) hb1 w1 (h4.step hw), fun w1 hw => ⟨st2_own (h4.step hw), ?_⟩⟩
      · rcases hk with rfl | rfl | rfl
        · exact .inr (.inl ⟨rfl, rfl, rfl, rfl⟩)
        · exact .inr (.inr (.inl ⟨rfl, rfl, rfl, rfl⟩))
        · exact .inr (.inr (.inr (.inl ⟨rfl, rfl, rfl, rfl⟩)))
      · refine (applyS_ok n ga bh (d + i) seq b a k ks hsq hk (by omega) hb1 ha1 w1 (h4.step hw)).mono fun e w' he => ⟨he.1, he.2.1, .inr (.inl ⟨ks, j', rfl, hph', rfl, below_own2 (hb.trans (hw.mono hb.size)) hn (st2_own (h4.step hw)) he.2.1, seq + 1, _, _, ?_, ⟨g1, g2, g3⟩, he.2.2⟩)⟩
        simp at h2
        omega
  · cases e
end Go.Proofs.YtlfomhdphbchpaaGreatDoor.Bk
