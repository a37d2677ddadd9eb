/- Lemmas of a claim: BkS, BkQ -/
import Derived.Test.YtkdnebalpdebeaaGreatDoorG46
set_option linter.unusedVariables false
set_option linter.unusedSimpArgs false
set_option maxHeartbeats 16000000
set_option maxRecDepth 100000
namespace Go.Proofs.YtkdnebalpdebeaaGreatDoor
namespace Bk
open Go.RowKit Go.Deep Mp Mo
open Pr (TS)
abbrev q0 : Qd := ⟨1, 0, 500, 36500000, ⟨by decide, .inl rfl, .inr (.inl rfl), by decide, by decide, by decide, by decide⟩⟩
def ev3 (g0 : Nat) : Nat -> Array Value
 | 0 => evE 1 1 1 0 1 1 0 0 500 (.slice (some ⟨g0, 0, none⟩) 1 1)
 | 1 => evE 2 10 1 0 0 0 0 0 0 (.slice none 0 0)
 | _ => evE 4 10 1000000 0 0 0 0 0 0 (.slice none 0 0)
theorem story_part (g0 i : Nat) (hi : i < 3) : ∀ (j : Nat) (v : Value), (ev3 g0 i).toList[j]? = some v -> (storyC g0)[11 * i + j]? = some v := by
 have : i = 0 ∨ i = 1 ∨ i = 2 := by omega
 intro j v h
 have hj : j < 11 := by
  have := (List.getElem?_eq_some_iff.1 h).1
  rcases ‹i = 0 ∨ i = 1 ∨ i = 2› with rfl | rfl | rfl <;> simpa [ev3, evE] using this
 have hj' : j = 0 ∨ j = 1 ∨ j = 2 ∨ j = 3 ∨ j = 4 ∨ j = 5 ∨ j = 6 ∨ j = 7 ∨ j = 8 ∨ j = 9 ∨ j = 10 := by omega
 rcases this with rfl | rfl | rfl <;> rcases hj' with rfl | rfl | rfl | rfl | rfl | rfl | rfl | rfl | rfl | rfl | rfl <;> exact h
def Tm (n : Nat) (d : Int) (i : Nat) (w : World) : Prop := (i = 0 /\ St0 n d w) ∨ (i = 1 /\ St1 q0 n d w) ∨ (i = 2 /\ ∃ ga bh, StX q0 n ga bh d 2 0 0 0 false [] w) ∨ (i = 3 /\ ∃ ga bh, StX q0 n ga bh d 3 1000000 0 (0 + 1000000) false [] w)
theorem Tm.step {n : Nat} {d : Int} {i : Nat} {w w' : World} (h : Tm n d i w) (hb : Below w.heap.size w w') : Tm n d i w' := by
 rcases h with ⟨e, h⟩ | ⟨e, h⟩ | ⟨e, ga, bh, h⟩ | ⟨e, ga, bh, h⟩
 . exact .inl ⟨e, h.step hb⟩
 . exact .inr (.inl ⟨e, h.step hb⟩)
 . exact .inr (.inr (.inl ⟨e, ga, bh, h.step hb⟩))
 . exact .inr (.inr (.inr ⟨e, ga, bh, h.step hb⟩))
theorem ts_tier {w : World} {g0 : Nat} (h : w.heap[g0]? = some (.cells tierC 31)) : TS q0.rate w (.slice (some ⟨g0, 0, none⟩) 1 1) := ⟨g0, 1, tierC, rfl, h, rfl, rfl⟩
theorem storyW_below (w : World) : Below w.heap.size w (storyW w) := Below.al (Below.al (Below.refl _ _) _) _
theorem storyW_ev (w : World) : (storyW w).heap[w.heap.size + 1]? = some (.cells (storyC w.heap.size) 34) := by
 have := heap_alloc_new (w.alloc (.cells tierC 31)) (.cells (storyC w.heap.size) 34)
 simpa [storyW] using this
theorem storyW_ti (w : World) : (storyW w).heap[w.heap.size]? = some (.cells tierC 31) := by
 have h1 := heap_alloc_new w (.cells tierC 31)
 unfold storyW
 rw [Below.heap_alloc _ _ _ (by simp)]
 exact h1
end Bk
namespace Bk
open Go.RowKit Go.Deep Go.Shelf Mp Mo
open Pr (TS)
open Sha (rowB toI)
open Cal (results_one results_two results_three)
theorem kb_event {W0 : World} {n gd bf gl gb y : Nat} {own : List Nat} {nx : Int} {ev ev' : Value} {M : World -> Prop} {w w' : World} {cur : Array Value} (hB : Bs W0 n gd bf gl gb nx ev M w) (ho : OwnM n own w) (hk : Kb ([gl, gd, bf, gb] ++ own) ev w ev' w') (hy : w.heap[y]? = some (.cells cur 34)) (hn : ∀ r, ev.ownBlock = some r -> r ≠ y) :
 w'.heap[y]? = some (.cells cur 34) /\ ∀ r, ev'.ownBlock = some r -> r ≠ y := by
 obtain ⟨_, _, h3, ⟨qs, ops, L, _, _, q3, q4, _⟩, _, hM⟩ := hB
 refine ⟨(hk.1.block y (obj_lt hy) (fun hm => ?_)).trans hy, fun r hr he => ?_⟩
 . rcases List.mem_append.1 hm with hm | hm
   . rcases List.mem_append.1 hm with hm | hm
     . simp only [List.mem_cons, List.not_mem_nil, or_false] at hm
       rcases hm with rfl | rfl | rfl | rfl
       . exact absurd rfl (ne_alike hy q3 rfl)
       . exact absurd rfl (ne_alike hy q4.1 rfl)
       . exact absurd rfl (ne_alike hy q4.2.1 rfl)
       . exact absurd rfl (ne_alike hy h3 rfl)
     . exact ho.not_mem hy rfl hm
   . exact hn y (by simpa using hm) rfl
 . rcases hk.2 r hr with h | h
   . exact hn r h he
   . have := obj_lt hy; omega
theorem own0_lt {n : Nat} {day : Int} {w : World} (h : St0 n day w) : ∀ k ∈ own0 n, k < w.heap.size := by
 have := obj_lt (h.1.obj 0 rfl)
 intro k hk
 simp only [own0, List.mem_cons, List.not_mem_nil, or_false] at hk
 omega
theorem ownO_lt {q : Qd} {n : Nat} {day : Int} {w : World} (h : St1 q n day w) : ∀ k ∈ ownO n, k < w.heap.size := by
 have := obj_lt (h.1.obj 0 rfl)
 intro k hk
 simp only [ownO, List.mem_cons, List.not_mem_nil, or_false] at hk
 omega
theorem own2_lt {q : Qd} {n ga bh : Nat} {day seq b a cs : Int} {run : Bool} {ks : List Int} {w : World} (h : StX q n ga bh day seq b a cs run ks w) : ∀ k ∈ own2 n ga, k < w.heap.size := by
 obtain ⟨st, h1, _⟩ := h
 have := obj_lt (h1.obj 0 rfl)
 have := obj_lt (h1.obj 2 rfl)
 intro k hk
 simp only [own2, List.mem_cons, List.not_mem_nil, or_false] at hk
 omega
theorem bs_lt {W0 : World} {n gd bf gl gb : Nat} {own : List Nat} {nx : Int} {ev : Value} {M : World -> Prop} {w : World} (hB : Bs W0 n gd bf gl gb nx ev M w) (ho : ∀ k ∈ own, k < w.heap.size) : ∀ k ∈ [gl, gd, bf, gb] ++ own, k < w.heap.size := by
 obtain ⟨_, _, h3, ⟨qs, ops, L, _, _, q3, q4, _⟩, _, hM⟩ := hB
 intro k hk
 rcases List.mem_append.1 hk with hk | hk
 . simp only [List.mem_cons, List.not_mem_nil, or_false] at hk
   rcases hk with rfl | rfl | rfl | rfl
   . exact obj_lt q3
   . exact obj_lt q4.1
   . exact obj_lt q4.2.1
   . exact obj_lt h3
 . exact ho k hk
theorem seq0 {q : Qd} {n : Nat} {day : Int} {w : World} (h : St1 q n day w) : w.cell? ⟨n + 7, 6, none⟩ = some (.int .i64 1) := by rw [Blk.cell (h.1.get 0 rfl) 6]; rfl
theorem seq2 {q : Qd} {n ga bh : Nat} {day seq b a cs : Int} {run : Bool} {ks : List Int} {w : World} (h : StX q n ga bh day seq b a cs run ks w) : w.cell? ⟨n + 7, 6, none⟩ = some (.int .i64 seq) := by
 obtain ⟨st, h1, _⟩ := h
 rw [Blk.cell (h1.get 0 rfl) 6]; rfl
theorem day2 {q : Qd} {n ga bh : Nat} {day seq b a cs : Int} {run : Bool} {ks : List Int} {w : World} (h : StX q n ga bh day seq b a cs run ks w) : w.cell? ⟨n + 7, 0, none⟩ = some (.int .i64 day) := by
 obtain ⟨st, h1, _⟩ := h
 rw [Blk.cell (h1.get 0 rfl) 0]; rfl
def Aw (W : World) (n gd bf gl gb x : Nat) (i : Nat) (w : World) : Prop := ∃ ev, Bs W n gd bf gl gb (1 + i) ev (Tm n 40 i) w /\ w.heap[x + 1]? = some (.cells (storyC x) 34) /\ (i = 0 -> w.heap[x]? = some (.cells tierC 31)) /\ ∀ r, ev.ownBlock = some r -> r ≠ x + 1
theorem Aw.row {W : World} {n gd bf gl gb x i : Nat} {w : World} (h : Aw W n gd bf gl gb x i w) : w.heap[x + 1]? = some (.cells (storyC x) 34) := by
 obtain ⟨_, _, h, _⟩ := h
 exact h
theorem Aw.step {W : World} {n gd bf gl gb x i : Nat} {w w' : World} (h : Aw W n gd bf gl gb x i w) (hb : Below w.heap.size w w') : Aw W n gd bf gl gb x i w' := by
 obtain ⟨ev, h1, h2, h3, h4⟩ := h
 exact ⟨ev, h1.step (fun hm => hm.step hb) hb, (hb.block _ (obj_lt h2)).trans h2, fun e => (hb.block _ (obj_lt (h3 e))).trans (h3 e), h4⟩
theorem aw_do0 (W : World) (n gd bf gl gb x : Nat) (w : World) (h : Aw W n gd bf gl gb x 0 w) :
 Calls Tryz.prog 19 #[.pointer (some ⟨gb, 0, none⟩), .agg (ev3 x 0)] w fun e w' => e = .returned (.agg #[.int .i64 0, .int .i64 0, .int .i64 1]) /\ Aw W n gd bf gl gb x 1 w' := by
 obtain ⟨ev, hB, hx, ht, hn⟩ := h
 have hS : St0 n 40 w := by
  rcases hB.2.2.2.2.2 with ⟨_, h⟩ | ⟨e, _⟩ | ⟨e, _⟩ | ⟨e, _⟩
  . exact h
  all_goals cases e
 have hT : TS1 q0 w (.slice (some ⟨x, 0, none⟩) 1 1) := ⟨ts_tier (ht rfl), _, 1, rfl, Nat.le_refl _⟩
 have hC := cmdP q0 n 40 x 1
 have hB' : Bs W n gd bf gl gb 1 ev (fun w => St0 n 40 w /\ TS1 q0 w (.slice (some ⟨x, 0, none⟩) 1 1)) w := (show Bs W n gd bf gl gb 1 ev (Tm n 40 0) w from hB).withM ⟨hS, hT⟩
 refine (do_ok W n gd bf gl gb ([gl, gd, bf, gb] ++ own0 n) 1 2 ev _ (St1 q0 n 40) 1 1 1 0 1 1 0 0 500 (some ⟨x, 0, none⟩) 1 1 0 1 w hB' hC.step (fun w hw => doesC_ok W n gd bf gl gb (own0 n) 1 (by omega) ev _ _ 1 1 1 0 1 1 0 0 500 _ 1 1 0 (TS1 q0) hC w hw) (fun w hw => seq0 hw) (bs_lt hB (own0_lt hS)) (hC.acts none 0 0).far').mono ?_
 rintro e w' ⟨rfl, ev', hk, hb⟩
 obtain ⟨y1, y2⟩ := kb_event hB (st0_own hS) hk hx hn
 exact ⟨rfl, ev', hb.withM (.inr (.inl ⟨rfl, hb.2.2.2.2.2⟩)), y1, fun e => (by cases e), y2⟩
theorem aw_do1 (W : World) (n gd bf gl gb x : Nat) (w : World) (h : Aw W n gd bf gl gb x 1 w) :
 Calls Tryz.prog 19 #[.pointer (some ⟨gb, 0, none⟩), .agg (ev3 x 1)] w fun e w' => e = .returned (.agg #[.int .i64 0, .int .i64 0, .int .i64 2]) /\ Aw W n gd bf gl gb x 2 w' := by
 obtain ⟨ev, hB, hx, ht, hn⟩ := h
 have hS : St1 q0 n 40 w := by
  rcases hB.2.2.2.2.2 with ⟨e, _⟩ | ⟨_, h⟩ | ⟨e, _⟩ | ⟨e, _⟩
  . cases e
  . exact h
  all_goals cases e
 have hC := cmdO q0 n 40 (by omega)
 have hB' : Bs W n gd bf gl gb 2 ev (St1 q0 n 40) w := (show Bs W n gd bf gl gb 2 ev (Tm n 40 1) w from hB).withM hS
 refine (do_ok W n gd bf gl gb ([gl, gd, bf, gb] ++ ownO n) 2 3 ev _ (S2 q0 n 40 2 0 0 0) 2 10 1 0 0 0 0 0 0 none 0 0 0 2 w hB' hC.step (fun w hw => doesC_ok W n gd bf gl gb (ownO n) 2 (by omega) ev _ _ 2 10 1 0 0 0 0 0 0 _ 0 0 0 TN hC w hw) (fun w hw => by obtain ⟨ga, bh, hw⟩ := hw; exact seq2 hw) (bs_lt hB (ownO_lt hS)) (hC.acts none 0 0).far').mono ?_
 rintro e w' ⟨rfl, ev', hk, hb⟩
 obtain ⟨y1, y2⟩ := kb_event hB (st1_own hS) hk hx hn
 exact ⟨rfl, ev', hb.withM (.inr (.inr (.inl ⟨rfl, hb.2.2.2.2.2⟩))), y1, fun e => (by cases e), y2⟩
theorem aw_do2 (W : World) (n gd bf gl gb x : Nat) (w : World) (h : Aw W n gd bf gl gb x 2 w) :
 Calls Tryz.prog 19 #[.pointer (some ⟨gb, 0, none⟩), .agg (ev3 x 2)] w fun e w' => e = .returned (.agg #[.int .i64 0, .int .i64 1000000, .int .i64 3]) /\ Aw W n gd bf gl gb x 3 w' := by
 obtain ⟨ev, hB, hx, ht, hn⟩ := h
 obtain ⟨ga, bh, hS⟩ : S2 q0 n 40 2 0 0 0 w := by
  rcases hB.2.2.2.2.2 with ⟨e, _⟩ | ⟨e, _⟩ | ⟨_, h⟩ | ⟨e, _⟩
  . cases e
  . cases e
  . exact h
  . cases e
 have hC := cmdD q0 n ga bh 40
 have hB' : Bs W n gd bf gl gb 3 ev (StX q0 n ga bh 40 2 0 0 0 false []) w := (show Bs W n gd bf gl gb 3 ev (Tm n 40 2) w from hB).withM hS
 refine (do_ok W n gd bf gl gb ([gl, gd, bf, gb] ++ own2 n ga) 3 4 ev _ (StX q0 n ga bh 40 3 1000000 0 (0 + 1000000) false []) 4 10 1000000 0 0 0 0 0 0 none 0 0 1000000 3 w hB' hC.step (fun w hw => doesC_ok W n gd bf gl gb (own2 n ga) 3 (by omega) ev _ _ 4 10 1000000 0 0 0 0 0 0 _ 0 0 1000000 TN hC w hw) (fun w hw => seq2 hw) (bs_lt hB (own2_lt hS)) (hC.acts none 0 0).far').mono ?_
 rintro e w' ⟨rfl, ev', hk, hb⟩
 obtain ⟨y1, y2⟩ := kb_event hB (st2_own hS) hk hx hn
 exact ⟨rfl, ev', hb.withM (.inr (.inr (.inr ⟨rfl, ga, bh, hb.2.2.2.2.2⟩))), y1, fun e => (by cases e), y2⟩
def dayS (n ga bh : Nat) : Nat -> World -> Prop
 | 0 => StX q0 n ga bh 40 3 1000000 0 (0 + 1000000) false []
 | 1 => StX q0 n ga bh 40 4 1000000 0 (0 + 1000000) true [1]
 | 2 => StX q0 n ga bh 40 5 (stepB 1 1000000 0 (worthV q0 40 1 1000000 0)) (stepA 1 1000000 0 (worthV q0 40 1 1000000 0)) (0 + 1000000) true []
 | _ => StX q0 n ga bh 41 6 (stepB 1 1000000 0 (worthV q0 40 1 1000000 0)) (stepA 1 1000000 0 (worthV q0 40 1 1000000 0)) (0 + 1000000) false []
def dayO : Nat -> Int
 | 0 => 13 | 1 => 14 | _ => 15
def dayA : Nat -> Int
 | 0 => 40 | 1 => 10 | _ => 41
def dayB : Nat -> Int
 | 1 => 1 | _ => 0
def dayC : Nat -> Int
 | 1 => worthV q0 40 1 1000000 0 | _ => 0
theorem due40 : dueKs 40 = [1] := by decide
theorem day_acts (n ga bh : Nat) : ∀ i, i <= 2 -> Acts n (own2 n ga) (evE (dayO i) (dayA i) (dayB i) (dayC i) 0 0 0 0 0 (.slice none 0 0)) (dayS n ga bh i) (dayS n ga bh (i + 1)) := by
 intro i hi
 have : i = 0 ∨ i = 1 ∨ i = 2 := by omega
 rcases this with rfl | rfl | rfl
 . have := actsB q0 n ga bh 40 3 1000000 0 (0 + 1000000) (by omega) (by omega)
   rw [due40] at this
   exact this
 . exact actsS q0 n ga bh 40 4 1000000 0 (0 + 1000000) 1 [] (by omega) (.inl rfl) (by omega) (by omega) (by omega)
 . exact actsR q0 n ga bh 40 5 _ _ (0 + 1000000) (by omega) (by omega)
theorem day_next (n ga bh : Nat) : ∀ i, i <= 2 -> ∀ w, dayS n ga bh i w -> Calls Tryz.prog 11 #[.pointer (some ⟨n + 7, 0, none⟩)] w fun e w' => e = .returned (.tuple #[.agg (evE (dayO i) (dayA i) (dayB i) (dayC i) 0 0 0 0 0 (.slice none 0 0)), .int .i64 0]) /\ Below w.heap.size w w' := by
 intro i hi w h
 have : i = 0 ∨ i = 1 ∨ i = 2 := by omega
 rcases this with rfl | rfl | rfl
 . exact nextB_ok q0 n ga bh 40 3 1000000 0 (0 + 1000000) (by omega) w h
 . exact nextS_ok q0 n ga bh 40 4 1000000 0 (0 + 1000000) 1 [] (.inl rfl) (by omega) (by omega) w h
 . exact nextR_ok q0 n ga bh 40 5 _ _ (0 + 1000000) (by omega) w h
def AwE (W : World) (gb : Nat) (w : World) : Prop := Below W.heap.size W w /\ ∃ gm : Nat, w.cell? ⟨gb, 2, none⟩ = some (.pointer (some ⟨gm, 0, none⟩)) /\ w.cell? ⟨gm, 0, none⟩ = some (.int .i64 41)
theorem aw_doE (W : World) (n gd bf gl gb x : Nat) (w : World) (h : Aw W n gd bf gl gb x 3 w) :
 Calls Tryz.prog 19 #[.pointer (some ⟨gb, 0, none⟩), .agg (evE 13 9 0 0 0 0 0 0 0 (.slice none 0 0))] w fun e w' => e = .returned (.agg #[.int .i64 0, .int .i64 3, .int .i64 6]) /\ AwE W gb w' := by
 obtain ⟨ev, hB, hx, ht, hn⟩ := h
 obtain ⟨ga, bh, hS⟩ : S2 q0 n 40 3 1000000 0 (0 + 1000000) w := by
  rcases hB.2.2.2.2.2 with ⟨e, _⟩ | ⟨e, _⟩ | ⟨e, _⟩ | ⟨_, h⟩
  . cases e
  . cases e
  . cases e
  . exact h
 have hA := day_acts n ga bh
 have hB' : Bs W n gd bf gl gb 4 ev (dayS n ga bh 0) w := (show Bs W n gd bf gl gb 4 ev (Tm n 40 3) w from hB).withM hS
 refine (do_ok W n gd bf gl gb ([gl, gd, bf, gb] ++ own2 n ga) 4 7 ev _ (dayS n ga bh 3) 13 9 0 0 0 0 0 0 0 none 0 0 3 6 w hB' (hA 0 (by omega)).step (fun w hw => doesE_ok W n gd bf gl gb _ 4 7 ev _ _ 3 w hw (hA 0 (by omega)).step (fun w => check8_ok (ev13_ok (by unfold In64; omega)) ev13_form w)
  (fun w hw => day_ok W n gd bf gl gb (own2 n ga) 4 (by omega) ev (dayS n ga bh) dayO dayA dayB dayC ⟨rfl, fun i hi => by
    have : i = 0 ∨ i = 1 := by omega
    rcases this with rfl | rfl <;> decide⟩ hA (day_next n ga bh) w hw)) (fun w hw => seq2 hw) (bs_lt hB (own2_lt hS)) (hA 2 (by omega)).far').mono ?_
 rintro e w' ⟨rfl, ev', hk, hb⟩
 exact ⟨rfl, hb.2.1, n + 7, by rw [Blk.cell (t := 133) (cs := bankE gd gl (n + 7) ev') hb.2.2.1 2]; rfl, day2 hb.2.2.2.2.2⟩
theorem awake_ok (W : World) : Calls Tryz.prog 4 #[] W fun e w' => e = .returned (.bool true) /\ Below W.heap.size W w' := by
 go_enter Tryz.func4, Tryz.ntmps4
 go_wp2_with fail
 refine (diskNew_ok 100 (by omega) W).mono ?_
 rintro e w1 ⟨rfl, hw1⟩
 obtain ⟨bf, hbf⟩ : ∃ bf, bf = W.heap.size := ⟨_, rfl⟩
 have hd1 : w1.heap[bf + 1]? = some (.cells (diskE bf 100 0) 127) := by
  have := heap_alloc_new (W.alloc (.map #[] 0)) (.cells (diskE W.heap.size 100 0) 127)
  rw [hw1, hbf]; simpa using this
 have hm1 : w1.heap[bf]? = some (.map #[] 0) := by
  have := heap_alloc_new W (.map #[] 0)
  rw [hw1, hbf, Below.heap_alloc _ _ _ (by simp)]; exact this
 have hb1 : Below W.heap.size W w1 := by rw [hw1]; exact Below.al (Below.al (Below.refl _ _) _) _
 have HDK : Hi (Dk (bf + 1) bf 100 0 [] w1) := Hd ⟨hd1, hm1, by intro p hp; cases hp⟩
 have HB1 := Hd hb1
 have HLT : Hi (W.heap.size <= bf /\ bf + 1 < w1.heap.size) := Hd ⟨Nat.le_of_eq hbf.symm, obj_lt hd1⟩
 rw [<- hbf]
 clear hd1 hm1 hb1 hw1 hbf
 go_wp2_with fail
 refine (bankOpen_ok (bf + 1) bf 100 0 4 40 (by omega) (by omega) w1 HDK.o.1 HDK.o.2.1).mono ?_
 rintro e w2 ⟨gb, gl, rfl, hb2, hgl, hgb, hst, hbk, hlg⟩
 obtain ⟨n, hn⟩ : ∃ n, n = w1.heap.size := ⟨_, rfl⟩
 rw [<- hn] at hgl hgb hst hbk
 have hz1 := HB1.o.size
 have HB2 : Hi (Bs W n (bf + 1) bf gl gb 1 (.slice none 0 0) (St0 n 40) w2) := Hd ⟨by have := HLT.o; omega, HB1.o.trans (hb2.mono hz1), hbk, ⟨List.replicate 32 0, 0, [], rfl, by intro q hq; simp [toI] at hq; omega, hlg, HDK.o.step hb2, by omega, .inl ⟨rfl, rfl⟩, by show ((0 : Nat) : Int) <= _; omega⟩, ⟨0, [], own_nil _ _ _ _, by simp, by omega⟩, hst⟩
 clear hn hgl hgb hst hbk hlg hb2 hz1 HDK HB1 HLT
 go_wp2_with fail
 refine (story_ok w2).mono ?_
 rintro e w3 ⟨rfl, hw3⟩
 obtain ⟨x, hx⟩ : ∃ x, x = w2.heap.size := ⟨_, rfl⟩
 have HA : Hi (Aw W n (bf + 1) bf gl gb x 0 w3) := Hd ⟨.slice none 0 0, by
  have hb := storyW_below w2
  rw [<- hw3] at hb
  have := HB2.o.step (fun hm => hm.step hb) hb
  exact this.withM (.inl ⟨rfl, this.2.2.2.2.2⟩), by rw [hw3, hx]; exact storyW_ev _, fun _ => by rw [hw3, hx]; exact storyW_ti _, by intro r hr; cases hr⟩
 rw [<- hx]
 clear hx hw3 HB2
 go_wp2_with fail
 go_loopw [29] (fun t wr => ∃ i : Nat, i <= 3 /\ t = .int .i64 i /\ Hi (Aw W n (bf + 1) bf gl gb x i wr)) (fun t _ => 3 - (intOf t).toNat)
 case atStart => exact ⟨0, by omega, rfl, HA⟩
 case round =>
  obtain ⟨i, hi, rfl, HA⟩ := hrel
  have HX := Hd HA.o.row
  have : i = 0 ∨ i = 1 ∨ i = 2 ∨ i = 3 := by omega
  rcases this with rfl | rfl | rfl | rfl
  . skip
    go_wp2_with (first
     | (refine wpListG_part rfl 34 (.tmp 32) rfl (x + 1) 0 rfl 34 (storyC x) (ev3 x 0) _ HX.o (by simpa using story_part x 0 (by omega)) Tryz.underlying34 rfl (by kernel_rfl) ?_)
     | (obtain ⟨g6, hg6⟩ : ∃ g6, g6 = wr.heap.size := ⟨_, rfl⟩
        have H3 := Hd ((HasO.start [] wr).new hg6 (.cells evZ 34))
        rw [<- hg6]
        refine wpList_turn rfl 34 (.tmp 6) (.tmp 33) rfl g6 0 (.agg (ev3 x 0)) rfl rfl 34 evZ (ev3 x 0) (H3.o.get 0 rfl) (by kernel_rfl) (by simp [Value.cells, ev3, evE, evZ]) (by simp [Value.cells, Value.oneCell', ev3, evE, evZ]) rfl ?_; intro W4 HT4
        have hb4 := below_turn (W := wr) (Below.al (Below.refl _ wr) (.cells evZ 34)) HT4 (Nat.le_of_eq hg6.symm)
        have HA4 := Hd (HA.o.step hb4)
        have HE4 := Hd HT4.at_
        clear hb4 HT4 H3 hg6)
     | (refine wpListG_row rfl 34 (.tmp 6) rfl g6 rfl 34 (ev3 x 0) _ HE4.o Tryz.underlying34 rfl (by kernel_rfl) ?_))
    refine (aw_do0 W n (bf + 1) bf gl gb x W4 HA4.o).mono ?_
    rintro e w5 ⟨rfl, ha5⟩
    have HA5 := Hd ha5
    clear ha5 HA4 HE4
    go_wp2_with fail
    refine ⟨⟨1, by omega, by simp, Hd (HA5.o.step (Below.al (Below.refl _ _) (.cells #[.int .i64 0, .int .i64 0, .int .i64 1] 70)))⟩, by simp [intOf]⟩
  . skip
    go_wp2_with (first
     | (refine wpListG_part rfl 34 (.tmp 32) rfl (x + 1) 11 rfl 34 (storyC x) (ev3 x 1) _ HX.o (by simpa using story_part x 1 (by omega)) Tryz.underlying34 rfl (by kernel_rfl) ?_)
     | (obtain ⟨g6, hg6⟩ : ∃ g6, g6 = wr.heap.size := ⟨_, rfl⟩
        have H3 := Hd ((HasO.start [] wr).new hg6 (.cells evZ 34))
        rw [<- hg6]
        refine wpList_turn rfl 34 (.tmp 6) (.tmp 33) rfl g6 0 (.agg (ev3 x 1)) rfl rfl 34 evZ (ev3 x 1) (H3.o.get 0 rfl) (by kernel_rfl) (by simp [Value.cells, ev3, evE, evZ]) (by simp [Value.cells, Value.oneCell', ev3, evE, evZ]) rfl ?_; intro W4 HT4
        have hb4 := below_turn (W := wr) (Below.al (Below.refl _ wr) (.cells evZ 34)) HT4 (Nat.le_of_eq hg6.symm)
        have HA4 := Hd (HA.o.step hb4)
        have HE4 := Hd HT4.at_
        clear hb4 HT4 H3 hg6)
     | (refine wpListG_row rfl 34 (.tmp 6) rfl g6 rfl 34 (ev3 x 1) _ HE4.o Tryz.underlying34 rfl (by kernel_rfl) ?_))
    refine (aw_do1 W n (bf + 1) bf gl gb x W4 HA4.o).mono ?_
    rintro e w5 ⟨rfl, ha5⟩
    have HA5 := Hd ha5
    clear ha5 HA4 HE4
    go_wp2_with fail
    refine ⟨⟨2, by omega, by simp, Hd (HA5.o.step (Below.al (Below.refl _ _) (.cells #[.int .i64 0, .int .i64 0, .int .i64 2] 70)))⟩, by simp [intOf]⟩
  . skip
    go_wp2_with (first
     | (refine wpListG_part rfl 34 (.tmp 32) rfl (x + 1) 22 rfl 34 (storyC x) (ev3 x 2) _ HX.o (by simpa using story_part x 2 (by omega)) Tryz.underlying34 rfl (by kernel_rfl) ?_)
     | (obtain ⟨g6, hg6⟩ : ∃ g6, g6 = wr.heap.size := ⟨_, rfl⟩
        have H3 := Hd ((HasO.start [] wr).new hg6 (.cells evZ 34))
        rw [<- hg6]
        refine wpList_turn rfl 34 (.tmp 6) (.tmp 33) rfl g6 0 (.agg (ev3 x 2)) rfl rfl 34 evZ (ev3 x 2) (H3.o.get 0 rfl) (by kernel_rfl) (by simp [Value.cells, ev3, evE, evZ]) (by simp [Value.cells, Value.oneCell', ev3, evE, evZ]) rfl ?_; intro W4 HT4
        have hb4 := below_turn (W := wr) (Below.al (Below.refl _ wr) (.cells evZ 34)) HT4 (Nat.le_of_eq hg6.symm)
        have HA4 := Hd (HA.o.step hb4)
        have HE4 := Hd HT4.at_
        clear hb4 HT4 H3 hg6)
     | (refine wpListG_row rfl 34 (.tmp 6) rfl g6 rfl 34 (ev3 x 2) _ HE4.o Tryz.underlying34 rfl (by kernel_rfl) ?_))
    refine (aw_do2 W n (bf + 1) bf gl gb x W4 HA4.o).mono ?_
    rintro e w5 ⟨rfl, ha5⟩
    have HA5 := Hd ha5
    clear ha5 HA4 HE4
    go_wp2_with fail
    refine ⟨⟨3, by omega, by simp, Hd (HA5.o.step (Below.al (Below.refl _ _) (.cells #[.int .i64 0, .int .i64 1000000, .int .i64 3] 70)))⟩, by simp [intOf]⟩
  . go_wp2_with fail
    refine (goes_ok 9 wr).mono ?_
    rintro e w5 ⟨rfl, hb5⟩
    have HA5 := Hd (HA.o.step hb5)
    clear hb5 HX
    go_wp2_with fail
    refine (aw_doE W n (bf + 1) bf gl gb x w5 HA5.o).mono ?_
    rintro e w6 ⟨rfl, hb6, gm, c2, c0⟩
    have HB6 := Hd hb6
    clear hb6
    go_wp2_with fail
    refine (bday_ok gb gm 41 w6 c2 c0).mono ?_
    rintro e w7 ⟨rfl, hw⟩
    obtain rfl : w6 = w7 := hw.symm
    clear c2 c0
    go_wp2_with fail
    exact bodyPost_ret (results_one rfl _ _ rfl) rfl ⟨rfl, HB6.o⟩
end Bk
end Go.Proofs.YtkdnebalpdebeaaGreatDoor
