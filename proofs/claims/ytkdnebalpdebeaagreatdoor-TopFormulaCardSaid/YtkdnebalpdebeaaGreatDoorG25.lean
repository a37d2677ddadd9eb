/- Lemmas of a claim: MoN, MoP -/
import Derived.Test.YtkdnebalpdebeaaGreatDoorG24
set_option linter.unusedVariables false
set_option linter.unusedSimpArgs false
set_option maxHeartbeats 16000000
set_option maxRecDepth 100000
namespace Go.Proofs.YtkdnebalpdebeaaGreatDoor
namespace Mo
open Go.RowKit Go.Deep Wide Dec Mp Pr Ch
open Go.Proofs.YtkdnebalpdebeaaGreatDoor.Event (Ev)
def ev8 (op n0 n1 n2 n3 n4 n5 n6 n7 : Int) : Ev := ⟨op, 0, [n0, n1, n2, n3, n4, n5, n6, n7], []⟩
def evP (q : Qd) : Ev := ⟨1, 0, [1, 1, 0, 1, q.how, q.mo, 0, q.lim], [0, q.rate]⟩
theorem row8 (op n0 n1 n2 n3 n4 n5 n6 n7 : Int) : Event.row (ev8 op n0 n1 n2 n3 n4 n5 n6 n7) none 0 = evE op n0 n1 n2 n3 n4 n5 n6 n7 (.slice none 0 0) := by simp [Event.row, ev8, evE, rd]
theorem rowP (q : Qd) (A : Option Addr) (c : Nat) : Event.row (evP q) A c = evE 1 1 1 0 1 q.how q.mo 0 q.lim (.slice A 1 c) := by simp [Event.row, evP, evE, rd]
def In64 (n : Int) : Prop := -9223372036854775808 <= n /\ n <= 9223372036854775807
theorem ev8_ok {op n0 n1 n2 n3 n4 n5 n6 n7 : Int} (h : 0 <= op /\ op <= 255) (h0 : In64 n0) (h1 : In64 n1) (h2 : In64 n2) (h3 : In64 n3) (h4 : In64 n4) (h5 : In64 n5) (h6 : In64 n6) (h7 : In64 n7) : (ev8 op n0 n1 n2 n3 n4 n5 n6 n7).ok := by
 refine ⟨h.1, h.2, Int.le_refl _, by show (0 : Int) < _; omega, rfl, ?_, ?_, rfl⟩
 . intro n hn
   simp only [ev8, List.mem_cons, List.not_mem_nil, or_false] at hn
   rcases hn with rfl | rfl | rfl | rfl | rfl | rfl | rfl | rfl <;> assumption
 . intro n hn; cases hn
theorem evP_ok (q : Qd) : (evP q).ok := by
 have h1 := q.ok.how
 have h2 := q.ok.mo
 have h3 := q.ok.lim
 have h4 := q.ok.rate
 simp only [] at h1 h2 h3 h4
 refine ⟨by show (0 : Int) <= 1; omega, by show (1 : Int) <= 255; omega, by show (0 : Int) <= 0; omega, by show (0 : Int) < _; omega, rfl, ?_, ?_, by simp [evP]⟩
 . intro n hn
   simp only [evP, List.mem_cons, List.not_mem_nil, or_false] at hn
   rcases hn with rfl | rfl | rfl | rfl | rfl | rfl | rfl | rfl <;> omega
 . intro n hn
   simp only [evP, List.mem_cons, List.not_mem_nil, or_false] at hn
   rcases hn with rfl | rfl <;> omega
theorem evP_form (q : Qd) : (evP q).form := by
 refine ⟨by show (0 : Int) <= Event.cnt 1; decide, by simp [evP], .inr rfl, ?_⟩
 intro i h1 h2
 have : Event.cnt (evP q).op = 8 := by show Event.cnt 1 = 8; decide
 rw [this] at h1
 simp at h1; omega
theorem in0 : In64 0 := by unfold In64; omega
theorem ev8_form {op n0 n1 n2 n3 n4 n5 n6 n7 : Int} (k : Nat) (hc : Event.cnt op = k) (h : ∀ i, k <= i -> i < 8 -> rd [n0, n1, n2, n3, n4, n5, n6, n7] i = 0) : (ev8 op n0 n1 n2 n3 n4 n5 n6 n7).form := by
 refine ⟨by show 0 <= Event.cnt op; rw [hc]; omega, by show 0 <= 16; omega, .inl rfl, fun i h1 h2 => ?_⟩
 have e : Event.cnt (ev8 op n0 n1 n2 n3 n4 n5 n6 n7).op = k := hc
 rw [e] at h1
 exact h i (by simpa using h1) h2
theorem ri_ts {q : Qd} {w : World} {g c : Nat} (h : TS q.rate w (.slice (some ⟨g, 0, none⟩) 1 c)) : RI w w.heap.size .i64 (some ⟨g, 0, none⟩) (evP q).ts := by
 obtain ⟨g', c', cur, hs, hg, h0, h1⟩ := h
 cases hs
 refine ⟨by simp [nums], fun hn => ⟨_, rfl, obj_lt hg, fun j u hu => ?_⟩⟩
 have hj : j < 2 := by have := (List.getElem?_eq_some_iff.1 hu).1; simpa [nums, evP] using this
 rw [Addr.add_lit, Blk.cell (t := 31) (cs := cur) hg, Nat.zero_add]
 have : j = 0 ∨ j = 1 := by omega
 rcases this with rfl | rfl
 . exact h0.trans hu
 . exact h1.trans hu
theorem ts_slice {r : Int} {w : World} {A : Option Addr} {k c : Nat} (h : TS r w (.slice A k c)) : ∃ g, A = some ⟨g, 0, none⟩ /\ k = 1 := by
 obtain ⟨g', c', cur, hs, _⟩ := h
 cases hs
 exact ⟨_, rfl, rfl⟩
theorem sameP_ok (q : Qd) (A A' : Option Addr) (k c k' c' : Nat) (w : World) (h : TS q.rate w (.slice A k c)) (h' : TS q.rate w (.slice A' k' c')) :
 Calls Tryz.prog 27 #[.agg (evE 1 1 1 0 1 q.how q.mo 0 q.lim (.slice A k c)), .agg (evE 1 1 1 0 1 q.how q.mo 0 q.lim (.slice A' k' c'))] w fun x w' => x = .returned (.bool true) /\ Below w.heap.size w w' := by
 obtain ⟨g, rfl, rfl⟩ := ts_slice h
 obtain ⟨g', rfl, rfl⟩ := ts_slice h'
 have := Event.same_ok (evP q) (evP q) (some ⟨g, 0, none⟩) (some ⟨g', 0, none⟩) c c' w (evP_ok q) (evP_ok q) (ri_ts h) (ri_ts h') (by simp [evP]) (by simp [evP])
 rw [rowP, rowP] at this
 refine this.mono ?_
 rintro x w' ⟨rfl, hb⟩
 exact ⟨by rw [Event.sameB_yes rfl], hb⟩
theorem same8_ok {op n0 n1 n2 n3 n4 n5 n6 n7 : Int} (ho : (ev8 op n0 n1 n2 n3 n4 n5 n6 n7).ok) (w : World) :
 Calls Tryz.prog 27 #[.agg (evE op n0 n1 n2 n3 n4 n5 n6 n7 (.slice none 0 0)), .agg (evE op n0 n1 n2 n3 n4 n5 n6 n7 (.slice none 0 0))] w fun x w' => x = .returned (.bool true) /\ Below w.heap.size w w' := by
 have := Event.same_ok (ev8 op n0 n1 n2 n3 n4 n5 n6 n7) (ev8 op n0 n1 n2 n3 n4 n5 n6 n7) none none 0 0 w ho ho RI.nil RI.nil (Nat.zero_le _) (Nat.zero_le _)
 rw [row8] at this
 refine this.mono ?_
 rintro x w' ⟨rfl, hb⟩
 exact ⟨by rw [Event.sameB_yes rfl], hb⟩
theorem check8_ok {op n0 n1 n2 n3 n4 n5 n6 n7 : Int} (ho : (ev8 op n0 n1 n2 n3 n4 n5 n6 n7).ok) (hf : (ev8 op n0 n1 n2 n3 n4 n5 n6 n7).form) (w : World) :
 Calls Tryz.prog 24 #[.agg (evE op n0 n1 n2 n3 n4 n5 n6 n7 (.slice none 0 0))] w fun x w' => x = .returned (.int .i64 0) /\ Below w.heap.size w w' := by
 have := echeck_ok (ev8 op n0 n1 n2 n3 n4 n5 n6 n7) none 0 ho hf w
 rw [row8] at this
 exact this
theorem checkP_ok (q : Qd) (A : Option Addr) (c : Nat) (w : World) : Calls Tryz.prog 24 #[.agg (evE 1 1 1 0 1 q.how q.mo 0 q.lim (.slice A 1 c))] w fun x w' => x = .returned (.int .i64 0) /\ Below w.heap.size w w' := by
 have := echeck_ok (evP q) A c (evP_ok q) (evP_form q) w
 rw [rowP] at this
 exact this
theorem ev2_ok : (ev8 2 10 1 0 0 0 0 0 0).ok := ev8_ok (by omega) (by unfold In64; omega) (by unfold In64; omega) in0 in0 in0 in0 in0 in0
theorem rd0 {l : List Int} {k : Nat} (h : (l.drop k).all (· == 0) = true) : ∀ i, k <= i -> i < 8 -> rd l i = 0 := by
 intro i h1 _
 by_cases hi : i < l.length
 . rw [rd_get hi]
   have hm : l[i] ∈ l.drop k := by
    rw [List.mem_iff_getElem]
    exact ⟨i - k, by simp; omega, by simp [Nat.add_sub_cancel' h1]⟩
   have := List.all_eq_true.1 h _ hm
   simpa using this
 . exact rd_out (by omega)
theorem ev2_form : (ev8 2 10 1 0 0 0 0 0 0).form := ev8_form 2 (by decide) (rd0 (by decide))
theorem ev4_ok {n : Int} (h : In64 n) : (ev8 4 10 n 0 0 0 0 0 0).ok := ev8_ok (by omega) (by unfold In64; omega) h in0 in0 in0 in0 in0 in0
theorem ev4_form {n : Int} : (ev8 4 10 n 0 0 0 0 0 0).form := ev8_form 2 (by decide) (rd0 rfl)
theorem ev13_ok {n : Int} (h : In64 n) : (ev8 13 n 0 0 0 0 0 0 0).ok := ev8_ok (by omega) h in0 in0 in0 in0 in0 in0 in0
theorem ev13_form {n : Int} : (ev8 13 n 0 0 0 0 0 0 0).form := ev8_form 1 (by decide) (rd0 rfl)
theorem ev14_ok {k n : Int} (hk : In64 k) (h : In64 n) : (ev8 14 10 k n 0 0 0 0 0).ok := ev8_ok (by omega) (by unfold In64; omega) hk h in0 in0 in0 in0 in0
theorem ev14_form {k n : Int} : (ev8 14 10 k n 0 0 0 0 0).form := ev8_form 3 (by decide) (rd0 rfl)
theorem ev15_ok {n : Int} (h : In64 n) : (ev8 15 n 0 0 0 0 0 0 0).ok := ev8_ok (by omega) h in0 in0 in0 in0 in0 in0 in0
theorem ev15_form {n : Int} : (ev8 15 n 0 0 0 0 0 0 0).form := ev8_form 1 (by decide) (rd0 rfl)
end Mo
namespace Mo
open Go.RowKit Go.Deep Wide Dec Mp Pr Ch
def modN (n : Nat) (day seq : Int) (run : Bool) (st : Value) : Array Value := modE day (n + 1) (n + 2) (n + 3) (n + 4) (n + 6) seq run st
def own0 (n : Nat) : List Nat := [n, n + 1, n + 2, n + 6, n + 7]
def lf (c b : Int) : Int -> Int := fun x => if x = 1 then c else if x = 2 then -b else if x = 4 then b - c else 0
theorem lf_zero : lf 0 0 = fun _ => 0 := by
 funext x; unfold lf; split; rfl; split; rfl; split <;> rfl
theorem lf_in {c b : Int} (h : 0 <= c /\ c <= b /\ b <= 10000000000000) : FB 10000000000000000000000 (lf c b) := fun x => by
 unfold lf; split; omega; split; omega; split <;> omega
theorem lf_dep (c b x : Int) : mvF (lf c b) 1 2 x = lf (c + x) (b + x) := by
 funext y
 unfold mvF addF lf
 by_cases h2 : y = 2
 . subst h2; simp; omega
 . by_cases h1 : y = 1
   . subst h1; simp
   . by_cases h4 : y = 4
     . subst h4; simp; omega
     . simp [h1, h2, h4]
theorem lf_pay (c b x : Int) : mvF (lf c b) 4 2 x = lf c (b + x) := by
 funext y
 unfold mvF addF lf
 by_cases h2 : y = 2
 . subst h2; simp; omega
 . by_cases h1 : y = 1
   . subst h1; simp
   . by_cases h4 : y = 4
     . subst h4; simp; omega
     . simp [h1, h2, h4]
def St0 (n : Nat) (day : Int) (w : World) : Prop :=
 HasO [] w [(n + 7, .cells (modN n day 0 false (.slice none 0 0)) 82), (n + 1, .cells #[.slice none 0 0, .map (some n)] 144), (n, .map #[] 0), (n + 2, .map #[] 0), (n + 4, .map #[] 0)] w /\ Led (lf 0 0) (n + 6) w
def St1 (q : Qd) (n : Nat) (day : Int) (w : World) : Prop :=
 HasO [] w [(n + 7, .cells (modN n day 1 false (.slice none 0 0)) 82), (n + 2, .map #[] 0), (n + 4, .map #[] 0)] w /\ CatQ q (n + 1) w /\ Led (lf 0 0) (n + 6) w
def StX (q : Qd) (n ga bh : Nat) (day seq b a cs : Int) (run : Bool) (ks : List Int) (w : World) : Prop :=
 ∃ st, HasO [] w [(n + 7, .cells (modN n day seq run st) 82), (n + 2, .map #[entA ga] 1), (ga, .cells (acctE b a bh) 112), (n + 4, .map #[] 0)] w /\ CatQ q (n + 1) w /\ Led (lf cs b) (n + 6) w /\ StepsAt w st ks /\ n + 8 <= ga /\ 0 <= cs /\ cs <= b
theorem St0.step {n : Nat} {day : Int} {w w' : World} (h : St0 n day w) (hb : Below w.heap.size w w') : St0 n day w' := ⟨HasO.re (h.1.step hb), h.2.step hb⟩
theorem St1.step {q : Qd} {n : Nat} {day : Int} {w w' : World} (h : St1 q n day w) (hb : Below w.heap.size w w') : St1 q n day w' := ⟨HasO.re (h.1.step hb), cat1_step h.2.1 hb, h.2.2.step hb⟩
theorem StX.step {q : Qd} {n ga bh : Nat} {day seq b a cs : Int} {run : Bool} {ks : List Int} {w w' : World} (h : StX q n ga bh day seq b a cs run ks w) (hb : Below w.heap.size w w') : StX q n ga bh day seq b a cs run ks w' := by
 obtain ⟨st, h1, h2, h3, h4, h5⟩ := h
 exact ⟨st, HasO.re (h1.step hb), cat1_step h2 hb, h3.step hb, h4.step hb, h5⟩
theorem new_ok (day : Int) (hd : 1 <= day /\ day <= 3652059) (W : World) : Calls Tryz.prog 5 #[.int .i64 day] W fun e w' => e = .returned (.tuple #[.pointer (some ⟨W.heap.size + 7, 0, none⟩), .int .i64 0]) /\ Below W.heap.size W w' /\ St0 W.heap.size day w' := by
 refine (modelNew_ok day hd W).mono ?_
 rintro e w' ⟨rfl, rfl⟩
 have H : HasO [] W [(W.heap.size + 7, .cells (modN W.heap.size day 0 false (.slice none 0 0)) 82), (W.heap.size + 6, .cells #[.map (some (W.heap.size + 5)), .int .i64 0] 147), (W.heap.size + 5, .map #[] 0), (W.heap.size + 4, .map #[] 0), (W.heap.size + 3, .map #[] 0), (W.heap.size + 2, .map #[] 0), (W.heap.size + 1, .cells #[.slice none 0 0, .map (some W.heap.size)] 144), (W.heap.size, .map #[] 0)] _ :=
  ((((((((HasO.start [] W).new (g := W.heap.size) rfl (.map #[] 0)).new (g := W.heap.size + 1) (by simp) (.cells #[.slice none 0 0, .map (some W.heap.size)] 144)).new (g := W.heap.size + 2) (by simp) (.map #[] 0)).new (g := W.heap.size + 3) (by simp) (.map #[] 0)).new (g := W.heap.size + 4) (by simp) (.map #[] 0)).new (g := W.heap.size + 5) (by simp) (.map #[] 0)).new (g := W.heap.size + 6) (by simp) (.cells #[.map (some (W.heap.size + 5)), .int .i64 0] 147)).new (g := W.heap.size + 7) (by simp) (.cells (modN W.heap.size day 0 false (.slice none 0 0)) 82)
 refine ⟨rfl, H.below, HasO.re (H.of_mem (by simp)), W.heap.size + 5, 0, [], 0, H.obj 1 rfl, H.obj 2 rfl, ?_, ?_, ?_, Nat.le_refl _⟩
 . rw [lf_zero]; exact LX.nil
 . constructor <;> simp
 . unfold InR; omega
theorem ts_turn {r : Int} {w w' : World} {s : Value} {g : Nat} (h : TS r w s) (hk : Keep [g] w w') (hg : ∀ cur, w.heap[g]? ≠ some (.cells cur 31)) : TS r w' s := h.keep hk (by
 intro k hk2 cur
 simp only [List.mem_singleton] at hk2
 subst hk2; exact hg cur)
theorem planP_ok (q : Qd) (n : Nat) (day : Int) (A : Option Addr) (k c : Nat) (W : World) (h : St0 n day W) (hs : TS q.rate W (.slice A k c)) :
 Calls Tryz.prog 6 #[.pointer (some ⟨n + 7, 0, none⟩), .agg (evE 1 1 1 0 1 q.how q.mo 0 q.lim (.slice A k c))] W fun e w' => (∃ A' k' c', e = .returned (.tuple #[.agg (evE 1 1 1 0 1 q.how q.mo 0 q.lim (.slice A' k' c')), .int .i64 0, .int .i64 0]) /\ TS q.rate w' (.slice A' k' c')) /\ Below W.heap.size W w' := by
 obtain ⟨g, rfl, rfl⟩ := ts_slice hs
 refine plan_gen (n + 7) (n + 2) (n + 1) (n + 3) (n + 4) (n + 6) day 0 0 1 1 1 0 1 q.how q.mo 0 q.lim (some ⟨g, 0, none⟩) 1 c (.slice none 0 0) (TS q.rate) W (by omega) (fun w w' s h hb => h.step hb) (fun w s h => ?_) (fun w w' s g h hk hg => ts_turn h hk hg) (fun w => checkP_ok q _ c w) (fun w hb => cloneT_ok _ _ w (hs.step hb)) (fun gp A' k' c' w hw ht => ?_) ?_
 . obtain ⟨g, c, _, rfl, _⟩ := h; exact ⟨_, _, _, rfl⟩
 . obtain ⟨g', rfl, rfl⟩ := ts_slice ht
   have h0 := h.1.step hw.below
   refine lookProduct_ok q gp (n + 7) (n + 2) (n + 1) n (n + 3) (n + 4) (n + 6) day 0 false (.slice none 0 0) g' c' w ht ⟨Keep.refl _ _, fun f hf => ?_⟩
   simp only [cat0, List.mem_cons, List.not_mem_nil, or_false] at hf
   rcases hf with rfl | rfl | rfl | rfl
   . exact hw.obj 0 rfl
   . exact h0.obj 0 rfl
   . exact h0.obj 1 rfl
   . exact h0.obj 2 rfl
 . exact h.1.of_mem (by simp [modN])
def TN (w : World) (s : Value) : Prop := s = .slice none 0 0
theorem clone0_ok (w : World) : Calls Tryz.prog 25 #[.slice none 0 0] w fun e w' => (∃ s', e = .returned s' /\ TN w' s') /\ Below w.heap.size w w' := by
 refine (cloneT_nil 0 0 w).mono ?_
 rintro e w' ⟨rfl, rfl⟩
 exact ⟨⟨_, rfl, rfl⟩, Below.refl _ _⟩
theorem planO_ok (q : Qd) (n : Nat) (day : Int) (hd : 1 <= day /\ day <= 3652059) (W : World) (h : St1 q n day W) :
 Calls Tryz.prog 6 #[.pointer (some ⟨n + 7, 0, none⟩), .agg (evE 2 10 1 0 0 0 0 0 0 (.slice none 0 0))] W fun e w' => (∃ A' k' c', e = .returned (.tuple #[.agg (evE 2 10 1 0 0 0 0 0 0 (.slice A' k' c')), .int .i64 0, .int .i64 0]) /\ TN w' (.slice A' k' c')) /\ Below W.heap.size W w' := by
 refine plan_gen (n + 7) (n + 2) (n + 1) (n + 3) (n + 4) (n + 6) day 1 0 2 10 1 0 0 0 0 0 0 none 0 0 (.slice none 0 0) TN W (by omega) (fun w w' s h hb => h) (fun w s h => ⟨_, _, _, h⟩) (fun w w' s g h hk hg => h) (fun w => check8_ok ev2_ok ev2_form w) (fun w hb => clone0_ok w) (fun gp A' k' c' w hw ht => ?_) ?_
 . cases ht
   have h0 := h.1.step hw.below
   refine lookOpen_ok q gp (n + 7) (n + 2) (n + 1) (n + 3) (n + 4) (n + 6) day 1 hd false (.slice none 0 0) w (cat1_step h.2.1 hw.below) ⟨Keep.refl _ _, fun f hf => ?_⟩
   simp only [List.mem_cons, List.not_mem_nil, or_false] at hf
   rcases hf with rfl | rfl | rfl
   . exact hw.obj 0 rfl
   . exact h0.obj 0 rfl
   . exact h0.obj 1 rfl
 . exact h.1.of_mem (by simp [modN])
theorem planD_ok (q : Qd) (n ga bh : Nat) (day seq b a cs x : Int) (hx : 1 <= x /\ x <= 10000000000000) (hb : 0 <= b /\ b <= 10000000000000) (hxb : x <= 10000000000000 - b) (W : World) (h : StX q n ga bh day seq b a cs false [] W) :
 Calls Tryz.prog 6 #[.pointer (some ⟨n + 7, 0, none⟩), .agg (evE 4 10 x 0 0 0 0 0 0 (.slice none 0 0))] W fun e w' => (∃ A' k' c', e = .returned (.tuple #[.agg (evE 4 10 x 0 0 0 0 0 0 (.slice A' k' c')), .int .i64 x, .int .i64 0]) /\ TN w' (.slice A' k' c')) /\ Below W.heap.size W w' := by
 obtain ⟨st, h1, h2, h3, h4, h5⟩ := h
 refine plan_gen (n + 7) (n + 2) (n + 1) (n + 3) (n + 4) (n + 6) day seq x 4 10 x 0 0 0 0 0 0 none 0 0 st TN W (by omega) (fun w w' s h hb => h) (fun w s h => ⟨_, _, _, h⟩) (fun w w' s g h hk hg => h) (fun w => check8_ok (ev4_ok (by unfold In64; omega)) ev4_form w) (fun w hb => clone0_ok w) (fun gp A' k' c' w hw ht => ?_) ?_
 . cases ht
   have h0 := h1.step hw.below
   refine lookDeposit_ok gp (n + 7) (n + 2) ga bh (n + 1) (n + 3) (n + 4) (n + 6) day seq b a x hx hb hxb false st w ⟨Keep.refl _ _, fun f hf => ?_⟩
   simp only [List.mem_cons, List.not_mem_nil, or_false] at hf
   rcases hf with rfl | rfl | rfl | rfl
   . exact hw.obj 0 rfl
   . exact h0.obj 0 rfl
   . exact h0.obj 1 rfl
   . exact h0.obj 2 rfl
 . exact h1.of_mem (by simp [modN])
theorem far2 {S : List Nat} {W w1 w' : World} {gm g : Nat} {o o1 : Obj} (hk : Keep S W w1) (ht : Turn w1 gm o1 w') (h : W.heap[g]? = some o) (hS : g ∉ S) (hg : g ≠ gm) : w'.heap[g]? = some o := (ht.far g hg).trans ((hk.block g (obj_lt h) hS).trans h)
theorem applyP_ok (q : Qd) (n : Nat) (day : Int) (A : Option Addr) (k c : Nat) (W : World) (h : St0 n day W) (hs : TS q.rate W (.slice A k c)) :
 Calls Tryz.prog 7 #[.pointer (some ⟨n + 7, 0, none⟩), .agg (evE 1 1 1 0 1 q.how q.mo 0 q.lim (.slice A k c))] W fun e w' => e = .returned (.int .i64 0) /\ Keep (own0 n) W w' /\ St1 q n day w' := by
 have hgm := obj_lt (h.1.obj 0 rfl)
 have hgc := obj_lt (h.1.obj 1 rfl)
 refine (apply_cmd [n + 1, n] (n + 7) (modN n day 0 false (.slice none 0 0)) 0 0 1 1 1 0 1 q.how q.mo 0 q.lim A k c (TS q.rate) (fun w => CatQ q (n + 1) w) W (by omega) (by omega) rfl rfl (fun w w' s h hb => h.step hb) (fun w w' s g h hk hg => ts_turn h hk hg)
  (fun w hb => planP_ok q n day A k c w (h.step hb) (hs.step hb)) (fun w A' k' c' hb ht => sameP_ok q A A' k c k' c' w (hs.step hb) ht) (fun w A' k' c' hb ht => ?_) (by
    intro k hk
    simp only [List.mem_cons, List.not_mem_nil, or_false] at hk
    omega) hgm).mono ?_
 . obtain ⟨g', rfl, rfl⟩ := ts_slice ht
   have h0 := h.1.step hb
   refine (happen_product q (n + 7) (n + 1) n (n + 2) (n + 3) (n + 4) (n + 6) day 0 false (.slice none 0 0) g' c' w ht ⟨Keep.refl _ _, fun f hf => ?_⟩).mono ?_
   . simp only [List.mem_cons, List.not_mem_nil, or_false] at hf
     rcases hf with rfl | rfl | rfl | rfl
     . exact h0.obj 0 rfl
     . exact h0.obj 3 rfl
     . exact h0.obj 1 rfl
     . exact h0.obj 2 rfl
   . rintro e w' ⟨rfl, hk, hc⟩
     exact ⟨rfl, hk, (hk.block _ (obj_lt (h0.obj 0 rfl)) (by simp)).trans (h0.obj 0 rfl), hc⟩
 . rintro e w' ⟨rfl, w1, hk, hc, ht⟩
   have hl1 : Led (lf 0 0) (n + 6) w1 := h.2.keep hk (by simp) (by intro k hk; simp only [List.mem_cons, List.not_mem_nil, or_false] at hk; left; omega)
   have hm1 : w1.heap[n + 7]? = some (.cells (modN n day 0 false (.slice none 0 0)) 82) := (hk.block _ hgm (by simp)).trans (h.1.obj 0 rfl)
   refine ⟨rfl, (hk.mono (T := own0 n) (by intro k hk; simp only [List.mem_cons, List.not_mem_nil, or_false] at hk; left; rcases hk with rfl | rfl <;> simp [own0])).trans ht.keep (by simp [own0]), ⟨Keep.refl _ _, fun f hf => ?_⟩, cat1_keep hc ht.keep (by simp) ?_ ?_, led_turn hl1 ht hm1 rfl (by omega)⟩
   . simp only [List.mem_cons, List.not_mem_nil, or_false] at hf
     rcases hf with rfl | rfl | rfl
     . exact ht.at_
     . exact far2 hk ht (h.1.obj 3 rfl) (by simp) (by show n + 2 ≠ n + 7; omega)
     . exact far2 hk ht (h.1.obj 4 rfl) (by simp) (by show n + 4 ≠ n + 7; omega)
   . intro k hk cur hc; simp only [List.mem_singleton] at hk; subst hk; rw [hm1] at hc; cases hc
   . intro k hk cur hc; simp only [List.mem_singleton] at hk; subst hk; rw [hm1] at hc; cases hc
def own2 (n ga : Nat) : List Nat := [n + 6, n + 7, ga]
def ownO (n : Nat) : List Nat := [n + 2, n + 7]
theorem applyO_ok (q : Qd) (n : Nat) (day : Int) (hd : 1 <= day /\ day <= 3652059) (W : World) (h : St1 q n day W) :
 Calls Tryz.prog 7 #[.pointer (some ⟨n + 7, 0, none⟩), .agg (evE 2 10 1 0 0 0 0 0 0 (.slice none 0 0))] W fun e w' => e = .returned (.int .i64 0) /\ Keep (ownO n) W w' /\ ∃ ga bh, W.heap.size <= ga /\ StX q n ga bh day 2 0 0 0 false [] w' := by
 have hgm := obj_lt (h.1.obj 0 rfl)
 have hba := obj_lt (h.1.obj 1 rfl)
 refine (apply_cmd [n + 2] (n + 7) (modN n day 1 false (.slice none 0 0)) 1 0 2 10 1 0 0 0 0 0 0 none 0 0 TN (fun w => CatQ q (n + 1) w /\ Led (lf 0 0) (n + 6) w /\ ∃ ga bh, W.heap.size <= ga /\ w.heap[n + 2]? = some (.map #[entA ga] 1) /\ w.heap[ga]? = some (.cells (acctE 0 0 bh) 112)) W (by omega) (by omega) rfl rfl (fun w w' s h hb => h) (fun w w' s g h hk hg => h)
  (fun w hb => planO_ok q n day hd w (h.step hb)) (fun w A' k' c' hb ht => by cases ht; exact same8_ok ev2_ok w) (fun w A' k' c' hb ht => ?_) (by simpa using hba) hgm).mono ?_
 . cases ht
   have h0 := h.1.step hb
   refine (happen_open q (n + 7) (n + 1) (n + 2) (n + 3) (n + 4) (n + 6) day 1 hd false (.slice none 0 0) w (cat1_step h.2.1 hb) ⟨Keep.refl _ _, fun f hf => ?_⟩).mono ?_
   . simp only [List.mem_cons, List.not_mem_nil, or_false] at hf
     rcases hf with rfl | rfl
     . exact h0.obj 0 rfl
     . exact h0.obj 1 rfl
   . rintro e w' ⟨rfl, hk, ga, bh, h1, h2, h3, h4, h5⟩
     refine ⟨rfl, hk, (hk.block _ (obj_lt (h0.obj 0 rfl)) (by simp)).trans (h0.obj 0 rfl), cat1_keep (cat1_step h.2.1 hb) hk (by simp) ?_ ?_, (h.2.2.step hb).keep hk (by simp) (by intro k hk; simp only [List.mem_singleton] at hk; left; omega), ga, bh, Nat.le_trans hb.size h1, h3, h4⟩
     . intro k hk cur hc; simp only [List.mem_singleton] at hk; subst hk; rw [h0.obj 1 rfl] at hc; cases hc
     . intro k hk cur hc; simp only [List.mem_singleton] at hk; subst hk; rw [h0.obj 1 rfl] at hc; cases hc
 . rintro e w' ⟨rfl, w1, hk, ⟨hc, hl, ga, bh, hg1, hg2, hg3⟩, ht⟩
   have hm1 : w1.heap[n + 7]? = some (.cells (modN n day 1 false (.slice none 0 0)) 82) := (hk.block _ hgm (by simp)).trans (h.1.obj 0 rfl)
   refine ⟨rfl, (hk.mono (T := ownO n) (by intro k hk; simp only [List.mem_singleton] at hk; left; subst hk; simp [ownO])).trans ht.keep (by simp [ownO]), ga, bh, hg1, .slice none 0 0, ⟨Keep.refl _ _, fun f hf => ?_⟩, cat1_keep hc ht.keep (by simp) ?_ ?_, led_turn hl ht hm1 rfl (by omega), ⟨none, 0, rfl, Nat.le_refl _, Nat.zero_le _, fun h => absurd rfl h⟩, by omega, by omega, by omega⟩
   . simp only [List.mem_cons, List.not_mem_nil, or_false] at hf
     rcases hf with rfl | rfl | rfl | rfl
     . exact ht.at_
     . exact (ht.far _ (by omega)).trans hg2
     . exact (ht.far _ (by omega)).trans hg3
     . exact far2 hk ht (h.1.obj 2 rfl) (by simp) (by show n + 4 ≠ n + 7; omega)
   . intro k hk cur hc; simp only [List.mem_singleton] at hk; subst hk; rw [hm1] at hc; cases hc
   . intro k hk cur hc; simp only [List.mem_singleton] at hk; subst hk; rw [hm1] at hc; cases hc
theorem stX_turn {q : Qd} {n ga bh : Nat} {day seq b a cs cs' : Int} {run : Bool} {st : Value} {ks : List Int} {W w1 w' : World} {S : List Nat} {cm : Array Value} {day' seq' b' a' : Int} {run' : Bool} {st' : Value}
 (h1 : HasO [] W [(n + 7, .cells (modN n day seq run st) 82), (n + 2, .map #[entA ga] 1), (ga, .cells (acctE b a bh) 112), (n + 4, .map #[] 0)] W) (hc : CatQ q (n + 1) W) (hg : n + 8 <= ga)
 (hk : Keep S W w1) (hS : ∀ k ∈ S, k = n + 6 ∨ k = n + 7 ∨ k = ga) (hm1 : w1.heap[n + 7]? = some (.cells cm 82)) (hga : w1.heap[ga]? = some (.cells (acctE b' a' bh) 112)) (hl : Led (lf cs' b') (n + 6) w1) (hlW : Led (lf cs b) (n + 6) W) (hcs : 0 <= cs' /\ cs' <= b') (hst : StepsAt w1 st' ks)
 (ht : Turn w1 (n + 7) (.cells (modN n day' seq' run' st') 82) w') : Keep (own2 n ga) W w' /\ StX q n ga bh day' seq' b' a' cs' run' ks w' := by
 obtain ⟨bl, cl, L, nl, hled, _⟩ := hlW
 have hS' : ∀ k ∈ S, ∀ o, W.heap[k]? = some o -> (∃ cs t, o = .cells cs t /\ (t = 147 ∨ t = 82 ∨ t = 112)) := by
  intro k hk o ho
  rcases hS k hk with rfl | rfl | rfl
  . rw [hled] at ho; cases ho; exact ⟨_, _, rfl, .inl rfl⟩
  . rw [h1.obj 0 rfl] at ho; cases ho; exact ⟨_, _, rfl, .inr (.inl rfl)⟩
  . rw [h1.obj 2 rfl] at ho; cases ho; exact ⟨_, _, rfl, .inr (.inr rfl)⟩
 refine ⟨(hk.mono (T := own2 n ga) (by intro k hk; left; rcases hS k hk with rfl | rfl | rfl <;> simp [own2])).trans ht.keep (by simp [own2]), st', ⟨Keep.refl _ _, fun f hf => ?_⟩, cat1_keep (cat1_keep hc hk ?_ ?_ ?_) ht.keep (by simp) ?_ ?_, led_turn hl ht hm1 rfl (by omega), hst.keep ht.keep ?_, hg, hcs⟩
 . simp only [List.mem_cons, List.not_mem_nil, or_false] at hf
   rcases hf with rfl | rfl | rfl | rfl
   . exact ht.at_
   . exact far2 hk ht (h1.obj 1 rfl) (fun hm => by have := hS _ hm; omega) (by show n + 2 ≠ n + 7; omega)
   . exact (ht.far _ (by omega)).trans hga
   . exact far2 hk ht (h1.obj 3 rfl) (fun hm => by have := hS _ hm; omega) (by show n + 4 ≠ n + 7; omega)
 . intro hm; have := hS _ hm; omega
 . intro k hk cur hc; obtain ⟨cs, t, e, ht⟩ := hS' k hk _ hc; cases e; revert ht; decide
 . intro k hk cur hc; obtain ⟨cs, t, e, ht⟩ := hS' k hk _ hc; cases e; revert ht; decide
 . intro k hk cur hc; simp only [List.mem_singleton] at hk; subst hk; rw [hm1] at hc; cases hc
 . intro k hk cur hc; simp only [List.mem_singleton] at hk; subst hk; rw [hm1] at hc; cases hc
 . intro k hk cur hc; simp only [List.mem_singleton] at hk; subst hk; rw [hm1] at hc; cases hc
end Mo
end Go.Proofs.YtkdnebalpdebeaaGreatDoor
