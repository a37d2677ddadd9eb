/- Lemmas of a claim: MoQ -/
import Derived.Test.YtkdnebalpdebeaaGreatDoorG25
set_option linter.unusedVariables false
set_option linter.unusedSimpArgs false
set_option maxHeartbeats 16000000
set_option maxRecDepth 100000
namespace Go.Proofs.YtkdnebalpdebeaaGreatDoor
namespace Mo
open Go.RowKit Go.Deep Wide Dec Mp Pr Ch
theorem applyD_ok (q : Qd) (n ga bh : Nat) (day seq b a cs x : Int) (hq : 0 <= seq /\ seq <= 1000000000) (hx : 1 <= x /\ x <= 10000000000000) (hb : 0 <= b /\ b <= 10000000000000) (hxb : x <= 10000000000000 - b) (W : World) (h : StX q n ga bh day seq b a cs false [] W) :
 Calls Tryz.prog 7 #[.pointer (some ⟨n + 7, 0, none⟩), .agg (evE 4 10 x 0 0 0 0 0 0 (.slice none 0 0))] W fun e w' => e = .returned (.int .i64 0) /\ Keep (own2 n ga) W w' /\ StX q n ga bh day (seq + 1) (b + x) a (cs + x) false [] w' := by
 obtain ⟨st, h1, h2, h3, h4, h5, h6⟩ := h
 have hgm := obj_lt (h1.obj 0 rfl)
 have hga := obj_lt (h1.obj 2 rfl)
 refine (apply_cmd [ga, n + 6] (n + 7) (modN n day seq false st) seq x 4 10 x 0 0 0 0 0 0 none 0 0 TN (fun w => Led (lf (cs + x) (b + x)) (n + 6) w /\ w.heap[ga]? = some (.cells (acctE (b + x) a bh) 112)) W (by omega) hq rfl rfl (fun w w' s h hb => h) (fun w w' s g h hk hg => h)
  (fun w hb' => planD_ok q n ga bh day seq b a cs x hx hb hxb w (StX.step ⟨st, h1, h2, h3, h4, h5, h6⟩ hb')) (fun w A' k' c' hb' ht => by cases ht; exact same8_ok (ev4_ok (by unfold In64; omega)) w) (fun w A' k' c' hb' ht => ?_) (by
    intro k hk
    simp only [List.mem_cons, List.not_mem_nil, or_false] at hk
    rcases hk with rfl | rfl
    . exact hga
    . exact h3.lt) hgm).mono ?_
 . cases ht
   have h0 := h1.step hb'
   refine (happen_deposit (n + 7) (n + 1) (n + 2) (n + 3) (n + 4) (n + 6) ga bh day seq b a x false st hb (by omega) w ⟨Keep.refl _ _, fun f hf => ?_⟩ (lf cs b) (lf_in (by omega)) (h3.step hb')).mono ?_
   . simp only [List.mem_cons, List.not_mem_nil, or_false] at hf
     rcases hf with rfl | rfl | rfl
     . exact h0.obj 0 rfl
     . exact h0.obj 1 rfl
     . exact h0.obj 2 rfl
   . rintro e w' ⟨rfl, hk, hl, hg⟩
     rw [lf_dep] at hl
     exact ⟨rfl, hk, (hk.block _ (obj_lt (h0.obj 0 rfl)) (by simp only [List.mem_cons, List.not_mem_nil, or_false]; omega)).trans (h0.obj 0 rfl), hl, hg⟩
 . rintro e w' ⟨rfl, w1, hk, ⟨hl, hg⟩, ht⟩
   have hm1 : w1.heap[n + 7]? = some (.cells (modN n day seq false st) 82) := (hk.block _ hgm (by simp only [List.mem_cons, List.not_mem_nil, or_false]; omega)).trans (h1.obj 0 rfl)
   obtain ⟨q1, q2⟩ := stX_turn (day' := day) (seq' := seq + 1) (b' := b + x) (a' := a) (run' := false) (st' := st) (ks := []) h1 h2 h5 hk (by intro k hk; simp only [List.mem_cons, List.not_mem_nil, or_false] at hk; omega) hm1 hg hl h3 (by omega) (by obtain ⟨A, c, e, r⟩ := h4; exact ⟨A, c, e, r.1, r.2.1, fun h => absurd rfl h⟩) ht
   exact ⟨rfl, q1, q2⟩
theorem nextB_ok (q : Qd) (n ga bh : Nat) (day seq b a cs : Int) (hd : 1 <= day /\ day < 3652059) (W : World) (h : StX q n ga bh day seq b a cs false [] W) :
 Calls Tryz.prog 11 #[.pointer (some ⟨n + 7, 0, none⟩)] W fun e w' => e = .returned (.tuple #[.agg (evE 13 day 0 0 0 0 0 0 0 (.slice none 0 0)), .int .i64 0]) /\ Below W.heap.size W w' := by
 obtain ⟨st, h1, h2, h3, h4, h5, h6⟩ := h
 exact next_begin (n + 7) (n + 1) (n + 2) (n + 3) (n + 4) (n + 6) day seq st hd W (h1.obj 0 rfl)
theorem nextR_ok (q : Qd) (n ga bh : Nat) (day seq b a cs : Int) (hd : 1 <= day /\ day < 3652059) (W : World) (h : StX q n ga bh day seq b a cs true [] W) :
 Calls Tryz.prog 11 #[.pointer (some ⟨n + 7, 0, none⟩)] W fun e w' => e = .returned (.tuple #[.agg (evE 15 (day + 1) 0 0 0 0 0 0 0 (.slice none 0 0)), .int .i64 0]) /\ Below W.heap.size W w' := by
 obtain ⟨st, h1, h2, h3, h4, h5, h6⟩ := h
 exact next_roll (n + 7) (n + 1) (n + 2) (n + 3) (n + 4) (n + 6) day seq st hd W (h1.obj 0 rfl) h4
theorem nextS_ok (q : Qd) (n ga bh : Nat) (day seq b a cs k : Int) (ks : List Int) (hk : k = 1 ∨ k = 2 ∨ k = 3) (hd : 1 <= day /\ day < 3652059) (hb : 0 <= b /\ b <= 10000000000000) (W : World) (h : StX q n ga bh day seq b a cs true (k :: ks) W) :
 Calls Tryz.prog 11 #[.pointer (some ⟨n + 7, 0, none⟩)] W fun e w' => e = .returned (.tuple #[.agg (evE 14 10 k (worthV q day k b a) 0 0 0 0 0 (.slice none 0 0)), .int .i64 0]) /\ Below W.heap.size W w' := by
 obtain ⟨st, h1, h2, h3, h4, h5, h6⟩ := h
 exact next_step q (n + 7) (n + 1) (n + 2) (n + 3) (n + 4) (n + 6) ga bh day seq b a k ks st hk hd hb W h2 h4 (h1.of_mem (by intro f hf; simp only [List.mem_cons, List.not_mem_nil, or_false] at hf ⊢; rcases hf with rfl | rfl | rfl <;> simp [modN]))
theorem led_keep7 {f : Int -> Int} {n : Nat} {W w : World} {S : List Nat} {day seq : Int} {run : Bool} {st : Value} (h : Led f (n + 6) W) (hk : Keep [n + 7] W w) (hm : W.heap[n + 7]? = some (.cells (modN n day seq run st) 82)) : Led f (n + 6) w := h.keep hk (by simp) (by
 intro k hk
 simp only [List.mem_singleton] at hk
 subst hk
 exact .inr (fun es cl hc => by rw [hm] at hc; cases hc))
theorem applyB_ok (q : Qd) (n ga bh : Nat) (day seq b a cs : Int) (hq : 0 <= seq /\ seq <= 1000000000) (hd : 1 <= day /\ day < 3652059) (W : World) (h : StX q n ga bh day seq b a cs false [] W) :
 Calls Tryz.prog 7 #[.pointer (some ⟨n + 7, 0, none⟩), .agg (evE 13 day 0 0 0 0 0 0 0 (.slice none 0 0))] W fun e w' => e = .returned (.int .i64 0) /\ Keep (own2 n ga) W w' /\ StX q n ga bh day (seq + 1) b a cs true (dueKs day) w' := by
 obtain ⟨st, h1, h2, h3, h4, h5, h6⟩ := h
 have hgm := obj_lt (h1.obj 0 rfl)
 refine (apply_eod [n + 7] (n + 7) seq 13 day 0 0 0 0 0 0 0 (fun cm w => ∃ st', cm = modN n day seq true st' /\ StepsAt w st' (dueKs day)) W (by omega) hq (by rintro cm w ⟨st', rfl, _⟩; exact ⟨rfl, rfl⟩)
  (fun w hb' => nextB_ok q n ga bh day seq b a cs hd w (StX.step ⟨st, h1, h2, h3, h4, h5, h6⟩ hb')) (fun w hb' => same8_ok (ev13_ok (by unfold In64; omega)) w) (fun w hb' => ?_) (by simpa using hgm) hgm).mono ?_
 . have h0 := h1.step hb'
   refine (happen_begin (n + 7) (n + 1) (n + 2) (n + 3) (n + 4) (n + 6) ga bh day seq b a st hd w ⟨Keep.refl _ _, fun f hf => ?_⟩).mono ?_
   . simp only [List.mem_cons, List.not_mem_nil, or_false] at hf
     rcases hf with rfl | rfl | rfl
     . exact h0.obj 0 rfl
     . exact h0.obj 1 rfl
     . exact h0.obj 2 rfl
   . rintro e w' ⟨rfl, hk, st', hg, hs⟩
     exact ⟨rfl, hk, _, hg, st', rfl, hs⟩
 . rintro e w' ⟨rfl, w1, cm, hk, hm1, ⟨st', rfl, hs⟩, ht⟩
   have hg1 : w1.heap[ga]? = some (.cells (acctE b a bh) 112) := (hk.block _ (obj_lt (h1.obj 2 rfl)) (by simp; omega)).trans (h1.obj 2 rfl)
   obtain ⟨q1, q2⟩ := stX_turn (day' := day) (seq' := seq + 1) (b' := b) (a' := a) (run' := true) (st' := st') (ks := dueKs day) h1 h2 h5 hk (by intro k hk; simp only [List.mem_singleton] at hk; omega) hm1 hg1 (led_keep7 (S := []) h3 hk (h1.obj 0 rfl)) h3 h6 hs ht
   exact ⟨rfl, q1, q2⟩
theorem applyR_ok (q : Qd) (n ga bh : Nat) (day seq b a cs : Int) (hq : 0 <= seq /\ seq <= 1000000000) (hd : 1 <= day /\ day < 3652059) (W : World) (h : StX q n ga bh day seq b a cs true [] W) :
 Calls Tryz.prog 7 #[.pointer (some ⟨n + 7, 0, none⟩), .agg (evE 15 (day + 1) 0 0 0 0 0 0 0 (.slice none 0 0))] W fun e w' => e = .returned (.int .i64 0) /\ Keep (own2 n ga) W w' /\ StX q n ga bh (day + 1) (seq + 1) b a cs false [] w' := by
 obtain ⟨st, h1, h2, h3, h4, h5, h6⟩ := h
 have hgm := obj_lt (h1.obj 0 rfl)
 refine (apply_eod [n + 7] (n + 7) seq 15 (day + 1) 0 0 0 0 0 0 0 (fun cm w => cm = modN n (day + 1) seq false st) W (by omega) hq (by rintro cm w rfl; exact ⟨rfl, rfl⟩)
  (fun w hb' => nextR_ok q n ga bh day seq b a cs hd w (StX.step ⟨st, h1, h2, h3, h4, h5, h6⟩ hb')) (fun w hb' => same8_ok (ev15_ok (by unfold In64; omega)) w) (fun w hb' => ?_) (by simpa using hgm) hgm).mono ?_
 . have h0 := h1.step hb'
   refine (happen_roll (n + 7) (n + 1) (n + 2) (n + 3) (n + 4) (n + 6) ga day seq st hd w ⟨Keep.refl _ _, fun f hf => ?_⟩).mono ?_
   . simp only [List.mem_cons, List.not_mem_nil, or_false] at hf
     rcases hf with rfl | rfl
     . exact h0.obj 0 rfl
     . exact h0.obj 1 rfl
   . rintro e w' ⟨rfl, hk, hg⟩
     exact ⟨rfl, hk, _, hg, rfl⟩
 . rintro e w' ⟨rfl, w1, cm, hk, hm1, rfl, ht⟩
   have hg1 : w1.heap[ga]? = some (.cells (acctE b a bh) 112) := (hk.block _ (obj_lt (h1.obj 2 rfl)) (by simp; omega)).trans (h1.obj 2 rfl)
   obtain ⟨q1, q2⟩ := stX_turn (day' := day + 1) (seq' := seq + 1) (b' := b) (a' := a) (run' := false) (st' := st) (ks := []) h1 h2 h5 hk (by intro k hk; simp only [List.mem_singleton] at hk; omega) hm1 hg1 (led_keep7 (S := []) h3 hk (h1.obj 0 rfl)) h3 h6 (by obtain ⟨A, c, e, r⟩ := h4; exact ⟨A, c, e, r.1, r.2.1, fun h => absurd rfl h⟩) ht
   exact ⟨rfl, q1, q2⟩
theorem worth_in {q : Qd} {day k b a : Int} (hd : 1 <= day /\ day < 3652059) (hb : 0 <= b /\ b <= 10000000000000) (ha : 0 <= a /\ a <= 4000000000000000000) : 0 <= worthV q day k b a /\ worthV q day k b a <= 1000000000000000000 := by
 unfold worthV
 split
 . obtain ⟨n0, n1⟩ := Bas.part_in (h := q.how) hd
   have := Acc.dayG_in (b := b) (r := q.rate) (n := Bas.partN q.how day) (D := Bas.partD q.how) (mode := q.mo) hb q.ok.rate n0 n1 (Bas.partD_in q.how).1 (Bas.part_ratio hd)
   omega
 . split
   . unfold Acc.payX; split <;> omega
   . omega
theorem step_books {q : Qd} {day k b a cs : Int} (hk : k = 1 ∨ k = 2 ∨ k = 3) (ha : 0 <= a) (hcs : 0 <= cs /\ cs <= b) (hb : b <= 10000000000000) :
 stepF (lf cs b) k (worthV q day k b a) = lf cs (stepB k b a (worthV q day k b a)) /\ cs <= stepB k b a (worthV q day k b a) := by
 rcases hk with rfl | rfl | rfl
 . exact ⟨rfl, hcs.2⟩
 . refine ⟨lf_pay cs b _, ?_⟩
   show cs <= b + Acc.payX a (10000000000000 - b)
   have : 0 <= Acc.payX a (10000000000000 - b) := by unfold Acc.payX; split <;> omega
   omega
 . have e : worthV q day 3 b a = 0 := rfl
   rw [e]
   have e2 : stepB 3 b a 0 = b := by show b - 0 = b; omega
   rw [e2]
   exact ⟨mvF_zero _ _ _, hcs.2⟩
theorem applyS_ok (q : Qd) (n ga bh : Nat) (day seq b a cs k : Int) (ks : List Int) (hq : 0 <= seq /\ seq <= 1000000000) (hk : k = 1 ∨ k = 2 ∨ k = 3) (hd : 1 <= day /\ day < 3652059) (hb : 0 <= b /\ b <= 10000000000000) (ha : 0 <= a /\ a <= 4000000000000000000) (W : World) (h : StX q n ga bh day seq b a cs true (k :: ks) W) :
 Calls Tryz.prog 7 #[.pointer (some ⟨n + 7, 0, none⟩), .agg (evE 14 10 k (worthV q day k b a) 0 0 0 0 0 (.slice none 0 0))] W fun e w' => e = .returned (.int .i64 0) /\ Keep (own2 n ga) W w' /\ StX q n ga bh day (seq + 1) (stepB k b a (worthV q day k b a)) (stepA k b a (worthV q day k b a)) cs true ks w' := by
 have hv := worth_in (q := q) (k := k) hd hb ha
 obtain ⟨st, h1, h2, h3, h4, h5, h6⟩ := h
 have hgm := obj_lt (h1.obj 0 rfl)
 have hga := obj_lt (h1.obj 2 rfl)
 obtain ⟨hsb, hsc⟩ := step_books (q := q) (day := day) hk ha.1 h6 hb.2
 obtain ⟨v, hve⟩ : ∃ v, v = worthV q day k b a := ⟨_, rfl⟩
 have hnx := fun w (hb' : Below W.heap.size W w) => nextS_ok q n ga bh day seq b a cs k ks hk hd hb w (StX.step ⟨st, h1, h2, h3, h4, h5, h6⟩ hb')
 rw [<- hve] at hnx hv hsb hsc ⊢
 refine (apply_eod [n + 7, ga, n + 6] (n + 7) seq 14 10 k v 0 0 0 0 0 (fun cm w => ∃ st', cm = modN n day seq true st' /\ StepsAt w st' ks /\ Led (lf cs (stepB k b a v)) (n + 6) w /\ w.heap[ga]? = some (.cells (acctE (stepB k b a v) (stepA k b a v) bh) 112)) W (by omega) hq (by rintro cm w ⟨st', rfl, _⟩; exact ⟨rfl, rfl⟩)
  hnx (fun w hb' => same8_ok (ev14_ok (by unfold In64; omega) (by unfold In64; omega)) w) (fun w hb' => ?_) (by
   intro k hk
   simp only [List.mem_cons, List.not_mem_nil, or_false] at hk
   rcases hk with rfl | rfl | rfl
   . exact hgm
   . exact hga
   . exact h3.lt) hgm).mono ?_
 . have h0 := h1.step hb'
   refine (happen_step (n + 7) (n + 1) (n + 2) (n + 3) (n + 4) (n + 6) ga bh day seq b a k v ks st hk hb ha hv w ⟨Keep.refl _ _, fun f hf => ?_⟩ (lf cs b) (lf_in (by omega)) (h3.step hb') (h4.step hb')).mono ?_
   . simp only [List.mem_cons, List.not_mem_nil, or_false] at hf
     rcases hf with rfl | rfl | rfl
     . exact h0.obj 0 rfl
     . exact h0.obj 1 rfl
     . exact h0.obj 2 rfl
   . rintro e w' ⟨rfl, hk, hl, hg, st', hm, hs⟩
     rw [hsb] at hl
     exact ⟨rfl, hk, _, hm, st', rfl, hs, hl, hg⟩
 . rintro e w' ⟨rfl, w1, cm, hk, hm1, ⟨st', rfl, hs, hl, hg⟩, ht⟩
   obtain ⟨q1, q2⟩ := stX_turn (day' := day) (seq' := seq + 1) (b' := stepB k b a v) (a' := stepA k b a v) (run' := true) (st' := st') (ks := ks) h1 h2 h5 hk (by intro k hk; simp only [List.mem_cons, List.not_mem_nil, or_false] at hk; omega) hm1 hg hl h3 ⟨h6.1, hsc⟩ hs ht
   exact ⟨rfl, q1, q2⟩
end Mo
end Go.Proofs.YtkdnebalpdebeaaGreatDoor
