/- Lemmas of a claim: BkO, BkP -/
import Derived.Test.YtkdnebalpdebeaaGreatDoorG45
set_option linter.unusedVariables false
set_option linter.unusedSimpArgs false
set_option maxHeartbeats 16000000
set_option maxRecDepth 100000
namespace Go.Proofs.YtkdnebalpdebeaaGreatDoor
namespace Bk
open Go.RowKit Go.Deep Go.Shelf Mp Mo
open Cal (results_one results_two results_three)
theorem day_ok (W0 : World) (n gd bf gl gb : Nat) (own : List Nat) (nx : Int) (hnx : 1 <= nx /\ nx <= 4) (ev : Value) (Ms : Nat -> World -> Prop) (op a b c : Nat -> Int) (hop : op 2 = 15 /\ ∀ i, i < 2 -> op i ≠ 15)
 (hacts : ∀ i, i <= 2 -> Acts n own (evE (op i) (a i) (b i) (c i) 0 0 0 0 0 (.slice none 0 0)) (Ms i) (Ms (i + 1))) (hnext : ∀ i, i <= 2 -> ∀ w, Ms i w -> Calls Tryz.prog 11 #[.pointer (some ⟨n + 7, 0, none⟩)] w fun e w' => e = .returned (.tuple #[.agg (evE (op i) (a i) (b i) (c i) 0 0 0 0 0 (.slice none 0 0)), .int .i64 0]) /\ Below w.heap.size w w')
 (W : World) (h : Bs W0 n gd bf gl gb nx ev (Ms 0) W) :
 Calls Tryz.prog 109 #[.pointer (some ⟨gb, 0, none⟩), .agg (evE 13 9 0 0 0 0 0 0 0 (.slice none 0 0))] W fun x w' => x = .returned (.tuple #[.int .i64 3, .int .i64 0]) /\ ∃ ev', Kb ([gl, gd, bf, gb] ++ own) ev W ev' w' /\ Bs W0 n gd bf gl gb (nx + 3) ev' (Ms 3) w' := by
 have HA := Hd hacts
 have HN := Hd hnext
 have hb1 := Below.al (Below.refl _ W) (.cells (evE 13 9 0 0 0 0 0 0 0 (.slice none 0 0)) 34)
 have HB1 := Hd (h.step (fun hm => (HA.o 0 (by omega)).step _ _ hm hb1) hb1)
 have HKB1 := Hd (Kb.step (Kb.refl ([gl, gd, bf, gb] ++ own) ev W) hb1)
 have HOP := Hd hop
 obtain ⟨hn1, hn2⟩ := hnx
 clear h hacts hnext hb1 hop
 unfold evE at HB1 HKB1
 rw [evE]
 go_enter Tryz.func109, Tryz.ntmps109
 go_wp2_with fail
 go_loopw [27] (fun t wr => ∃ (i : Nat) (ev1 : Value), i <= 2 /\ t = .int .i64 i /\ Hi (Bs W0 n gd bf gl gb (nx + i) ev1 (Ms i) wr) /\ Hi (Kb ([gl, gd, bf, gb] ++ own) ev W ev1 wr)) (fun t _ => 2 - (intOf t).toNat)
 case atStart => exact ⟨0, ev, by omega, rfl, by simpa using HB1, HKB1⟩
 case round =>
  obtain ⟨i, ev1, hi, rfl, HB, HKB⟩ := hrel
  clear HB1 HKB1
  have c2 : wr.cell? ⟨gb, 2, none⟩ = some (.pointer (some ⟨n + 7, 0, none⟩)) := by rw [Blk.cell (t := 133) (cs := bankE gd gl (n + 7) ev1) HB.o.2.2.1 2]; rfl
  have hlt : decide ((i : Int) < 9) = true := by simp; omega
  go_wp2_with fail
  refine (HN.o i hi _ HB.o.2.2.2.2.2).mono ?_
  rintro e w2 ⟨rfl, hb2⟩
  have HB2 := Hd (HB.o.step (fun hm => (HA.o i hi).step _ _ hm hb2) hb2)
  have HKB2 := Hd (HKB.o.step hb2)
  obtain ⟨g7, hg7⟩ : ∃ g7, g7 = w2.heap.size := ⟨_, rfl⟩
  have H3 := Hd ((HasO.start [] w2).new hg7 (.cells evZ 34))
  have HG7 := Hd hg7
  clear hb2 c2 hg7
  go_wp2_with (first
   | (rw [<- HG7.o]
      refine wpList_turn rfl 34 (.tmp 7) (.tmp 36) rfl g7 0 (.agg (evE (op i) (a i) (b i) (c i) 0 0 0 0 0 (.slice none 0 0))) rfl rfl 34 evZ (evE (op i) (a i) (b i) (c i) 0 0 0 0 0 (.slice none 0 0)) (H3.o.get 0 rfl) (by kernel_rfl) (by simp [Value.cells, evE, evZ]) (by simp [Value.cells, Value.oneCell', evE, evZ]) rfl ?_; intro W4 HT4
      have hb4 := below_turn (W := w2) (Below.al (Below.refl _ w2) (.cells evZ 34)) HT4 (Nat.le_of_eq HG7.o.symm)
      have HB4 := Hd (HB2.o.step (fun hm => (HA.o i hi).step _ _ hm hb4) hb4)
      have HKB4 := Hd (HKB2.o.step hb4)
      have HE4 := Hd HT4.at_
      clear hb4 HT4 H3)
   | (refine wpListG_row rfl 34 (.tmp 7) rfl g7 rfl 34 (evE (op i) (a i) (b i) (c i) 0 0 0 0 0 (.slice none 0 0)) _ HE4.o Tryz.underlying34 rfl (by kernel_rfl) ?_))
  refine (happens_ok W0 n gd bf gl gb own (nx + i) (by omega) ev1 (Ms i) (Ms (i + 1)) (op i) (a i) (b i) (c i) 0 0 0 0 0 none 0 0 (HA.o i hi) W4 HB4.o).mono ?_
  rintro e w5 ⟨rfl, ev2, hkb, hbs⟩
  have hE5 : w5.heap[g7]? = some (.cells (evE (op i) (a i) (b i) (c i) 0 0 0 0 0 (.slice none 0 0)) 34) := by
   refine (hkb.1.block g7 (obj_lt HE4.o) (fun hm => ?_)).trans HE4.o
   obtain ⟨_, _, h3, ⟨qs, ops, L, _, _, q3, q4, _⟩, _, hM⟩ := HB4.o
   rcases List.mem_append.1 hm with hm | hm
   . rcases List.mem_append.1 hm with hm | hm
     . simp only [List.mem_cons, List.not_mem_nil, or_false] at hm
       rcases hm with rfl | rfl | rfl | rfl
       . exact absurd rfl (ne_alike HE4.o q3 rfl)
       . exact absurd rfl (ne_alike HE4.o q4.1 rfl)
       . exact absurd rfl (ne_alike HE4.o q4.2.1 rfl)
       . exact absurd rfl (ne_alike HE4.o h3 rfl)
     . exact ((HA.o i hi).ownm _ hM).not_mem HE4.o rfl hm
   . obtain ⟨_, _, _, _, ⟨kk, xs, k1, _⟩, _⟩ := HB2.o
     obtain ⟨_, cur, hc⟩ := own_type k1 g7 (by simpa using hm)
     have := obj_lt hc
     have := HG7.o
     omega
  have c0 : w5.cell? ⟨g7, 0, none⟩ = some (.int .u8 (op i)) := by rw [Blk.cell (t := 34) (cs := (evE (op i) (a i) (b i) (c i) 0 0 0 0 0 (.slice none 0 0))) hE5 0]; rfl
  have HKB5 := Hd (HKB4.o.trans hkb (fun k hk => .inl hk))
  have HB5 := Hd hbs
  clear hkb hbs hE5 HB4 HKB4 HE4 HB2 HKB2 HB HKB
  by_cases hi2 : i < 2
  . have o1 : (op i == 15) = false := beq_eq_false_iff_ne.2 (HOP.o.2 i hi2)
    go_wp2_with fail
    refine ⟨⟨i + 1, ev2, by omega, by simp, ?_, HKB5⟩, ?_⟩
    . rw [show nx + ((i + 1 : Nat) : Int) = nx + i + 1 by omega]; exact HB5
    . simp only [intOf]; omega
  . obtain rfl : i = 2 := by omega
    have o1 := HOP.o.1
    go_wp2_with fail
    refine bodyPost_ret (results_two rfl _ _ rfl rfl) rfl ⟨by simp, ev2, HKB5.o, ?_⟩
    have hq := HB5.o
    rw [show nx + ((2 : Nat) : Int) + 1 = nx + 3 by omega] at hq
    exact hq
theorem doesE_ok (W0 : World) (n gd bf gl gb : Nat) (S : List Nat) (nx nx' : Int) (ev : Value) (M M' : World -> Prop) (r : Int) (W : World) (h : Bs W0 n gd bf gl gb nx ev M W) (hMs : ∀ w w', M w -> Below w.heap.size w w' -> M w')
 (hc : ∀ w, Calls Tryz.prog 24 #[.agg (evE 13 9 0 0 0 0 0 0 0 (.slice none 0 0))] w fun x w' => x = .returned (.int .i64 0) /\ Below w.heap.size w w')
 (hd : ∀ w, Bs W0 n gd bf gl gb nx ev M w -> Calls Tryz.prog 109 #[.pointer (some ⟨gb, 0, none⟩), .agg (evE 13 9 0 0 0 0 0 0 0 (.slice none 0 0))] w fun x w' => x = .returned (.tuple #[.int .i64 r, .int .i64 0]) /\ ∃ ev', Kb S ev w ev' w' /\ Bs W0 n gd bf gl gb nx' ev' M' w') :
 Calls Tryz.prog 54 #[.pointer (some ⟨gb, 0, none⟩), .agg (evE 13 9 0 0 0 0 0 0 0 (.slice none 0 0))] W fun x w' => x = .returned (.tuple #[.int .i64 r, .int .i64 0]) /\ ∃ ev', Kb S ev W ev' w' /\ Bs W0 n gd bf gl gb nx' ev' M' w' := by
 have H1 : Hi (HasO [] W [(W.heap.size, .cells (evE 13 9 0 0 0 0 0 0 0 (.slice none 0 0)) 34), (gb, .cells (bankE gd gl (n + 7) ev) 133)] _) := Hd ((HasO.cons h.2.2.1 (HasO.start [] W)).new (g := W.heap.size) rfl (.cells (evE 13 9 0 0 0 0 0 0 0 (.slice none 0 0)) 34))
 have HB1 := Hd (h.step (fun hm => hMs _ _ hm (Below.al (Below.refl _ W) (.cells (evE 13 9 0 0 0 0 0 0 0 (.slice none 0 0)) 34))) (Below.al (Below.refl _ _) _))
 have HC := Hd hc
 have HD := Hd hd
 have HM := Hd hMs
 clear h hc hd hMs
 rw [evE]
 go_enter Tryz.func54, Tryz.ntmps54
 go_wp2_with (first | (refine wpListG_cell rfl 4 (.tmp 12) rfl gb 4 rfl 133 (bankE gd gl (n + 7) ev) (.bool false) rfl _ (H1.o.get 1 rfl) Tryz.underlying4 rfl ?_) | (refine wpListG_row rfl 34 (.tmp 3) rfl W.heap.size rfl 34 (evE 13 9 0 0 0 0 0 0 0 (.slice none 0 0)) _ (H1.o.get 0 rfl) Tryz.underlying34 rfl (by kernel_rfl) ?_))
 refine (HC.o _).mono ?_
 rintro e w2 ⟨rfl, hb2⟩
 have H2 := Hd (H1.o.step hb2)
 have HB2 := Hd (HB1.o.step (fun hm => HM.o _ _ hm hb2) hb2)
 have c0 : w2.cell? ⟨W.heap.size, 0, none⟩ = some (.int .u8 13) := by rw [Blk.cell (H2.o.get 0 rfl) 0]; rfl
 clear hb2 H1 HB1
 go_wp2_with (refine wpListG_row rfl 34 (.tmp 3) rfl W.heap.size rfl 34 (evE 13 9 0 0 0 0 0 0 0 (.slice none 0 0)) _ (H2.o.get 0 rfl) Tryz.underlying34 rfl (by kernel_rfl) ?_)
 refine (HD.o _ HB2.o).mono ?_
 rintro e w3 ⟨rfl, ev', hkb, hbs⟩
 have HKB := Hd (Kb.from_ H2.o.below hkb)
 have HBS := Hd hbs
 clear hkb hbs H2 HB2 c0
 go_wp2_with fail
 exact bodyPost_ret (results_two rfl _ _ rfl rfl) rfl ⟨rfl, ev', HKB.o, HBS.o⟩
end Bk
namespace Bk
open Go.RowKit Go.Deep Go.Shelf Mp Mo
open Pr (TS cat0)
open Pack (Fresh)
open Sha (rowB toI)
open Cal (results_one results_two results_three)
theorem write8_ok {op n0 n1 n2 n3 n4 n5 n6 n7 : Int} (ho : (ev8 op n0 n1 n2 n3 n4 n5 n6 n7).ok) (hf : (ev8 op n0 n1 n2 n3 n4 n5 n6 n7).form) (w : World) :
 Calls Tryz.prog 161 #[.agg (evE op n0 n1 n2 n3 n4 n5 n6 n7 (.slice none 0 0))] w fun x w' => ∃ v ps, x = .returned (.tuple #[v, .int .i64 0]) /\ Fresh w w' v ps /\ 1 <= ps.length /\ ps.length <= 261 /\ Byt ps := by
 have := Event.write_ok (ev8 op n0 n1 n2 n3 n4 n5 n6 n7) none 0 w ho hf RI.nil (by show 0 / 2 <= 0; omega)
 rw [row8] at this
 refine this.mono ?_
 rintro x w' ⟨v, rfl, hv⟩
 have hl := Event.wr_len _ hf rfl
 exact ⟨v, _, rfl, hv, by omega, hl.1, Event.wr_byt ho⟩
def TS1 (q : Qd) (w : World) (s : Value) : Prop := TS q.rate w s /\ ∃ (A : Option Addr) (c : Nat), s = .slice A 1 c /\ 1 <= c
theorem cloneT1_ok (q : Qd) (s : Value) (W : World) (h : TS q.rate W s) : Calls Tryz.prog 25 #[s] W fun e w' => (∃ s', e = .returned s' /\ TS1 q w' s') /\ Below W.heap.size W w' := by
 obtain ⟨g, c, cur, rfl, hg, h0, h1⟩ := h
 have hq : ∀ w : World, (binOp .eql 32 (.slice (some ⟨g, 0, none⟩) 1 c) (.slice none 0 0)).run Tryz.prog w = .ok (.bool false) w := fun w => Lib.run_eql_slice_nil w _ _ (some ⟨g, 0, none⟩) 1 c 0 0 Tryz.underlying32
 obtain ⟨i, hi, h2, h3, h4⟩ : ∃ i, Tryz.prog.info? 31 = some i /\ i.zero = some (.agg #[.int .i64 0, .int .i64 0]) /\ i.size = 2 /\ i.bytes = 16 := ⟨_, rfl, by kernel_rfl, by kernel_rfl, by kernel_rfl⟩
 have HG := Hd hg
 have c0 : Hi (∀ w : World, w.heap[g]? = some (.cells cur 31) -> ∀ (j : Nat) (u : Value), [Value.int .i64 0, Value.int .i64 q.rate][j]? = some u -> w.cell? ((⟨g, 0, none⟩ : Addr).add j) = some u) := Hd (fun w hw j u hj => by
  have hj2 : j < 2 := (List.getElem?_eq_some_iff.1 hj).1
  have : j = 0 ∨ j = 1 := by omega
  rw [Addr.add_lit, Blk.cell (t := 31) (cs := cur) hw]
  rcases this with rfl | rfl
  . simp only [Nat.zero_add] at *; rw [h0]; exact hj
  . simp only [Nat.zero_add] at *; rw [h1]; exact hj)
 clear h0 h1
 go_enter Tryz.func25, Tryz.ntmps25
 go_wp2_with (at_builtin
              refine wpList_append_own _ rfl (.tmp 5) (.tmp 6) 32 rfl W.heap.size 31 i (.agg #[.int .i64 0, .int .i64 0]) 2 16 Tryz.underlying32 hi h2 h3 h4 rfl (by omega) (.slice (some ⟨W.heap.size, 0, none⟩) 0 0) 0 [] rfl (World.ownsRow_made W #[] 0 (Nat.le_refl _) (Nat.zero_le _) rfl) ⟨g, 0, none⟩ 1 c [.int .i64 0, .int .i64 q.rate] rfl rfl (c0.o _ (((Below.al (Below.refl _ W) _).block g (obj_lt HG.o)).trans HG.o)) (by intro u hu; simp only [List.mem_cons, List.not_mem_nil, or_false] at hu; rcases hu with rfl | rfl <;> rfl) (by simp only [maxLen]; omega) (by omega) (by simp) ?_
              intro v1 w1 hown1 hg1 hat1)
 obtain ⟨_, hn | ⟨g1, cap, cu, rfl, hb, hh, hc1, hc2, hc3, hc4⟩⟩ := hown1
 . exact absurd hn.2 (by simp)
 have HCAP1 := Hd (show 1 <= cap by omega)
 go_wp2_with fail
 refine bodyPost_ret (results_one rfl _ _ rfl) rfl ⟨⟨_, rfl, ⟨g1, cap, cu, rfl, hh, ?_, ?_⟩, _, cap, rfl, HCAP1.o⟩, ?_⟩
 . have : (cu.toList.take 2)[0]? = some (.int .i64 0) := by rw [hc4]; rfl
   simpa using this
 . have : (cu.toList.take 2)[1]? = some (.int .i64 q.rate) := by rw [hc4]; rfl
   simpa using this
 . refine ((Below.refl _ W).alloc (Nat.le_refl _) _).grown hg1 (by simp) (by intro k hk; simp [Value.ownBlock] at hk; omega)
theorem planP1_ok (q : Qd) (n : Nat) (day : Int) (A : Option Addr) (k c : Nat) (W : World) (h : St0 n day W) (hs : TS1 q W (.slice A k c)) :
 Calls Tryz.prog 6 #[.pointer (some ⟨n + 7, 0, none⟩), .agg (evE 1 1 1 0 1 q.how q.mo 0 q.lim (.slice A k c))] W fun e w' => (∃ A' k' c', e = .returned (.tuple #[.agg (evE 1 1 1 0 1 q.how q.mo 0 q.lim (.slice A' k' c')), .int .i64 0, .int .i64 0]) /\ TS1 q w' (.slice A' k' c')) /\ Below W.heap.size W w' := by
 obtain ⟨g, rfl, rfl⟩ := ts_slice hs.1
 refine plan_gen (n + 7) (n + 2) (n + 1) (n + 3) (n + 4) (n + 6) day 0 0 1 1 1 0 1 q.how q.mo 0 q.lim (some ⟨g, 0, none⟩) 1 c (.slice none 0 0) (TS1 q) W (by omega) (fun w w' s h hb => ⟨h.1.step hb, h.2⟩) (fun w s h => ?_) (fun w w' s g h hk hg => ⟨ts_turn h.1 hk hg, h.2⟩) (fun w => checkP_ok q _ c w) (fun w hb => cloneT1_ok q _ w (hs.1.step hb)) (fun gp A' k' c' w hw ht => ?_) ?_
 . obtain ⟨⟨g, c, _, rfl, _⟩, _⟩ := h; exact ⟨_, _, _, rfl⟩
 . obtain ⟨g', rfl, rfl⟩ := ts_slice ht.1
   have h0 := h.1.step hw.below
   refine lookProduct_ok q gp (n + 7) (n + 2) (n + 1) n (n + 3) (n + 4) (n + 6) day 0 false (.slice none 0 0) g' c' w ht.1 ⟨Keep.refl _ _, fun f hf => ?_⟩
   simp only [cat0, List.mem_cons, List.not_mem_nil, or_false] at hf
   rcases hf with rfl | rfl | rfl | rfl
   . exact hw.obj 0 rfl
   . exact h0.obj 0 rfl
   . exact h0.obj 1 rfl
   . exact h0.obj 2 rfl
 . exact h.1.of_mem (by simp [modN])
theorem writeP_ok (q : Qd) (A : Option Addr) (k c : Nat) (w : World) (h : TS1 q w (.slice A k c)) :
 Calls Tryz.prog 161 #[.agg (evE 1 1 1 0 1 q.how q.mo 0 q.lim (.slice A k c))] w fun x w' => ∃ v ps, x = .returned (.tuple #[v, .int .i64 0]) /\ Fresh w w' v ps /\ 1 <= ps.length /\ ps.length <= 261 /\ Byt ps := by
 obtain ⟨h, _, _, e, hc⟩ := h
 cases e
 obtain ⟨g, rfl, _⟩ := ts_slice h
 have := Event.write_ok (evP q) (some ⟨g, 0, none⟩) c w (evP_ok q) (evP_form q) (ri_ts h) (by simpa [evP] using hc)
 rw [rowP] at this
 refine this.mono ?_
 rintro x w' ⟨v, rfl, hv⟩
 have hl := Event.wr_len _ (evP_form q) (by simp [evP])
 exact ⟨v, _, rfl, hv, by omega, hl.1, Event.wr_byt (evP_ok q)⟩
theorem acts8 {n : Nat} {own : List Nat} {op n0 n1 n2 n3 n4 n5 n6 n7 : Int} {M M' : World -> Prop} (ho : (ev8 op n0 n1 n2 n3 n4 n5 n6 n7).ok) (hf : (ev8 op n0 n1 n2 n3 n4 n5 n6 n7).form) (h1 : ∀ w w', M w -> Below w.heap.size w w' -> M w') (h2 : ∀ w w' S, M w -> Keep S w w' -> FarM n w S -> M w')
 (h3 : ∀ w w', M' w -> Below w.heap.size w w' -> M' w') (h4 : ∀ w w' S, M' w -> Keep S w w' -> FarM n w S -> M' w') (h5 : ∀ w, M w -> OwnM n own w) (h6 : ∀ w, M w -> Calls Tryz.prog 7 #[.pointer (some ⟨n + 7, 0, none⟩), .agg (evE op n0 n1 n2 n3 n4 n5 n6 n7 (.slice none 0 0))] w fun x w' => x = .returned (.int .i64 0) /\ Keep own w w' /\ M' w') :
 Acts n own (evE op n0 n1 n2 n3 n4 n5 n6 n7 (.slice none 0 0)) M M' := ⟨h1, h2, h3, h4, h5, fun w _ => write8_ok ho hf w, h6⟩
theorem cmd8 {n : Nat} {own : List Nat} {op n0 n1 n2 n3 n4 n5 n6 n7 r : Int} {M M' : World -> Prop} (hop : 0 <= op /\ op <= 12) (ho : (ev8 op n0 n1 n2 n3 n4 n5 n6 n7).ok) (hf : (ev8 op n0 n1 n2 n3 n4 n5 n6 n7).form) (hA : Acts n own (evE op n0 n1 n2 n3 n4 n5 n6 n7 (.slice none 0 0)) M M')
 (hp : ∀ w, M w -> Calls Tryz.prog 6 #[.pointer (some ⟨n + 7, 0, none⟩), .agg (evE op n0 n1 n2 n3 n4 n5 n6 n7 (.slice none 0 0))] w fun x w' => (∃ A' k' c', x = .returned (.tuple #[.agg (evE op n0 n1 n2 n3 n4 n5 n6 n7 (.slice A' k' c')), .int .i64 r, .int .i64 0]) /\ TN w' (.slice A' k' c')) /\ Below w.heap.size w w') :
 Cmd n own op n0 n1 n2 n3 n4 n5 n6 n7 none 0 0 r TN M M' where
 hop := hop
 step := hA.step
 tstep := fun _ _ _ h _ => h
 tkeep := fun _ _ _ _ h _ _ => h
 check := fun w _ => check8_ok ho hf w
 plan := hp
 acts := fun A' k' c' =>
  { step := fun w w' h hb => ⟨hA.step w w' h.1 hb, h.2⟩
    far := fun w w' S h hk hf => ⟨hA.far w w' S h.1 hk hf, h.2⟩
    step' := hA.step'
    far' := hA.far'
    ownm := fun w h => hA.ownm w h.1
    write := fun w h => by obtain ⟨hm, ht⟩ := h; cases ht; exact hA.write w hm
    appl := fun w h => by obtain ⟨hm, ht⟩ := h; cases ht; exact hA.appl w hm }
theorem cmdP (q : Qd) (n : Nat) (day : Int) (g c : Nat) : Cmd n (own0 n) 1 1 1 0 1 q.how q.mo 0 q.lim (some ⟨g, 0, none⟩) 1 c 0 (TS1 q) (fun w => St0 n day w /\ TS1 q w (.slice (some ⟨g, 0, none⟩) 1 c)) (St1 q n day) where
 hop := by omega
 step := fun w w' h hb => ⟨h.1.step hb, h.2.1.step hb, h.2.2⟩
 tstep := fun w w' s h hb => ⟨h.1.step hb, h.2⟩
 tkeep := fun w w' s g h hk hg => ⟨ts_turn h.1 hk hg, h.2⟩
 check := fun w _ => checkP_ok q _ _ w
 plan := fun w h => planP1_ok q n day _ _ _ w h.1 h.2
 acts := fun A' k' c' =>
  { step := fun w w' h hb => ⟨⟨h.1.1.step hb, h.1.2.1.step hb, h.1.2.2⟩, h.2.1.step hb, h.2.2⟩
    far := fun w w' S h hk hf => ⟨⟨st0_far h.1.1 hk hf, ts_far h.1.2.1 hk hf, h.1.2.2⟩, ts_far h.2.1 hk hf, h.2.2⟩
    step' := fun w w' h hb => h.step hb
    far' := fun w w' S h hk hf => st1_far h hk hf
    ownm := fun w h => st0_own h.1.1
    write := fun w h => writeP_ok q A' k' c' w h.2
    appl := fun w h => applyP_ok q n day A' k' c' w h.1.1 h.2.1 }
def S2 (q : Qd) (n : Nat) (day seq b a cs : Int) (w : World) : Prop := ∃ ga bh, StX q n ga bh day seq b a cs false [] w
theorem cmdO (q : Qd) (n : Nat) (day : Int) (hd : 1 <= day /\ day <= 3652059) : Cmd n (ownO n) 2 10 1 0 0 0 0 0 0 none 0 0 0 TN (St1 q n day) (S2 q n day 2 0 0 0) :=
 cmd8 (by omega) ev2_ok ev2_form (acts8 ev2_ok ev2_form (fun w w' h hb => h.step hb) (fun w w' S h hk hf => st1_far h hk hf) (fun w w' h hb => by obtain ⟨ga, bh, h⟩ := h; exact ⟨ga, bh, h.step hb⟩) (fun w w' S h hk hf => by obtain ⟨ga, bh, h⟩ := h; exact ⟨ga, bh, st2_far h hk hf⟩) (fun w h => st1_own h)
  (fun w h => (applyO_ok q n day hd w h).mono fun e w' he => ⟨he.1, he.2.1, by obtain ⟨_, _, ga, bh, _, h⟩ := he; exact ⟨ga, bh, h⟩⟩)) (fun w h => planO_ok q n day hd w h)
theorem cmdD (q : Qd) (n ga bh : Nat) (day : Int) : Cmd n (own2 n ga) 4 10 1000000 0 0 0 0 0 0 none 0 0 1000000 TN (StX q n ga bh day 2 0 0 0 false []) (StX q n ga bh day 3 1000000 0 (0 + 1000000) false []) :=
 cmd8 (by omega) (ev4_ok (by unfold In64; omega)) ev4_form (acts8 (ev4_ok (by unfold In64; omega)) ev4_form (fun w w' h hb => h.step hb) (fun w w' S h hk hf => st2_far h hk hf) (fun w w' h hb => h.step hb) (fun w w' S h hk hf => st2_far h hk hf) (fun w h => st2_own h)
  (fun w h => applyD_ok q n ga bh day 2 0 0 0 1000000 (by omega) (by omega) (by omega) (by omega) w h)) (fun w h => planD_ok q n ga bh day 2 0 0 0 1000000 (by omega) (by omega) (by omega) w h)
theorem actsB (q : Qd) (n ga bh : Nat) (day seq b a cs : Int) (hq : 0 <= seq /\ seq <= 1000000000) (hd : 1 <= day /\ day < 3652059) : Acts n (own2 n ga) (evE 13 day 0 0 0 0 0 0 0 (.slice none 0 0)) (StX q n ga bh day seq b a cs false []) (StX q n ga bh day (seq + 1) b a cs true (dueKs day)) :=
 acts8 (ev13_ok (by unfold In64; omega)) ev13_form (fun w w' h hb => h.step hb) (fun w w' S h hk hf => st2_far h hk hf) (fun w w' h hb => h.step hb) (fun w w' S h hk hf => st2_far h hk hf) (fun w h => st2_own h) (fun w h => applyB_ok q n ga bh day seq b a cs hq hd w h)
theorem actsR (q : Qd) (n ga bh : Nat) (day seq b a cs : Int) (hq : 0 <= seq /\ seq <= 1000000000) (hd : 1 <= day /\ day < 3652059) : Acts n (own2 n ga) (evE 15 (day + 1) 0 0 0 0 0 0 0 (.slice none 0 0)) (StX q n ga bh day seq b a cs true []) (StX q n ga bh (day + 1) (seq + 1) b a cs false []) :=
 acts8 (ev15_ok (by unfold In64; omega)) ev15_form (fun w w' h hb => h.step hb) (fun w w' S h hk hf => st2_far h hk hf) (fun w w' h hb => h.step hb) (fun w w' S h hk hf => st2_far h hk hf) (fun w h => st2_own h) (fun w h => applyR_ok q n ga bh day seq b a cs hq hd w h)
theorem actsS (q : Qd) (n ga bh : Nat) (day seq b a cs k : Int) (ks : List Int) (hq : 0 <= seq /\ seq <= 1000000000) (hk : k = 1 ∨ k = 2 ∨ k = 3) (hd : 1 <= day /\ day < 3652059) (hb : 0 <= b /\ b <= 10000000000000) (ha : 0 <= a /\ a <= 4000000000000000000) :
 Acts n (own2 n ga) (evE 14 10 k (worthV q day k b a) 0 0 0 0 0 (.slice none 0 0)) (StX q n ga bh day seq b a cs true (k :: ks)) (StX q n ga bh day (seq + 1) (stepB k b a (worthV q day k b a)) (stepA k b a (worthV q day k b a)) cs true ks) := by
 have hv := worth_in (q := q) (k := k) hd hb ha
 exact acts8 (ev14_ok (by unfold In64; omega) (by unfold In64; omega)) ev14_form (fun w w' h hb => h.step hb) (fun w w' S h hk hf => st2_far h hk hf) (fun w w' h hb => h.step hb) (fun w w' S h hk hf => st2_far h hk hf) (fun w h => st2_own h) (fun w h => applyS_ok q n ga bh day seq b a cs k ks hq hk hd hb ha w h)
end Bk
end Go.Proofs.YtkdnebalpdebeaaGreatDoor
