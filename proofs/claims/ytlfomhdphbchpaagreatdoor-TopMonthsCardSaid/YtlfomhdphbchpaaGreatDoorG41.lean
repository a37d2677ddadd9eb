/- Lemmas of a claim, several texts in one: BkN -/
import Derived.Test.YtlfomhdphbchpaaGreatDoorG40
import Derived.Test.YtlfomhdphbchpaaGreatDoorG17
/-! bank.does of a command, bank.day, bank.Do -/
namespace Go.Proofs.YtlfomhdphbchpaaGreatDoor.Bk
open Go.RowKit Go.Deep Go.Shelf Go.Proofs.YtlfomhdphbchpaaGreatDoor.Mp Go.Proofs.YtlfomhdphbchpaaGreatDoor.Mo
open Go.Proofs.YtlfomhdphbchpaaGreatDoor.Pr (Below.of_grown Keep.of_grown)
open Go.Proofs.YtlfomhdphbchpaaGreatDoor.Cal (results_one results_two results_three)
set_option linter.unusedVariables false
set_option linter.unusedSimpArgs false
theorem wp_region_cutA {P : Program} {id : Nat} {Q : Exit → Act → World → Prop} {a : Act} {w : World} {l : List Oper} (C : World → Prop) (F : Nat → Option Addr → Nat → Nat → World → Prop) (G : Nat → Option Addr → Nat → Nat → Act) (p : Plan) (hm : P.follows .mixedOrders = true) (hB : mixT l p = true)
    (hC : C w.drew) (h : wpPlan P l C (fun a' w' => ∃ x y z t, F x y z t w' ∧ a' = G x y z t) p a w.drew) (hR : ∀ x y z t w', F x y z t w' → Q .normal (G x y z t) w') : (Code.region id l.toArray true).wp P Q a w :=
  wp_region_cut C _ p hm hB hC h (by rintro a' w' ⟨x, y, z, t, hF, rfl⟩; exact hR _ _ _ _ _ hF)
theorem below_turn {W w w' : World} {g : Nat} {o : Obj} (h : Below W.heap.size W w) (ht : Turn w g o w') (hg : W.heap.size ≤ g) : Below W.heap.size W w' := ((Keep.of_below (S := []) h).trans ht.keep (fun k hk => .inr (by simp only [List.mem_singleton] at hk; subst hk; exact hg))).below
theorem Bs.withM {W0 : World} {n gd bf gl gb : Nat} {nx : Int} {ev : Value} {M M2 : World → Prop} {w : World} (h : Bs W0 n gd bf gl gb nx ev M w) (hM : M2 w) : Bs W0 n gd bf gl gb nx ev M2 w := ⟨h.1, h.2.1, h.2.2.1, h.2.2.2.1, h.2.2.2.2.1, hM⟩
/-- a reply of ours has turned -/
theorem Bs.reply {W0 : World} {n gd bf gl gb g : Nat} {nx : Int} {ev : Value} {M : World → Prop} {cur : Array Value} {w w' : World} (h : Bs W0 n gd bf gl gb nx ev M w) (hk : Keep [g] w w') (hg : w.heap[g]? = some (.cells cur 51)) (hW : W0.heap.size ≤ g) (hM : ∀ S, FarM n w S → Keep S w w' → M w') : Bs W0 n gd bf gl gb nx ev M w' := by
  obtain ⟨h1, h2, h3, ⟨qs, ops, L, q1, q2, q3, q4, q5⟩, ⟨k, xs, k1, k2⟩, h6⟩ := h
  have hne : ∀ {x : Nat} {o : Obj}, w.heap[x]? = some o → alikeO (.cells cur 51) o = false → x ∉ [g] := fun hx ha hm => by
    simp only [List.mem_singleton] at hm
    subst hm
    rw [hg] at hx; cases hx
    simp [alikeO] at ha
  refine ⟨h1, ((Keep.of_below (S := []) h2).trans hk (fun k hm => .inr (by simp only [List.mem_singleton] at hm; omega))).below, (hk.block _ (obj_lt h3) (hne h3 rfl)).trans h3, ⟨qs, ops, L, q1, q2, (hk.block _ (obj_lt q3) (hne q3 rfl)).trans q3, q4.keep hk (hne q4.1 rfl) (hne q4.2.1 rfl) ?_, q5⟩, ⟨k, xs, own_keepS k1 hk (fun r hr => ?_), k2⟩, hM [g] (fun k hm => .inr ⟨cur, _, by simp only [List.mem_singleton] at hm; subst hm; exact hg, rfl⟩) hk⟩
  · intro k hm c hc
    simp only [List.mem_singleton] at hm
    subst hm
    rw [hg] at hc; cases hc
  · obtain ⟨_, c, hc⟩ := own_type k1 r hr
    exact hne hc rfl
/-- what does asks of a command -/
structure Cmd (n : Nat) (own : List Nat) (op n0 n1 n2 n3 n4 n5 n6 n7 : Int) (A : Option Addr) (k c : Nat) (r : Int) (T : World → Value → Prop) (M M' : World → Prop) : Prop where
  hop : 0 ≤ op ∧ op ≤ 12
  step : ∀ w w', M w → Below w.heap.size w w' → M w'
  tstep : ∀ w w' s, T w s → Below w.heap.size w w' → T w' s
  tkeep : ∀ w w' s g, T w s → Keep [g] w w' → (∀ cur, w.heap[g]? ≠ some (.cells cur 66)) → T w' s
  check : ∀ w, M w → Calls Tryz.prog 20 #[.agg (evE op n0 n1 n2 n3 n4 n5 n6 n7 (.slice A k c))] w fun x w' => x = .returned (.int .i64 0) ∧ Below w.heap.size w w'
  plan : ∀ w, M w → Calls Tryz.prog 8 #[.pointer (some ⟨n + 7, 0, none⟩), .agg (evE op n0 n1 n2 n3 n4 n5 n6 n7 (.slice A k c))] w fun x w' => (∃ A' k' c', x = .returned (.tuple #[.agg (evE op n0 n1 n2 n3 n4 n5 n6 n7 (.slice A' k' c')), .int .i64 r, .int .i64 0]) ∧ T w' (.slice A' k' c')) ∧ Below w.heap.size w w'
  acts : ∀ A' k' c', Acts n own (evE op n0 n1 n2 n3 n4 n5 n6 n7 (.slice A' k' c')) (fun w => M w ∧ T w (.slice A' k' c')) M'
set_option maxHeartbeats 8000000 in
set_option maxRecDepth 100000 in
theorem doesC_ok (W0 : World) (n gd bf gl gb : Nat) (own : List Nat) (nx : Int) (hnx : 1 ≤ nx ∧ nx ≤ 6) (ev : Value) (M M' : World → Prop) (op n0 n1 n2 n3 n4 n5 n6 n7 : Int) (A : Option Addr) (k c : Nat) (r : Int) (T : World → Value → Prop) (hA : Cmd n own op n0 n1 n2 n3 n4 n5 n6 n7 A k c r T M M') (W : World) (h : Bs W0 n gd bf gl gb nx ev M W) :
    Calls Tryz.prog 36 #[.pointer (some ⟨gb, 0, none⟩), .agg (evE op n0 n1 n2 n3 n4 n5 n6 n7 (.slice A k c))] W fun x w' => x = .returned (.tuple #[.int .i64 r, .int .i64 0]) ∧ ∃ ev', Kb ([gl, gd, bf, gb] ++ own) ev W ev' w' ∧ Bs W0 n gd bf gl gb (nx + 1) ev' M' w' := by
  have HA := Lib.hid hA
  have HNX := Lib.hid hnx
  have H1 : Hid (HasO [] W [(W.heap.size, .cells (evE op n0 n1 n2 n3 n4 n5 n6 n7 (.slice A k c)) 32), (gb, .cells (bankE gd gl (n + 7) ev) 93)] _) := Lib.hid ((HasO.cons h.2.2.1 (HasO.start [] W)).new (g := W.heap.size) rfl (.cells (evE op n0 n1 n2 n3 n4 n5 n6 n7 (.slice A k c)) 32))
  have HB1 := Lib.hid (h.step (fun hm => HA.out.step _ _ hm (Below.al (Below.refl _ W) (.cells (evE op n0 n1 n2 n3 n4 n5 n6 n7 (.slice A k c)) 32))) (Below.al (Below.refl _ _) _))
  obtain ⟨ho1, ho2⟩ := hA.hop
  have o1 : (op == 13) = false := beq_eq_false_iff_ne.2 (by omega)
  clear hA hnx h
  rw [evE]
  go_enter Tryz.func36, Tryz.ntmps36
  go_wp2_with (first | (refine wpListG_cell rfl 4 (.tmp 12) rfl gb 4 rfl 93 (bankE gd gl (n + 7) ev) (.bool false) rfl _ (H1.out.get 1 rfl) Tryz.underlying4 rfl ?_) | (refine wpListG_row rfl 32 (.tmp 3) rfl W.heap.size rfl 32 (evE op n0 n1 n2 n3 n4 n5 n6 n7 (.slice A k c)) _ (H1.out.get 0 rfl) Tryz.underlying32 rfl (by first | kernel_rfl | (rw [enc_size]; kernel_rfl)) ?_))
  refine (HA.out.check _ HB1.out.2.2.2.2.2).mono ?_
  rintro e w2 ⟨rfl, hb2⟩
  have H2 := Lib.hid (H1.out.step hb2)
  have HB2 := Lib.hid (HB1.out.step (fun hm => HA.out.step _ _ hm hb2) hb2)
  have c0 : w2.cell? ⟨W.heap.size, 0, none⟩ = some (.int .u8 op) := by rw [Blk.cell (H2.out.get 0 rfl) 0]; rfl
  clear hb2 H1 HB1
  go_wp2_with fail
  apply wp_region_cutA (fun w' => HasO [] W [(W.heap.size, .cells (evE op n0 n1 n2 n3 n4 n5 n6 n7 (.slice A k c)) 32), (gb, .cells (bankE gd gl (n + 7) ev) 93)] w') (fun x A' k' c' w' => HasO [] W ((x, .cells (evE op n0 n1 n2 n3 n4 n5 n6 n7 (.slice A' k' c')) 32) :: [(W.heap.size, .cells (evE op n0 n1 n2 n3 n4 n5 n6 n7 (.slice A k c)) 32), (gb, .cells (bankE gd gl (n + 7) ev) 93)]) w' ∧ T w' (.slice A' k' c') ∧ Below w2.heap.size w2 w') _ (.seg [0, 1, 2, 3, 4] (.fork 5 (.seg [6, 7, 8, 9] (.turn 10 (.turn 11 (.turn 12 (.turn 13 .nil))))) 10 (.turn 5 (.seg [6, 7, 8, 9] (.turn 11 (.turn 12 (.turn 13 .nil))))))) (by kernel_rfl) (by kernel_rfl) H2.out.drew
  case h =>
    simp only [wpPlan, List.map_cons, List.map_nil, opAt, List.getElem?_cons_succ, List.getElem?_cons_zero, Option.getD_some]
    repeat (go_big_quiet_step ((intro _; rfl)))
    refine wpQuiet_cell 24 (.tmp 30) rfl rfl ⟨gb, 2, none⟩ rfl (.pointer (some ⟨n + 7, 0, none⟩)) _ (fun w hw => (hw.get 1 rfl).cell 2) Tryz.underlying24 rfl (fun KK hKK => ?_)
    go_simp
    refine hKK _ ?_
    clear hKK KK
    refine wpQuiet_row 32 (.tmp 3) rfl rfl W.heap.size rfl 32 (evE op n0 n1 n2 n3 n4 n5 n6 n7 (.slice A k c)) _ (fun w hw => hw.get 0 rfl) Tryz.underlying32 rfl (by first | kernel_rfl | (rw [enc_size]; kernel_rfl)) (fun KK hKK => ?_)
    go_simp
    refine hKK _ ?_
    clear hKK KK
    repeat (go_big_quiet_step ((intro _; rfl)))
    refine wpQuiet_nil ?_
    have HD := Lib.hid H2.out.drew
    have HBD := Lib.hid (HB2.out.step (fun hm => HA.out.step _ _ hm (Below.refl _ _).drew) (Below.refl _ _).drew)
    refine ⟨?_, ?_⟩
    · go_wp2_with fail
      refine (HA.out.plan _ HBD.out.2.2.2.2.2).mono ?_
      rintro e w11 ⟨⟨A', k', c', rfl, ht⟩, hb1⟩
      have HT1 := Lib.hid ht
      have H3 := Lib.hid (HD.out.step hb1)
      have HBB := Lib.hid ((Below.refl _ w2).drew.trans hb1)
      clear hb1 ht HD HBD
      go_wp2_with fail
      refine ⟨H3.out, ?_⟩
      repeat (go_big_quiet_step ((intro _; rfl)))
      refine wpQuiet_nil ?_
      go_wp2_with fail
      have hfr : ∀ f ∈ ([(W.heap.size, .cells (evE op n0 n1 n2 n3 n4 n5 n6 n7 (.slice A k c)) 32), (gb, .cells (bankE gd gl (n + 7) ev) 93)] : List (Nat × Obj)), f.1 ≠ w11.heap.size := fun f hf => Nat.ne_of_lt (obj_lt (H3.out.2 f hf))
      have HNA := Lib.hid (And.intro H3.out.size HBB.out.size)
      obtain ⟨g7, hg7⟩ : ∃ g7, g7 = w11.heap.size := ⟨_, rfl⟩
      have H4 := Lib.hid (H3.out.new hg7 (.cells evZ 32))
      have HT2 := Lib.hid (HA.out.tstep _ _ _ HT1.out (Below.al (Below.refl _ _) (.cells evZ 32)))
      have HBC := Lib.hid (HBB.out.trans ((Below.al (Below.refl _ _) (.cells evZ 32)).mono HBB.out.size))
      rw [← hg7] at hfr HNA
      rw [← hg7]
      have HFR := Lib.hid hfr
      clear hg7 hfr H3 HT1 HBB
      refine ⟨H4.out.tail, ?_⟩
      go_wp2_with (refine wpList_turn rfl 32 (.tmp 6) (.tmp 34) rfl g7 0 (.agg (evE op n0 n1 n2 n3 n4 n5 n6 n7 (.slice A' k' c'))) rfl rfl 32 evZ (evE op n0 n1 n2 n3 n4 n5 n6 n7 (.slice A' k' c')) (H4.out.get 0 rfl) (by first | kernel_rfl | (rw [enc_size]; kernel_rfl)) (by first | (simp [Value.cells]; done) | (simp [Value.cells, evE, evZ]; done) | exact Nat.le_refl _) (by first | exact decE_all _ _ | (simp [Value.cells, Value.oneCell']; done) | (simp [Value.cells, Value.oneCell', evE, evZ]; done) | (rw [Array.all_eq_true']; simp [Value.cells, Value.oneCell', evE, evZ])) rfl ?_; intro W6 HT6)
      have H5 := Lib.hid (H4.out.turn 0 rfl HT6 (.inr HNA.out.1) (fun f hf => HFR.out f (by simpa using hf)))
      have HT3 := Lib.hid (HA.out.tkeep _ _ _ _ HT2.out HT6.keep (by intro cur hc; rw [H4.out.obj 0 rfl] at hc; cases hc))
      have HBE := Lib.hid (below_turn (W := w2) HBC.out HT6 HNA.out.2)
      refine ⟨H5.out.tail, ?_⟩
      go_wp2_with fail
      refine ⟨H5.out.tail, ?_⟩
      go_wp2_with fail
      refine ⟨H5.out.tail, ?_⟩
      exact ⟨g7, A', k', c', ⟨H5.out, HT3.out, HBE.out⟩, rfl⟩
    · go_wp2_with fail
      have hfr : ∀ f ∈ ([(W.heap.size, .cells (evE op n0 n1 n2 n3 n4 n5 n6 n7 (.slice A k c)) 32), (gb, .cells (bankE gd gl (n + 7) ev) 93)] : List (Nat × Obj)), f.1 ≠ w2.heap.size := fun f hf => Nat.ne_of_lt (obj_lt (H2.out.2 f hf))
      have HNA := Lib.hid (And.intro H2.out.size (Nat.le_refl w2.heap.size))
      obtain ⟨g7, hg7⟩ : ∃ g7, g7 = w2.heap.size := ⟨_, rfl⟩
      have H3 : Hid (HasO [] W ((g7, .cells evZ 32) :: [(W.heap.size, .cells (evE op n0 n1 n2 n3 n4 n5 n6 n7 (.slice A k c)) 32), (gb, .cells (bankE gd gl (n + 7) ev) 93)]) _) := Lib.hid ((H2.out.new hg7 (.cells evZ 32)).drew)
      have HB3 := Lib.hid (HB2.out.step (fun hm => HA.out.step _ _ hm (Below.al (Below.refl _ _) (.cells evZ 32)).drew) (Below.al (Below.refl _ _) (.cells evZ 32)).drew)
      have HBB := Lib.hid ((Below.al (Below.refl _ w2) (.cells evZ 32)).drew)
      rw [← hg7] at hfr HNA
      rw [← hg7]
      have HFR := Lib.hid hfr
      clear hfr HD HBD
      refine ⟨H3.out.tail, ?_⟩
      go_wp2_with fail
      refine (HA.out.plan _ HB3.out.2.2.2.2.2).mono ?_
      rintro e w11 ⟨⟨A', k', c', rfl, ht⟩, hb1⟩
      have HT1 := Lib.hid ht
      have H4 := Lib.hid (H3.out.step hb1)
      have HBC := Lib.hid (HBB.out.trans (hb1.mono HBB.out.size))
      have HNB := Lib.hid (show W.heap.size ≤ g7 ∧ w2.heap.size ≤ g7 from ⟨HNA.out.1, Nat.le_of_eq hg7.symm⟩)
      have HG7 := Lib.hid hg7
      clear hb1 ht H3 HB3 HBB hg7 HNA
      go_wp2_with fail
      refine ⟨H4.out.tail, ?_⟩
      repeat (go_big_quiet_step ((intro _; rfl)))
      refine wpQuiet_nil ?_
      go_wp2_with (refine wpList_turn rfl 32 (.tmp 6) (.tmp 34) rfl g7 0 (.agg (evE op n0 n1 n2 n3 n4 n5 n6 n7 (.slice A' k' c'))) rfl rfl 32 evZ (evE op n0 n1 n2 n3 n4 n5 n6 n7 (.slice A' k' c')) (H4.out.get 0 rfl) (by first | kernel_rfl | (rw [enc_size]; kernel_rfl)) (by first | (simp [Value.cells]; done) | (simp [Value.cells, evE, evZ]; done) | exact Nat.le_refl _) (by first | exact decE_all _ _ | (simp [Value.cells, Value.oneCell']; done) | (simp [Value.cells, Value.oneCell', evE, evZ]; done) | (rw [Array.all_eq_true']; simp [Value.cells, Value.oneCell', evE, evZ])) rfl ?_; intro W6 HT6)
      have H5 := Lib.hid (H4.out.turn 0 rfl HT6 (.inr HNB.out.1) (fun f hf => HFR.out f (by simpa using hf)))
      have HT3 := Lib.hid (HA.out.tkeep _ _ _ _ HT1.out HT6.keep (by intro cur hc; rw [H4.out.obj 0 rfl] at hc; cases hc))
      have HBE := Lib.hid (below_turn (W := w2) HBC.out HT6 HNB.out.2)
      refine ⟨H5.out.tail, ?_⟩
      go_wp2_with fail
      refine ⟨H5.out.tail, ?_⟩
      go_wp2_with fail
      refine ⟨H5.out.tail, ?_⟩
      exact ⟨g7, A', k', c', ⟨H5.out, HT3.out, by rw [HG7.out]; exact HBE.out⟩, rfl⟩
  case hR =>
    rintro x A' k' c' w7 ⟨h7, ht7, hb7⟩
    have H7 := Lib.hid h7
    have HB7 := Lib.hid (HB2.out.step (M := M) (fun hm => HA.out.step _ _ hm hb7) hb7)
    have HT7 := Lib.hid ht7
    clear h7 ht7 hb7 H2 HB2
    go_wp2_with (refine wpListG_row rfl 32 (.tmp 6) rfl x rfl 32 (evE op n0 n1 n2 n3 n4 n5 n6 n7 (.slice A' k' c')) _ (H7.out.get 0 rfl) Tryz.underlying32 rfl (by first | kernel_rfl | (rw [enc_size]; kernel_rfl)) ?_)
    refine (happens_ok W0 n gd bf gl gb own nx HNX.out ev (fun w => M w ∧ T w (.slice A' k' c')) M' op n0 n1 n2 n3 n4 n5 n6 n7 A' k' c' (HA.out.acts A' k' c') w7 (HB7.out.withM ⟨HB7.out.2.2.2.2.2, HT7.out⟩)).mono ?_
    rintro e w8 ⟨rfl, ev', hkb, hbs⟩
    have HKB := Lib.hid (Kb.from_ H7.out.below hkb)
    have HBS := Lib.hid hbs
    clear hkb hbs
    go_wp2_with fail
    exact bodyPost_ret (results_two rfl _ _ rfl rfl) rfl ⟨rfl, ev', HKB.out, HBS.out⟩
set_option maxHeartbeats 8000000 in
set_option maxRecDepth 100000 in
theorem do_ok (W0 : World) (n gd bf gl gb : Nat) (S : List Nat) (nx nx' : Int) (ev : Value) (M M' : World → Prop) (op n0 n1 n2 n3 n4 n5 n6 n7 : Int) (A : Option Addr) (k c : Nat) (r sq : Int) (W : World) (h : Bs W0 n gd bf gl gb nx ev M W) (hMs : ∀ w w', M w → Below w.heap.size w w' → M w')
    (hd : ∀ w, Bs W0 n gd bf gl gb nx ev M w → Calls Tryz.prog 36 #[.pointer (some ⟨gb, 0, none⟩), .agg (evE op n0 n1 n2 n3 n4 n5 n6 n7 (.slice A k c))] w fun x w' => x = .returned (.tuple #[.int .i64 r, .int .i64 0]) ∧ ∃ ev', Kb S ev w ev' w' ∧ Bs W0 n gd bf gl gb nx' ev' M' w')
    (hsq : ∀ w, M' w → w.cell? ⟨n + 7, 6, none⟩ = some (.int .i64 sq)) (hS : ∀ k ∈ S, k < W.heap.size) (hMf : ∀ w w' S, M' w → Keep S w w' → FarM n w S → M' w') :
    Calls Tryz.prog 15 #[.pointer (some ⟨gb, 0, none⟩), .agg (evE op n0 n1 n2 n3 n4 n5 n6 n7 (.slice A k c))] W fun x w' => x = .returned (.agg #[.int .i64 0, .int .i64 r, .int .i64 sq]) ∧ ∃ ev', Kb S ev W ev' w' ∧ Bs W0 n gd bf gl gb nx' ev' M' w' := by
  have H1 : Hid (HasO [] W [(W.heap.size + 1, .cells #[.int .i64 0, .int .i64 0, .int .i64 0] 51), (W.heap.size, .cells (evE op n0 n1 n2 n3 n4 n5 n6 n7 (.slice A k c)) 32)] _) := Lib.hid (((HasO.start [] W).new (g := W.heap.size) rfl (.cells (evE op n0 n1 n2 n3 n4 n5 n6 n7 (.slice A k c)) 32)).new (g := W.heap.size + 1) (by simp) (.cells #[.int .i64 0, .int .i64 0, .int .i64 0] 51))
  have hb1 := Below.al (Below.al (Below.refl _ W) (.cells (evE op n0 n1 n2 n3 n4 n5 n6 n7 (.slice A k c)) 32)) (.cells #[.int .i64 0, .int .i64 0, .int .i64 0] 51)
  have HB1 := Lib.hid (h.step (fun hm => hMs _ _ hm hb1) hb1)
  have HD := Lib.hid hd
  have HSQ := Lib.hid hsq
  have HSS := Lib.hid hS
  have HEB : Hid (∀ r, ev.ownBlock = some r → r < W.heap.size) := Lib.hid (by
    obtain ⟨_, _, _, _, ⟨kk, xs, k1, _⟩, _⟩ := h
    intro r hr
    obtain ⟨_, cur, hc⟩ := own_type k1 r hr
    exact obj_lt hc)
  have HMF := Lib.hid hMf
  have HZW := Lib.hid h.2.1.size
  clear h hd hsq hb1 hS hMs hMf
  rw [evE]
  go_enter Tryz.func15, Tryz.ntmps15
  go_wp2_with (refine wpListG_row rfl 32 (.tmp 3) rfl W.heap.size rfl 32 (evE op n0 n1 n2 n3 n4 n5 n6 n7 (.slice A k c)) _ (H1.out.get 1 rfl) Tryz.underlying32 rfl (by first | kernel_rfl | (rw [enc_size]; kernel_rfl)) ?_)
  refine (HD.out _ HB1.out).mono ?_
  rintro e w2 ⟨rfl, ev', hkb, hbs⟩
  have hz := H1.out.size
  have H2 : Hid (w2.heap[W.heap.size + 1]? = some (.cells #[.int .i64 0, .int .i64 0, .int .i64 0] 51)) := Lib.hid ((hkb.1.block _ (obj_lt (H1.out.obj 0 rfl)) (fun hm => by
    rcases List.mem_append.1 hm with hm | hm
    · have := HSS.out _ hm; omega
    · have := HEB.out _ (by simpa using hm); omega)).trans (H1.out.obj 0 rfl))
  have HKB := Lib.hid (Kb.from_ H1.out.below hkb)
  have HBS := Lib.hid hbs
  have c2 : w2.cell? ⟨gb, 2, none⟩ = some (.pointer (some ⟨n + 7, 0, none⟩)) := by rw [Blk.cell (t := 93) (cs := bankE gd gl (n + 7) ev') HBS.out.2.2.1 2]; rfl
  clear hkb hbs hz H1 HB1
  go_wp2_with fail
  refine (seq_ok (n + 7) sq w2 (HSQ.out _ HBS.out.2.2.2.2.2)).mono ?_
  rintro e w3 ⟨rfl, hw⟩
  obtain rfl : w2 = w3 := hw.symm
  go_wp2_with (refine wpList_turn rfl 51 (.tmp 4) (.tmp 23) rfl (W.heap.size + 1) 0 (.agg #[.int .i64 0, .int .i64 r, .int .i64 sq]) rfl rfl 51 #[.int .i64 0, .int .i64 0, .int .i64 0] #[.int .i64 0, .int .i64 r, .int .i64 sq] H2.out (by first | kernel_rfl | (rw [enc_size]; kernel_rfl)) (by first | (simp [Value.cells]; done) | (simp [Value.cells, evE, evZ]; done) | exact Nat.le_refl _) (by first | exact decE_all _ _ | (simp [Value.cells, Value.oneCell']; done) | (simp [Value.cells, Value.oneCell', evE, evZ]; done) | (rw [Array.all_eq_true']; simp [Value.cells, Value.oneCell', evE, evZ])) rfl ?_; intro W4 HT4)
  refine bodyPost_ret (results_cell_row rfl _ W4 (W.heap.size + 1) 51 #[.int .i64 0, .int .i64 r, .int .i64 sq] (0, 0) _ rfl HT4.at_ Tryz.underlying51 rfl (by kernel_rfl)) rfl ⟨rfl, ev', ⟨HKB.out.1.trans HT4.keep (fun k hk => .inr (by simp only [List.mem_singleton] at hk; omega)), HKB.out.2⟩, HBS.out.reply HT4.keep H2.out (by have := HZW.out; omega) (fun S h1 h2 => HMF.out _ _ S HBS.out.2.2.2.2.2 h2 h1)⟩
end Go.Proofs.YtlfomhdphbchpaaGreatDoor.Bk
