/- Lemmas of a claim: BkN -/
import Derived.Test.YtkdnebalpdebeaaGreatDoorG44
set_option linter.unusedVariables false
set_option linter.unusedSimpArgs false
set_option maxHeartbeats 16000000
set_option maxRecDepth 100000
namespace Go.Proofs.YtkdnebalpdebeaaGreatDoor
namespace Bk
open Go.RowKit Go.Deep Go.Shelf Mp Mo
open Pr (Below.of_grown Keep.of_grown)
open Cal (results_one results_two results_three)
theorem wp_region_cutA {P : Program} {id : Nat} {Q : Exit -> Act -> World -> Prop} {a : Act} {w : World} {l : List Oper} (C : World -> Prop) (F : Nat -> Option Addr -> Nat -> Nat -> World -> Prop) (G : Nat -> Option Addr -> Nat -> Nat -> Act) (p : Plan) (hm : P.follows .mixedOrders = true) (hB : mixT l p = true)
 (hC : C w.drew) (h : wpPlan P l C (fun a' w' => ∃ x y z t, F x y z t w' /\ a' = G x y z t) p a w.drew) (hR : ∀ x y z t w', F x y z t w' -> Q .normal (G x y z t) w') : (Code.region id l.toArray true).wp P Q a w :=
 wp_region_cut C _ p hm hB hC h (by rintro a' w' ⟨x, y, z, t, hF, rfl⟩; exact hR _ _ _ _ _ hF)
theorem below_turn {W w w' : World} {g : Nat} {o : Obj} (h : Below W.heap.size W w) (ht : Turn w g o w') (hg : W.heap.size <= g) : Below W.heap.size W w' := ((Keep.of_below (S := []) h).trans ht.keep (fun k hk => .inr (by simp only [List.mem_singleton] at hk; subst hk; exact hg))).below
theorem Bs.withM {W0 : World} {n gd bf gl gb : Nat} {nx : Int} {ev : Value} {M M2 : World -> Prop} {w : World} (h : Bs W0 n gd bf gl gb nx ev M w) (hM : M2 w) : Bs W0 n gd bf gl gb nx ev M2 w := ⟨h.1, h.2.1, h.2.2.1, h.2.2.2.1, h.2.2.2.2.1, hM⟩
theorem Bs.reply {W0 : World} {n gd bf gl gb g : Nat} {nx : Int} {ev : Value} {M : World -> Prop} {cur : Array Value} {w w' : World} (h : Bs W0 n gd bf gl gb nx ev M w) (hk : Keep [g] w w') (hg : w.heap[g]? = some (.cells cur 70)) (hW : W0.heap.size <= g) (hM : ∀ S, FarM n w S -> Keep S w w' -> M w') : Bs W0 n gd bf gl gb nx ev M w' := by
 obtain ⟨h1, h2, h3, ⟨qs, ops, L, q1, q2, q3, q4, q5⟩, ⟨k, xs, k1, k2⟩, h6⟩ := h
 have hne : ∀ {x : Nat} {o : Obj}, w.heap[x]? = some o -> alikeO (.cells cur 70) o = false -> x ∉ [g] := fun hx ha hm => by
  simp only [List.mem_singleton] at hm
  subst hm
  rw [hg] at hx; cases hx
  simp [alikeO] at ha
 refine ⟨h1, ((Keep.of_below (S := []) h2).trans hk (fun k hm => .inr (by simp only [List.mem_singleton] at hm; omega))).below, (hk.block _ (obj_lt h3) (hne h3 rfl)).trans h3, ⟨qs, ops, L, q1, q2, (hk.block _ (obj_lt q3) (hne q3 rfl)).trans q3, q4.keep hk (hne q4.1 rfl) (hne q4.2.1 rfl) ?_, q5⟩, ⟨k, xs, own_keepS k1 hk (fun r hr => ?_), k2⟩, hM [g] (fun k hm => .inr ⟨cur, _, by simp only [List.mem_singleton] at hm; subst hm; exact hg, rfl⟩) hk⟩
 . intro k hm c hc
   simp only [List.mem_singleton] at hm
   subst hm
   rw [hg] at hc; cases hc
 . obtain ⟨_, c, hc⟩ := own_type k1 r hr
   exact hne hc rfl
structure Cmd (n : Nat) (own : List Nat) (op n0 n1 n2 n3 n4 n5 n6 n7 : Int) (A : Option Addr) (k c : Nat) (r : Int) (T : World -> Value -> Prop) (M M' : World -> Prop) : Prop where
 hop : 0 <= op /\ op <= 12
 step : ∀ w w', M w -> Below w.heap.size w w' -> M w'
 tstep : ∀ w w' s, T w s -> Below w.heap.size w w' -> T w' s
 tkeep : ∀ w w' s g, T w s -> Keep [g] w w' -> (∀ cur, w.heap[g]? ≠ some (.cells cur 31)) -> T w' s
 check : ∀ w, M w -> Calls Tryz.prog 24 #[.agg (evE op n0 n1 n2 n3 n4 n5 n6 n7 (.slice A k c))] w fun x w' => x = .returned (.int .i64 0) /\ Below w.heap.size w w'
 plan : ∀ w, M w -> Calls Tryz.prog 6 #[.pointer (some ⟨n + 7, 0, none⟩), .agg (evE op n0 n1 n2 n3 n4 n5 n6 n7 (.slice A k c))] w fun x w' => (∃ A' k' c', x = .returned (.tuple #[.agg (evE op n0 n1 n2 n3 n4 n5 n6 n7 (.slice A' k' c')), .int .i64 r, .int .i64 0]) /\ T w' (.slice A' k' c')) /\ Below w.heap.size w w'
 acts : ∀ A' k' c', Acts n own (evE op n0 n1 n2 n3 n4 n5 n6 n7 (.slice A' k' c')) (fun w => M w /\ T w (.slice A' k' c')) M'
theorem doesC_ok (W0 : World) (n gd bf gl gb : Nat) (own : List Nat) (nx : Int) (hnx : 1 <= nx /\ nx <= 6) (ev : Value) (M M' : World -> Prop) (op n0 n1 n2 n3 n4 n5 n6 n7 : Int) (A : Option Addr) (k c : Nat) (r : Int) (T : World -> Value -> Prop) (hA : Cmd n own op n0 n1 n2 n3 n4 n5 n6 n7 A k c r T M M') (W : World) (h : Bs W0 n gd bf gl gb nx ev M W) :
 Calls Tryz.prog 54 #[.pointer (some ⟨gb, 0, none⟩), .agg (evE op n0 n1 n2 n3 n4 n5 n6 n7 (.slice A k c))] W fun x w' => x = .returned (.tuple #[.int .i64 r, .int .i64 0]) /\ ∃ ev', Kb ([gl, gd, bf, gb] ++ own) ev W ev' w' /\ Bs W0 n gd bf gl gb (nx + 1) ev' M' w' := by
 have HA := Hd hA
 have HNX := Hd hnx
 have H1 : Hi (HasO [] W [(W.heap.size, .cells (evE op n0 n1 n2 n3 n4 n5 n6 n7 (.slice A k c)) 34), (gb, .cells (bankE gd gl (n + 7) ev) 133)] _) := Hd ((HasO.cons h.2.2.1 (HasO.start [] W)).new (g := W.heap.size) rfl (.cells (evE op n0 n1 n2 n3 n4 n5 n6 n7 (.slice A k c)) 34))
 have HB1 := Hd (h.step (fun hm => HA.o.step _ _ hm (Below.al (Below.refl _ W) (.cells (evE op n0 n1 n2 n3 n4 n5 n6 n7 (.slice A k c)) 34))) (Below.al (Below.refl _ _) _))
 obtain ⟨ho1, ho2⟩ := hA.hop
 have o1 : (op == 13) = false := beq_eq_false_iff_ne.2 (by omega)
 clear hA hnx h
 rw [evE]
 go_enter Tryz.func54, Tryz.ntmps54
 go_wp2_with (first | (refine wpListG_cell rfl 4 (.tmp 12) rfl gb 4 rfl 133 (bankE gd gl (n + 7) ev) (.bool false) rfl _ (H1.o.get 1 rfl) Tryz.underlying4 rfl ?_) | (refine wpListG_row rfl 34 (.tmp 3) rfl W.heap.size rfl 34 (evE op n0 n1 n2 n3 n4 n5 n6 n7 (.slice A k c)) _ (H1.o.get 0 rfl) Tryz.underlying34 rfl (by kernel_rfl) ?_))
 refine (HA.o.check _ HB1.o.2.2.2.2.2).mono ?_
 rintro e w2 ⟨rfl, hb2⟩
 have H2 := Hd (H1.o.step hb2)
 have HB2 := Hd (HB1.o.step (fun hm => HA.o.step _ _ hm hb2) hb2)
 have c0 : w2.cell? ⟨W.heap.size, 0, none⟩ = some (.int .u8 op) := by rw [Blk.cell (H2.o.get 0 rfl) 0]; rfl
 clear hb2 H1 HB1
 go_wp2_with fail
 apply wp_region_cutA (fun w' => HasO [] W [(W.heap.size, .cells (evE op n0 n1 n2 n3 n4 n5 n6 n7 (.slice A k c)) 34), (gb, .cells (bankE gd gl (n + 7) ev) 133)] w') (fun x A' k' c' w' => HasO [] W ((x, .cells (evE op n0 n1 n2 n3 n4 n5 n6 n7 (.slice A' k' c')) 34) :: [(W.heap.size, .cells (evE op n0 n1 n2 n3 n4 n5 n6 n7 (.slice A k c)) 34), (gb, .cells (bankE gd gl (n + 7) ev) 133)]) w' /\ T w' (.slice A' k' c') /\ Below w2.heap.size w2 w') _ (.seg [0, 1, 2, 3, 4] (.fork 5 (.seg [6, 7, 8, 9] (.turn 10 (.turn 11 (.turn 12 (.turn 13 .nil))))) 10 (.turn 5 (.seg [6, 7, 8, 9] (.turn 11 (.turn 12 (.turn 13 .nil))))))) (by kernel_rfl) (by kernel_rfl) H2.o.drew
 case h =>
  simp only [wpPlan, List.map_cons, List.map_nil, opAt, List.getElem?_cons_succ, List.getElem?_cons_zero, Option.getD_some]
  repeat (go_big_quiet_step ((intro _; rfl)))
  refine wpQuiet_cell 25 (.tmp 30) rfl rfl ⟨gb, 2, none⟩ rfl (.pointer (some ⟨n + 7, 0, none⟩)) _ (fun w hw => (hw.get 1 rfl).cell 2) Tryz.underlying25 rfl (fun K1 k1 => ?_)
  go_simp
  refine k1 _ ?_
  clear k1 K1
  refine wpQuiet_row 34 (.tmp 3) rfl rfl W.heap.size rfl 34 (evE op n0 n1 n2 n3 n4 n5 n6 n7 (.slice A k c)) _ (fun w hw => hw.get 0 rfl) Tryz.underlying34 rfl (by kernel_rfl) (fun K1 k1 => ?_)
  go_simp
  refine k1 _ ?_
  clear k1 K1
  repeat (go_big_quiet_step ((intro _; rfl)))
  refine wpQuiet_nil ?_
  have HD := Hd H2.o.drew
  have HBD := Hd (HB2.o.step (fun hm => HA.o.step _ _ hm (Below.refl _ _).drew) (Below.refl _ _).drew)
  refine ⟨?_, ?_⟩
  . go_wp2_with fail
    refine (HA.o.plan _ HBD.o.2.2.2.2.2).mono ?_
    rintro e w11 ⟨⟨A', k', c', rfl, ht⟩, hb1⟩
    have HT1 := Hd ht
    have H3 := Hd (HD.o.step hb1)
    have HBB := Hd ((Below.refl _ w2).drew.trans hb1)
    clear hb1 ht HD HBD
    go_wp2_with fail
    refine ⟨H3.o, ?_⟩
    repeat (go_big_quiet_step ((intro _; rfl)))
    refine wpQuiet_nil ?_
    go_wp2_with fail
    have hfr : ∀ f ∈ ([(W.heap.size, .cells (evE op n0 n1 n2 n3 n4 n5 n6 n7 (.slice A k c)) 34), (gb, .cells (bankE gd gl (n + 7) ev) 133)] : List (Nat × Obj)), f.1 ≠ w11.heap.size := fun f hf => Nat.ne_of_lt (obj_lt (H3.o.2 f hf))
    have HNA := Hd (And.intro H3.o.size HBB.o.size)
    obtain ⟨g7, hg7⟩ : ∃ g7, g7 = w11.heap.size := ⟨_, rfl⟩
    have H4 := Hd (H3.o.new hg7 (.cells evZ 34))
    have HT2 := Hd (HA.o.tstep _ _ _ HT1.o (Below.al (Below.refl _ _) (.cells evZ 34)))
    have HBC := Hd (HBB.o.trans ((Below.al (Below.refl _ _) (.cells evZ 34)).mono HBB.o.size))
    rw [<- hg7] at hfr HNA
    rw [<- hg7]
    have HFR := Hd hfr
    clear hg7 hfr H3 HT1 HBB
    refine ⟨H4.o.tail, ?_⟩
    go_wp2_with (refine wpList_turn rfl 34 (.tmp 6) (.tmp 34) rfl g7 0 (.agg (evE op n0 n1 n2 n3 n4 n5 n6 n7 (.slice A' k' c'))) rfl rfl 34 evZ (evE op n0 n1 n2 n3 n4 n5 n6 n7 (.slice A' k' c')) (H4.o.get 0 rfl) (by kernel_rfl) (by simp [Value.cells, evE, evZ]) (by simp [Value.cells, Value.oneCell', evE, evZ]) rfl ?_; intro W6 HT6)
    have H5 := Hd (H4.o.turn 0 rfl HT6 (.inr HNA.o.1) (fun f hf => HFR.o f (by simpa using hf)))
    have HT3 := Hd (HA.o.tkeep _ _ _ _ HT2.o HT6.keep (by intro cur hc; rw [H4.o.obj 0 rfl] at hc; cases hc))
    have HBE := Hd (below_turn (W := w2) HBC.o HT6 HNA.o.2)
    refine ⟨H5.o.tail, ?_⟩
    go_wp2_with fail
    refine ⟨H5.o.tail, ?_⟩
    go_wp2_with fail
    refine ⟨H5.o.tail, ?_⟩
    exact ⟨g7, A', k', c', ⟨H5.o, HT3.o, HBE.o⟩, rfl⟩
  . go_wp2_with fail
    have hfr : ∀ f ∈ ([(W.heap.size, .cells (evE op n0 n1 n2 n3 n4 n5 n6 n7 (.slice A k c)) 34), (gb, .cells (bankE gd gl (n + 7) ev) 133)] : List (Nat × Obj)), f.1 ≠ w2.heap.size := fun f hf => Nat.ne_of_lt (obj_lt (H2.o.2 f hf))
    have HNA := Hd (And.intro H2.o.size (Nat.le_refl w2.heap.size))
    obtain ⟨g7, hg7⟩ : ∃ g7, g7 = w2.heap.size := ⟨_, rfl⟩
    have H3 : Hi (HasO [] W ((g7, .cells evZ 34) :: [(W.heap.size, .cells (evE op n0 n1 n2 n3 n4 n5 n6 n7 (.slice A k c)) 34), (gb, .cells (bankE gd gl (n + 7) ev) 133)]) _) := Hd ((H2.o.new hg7 (.cells evZ 34)).drew)
    have HB3 := Hd (HB2.o.step (fun hm => HA.o.step _ _ hm (Below.al (Below.refl _ _) (.cells evZ 34)).drew) (Below.al (Below.refl _ _) (.cells evZ 34)).drew)
    have HBB := Hd ((Below.al (Below.refl _ w2) (.cells evZ 34)).drew)
    rw [<- hg7] at hfr HNA
    rw [<- hg7]
    have HFR := Hd hfr
    clear hfr HD HBD
    refine ⟨H3.o.tail, ?_⟩
    go_wp2_with fail
    refine (HA.o.plan _ HB3.o.2.2.2.2.2).mono ?_
    rintro e w11 ⟨⟨A', k', c', rfl, ht⟩, hb1⟩
    have HT1 := Hd ht
    have H4 := Hd (H3.o.step hb1)
    have HBC := Hd (HBB.o.trans (hb1.mono HBB.o.size))
    have HNB := Hd (show W.heap.size <= g7 /\ w2.heap.size <= g7 from ⟨HNA.o.1, Nat.le_of_eq hg7.symm⟩)
    have HG7 := Hd hg7
    clear hb1 ht H3 HB3 HBB hg7 HNA
    go_wp2_with fail
    refine ⟨H4.o.tail, ?_⟩
    repeat (go_big_quiet_step ((intro _; rfl)))
    refine wpQuiet_nil ?_
    go_wp2_with (refine wpList_turn rfl 34 (.tmp 6) (.tmp 34) rfl g7 0 (.agg (evE op n0 n1 n2 n3 n4 n5 n6 n7 (.slice A' k' c'))) rfl rfl 34 evZ (evE op n0 n1 n2 n3 n4 n5 n6 n7 (.slice A' k' c')) (H4.o.get 0 rfl) (by kernel_rfl) (by simp [Value.cells, evE, evZ]) (by simp [Value.cells, Value.oneCell', evE, evZ]) rfl ?_; intro W6 HT6)
    have H5 := Hd (H4.o.turn 0 rfl HT6 (.inr HNB.o.1) (fun f hf => HFR.o f (by simpa using hf)))
    have HT3 := Hd (HA.o.tkeep _ _ _ _ HT1.o HT6.keep (by intro cur hc; rw [H4.o.obj 0 rfl] at hc; cases hc))
    have HBE := Hd (below_turn (W := w2) HBC.o HT6 HNB.o.2)
    refine ⟨H5.o.tail, ?_⟩
    go_wp2_with fail
    refine ⟨H5.o.tail, ?_⟩
    go_wp2_with fail
    refine ⟨H5.o.tail, ?_⟩
    exact ⟨g7, A', k', c', ⟨H5.o, HT3.o, by rw [HG7.o]; exact HBE.o⟩, rfl⟩
 case hR =>
  rintro x A' k' c' w7 ⟨h7, ht7, hb7⟩
  have H7 := Hd h7
  have HB7 := Hd (HB2.o.step (M := M) (fun hm => HA.o.step _ _ hm hb7) hb7)
  have HT7 := Hd ht7
  clear h7 ht7 hb7 H2 HB2
  go_wp2_with (refine wpListG_row rfl 34 (.tmp 6) rfl x rfl 34 (evE op n0 n1 n2 n3 n4 n5 n6 n7 (.slice A' k' c')) _ (H7.o.get 0 rfl) Tryz.underlying34 rfl (by kernel_rfl) ?_)
  refine (happens_ok W0 n gd bf gl gb own nx HNX.o ev (fun w => M w /\ T w (.slice A' k' c')) M' op n0 n1 n2 n3 n4 n5 n6 n7 A' k' c' (HA.o.acts A' k' c') w7 (HB7.o.withM ⟨HB7.o.2.2.2.2.2, HT7.o⟩)).mono ?_
  rintro e w8 ⟨rfl, ev', hkb, hbs⟩
  have HKB := Hd (Kb.from_ H7.o.below hkb)
  have HBS := Hd hbs
  clear hkb hbs
  go_wp2_with fail
  exact bodyPost_ret (results_two rfl _ _ rfl rfl) rfl ⟨rfl, ev', HKB.o, HBS.o⟩
theorem do_ok (W0 : World) (n gd bf gl gb : Nat) (S : List Nat) (nx nx' : Int) (ev : Value) (M M' : World -> Prop) (op n0 n1 n2 n3 n4 n5 n6 n7 : Int) (A : Option Addr) (k c : Nat) (r sq : Int) (W : World) (h : Bs W0 n gd bf gl gb nx ev M W) (hMs : ∀ w w', M w -> Below w.heap.size w w' -> M w')
 (hd : ∀ w, Bs W0 n gd bf gl gb nx ev M w -> Calls Tryz.prog 54 #[.pointer (some ⟨gb, 0, none⟩), .agg (evE op n0 n1 n2 n3 n4 n5 n6 n7 (.slice A k c))] w fun x w' => x = .returned (.tuple #[.int .i64 r, .int .i64 0]) /\ ∃ ev', Kb S ev w ev' w' /\ Bs W0 n gd bf gl gb nx' ev' M' w')
 (hsq : ∀ w, M' w -> w.cell? ⟨n + 7, 6, none⟩ = some (.int .i64 sq)) (hS : ∀ k ∈ S, k < W.heap.size) (hMf : ∀ w w' S, M' w -> Keep S w w' -> FarM n w S -> M' w') :
 Calls Tryz.prog 19 #[.pointer (some ⟨gb, 0, none⟩), .agg (evE op n0 n1 n2 n3 n4 n5 n6 n7 (.slice A k c))] W fun x w' => x = .returned (.agg #[.int .i64 0, .int .i64 r, .int .i64 sq]) /\ ∃ ev', Kb S ev W ev' w' /\ Bs W0 n gd bf gl gb nx' ev' M' w' := by
 have H1 : Hi (HasO [] W [(W.heap.size + 1, .cells #[.int .i64 0, .int .i64 0, .int .i64 0] 70), (W.heap.size, .cells (evE op n0 n1 n2 n3 n4 n5 n6 n7 (.slice A k c)) 34)] _) := Hd (((HasO.start [] W).new (g := W.heap.size) rfl (.cells (evE op n0 n1 n2 n3 n4 n5 n6 n7 (.slice A k c)) 34)).new (g := W.heap.size + 1) (by simp) (.cells #[.int .i64 0, .int .i64 0, .int .i64 0] 70))
 have hb1 := Below.al (Below.al (Below.refl _ W) (.cells (evE op n0 n1 n2 n3 n4 n5 n6 n7 (.slice A k c)) 34)) (.cells #[.int .i64 0, .int .i64 0, .int .i64 0] 70)
 have HB1 := Hd (h.step (fun hm => hMs _ _ hm hb1) hb1)
 have HD := Hd hd
 have HSQ := Hd hsq
 have HSS := Hd hS
 have HEB : Hi (∀ r, ev.ownBlock = some r -> r < W.heap.size) := Hd (by
  obtain ⟨_, _, _, _, ⟨kk, xs, k1, _⟩, _⟩ := h
  intro r hr
  obtain ⟨_, cur, hc⟩ := own_type k1 r hr
  exact obj_lt hc)
 have HMF := Hd hMf
 have HZW := Hd h.2.1.size
 clear h hd hsq hb1 hS hMs hMf
 rw [evE]
 go_enter Tryz.func19, Tryz.ntmps19
 go_wp2_with (refine wpListG_row rfl 34 (.tmp 3) rfl W.heap.size rfl 34 (evE op n0 n1 n2 n3 n4 n5 n6 n7 (.slice A k c)) _ (H1.o.get 1 rfl) Tryz.underlying34 rfl (by kernel_rfl) ?_)
 refine (HD.o _ HB1.o).mono ?_
 rintro e w2 ⟨rfl, ev', hkb, hbs⟩
 have hz := H1.o.size
 have H2 : Hi (w2.heap[W.heap.size + 1]? = some (.cells #[.int .i64 0, .int .i64 0, .int .i64 0] 70)) := Hd ((hkb.1.block _ (obj_lt (H1.o.obj 0 rfl)) (fun hm => by
  rcases List.mem_append.1 hm with hm | hm
  . have := HSS.o _ hm; omega
  . have := HEB.o _ (by simpa using hm); omega)).trans (H1.o.obj 0 rfl))
 have HKB := Hd (Kb.from_ H1.o.below hkb)
 have HBS := Hd hbs
 have c2 : w2.cell? ⟨gb, 2, none⟩ = some (.pointer (some ⟨n + 7, 0, none⟩)) := by rw [Blk.cell (t := 133) (cs := bankE gd gl (n + 7) ev') HBS.o.2.2.1 2]; rfl
 clear hkb hbs hz H1 HB1
 go_wp2_with fail
 refine (seq_ok (n + 7) sq w2 (HSQ.o _ HBS.o.2.2.2.2.2)).mono ?_
 rintro e w3 ⟨rfl, hw⟩
 obtain rfl : w2 = w3 := hw.symm
 go_wp2_with (refine wpList_turn rfl 70 (.tmp 4) (.tmp 23) rfl (W.heap.size + 1) 0 (.agg #[.int .i64 0, .int .i64 r, .int .i64 sq]) rfl rfl 70 #[.int .i64 0, .int .i64 0, .int .i64 0] #[.int .i64 0, .int .i64 r, .int .i64 sq] H2.o (by kernel_rfl) (by simp [Value.cells, evE, evZ]) (by simp [Value.cells, Value.oneCell', evE, evZ]) rfl ?_; intro W4 HT4)
 refine bodyPost_ret (results_cell_row rfl _ W4 (W.heap.size + 1) 70 #[.int .i64 0, .int .i64 r, .int .i64 sq] (0, 0) _ rfl HT4.at_ Tryz.underlying70 rfl (by kernel_rfl)) rfl ⟨rfl, ev', ⟨HKB.o.1.trans HT4.keep (fun k hk => .inr (by simp only [List.mem_singleton] at hk; omega)), HKB.o.2⟩, HBS.o.reply HT4.keep H2.o (by have := HZW.o; omega) (fun S h1 h2 => HMF.o _ _ S HBS.o.2.2.2.2.2 h2 h1)⟩
end Bk
end Go.Proofs.YtkdnebalpdebeaaGreatDoor
