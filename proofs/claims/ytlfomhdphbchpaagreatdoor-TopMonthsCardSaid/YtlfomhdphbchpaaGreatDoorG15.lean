/- Lemmas of a claim, several texts in one: PrA, PrB, RegG -/
import Derived.Test.YtlfomhdphbchpaaGreatDoorG14
import Derived.Laws.AppendOwn
import Derived.Test.YtlfomhdphbchpaaGreatDoorG12
/-! prod: New, copied, Tiers, Check -/
namespace Go.Proofs.YtlfomhdphbchpaaGreatDoor.Pr
open Go.RowKit Go.Deep Go.Proofs.YtlfomhdphbchpaaGreatDoor.Wide Go.Proofs.YtlfomhdphbchpaaGreatDoor.Dec Go.Proofs.YtlfomhdphbchpaaGreatDoor.Mp
set_option linter.unusedVariables false
set_option linter.unusedSimpArgs false
theorem Keep.of_grown {w w' : World} {row : Option Nat} {S : List Nat} (h : w.grownBy w' row) (hr : ∀ k, row = some k → k ∈ S ∨ w.heap.size ≤ k) : Keep S w w' :=
  ⟨h.os, h.tape, h.output, h.size, fun k hk hS => h.block k hk (fun e => by rcases hr k e.symm with h1 | h1; exact hS h1; omega)⟩
theorem Below.of_grown {w w' : World} {row : Option Nat} (h : w.grownBy w' row) (hr : ∀ k, row = some k → w.heap.size ≤ k) : Below w.heap.size w w' := Keep.below (Keep.of_grown h (fun k hk => .inr (hr k hk)))
/-- one tier, from nought -/
def TS (w : World) (s : Value) : Prop := ∃ (g c : Nat) (cur : Array Value), s = .slice (some ⟨g, 0, none⟩) 1 c ∧ w.heap[g]? = some (.cells cur 66) ∧ cur[0]? = some (.int .i64 0) ∧ cur[1]? = some (.int .i64 36500000)
theorem TS.step {w w' : World} {s : Value} (h : TS w s) (hb : Below w.heap.size w w') : TS w' s := by
  obtain ⟨g, c, cur, hs, hg, h2⟩ := h
  exact ⟨g, c, cur, hs, by rw [hb.block g (obj_lt hg)]; exact hg, h2⟩
theorem TS.keep {w w' : World} {s : Value} {S : List Nat} (h : TS w s) (hk : Keep S w w') (hS : ∀ k ∈ S, ∀ cur, w.heap[k]? ≠ some (.cells cur 66)) : TS w' s := by
  obtain ⟨g, c, cur, hs, hg, h2⟩ := h
  exact ⟨g, c, cur, hs, by rw [hk.block g (obj_lt hg) (fun hb => hS g hb _ hg)]; exact hg, h2⟩
/-- the product of the story -/
def prodE (s : Value) : Array Value := #[.int .i64 1, .int .i64 1, .int .i64 0, .int .i64 1, .int .i64 1, .int .i64 0, .int .i64 0, .int .i64 500, s]
def prodZ : Array Value := #[.int .i64 0, .int .i64 0, .int .i64 0, .int .i64 0, .int .i64 0, .int .i64 0, .int .i64 0, .int .i64 0, .slice none 0 0]
set_option maxHeartbeats 4000000 in
theorem prodNew_ok (W : World) : Calls Tryz.prog 18 #[] W fun e w' => e = .returned (.pointer (some ⟨W.heap.size + 1, 0, none⟩)) ∧ w' = (W.alloc (.map #[] 0)).alloc (.cells #[.slice none 0 0, .map (some W.heap.size)] 105) := by
  have hmm : (Instr.makeMap 102 none).run Tryz.prog W = .ok (.map (some W.heap.size)) (W.alloc (.map #[] 0)) := run_makeMap _ W
  go_enter Tryz.func18, Tryz.ntmps18
  go_wp2_with fail
  exact bodyPost_ret (results_one rfl _ _ rfl) rfl ⟨rfl, rfl⟩
set_option maxHeartbeats 4000000 in
set_option maxRecDepth 100000 in
theorem cloneT_ok (s : Value) (W : World) (h : TS W s) : Calls Tryz.prog 21 #[s] W fun e w' => (∃ s', e = .returned s' ∧ TS w' s') ∧ Below W.heap.size W w' := by
  obtain ⟨g, c, cur, rfl, hg, h0, h1⟩ := h
  have hq : ∀ w : World, (binOp .eql 30 (.slice (some ⟨g, 0, none⟩) 1 c) (.slice none 0 0)).run Tryz.prog w = .ok (.bool false) w := fun w => Lib.run_eql_slice_nil w _ _ (some ⟨g, 0, none⟩) 1 c 0 0 Tryz.underlying30
  obtain ⟨i, hi, h2, h3, h4⟩ : ∃ i, Tryz.prog.info? 66 = some i ∧ i.zero = some (.agg #[.int .i64 0, .int .i64 0]) ∧ i.size = 2 ∧ i.bytes = 16 := ⟨_, rfl, by kernel_rfl, by kernel_rfl, by kernel_rfl⟩
  have HG := Lib.hid hg
  have c0 : Hid (∀ w : World, w.heap[g]? = some (.cells cur 66) → ∀ (j : Nat) (u : Value), [Value.int .i64 0, Value.int .i64 36500000][j]? = some u → w.cell? ((⟨g, 0, none⟩ : Addr).add j) = some u) := Lib.hid (fun w hw j u hj => by
    have hj2 : j < 2 := (List.getElem?_eq_some_iff.1 hj).1
    have : j = 0 ∨ j = 1 := by omega
    rw [Addr.add_lit, Blk.cell (t := 66) (cs := cur) hw]
    rcases this with rfl | rfl
    · simp only [Nat.zero_add] at *; rw [h0]; exact hj
    · simp only [Nat.zero_add] at *; rw [h1]; exact hj)
  clear h0 h1
  go_enter Tryz.func21, Tryz.ntmps21
  go_wp2_with (at_builtin
               refine wpList_append_own _ rfl (.tmp 5) (.tmp 6) 30 rfl W.heap.size 66 i (.agg #[.int .i64 0, .int .i64 0]) 2 16 Tryz.underlying30 hi h2 h3 h4 rfl (by omega) (.slice (some ⟨W.heap.size, 0, none⟩) 0 0) 0 [] rfl (World.ownsRow_made W #[] 0 (Nat.le_refl _) (Nat.zero_le _) rfl) ⟨g, 0, none⟩ 1 c [.int .i64 0, .int .i64 36500000] rfl rfl (c0.out _ (((Below.al (Below.refl _ W) _).block g (obj_lt HG.out)).trans HG.out)) (by intro u hu; simp only [List.mem_cons, List.not_mem_nil, or_false] at hu; rcases hu with rfl | rfl <;> rfl) (by simp only [maxLen]; omega) (by omega) (by simp) ?_
               intro v1 w1 hown1 hg1 hat1)
  obtain ⟨_, hn | ⟨g1, cap, cu, rfl, hb, hh, hc1, hc2, hc3, hc4⟩⟩ := hown1
  · exact absurd hn.2 (by simp)
  go_wp2_with fail
  refine bodyPost_ret (results_one rfl _ _ rfl) rfl ⟨⟨_, rfl, g1, cap, cu, rfl, hh, ?_, ?_⟩, ?_⟩
  · have : (cu.toList.take 2)[0]? = some (.int .i64 0) := by rw [hc4]; rfl
    simpa using this
  · have : (cu.toList.take 2)[1]? = some (.int .i64 36500000) := by rw [hc4]; rfl
    simpa using this
  · refine ((Below.refl _ W).alloc (Nat.le_refl _) _).grown hg1 (by simp) (by intro k hk; simp [Value.ownBlock] at hk; omega)
set_option maxHeartbeats 4000000 in
theorem cloneT_nil (n c : Nat) (W : World) : Calls Tryz.prog 21 #[.slice none n c] W fun e w' => e = .returned (.slice none 0 0) ∧ w' = W := by
  have hq : ∀ w : World, (binOp .eql 30 (.slice none n c) (.slice none 0 0)).run Tryz.prog w = .ok (.bool true) w := fun w => Lib.run_eql_slice_nil w _ _ none n c 0 0 Tryz.underlying30
  go_enter Tryz.func21, Tryz.ntmps21
  go_wp2_with fail
  exact bodyPost_ret (results_one rfl _ _ rfl) rfl ⟨rfl, rfl⟩
set_option maxHeartbeats 4000000 in
set_option maxRecDepth 100000 in
theorem copied_ok (s : Value) (W : World) (h : TS W s) : Calls Tryz.prog 80 #[.agg (prodE s)] W fun e w' => (∃ s', e = .returned (.agg (prodE s')) ∧ TS w' s') ∧ Below W.heap.size W w' := by
  have HT := Lib.hid h
  clear h
  unfold prodE
  go_enter Tryz.func80, Tryz.ntmps80
  go_wp2_with fail
  have d1 : Below W.heap.size W ((W.alloc (.cells (prodE s) 115)).alloc (.cells prodZ 115)) := Below.al (Below.al (Below.refl _ _) _) _
  refine (cloneT_ok s _ (HT.out.step d1)).mono ?_
  rintro e w1 ⟨⟨s', rfl, hs'⟩, hb1⟩
  have HS := Lib.hid hs'
  have H1 : Hid (Has W [(W.heap.size, 115, #[.int .i64 1, .int .i64 1, .int .i64 0, .int .i64 1, .int .i64 1, .int .i64 0, .int .i64 0, .int .i64 500, s]), (W.heap.size + 1, 115, #[.int .i64 0, .int .i64 0, .int .i64 0, .int .i64 0, .int .i64 0, .int .i64 0, .int .i64 0, .int .i64 0, .slice none 0 0])] w1) := Lib.hid ((Has.cons ((Blk.new _ _ _).alloc _) (Has.cons (Blk.new' (by simp)) (Has.nil d1))).step hb1)
  clear hb1 hs' d1
  obtain ⟨g1, c1, cu, rfl, _⟩ := HS.out
  go_wp2_with (first
    | (refine wpList_turn rfl 30 (.tmp 6) (.tmp 5) rfl W.heap.size 8 (.slice (some ⟨g1, 0, none⟩) 1 c1) rfl rfl 115 #[.int .i64 1, .int .i64 1, .int .i64 0, .int .i64 1, .int .i64 1, .int .i64 0, .int .i64 0, .int .i64 500, s] (prodE (.slice (some ⟨g1, 0, none⟩) 1 c1)) (H1.out.get 0 rfl) (by first | kernel_rfl | (rw [enc_size]; kernel_rfl)) (by first | (simp [Value.cells]; done) | (simp [Value.cells, prodE, prodZ]; done) | exact Nat.le_refl _) (by first | exact decE_all _ _ | (simp [Value.cells, Value.oneCell']; done) | (simp [Value.cells, Value.oneCell', prodE, prodZ]; done) | (rw [Array.all_eq_true']; simp [Value.cells, Value.oneCell', prodE, prodZ])) rfl ?_; intro W2 HT2)
    | (refine wpListG_row rfl 115 (.tmp 1) rfl W.heap.size rfl 115 (prodE (.slice (some ⟨g1, 0, none⟩) 1 c1)) _ HT2.at_ Tryz.underlying115 rfl (by first | kernel_rfl | (rw [enc_size]; kernel_rfl)) ?_)
    | (refine wpList_turn rfl 115 (.tmp 2) (.tmp 7) rfl (W.heap.size + 1) 0 (.agg (prodE (.slice (some ⟨g1, 0, none⟩) 1 c1))) rfl rfl 115 prodZ (prodE (.slice (some ⟨g1, 0, none⟩) 1 c1)) ((HT2.far _ (by omega)).trans (H1.out.get 1 rfl)) (by first | kernel_rfl | (rw [enc_size]; kernel_rfl)) (by first | (simp [Value.cells]; done) | (simp [Value.cells, prodE, prodZ]; done) | exact Nat.le_refl _) (by first | exact decE_all _ _ | (simp [Value.cells, Value.oneCell']; done) | (simp [Value.cells, Value.oneCell', prodE, prodZ]; done) | (rw [Array.all_eq_true']; simp [Value.cells, Value.oneCell', prodE, prodZ])) rfl ?_; intro W3 HT3))
  have k3 : Below W.heap.size W W3 := ((Keep.of_below (S := []) H1.out.below).trans ((HT2.keep.mono (T := [W.heap.size, W.heap.size + 1]) (by simp)).trans HT3.keep (by simp)) (by simp)).below
  have hs3 : TS W3 (.slice (some ⟨g1, 0, none⟩) 1 c1) := HS.out.keep ((HT2.keep.mono (T := [W.heap.size, W.heap.size + 1]) (by simp)).trans HT3.keep (by simp)) (by
    intro k hk cur hc
    simp only [List.mem_cons, List.not_mem_nil, or_false] at hk
    rcases hk with rfl | rfl
    · have := H1.out.get 0 rfl
      unfold Blk at this; rw [hc] at this; cases this
    · have := H1.out.get 1 rfl
      unfold Blk at this; rw [hc] at this; cases this)
  exact bodyPost_ret (results_cell_row rfl _ _ (W.heap.size + 1) 115 (prodE (.slice (some ⟨g1, 0, none⟩) 1 c1)) (0, 0) _ rfl HT3.at_ Tryz.underlying115 rfl (by kernel_rfl)) rfl ⟨⟨_, rfl, hs3⟩, k3⟩
set_option maxHeartbeats 4000000 in
theorem pwithin_ok (n m : Int) (hn : 0 ≤ n ∧ n ≤ m) (hm : InR m) (W : World) : Calls Tryz.prog 124 #[.int .i64 n, .int .i64 m] W fun e w' => e = .returned (.bool true) ∧ w' = W := by
  obtain ⟨h1, h2⟩ := hn
  unfold InR at hm
  go_enter Tryz.func124, Tryz.ntmps124
  go_wp2_with fail
  exact bodyPost_ret (results_one rfl _ _ rfl) rfl ⟨rfl, rfl⟩
end Go.Proofs.YtlfomhdphbchpaaGreatDoor.Pr

/-! prod: Tiers, Check -/
namespace Go.Proofs.YtlfomhdphbchpaaGreatDoor.Pr
open Go.RowKit Go.Deep Go.Proofs.YtlfomhdphbchpaaGreatDoor.Wide Go.Proofs.YtlfomhdphbchpaaGreatDoor.Dec Go.Proofs.YtlfomhdphbchpaaGreatDoor.Mp
set_option linter.unusedVariables false
set_option linter.unusedSimpArgs false
theorem tier_part {cur : Array Value} (h0 : cur[0]? = some (.int .i64 0)) (h1 : cur[1]? = some (.int .i64 36500000)) : ∀ (j : Nat) (v : Value), (#[Value.int .i64 0, .int .i64 36500000] : Array Value).toList[j]? = some v → cur[0 + j]? = some v := by
  intro j v h
  have hj2 : j < 2 := (List.getElem?_eq_some_iff.1 h).1
  have : j = 0 ∨ j = 1 := by omega
  rcases this with rfl | rfl
  · rw [Nat.add_zero, h0]; exact h
  · rw [Nat.zero_add, h1]; exact h
theorem pwithin_b (n m : Int) (hn : 0 ≤ n ∧ n ≤ m) (hm : InR m) (W : World) : Calls Tryz.prog 124 #[.int .i64 n, .int .i64 m] W fun e w' => e = .returned (.bool true) ∧ Below W.heap.size W w' :=
  (pwithin_ok n m hn hm W).mono fun e w' h => ⟨h.1, by rw [h.2]; exact Below.refl _ _⟩
set_option maxHeartbeats 4000000 in
set_option maxRecDepth 100000 in
theorem tiers_ok (s : Value) (W : World) (h : TS W s) : Calls Tryz.prog 94 #[s] W fun e w' => e = .returned (.int .i64 0) ∧ Below W.heap.size W w' := by
  obtain ⟨g, c, cur, rfl, hg, h0, h1⟩ := h
  have HG := Lib.hid hg
  have H0 := Lib.hid h0
  have H1 := Lib.hid h1
  clear hg h0 h1
  go_enter Tryz.func94, Tryz.ntmps94
  go_wp2_with (refine wpListG_cell rfl 2 (.tmp 14) rfl g 0 rfl 66 cur (.int .i64 0) H0.out _ HG.out Tryz.underlying2 rfl ?_)
  have HH : Hid (Has W [] W) := Lib.hid (Has.start _)
  go_loopw [20] (fun i wr => ∃ k : Nat, k ≤ 1 ∧ i = .int .i64 k ∧ Hid (Has W [] wr)) (fun i _ => 1 - (intOf i).toNat)
  case atStart => exact ⟨0, by omega, rfl, HH⟩
  case round =>
    clear HH
    obtain ⟨k, hk, rfl, HH⟩ := hrel
    by_cases hk0 : k = 0
    · subst hk0
      go_wp2_with (refine wpListG_part rfl 66 (.tmp 23) rfl g 0 rfl 66 cur #[.int .i64 0, .int .i64 36500000] _ (by have := HH.out.below.block g (obj_lt HG.out); exact this.trans HG.out) (tier_part H0.out H1.out) Tryz.underlying66 rfl (by first | kernel_rfl | (rw [enc_size]; kernel_rfl)) ?_)
      have H2 : Hid (Has W [(wr.heap.size, 66, #[.int .i64 0, .int .i64 36500000])] (wr.alloc (.cells #[.int .i64 0, .int .i64 36500000] 66))) := Lib.hid (Has.cons (Blk.new _ _ _) (Has.nil (Below.al HH.out.below _)))
      obtain ⟨g2, hg2⟩ : ∃ g2, g2 = wr.heap.size := ⟨_, rfl⟩
      rw [← hg2] at H2 ⊢
      clear hg2 HH
      refine wp_region_class (fun w' => Has W [(g2, 66, #[.int .i64 0, .int .i64 36500000])] w') [0, 1, 2, 3, 4, 5, 6, 7, 8, 9, 10, 11, 12, 13, 14, 15, 16, 17, 18, 19, 20, 21, 22, 23] (by kernel_rfl) (by kernel_rfl) H2.out.drew ?_
      simp only [List.map_cons, List.map_nil, opAt, List.getElem?_cons_succ, List.getElem?_cons_zero, Option.getD_some]
      repeat (go_big_quiet_step ((intro _; rfl)))
      refine wpQuiet_cell 2 (.tmp 39) rfl rfl ⟨g2, 0, none⟩ rfl (.int .i64 0) _ (fun w hw => (hw.get 0 rfl).cell 0) Tryz.underlying2 rfl (fun KK hKK => ?_)
      go_simp
      refine hKK _ ?_
      clear hKK KK
      repeat (go_big_quiet_step ((intro _; rfl)))
      refine wpQuiet_cell 2 (.tmp 44) rfl rfl ⟨g2, 1, none⟩ rfl (.int .i64 36500000) _ (fun w hw => (hw.get 0 rfl).cell 1) Tryz.underlying2 rfl (fun KK hKK => ?_)
      go_simp
      refine hKK _ ?_
      clear hKK KK
      repeat (go_big_quiet_step ((intro _; rfl)))
      go_big_quiet_step ((intro hw; exact (pwithin_b 36500000 1000000000 (by omega) (by unfold InR; omega) _).mono fun e w' h => ⟨h.1, hw.step h.2⟩))
      repeat (go_big_quiet_step ((intro _; rfl)))
      refine wpQuiet_nil ?_
      intro w5 H5
      clear H2
      have H5 := Lib.hid H5
      go_wp2_with fail
      go_roundw
      case rel => exact ⟨1, by omega, by go_num, Lib.hid (H5.out.of_mem (by simp))⟩
      case measure => simp [intOf]
    · obtain rfl : k = 1 := by omega
      go_wp2_with fail
      exact bodyPost_ret (results_one rfl _ _ rfl) rfl ⟨rfl, HH.out.below⟩
set_option maxHeartbeats 4000000 in
set_option maxRecDepth 100000 in
theorem pcheck_ok (s : Value) (W : World) (h : TS W s) : Calls Tryz.prog 85 #[.agg (prodE s)] W fun e w' => e = .returned (.int .i64 0) ∧ Below W.heap.size W w' := by
  have HS := Lib.hid h
  have HP := Lib.hid (And.intro (fun w => pwithin_b 0 10000000000000 (by omega) (by unfold InR; omega) w) (fun w => pwithin_b 500 10000000000000 (by omega) (by unfold InR; omega) w))
  unfold prodE
  clear h
  go_enter Tryz.func85, Tryz.ntmps85
  go_wp2_with fail
  have H1 : Hid (Has W [(W.heap.size, 115, prodE s)] (W.alloc (.cells (prodE s) 115))) := Lib.hid (Has.cons (Blk.new _ _ _) (Has.nil (Below.al (Below.refl _ _) _)))
  refine (Cal.digits0_ok _).mono ?_
  rintro e w1 ⟨rfl, hw⟩
  obtain rfl := hw
  go_wp2_with (first
    | (refine wpListG_cell rfl 3 (.tmp 12) rfl W.heap.size 0 rfl 115 (prodE s) (.int .i64 1) rfl _ (H1.out.get 0 rfl) Tryz.underlying3 rfl ?_))
  refine (HP.out.1 _).mono ?_
  rintro e w2 ⟨rfl, hb2⟩
  have H2 := Lib.hid (H1.out.step hb2)
  clear hb2 H1
  go_wp2_with (first
    | (refine wpListG_cell rfl 2 (.tmp 70) rfl W.heap.size 7 rfl 115 (prodE s) (.int .i64 500) rfl _ (H2.out.get 0 rfl) Tryz.underlying2 rfl ?_))
  refine (HP.out.2 _).mono ?_
  rintro e w3 ⟨rfl, hb3⟩
  have H3 := Lib.hid (H2.out.step hb3)
  clear hb3 H2
  obtain ⟨g1, c1, cu, rfl, _⟩ := HS.out
  go_wp2_with (first
    | (refine wpListG_cell rfl 30 (.tmp 75) rfl W.heap.size 8 rfl 115 (prodE (.slice (some ⟨g1, 0, none⟩) 1 c1)) (.slice (some ⟨g1, 0, none⟩) 1 c1) rfl _ (H3.out.get 0 rfl) Tryz.underlying30 rfl ?_))
  refine (tiers_ok _ _ (HS.out.step H3.out.below)).mono ?_
  rintro e w4 ⟨rfl, hb4⟩
  have H4 := Lib.hid (H3.out.step hb4)
  clear hb4 H3
  go_wp2_with fail
  exact bodyPost_ret (results_one rfl _ _ rfl) rfl ⟨rfl, H4.out.below⟩
end Go.Proofs.YtlfomhdphbchpaaGreatDoor.Pr

/-! As 'wp_region_regF', where the last one of the tail need not keep the floats' class: all floats are bound to come ahead of it. Printed by mkRegG.py out of XRegF. -/
namespace Go.Proofs.YtlfomhdphbchpaaGreatDoor
open Go Go.RowKit
set_option linter.unusedVariables false
set_option linter.unusedSimpArgs false
section
variable {P : Program} {ops : Array Oper} {C D : World → Prop}
/-- the tail, which keeps D -/
def wpTailL (P : Program) (l : List Oper) (D : World → Prop) (Q : Act → World → Prop) : List Nat → Act → World → Prop
  | [], a, w => Q a w
  | z :: zs, a, w => wpList P l.toArray (onlyNormal fun a w => (zs ≠ [] → D w) ∧ wpTailL P l D Q zs a w) [opAt l z] a w
/-- an operation of the tail comes ahead of floats that it does not look at -/
theorem wpX_tailL {l : List Oper} {z : Nat} {K : Act → World → Prop} {w : World} (hz : z < l.length) (hsz : ∀ cs b, (opAt l z).op ≠ .select cs b) : ∀ (fs : List (Bool × Oper)) (a : Act),
    (∀ x ∈ fs, x.1 = true ∧ x.2.apart l.toArray (opAt l z) = true ∧ ∀ cs b, x.2.op ≠ .select cs b) →
    wpX P l.toArray C D (fun a' => wpOpM P l.toArray z K a' w) fs a → wpOpM P l.toArray z (fun a1 w1 => wpX P l.toArray C D (fun a' => K a' w1) fs a1) a w
  | [], a, _, h => wpOpM_mono (fun _ _ h => h) h
  | (b, o) :: fs, a, hap, h => by
    obtain ⟨h1, h2, h3⟩ := hap _ List.mem_cons_self
    have h1' : b = true := h1
    subst h1'
    obtain ⟨v, hv, h4⟩ := h
    have ih := wpX_tailL hz hsz fs (a.put o.dst v) (fun x hx => hap x (List.mem_cons_of_mem _ hx)) h4
    exact wpOpM_mono (fun a' w' h => ⟨v, h.1, h.2⟩) (wpOpM_put (C := D) (opAt_toArray hz) h2 h3 hsz hv ih)
theorem wpAnyM_tailL {md : Region.Mode} {l : List Oper} {Q : Act → World → Prop} {fl : Nat → Bool} (hCD : ∀ w, C w → D w)
    (hsel : ∀ (j : Nat) (o : Oper) cs b, l.toArray[j]? = some o → o.op ≠ .select cs b)
    (hin : ∀ (j : Nat) (o : Oper), l[j]? = some o → ∀ e ∈ o.after, Region.binds md e = true → e.on < l.length) :
    ∀ (m : Nat) (fs zs : List Nat) (listed : Array Bool) (a : Act) (w : World), fs.length + zs.length = m → listed.size = l.length → (∀ z ∈ zs, z < l.length) → zs.Nodup → (∀ k ∈ fs, k < l.length ∧ k ∉ zs ∧ fl k = true ∧ edgeB md l k k = false) →
      (∀ j, listed.getD j true = false ↔ (j < l.length ∧ (j ∈ fs ∨ j ∈ zs))) → fs.Pairwise (fun k j => pairB md l k j = true ∧ j ≠ k) →
      (∀ z ∈ zs, ∀ k ∈ fs, edgeB md l z k = false ∧ (edgeB md l k z = true ∨ (opAt l k).apart l.toArray (opAt l z) = true)) → chainB md l zs = true → (fs ≠ [] → D w) → (∀ zl, zs.getLast? = some zl → ∀ k ∈ fs, edgeB md l k zl = true) →
      wpX P l.toArray C D (fun a' => wpTailL P l D Q zs a' w) (fs.map fun k => (fl k, opAt l k)) a → wpAnyM P md l.toArray (fun _ => True) Q m listed a w := by
  intro m
  induction m with
  | zero =>
    intro fs zs listed a w hm hs _ _ _ hl _ _ _ _ _ h
    have hf0 : fs = [] := List.length_eq_zero_iff.1 (by omega)
    have hz0 : zs = [] := List.length_eq_zero_iff.1 (by omega)
    subst hf0 hz0
    refine ⟨List.eq_nil_iff_forall_not_mem.2 fun i hi => ?_, h⟩
    have := (hl i).1 (lt_of_ready hi).2
    simp at this
  | succ m ih =>
    intro fs zs listed a w hm hs hzl hznd hfs hl hpw hzf hc hD hlast h
    have hready : Region.ready md l.toArray listed ≠ [] := by
      cases fs with
      | cons k fs' =>
        intro h0
        have hk := hfs k List.mem_cons_self
        have := ready_of hs hin hk.1 ((hl k).2 ⟨hk.1, .inl List.mem_cons_self⟩) (fun i hi hu => by
          rcases ((hl i).1 hu).2 with hm | hm
          · rcases List.mem_cons.1 hm with rfl | hm
            · exact hk.2.2.2
            · have := ((List.pairwise_cons.1 hpw).1 i hm).1
              simp only [pairB, Bool.and_eq_true, Bool.not_eq_true'] at this
              exact this.2
          · exact (hzf i hm k List.mem_cons_self).1)
        rw [h0] at this; cases this
      | nil =>
        cases zs with
        | nil => simp at hm
        | cons z zs' =>
          intro h0
          simp only [chainB, Bool.and_eq_true, Bool.not_eq_true', List.all_eq_true] at hc
          have := ready_of hs hin (hzl z List.mem_cons_self) ((hl z).2 ⟨hzl z List.mem_cons_self, .inr List.mem_cons_self⟩) (fun i hi hu => by
            rcases ((hl i).1 hu).2 with hm | hm
            · cases hm
            · rcases List.mem_cons.1 hm with rfl | hm
              · exact hc.1
              · exact hc.2.1.1 i hm)
          rw [h0] at this; cases this
    refine ⟨fun h0 => absurd h0 hready, fun i hi => ?_⟩
    obtain ⟨hil, hiu⟩ := lt_of_ready hi
    have hs' : (listed.setIfInBounds i true).size = l.length := by simp [hs]
    rcases ((hl i).1 hiu).2 with hif | hiz
    · obtain ⟨k1, k2, rfl⟩ := List.append_of_mem hif
      have hap : ∀ x ∈ k1.map (fun k => (fl k, opAt l k)), x.2.apart l.toArray (opAt l i) = true ∧ ∀ cs b, x.2.op ≠ .select cs b := fun x hx => by
        obtain ⟨k, hk, rfl⟩ := List.mem_map.1 hx
        have hk' := hfs k (by simp [hk])
        refine ⟨?_, fun cs b => hsel k _ cs b (opAt_toArray hk'.1)⟩
        have hp := ((List.pairwise_append.1 hpw).2.2 k hk i List.mem_cons_self).1
        simp only [pairB, Bool.and_eq_true, Bool.or_eq_true] at hp
        rcases hp.1 with he | he
        · exact (unl ((hl k).2 ⟨hk'.1, .inl (by simp [hk])⟩) (edge_ready hil he hi)).elim
        · exact he
      have hff := wpX_front (P := P) (C := C) (D := D) (y := (fl i, opAt l i)) (k2 := k2.map (fun k => (fl k, opAt l k))) (fun cs b => hsel i _ cs b (opAt_toArray hil)) (k1.map (fun k => (fl k, opAt l k))) a hap (by simpa using h)
      have hfi : fl i = true := (hfs i hif).2.2.1
      rw [hfi] at hff
      obtain ⟨v, hst, hrest⟩ := hff
      refine hst.wpOpM (opAt_toArray hil) (hD (by simp)) ⟨trivial, ?_⟩
      have hnd' : ∀ j, j ∈ k1 ++ k2 → j ≠ i := fun j hj e => by
        subst e
        rcases List.mem_append.1 hj with hj | hj
        · exact ((List.pairwise_append.1 hpw).2.2 j hj j List.mem_cons_self).2 rfl
        · exact ((List.pairwise_cons.1 (List.pairwise_append.1 hpw).2.1).1 j hj).2 rfl
      have hmem : ∀ j, j ∈ k1 ++ i :: k2 ↔ (j ∈ k1 ++ k2 ∨ j = i) := fun j => by
        simp only [List.mem_append, List.mem_cons]
        constructor
        · rintro (h | rfl | h)
          · exact .inl (.inl h)
          · exact .inr rfl
          · exact .inl (.inr h)
        · rintro ((h | h) | rfl)
          · exact .inl h
          · exact .inr (.inr h)
          · exact .inr (.inl rfl)
      refine ih (k1 ++ k2) zs (listed.setIfInBounds i true) _ w (by simp at hm ⊢; omega) hs' hzl hznd (fun k hk => hfs k ((hmem k).2 (.inl hk))) (fun j => ?_) (hpw.sublist ((List.sublist_cons_self i k2).append_left k1)) (fun z hz k hk => hzf z hz k ((hmem k).2 (.inl hk))) hc (fun _ => hD (by simp)) (fun zl hz k hk => hlast zl hz k ((hmem k).2 (.inl hk))) (by rw [List.map_append]; exact hrest)
      rw [set_unl hs hil j, hl j, hmem j]
      constructor
      · rintro ⟨⟨h1, (h2 | h2) | h2⟩, h3⟩
        · exact ⟨h1, .inl h2⟩
        · exact absurd h2 h3
        · exact ⟨h1, .inr h2⟩
      · rintro ⟨h1, h2 | h2⟩
        · exact ⟨⟨h1, .inl (.inl h2)⟩, hnd' j h2⟩
        · exact ⟨⟨h1, .inr h2⟩, fun e => (hfs i hif).2.1 (e ▸ h2)⟩
    · cases zs with
      | nil => cases hiz
      | cons z zs =>
        have hc0 := hc
        simp only [chainB, Bool.and_eq_true, Bool.not_eq_true', List.all_eq_true] at hc
        obtain ⟨c1, ⟨c2, c3⟩, c4⟩ := hc
        have hizz : i = z := by
          rcases List.mem_cons.1 hiz with e | hm'
          · exact e
          · exfalso
            have key : ∀ (zs : List Nat) (z : Nat), (match zs with | [] => true | y :: _ => edgeB md l z y) = true → chainB md l zs = true → i ∈ zs → ∃ p, p ∈ z :: zs ∧ edgeB md l p i = true := by
              intro zs
              induction zs with
              | nil => intro z _ _ h; cases h
              | cons y ys ih =>
                intro z he hc hm
                rcases List.mem_cons.1 hm with rfl | hm
                · exact ⟨z, List.mem_cons_self, he⟩
                · simp only [chainB, Bool.and_eq_true] at hc
                  obtain ⟨p, hp, hpe⟩ := ih y hc.2.1.2 hc.2.2 hm
                  exact ⟨p, List.mem_cons_of_mem _ hp, hpe⟩
            obtain ⟨p, hp, hpe⟩ := key zs z c3 c4 hm'
            exact unl ((hl p).2 ⟨hzl p hp, .inr hp⟩) (edge_ready hil hpe hi)
        subst hizz
        have hst := wpX_tailL (P := P) (C := C) (D := D) (K := fun a w => (zs ≠ [] → D w) ∧ wpTailL P l D Q zs a w) (w := w) hil (fun cs b => hsel i _ cs b (opAt_toArray hil)) (fs.map fun k => (fl k, opAt l k)) a (fun x hx => by
          obtain ⟨k, hk, rfl⟩ := List.mem_map.1 hx
          have hk' := hfs k hk
          refine ⟨hk'.2.2.1, ?_, fun cs b => hsel k _ cs b (opAt_toArray hk'.1)⟩
          rcases (hzf i List.mem_cons_self k hk).2 with he | he
          · exact (unl ((hl k).2 ⟨hk'.1, .inl hk⟩) (edge_ready hil he hi)).elim
          · exact he) (wpX_mono (fun a' h => wpOpM_of_list (opAt_toArray hil) h) _ _ h)
        refine wpOpM_mono (fun a1 w1 hq => ⟨trivial, ?_⟩) hst
        have hfD : (fs ≠ [] → D w1) ∧ wpX P l.toArray C D (fun a' => wpTailL P l D Q zs a' w1) (fs.map fun k => (fl k, opAt l k)) a1 := by
          refine ⟨fun hne => ?_, wpX_mono (fun _ h => h.2) _ _ hq⟩
          have hzne : zs ≠ [] := by
            rintro rfl
            cases fs with
            | nil => exact hne rfl
            | cons k fs' => exact unl ((hl k).2 ⟨(hfs k List.mem_cons_self).1, .inl List.mem_cons_self⟩) (edge_ready hil (hlast i rfl k List.mem_cons_self) hi)
          have : ∀ (fs : List (Bool × Oper)) (a1 : Act), wpX P l.toArray C D (fun a' => (zs ≠ [] → D w1) ∧ wpTailL P l D Q zs a' w1) fs a1 → D w1 := fun fs => by
            induction fs with
            | nil => intro a1 h; exact h.1 hzne
            | cons x fs ih => intro a1 h; obtain ⟨v, _, h⟩ := wpX_cons.1 h; exact ih _ h
          exact this _ _ hq
        refine ih fs zs (listed.setIfInBounds i true) a1 w1 (by simp at hm ⊢; omega) hs' (fun z hz => hzl z (List.mem_cons_of_mem _ hz)) (List.nodup_cons.1 hznd).2 (fun k hk => ⟨(hfs k hk).1, fun h => (hfs k hk).2.1 (List.mem_cons_of_mem _ h), (hfs k hk).2.2⟩) (fun j => ?_) hpw (fun z hz => hzf z (List.mem_cons_of_mem _ hz)) c4 hfD.1 (fun zl hz k hk => hlast zl (by cases zs with | nil => cases hz | cons y ys => rw [List.getLast?_cons_cons]; exact hz) k hk) hfD.2
        rw [set_unl hs hil j, hl j]
        constructor
        · rintro ⟨⟨h1, h2 | h2⟩, h3⟩
          · exact ⟨h1, .inl h2⟩
          · exact ⟨h1, .inr ((List.mem_cons.1 h2).resolve_left h3)⟩
        · rintro ⟨h1, h2 | h2⟩
          · exact ⟨⟨h1, .inl h2⟩, fun e => (hfs j h2).2.1 (e ▸ List.mem_cons_self)⟩
          · exact ⟨⟨h1, .inr (List.mem_cons_of_mem _ h2)⟩, fun e => (List.nodup_cons.1 hznd).1 (e ▸ h2)⟩
theorem wpAnyM_of_regL {fl : Nat → Bool} (hCD : ∀ w, C w → D w) {md : Region.Mode} {l : List Oper} {Q : Act → World → Prop} {tz : Nat → TypeId × Array Value} {N : Nat} {all zs : List Nat} {n : Nat}
    (hCB : ∀ w w', C w → Below w.heap.size w w' → C w')
    (hsel : ∀ (j : Nat) (o : Oper) cs b, l.toArray[j]? = some o → o.op ≠ .select cs b)
    (hin : ∀ (j : Nat) (o : Oper), l[j]? = some o → ∀ e ∈ o.after, Region.binds md e = true → e.on < l.length)
    (hzl : ∀ z ∈ zs, z < l.length) (hznd : zs.Nodup) (hzc : chainB md l zs = true) (hLE : ∀ zl, zs.getLast? = some zl → ∀ k, fl k = true → edgeB md l k zl = true) (hal : ∀ k ∈ all, AllocB P l.toArray (opAt l k) (tz k).1 (tz k).2) :
    ∀ (m : Nat) (ks bs : List Nat) (listed : Array Bool) (a : Act) (w : World) (gs0 : Nat → Nat), ks.length + bs.length = m → listed.size = l.length → Closed md l listed →
      (∀ k ∈ ks, k < l.length ∧ k ∉ bs ∧ k ∉ zs ∧ edgeB md l k k = false) → (∀ k ∈ bs, k < l.length ∧ k ∉ zs ∧ k ∈ all ∧ edgeB md l k k = false) → bs.Nodup →
      (∀ j, listed.getD j true = false ↔ (j < l.length ∧ (j ∈ ks ∨ j ∈ bs ∨ j ∈ zs))) →
      ks.Pairwise (fun k j => pairB md l k j = true ∧ j ≠ k) → (∀ k ∈ ks, ∀ j ∈ bs, loose md l k j = true) → (∀ k ∈ bs, ∀ j ∈ bs, k ≠ j → loose md l k j = true) →
      (∀ z ∈ zs, ∀ k, k ∈ ks ∨ k ∈ bs → edgeB md l z k = false ∧ (k ∈ bs ∨ fl k = false → pathB md l n k z = true) ∧ (edgeB md l k z = true ∨ (opAt l k).apart l.toArray (opAt l z) = true)) → C w → N ≤ w.heap.size →
      (∀ k ∈ all, k ∉ bs → N ≤ gs0 k ∧ Blk w (gs0 k) (tz k).1 (tz k).2) → (∀ j ∈ all, ∀ k ∈ all, j ∉ bs → k ∉ bs → j ≠ k → gs0 j ≠ gs0 k) →
      wpX P l.toArray C D (fun a' => ∀ (gs : Nat → Nat) (w' : World), C w' → (∀ k ∈ all, k ∉ bs → gs k = gs0 k) → Made tz N all gs w' → wpTailL P l D Q zs (putAll l gs bs a') w') (ks.map fun k => (fl k, opAt l k)) a →
      wpAnyM P md l.toArray (fun _ => True) Q (m + zs.length) listed a w := by
  intro m
  induction m with
  | zero =>
    intro ks bs listed a w gs0 hm hs hcl hks has hnd hl hpw hla haa hz hC hN hd hdd h
    have hk0 : ks = [] := List.length_eq_zero_iff.1 (by omega)
    have ha0 : bs = [] := List.length_eq_zero_iff.1 (by omega)
    subst hk0 ha0
    have := wpAnyM_tailL (P := P) (C := C) (D := D) (md := md) (Q := Q) (fl := fl) hCD hsel hin (0 + zs.length) [] zs listed a w (by simp) hs hzl hznd (fun k hk => by cases hk) (fun j => by simpa using hl j) .nil (fun z _ k hk => by cases hk) hzc (fun _ => hCD _ hC) (fun zl hz k hk => hLE zl hz k (by first | (cases hk; done) | exact hfl k hk))
      (h gs0 w hC (fun _ _ _ => rfl) ⟨fun k hk => hd k hk (by simp), fun j hj k hk => hdd j hj k hk (by simp) (by simp)⟩)
    exact this
  | succ m ih =>
    intro ks bs listed a w gs0 hm hs hcl hks has hnd hl hpw hla haa hz hC hN hd hdd h
    by_cases hrem : (∃ k ∈ ks, fl k = false) ∨ bs ≠ []
    case neg =>
      have hb0 : bs = [] := Classical.byContradiction fun h => hrem (.inr h)
      subst hb0
      have hfl : ∀ k ∈ ks, fl k = true := fun k hk => by
        cases hf : fl k with
        | true => rfl
        | false => exact (hrem (.inl ⟨k, hk, hf⟩)).elim
      refine wpAnyM_tailL (P := P) (C := C) (D := D) (md := md) (Q := Q) (fl := fl) hCD hsel hin (m + 1 + zs.length) ks zs listed a w (by simp at hm; omega) hs hzl hznd (fun k hk => ⟨(hks k hk).1, (hks k hk).2.2.1, hfl k hk, (hks k hk).2.2.2⟩) (fun j => by simpa using hl j) hpw (fun z hz' k hk => ⟨(hz z hz' k (.inl hk)).1, (hz z hz' k (.inl hk)).2.2⟩) hzc (fun _ => hCD _ hC) (fun zl hz k hk => hLE zl hz k (by first | (cases hk; done) | exact hfl k hk))
        (wpX_mono (fun a' hq => hq gs0 w hC (fun _ _ _ => rfl) ⟨fun k hk => hd k hk (by simp), fun j hj k hk => hdd j hj k hk (by simp) (by simp)⟩) _ _ h)
    case pos =>
      rw [Nat.add_right_comm]
      have hloose : ∀ {i j : Nat}, loose md l i j = true → (opAt l i).apart l.toArray (opAt l j) = true ∧ (opAt l j).apart l.toArray (opAt l i) = true ∧ edgeB md l i j = false ∧ edgeB md l j i = false := fun h => by
        simpa [loose, Bool.and_eq_true] using h
      have hready : Region.ready md l.toArray listed ≠ [] := by
        cases ks with
        | cons k ks' =>
          intro h0
          have hk := hks k List.mem_cons_self
          have := ready_of hs hin hk.1 ((hl k).2 ⟨hk.1, .inl List.mem_cons_self⟩) (fun i hi hu => by
            rcases ((hl i).1 hu).2 with hm | hm | hm
            · rcases List.mem_cons.1 hm with rfl | hm
              · exact hk.2.2.2
              · have := ((List.pairwise_cons.1 hpw).1 i hm).1
                simp only [pairB, Bool.and_eq_true, Bool.not_eq_true'] at this
                exact this.2
            · exact (hloose (hla k List.mem_cons_self i hm)).2.2.2
            · exact (hz i hm k (.inl List.mem_cons_self)).1)
          rw [h0] at this; cases this
        | nil =>
          cases bs with
          | nil => simp at hm
          | cons k bs' =>
            intro h0
            have hk := has k List.mem_cons_self
            have := ready_of hs hin hk.1 ((hl k).2 ⟨hk.1, .inr (.inl List.mem_cons_self)⟩) (fun i hi hu => by
              rcases ((hl i).1 hu).2 with hm | hm | hm
              · cases hm
              · by_cases hik : i = k
                · subst hik; exact hk.2.2.2
                · exact (hloose (haa i hm k List.mem_cons_self hik)).2.2.1
              · exact (hz i hm k (.inr List.mem_cons_self)).1)
            rw [h0] at this; cases this
      refine ⟨fun h0 => absurd h0 hready, fun i hi => ?_⟩
      obtain ⟨hil, hiu⟩ := lt_of_ready hi
      have hcl' := hcl.step hi
      have hs' : (listed.setIfInBounds i true).size = l.length := by simp [hs]
      rcases ((hl i).1 hiu).2 with hik | hia | hiz
      · obtain ⟨k1, k2, rfl⟩ := List.append_of_mem hik
        have hap : ∀ x ∈ k1.map (fun k => (fl k, opAt l k)), x.2.apart l.toArray (opAt l i) = true ∧ ∀ cs b, x.2.op ≠ .select cs b := fun x hx => by
          obtain ⟨k, hk, rfl⟩ := List.mem_map.1 hx
          have hk' := hks k (by simp [hk])
          refine ⟨?_, fun cs b => hsel k _ cs b (opAt_toArray hk'.1)⟩
          have hp := ((List.pairwise_append.1 hpw).2.2 k hk i List.mem_cons_self).1
          simp only [pairB, Bool.and_eq_true, Bool.or_eq_true] at hp
          rcases hp.1 with he | he
          · exact (unl ((hl k).2 ⟨hk'.1, .inl (by simp [hk])⟩) (edge_ready hil he hi)).elim
          · exact he
        obtain ⟨v, hst, hrest⟩ := wpX_cons.1 (wpX_front (P := P) (C := C) (D := D) (y := (fl i, opAt l i)) (k2 := k2.map (fun k => (fl k, opAt l k))) (fun cs b => hsel i _ cs b (opAt_toArray hil)) (k1.map (fun k => (fl k, opAt l k))) a hap (by simpa using h))
        refine (hst.stable hCD).wpOpM (opAt_toArray hil) hC fun w' hb => ⟨trivial, ?_⟩
        have hnd' : ∀ j, j ∈ k1 ++ k2 → j ≠ i := fun j hj e => by
          subst e
          rcases List.mem_append.1 hj with hj | hj
          · exact ((List.pairwise_append.1 hpw).2.2 j hj j List.mem_cons_self).2 rfl
          · exact ((List.pairwise_cons.1 (List.pairwise_append.1 hpw).2.1).1 j hj).2 rfl
        have hmem : ∀ j, j ∈ k1 ++ i :: k2 ↔ (j ∈ k1 ++ k2 ∨ j = i) := fun j => by
          simp only [List.mem_append, List.mem_cons]
          constructor
          · rintro (h | rfl | h)
            · exact .inl (.inl h)
            · exact .inr rfl
            · exact .inl (.inr h)
          · rintro ((h | h) | rfl)
            · exact .inl h
            · exact .inr (.inr h)
            · exact .inr (.inl rfl)
        have hii := hks i hik
        refine ih (k1 ++ k2) bs (listed.setIfInBounds i true) _ w' gs0 (by simp at hm ⊢; omega) hs' hcl' (fun k hk => hks k ((hmem k).2 (.inl hk))) has hnd (fun j => ?_) (hpw.sublist ((List.sublist_cons_self i k2).append_left k1)) (fun k hk => hla k ((hmem k).2 (.inl hk))) haa
          (fun z hz' k hk => hz z hz' k (hk.imp (fun h => (hmem k).2 (.inl h)) id)) (hCB _ _ hC hb) (Nat.le_trans hN hb.size) (fun k hk hn => ⟨(hd k hk hn).1, (hd k hk hn).2.step hb⟩) hdd (by rw [List.map_append]; exact hrest)
        rw [set_unl hs hil j, hl j, hmem j]
        constructor
        · rintro ⟨⟨h1, (h2 | h2) | h2⟩, h3⟩
          · exact ⟨h1, .inl h2⟩
          · exact absurd h2 h3
          · exact ⟨h1, .inr h2⟩
        · rintro ⟨h1, h2 | h2 | h2⟩
          · exact ⟨⟨h1, .inl (.inl h2)⟩, hnd' j h2⟩
          · exact ⟨⟨h1, .inr (.inl h2)⟩, fun e => hii.2.1 (e ▸ h2)⟩
          · exact ⟨⟨h1, .inr (.inr h2)⟩, fun e => hii.2.2.1 (e ▸ h2)⟩
      · obtain ⟨a1, a2, rfl⟩ := List.append_of_mem hia
        have hai := has i hia
        obtain ⟨hg, hrun⟩ := hal i hai.2.2.1
        have hmem : ∀ j, j ∈ a1 ++ i :: a2 ↔ (j ∈ a1 ++ a2 ∨ j = i) := fun j => by
          simp only [List.mem_append, List.mem_cons]
          constructor
          · rintro (h | rfl | h)
            · exact .inl (.inl h)
            · exact .inr rfl
            · exact .inl (.inr h)
          · rintro ((h | h) | rfl)
            · exact .inl h
            · exact .inr (.inr h)
            · exact .inr (.inl rfl)
        have hni : i ∉ a1 ++ a2 := fun h => by
          have := List.nodup_append.1 hnd
          rcases List.mem_append.1 h with h | h
          · exact (this.2.2 i h i List.mem_cons_self) rfl
          · exact (List.nodup_cons.1 this.2.1).1 h
        have hnd2 : (a1 ++ a2).Nodup := hnd.sublist ((List.sublist_cons_self i a2).append_left a1)
        unfold wpOpM
        rw [opAt_toArray hil]
        have hw : Region.wanted (opAt l i) (yielded l.toArray a.tmps) = true := by simp [Region.wanted, hg]
        simp only [hw, if_true]
        unfold Oper.wp
        rw [hrun a w]
        show True ∧ _
        refine ⟨trivial, ?_⟩
        have hb : Below w.heap.size w (w.alloc (.cells (tz i).2 (tz i).1)) := (Below.refl _ _).alloc (Nat.le_refl _) _
        have hput := wpX_put (P := P) (C := C) (D := D) (opAt l i).dst (.pointer (some ⟨w.heap.size, 0, none⟩)) (ks.map (fun k => (fl k, opAt l k))) a (fun o ho => by
          obtain ⟨k, hk, rfl⟩ := List.mem_map.1 ho
          have hlo := hloose (hla k hk i hia)
          obtain ⟨b1, b2, b3⟩ := Oper.apart_spec hlo.2.1
          exact ⟨b1, b2, fun cs b => hsel k _ cs b (opAt_toArray (hks k hk).1)⟩) h
        refine ih ks (a1 ++ a2) (listed.setIfInBounds i true) _ _ (fun j => if j = i then w.heap.size else gs0 j) (by simp at hm ⊢; omega) hs' hcl' (fun k hk => ?_) (fun k hk => has k ((hmem k).2 (.inl hk))) hnd2 (fun j => ?_) hpw (fun k hk j hj => hla k hk j ((hmem j).2 (.inl hj)))
          (fun k hk j hj => haa k ((hmem k).2 (.inl hk)) j ((hmem j).2 (.inl hj))) (fun z hz' k hk => ⟨(hz z hz' k (hk.imp id (fun h => (hmem k).2 (.inl h)))).1, fun hq => (hz z hz' k (hk.imp id (fun h => (hmem k).2 (.inl h)))).2.1 (hq.imp (fun h => (hmem k).2 (.inl h)) id), (hz z hz' k (hk.imp id (fun h => (hmem k).2 (.inl h)))).2.2⟩) (hCB _ _ hC hb) (Nat.le_trans hN hb.size) (fun k hk hn => ?_) (fun j hj k hk hjn hkn hjk => ?_) (wpX_mono ?_ _ _ hput)
        · have := hks k hk
          exact ⟨this.1, fun hk' => this.2.1 ((hmem k).2 (.inl hk')), this.2.2⟩
        · rw [set_unl hs hil j, hl j, hmem j]
          constructor
          · rintro ⟨⟨h1, h2 | (h2 | h2) | h2⟩, h3⟩
            · exact ⟨h1, .inl h2⟩
            · exact ⟨h1, .inr (.inl h2)⟩
            · exact absurd h2 h3
            · exact ⟨h1, .inr (.inr h2)⟩
          · rintro ⟨h1, h2 | h2 | h2⟩
            · exact ⟨⟨h1, .inl h2⟩, fun e => (hks j h2).2.1 (e ▸ hia)⟩
            · exact ⟨⟨h1, .inr (.inl (.inl h2))⟩, fun e => hni (e ▸ h2)⟩
            · exact ⟨⟨h1, .inr (.inr h2)⟩, fun e => hai.2.1 (e ▸ h2)⟩
        · by_cases hki : k = i
          · subst hki; rw [if_pos rfl]; exact ⟨hN, Blk.new w _ _⟩
          · rw [if_neg hki]
            have := hd k hk (fun hm => by rcases (hmem k).1 hm with h | h; exact hn h; exact hki h)
            exact ⟨this.1, this.2.step hb⟩
        · have hlt : ∀ k, k ∈ all → k ∉ a1 ++ a2 → k ≠ i → gs0 k ≠ w.heap.size := fun k hk hn hki => by
            have := hd k hk (fun hm => by rcases (hmem k).1 hm with h | h; exact hn h; exact hki h)
            exact Nat.ne_of_lt this.2.lt
          by_cases hji : j = i
          · subst hji
            rw [if_pos rfl, if_neg (fun e => hjk e.symm)]
            exact fun e => hlt k hk hkn (fun e => hjk e.symm) e.symm
          · rw [if_neg hji]
            by_cases hki : k = i
            · subst hki; rw [if_pos rfl]; exact hlt j hj hjn hji
            · rw [if_neg hki]
              exact hdd j hj k hk (fun hm => by rcases (hmem j).1 hm with h | h; exact hjn h; exact hji h) (fun hm => by rcases (hmem k).1 hm with h | h; exact hkn h; exact hki h) hjk
        · rintro a' ⟨a'', rfl, hq⟩ gs w' hC' hgs hmade
          have hgi : gs i = w.heap.size := by rw [hgs i hai.2.2.1 hni, if_pos rfl]
          have := hq gs w' hC' (fun k hk hn => by
            rw [hgs k hk (fun hm => hn ((hmem k).2 (.inl hm))), if_neg (fun e : k = i => hn (by rw [e]; exact hia))]) hmade
          rw [putAll_mid i a1 a2 a'' (fun j hj t ht => by
            have hji : j ≠ i := fun e => hni (List.mem_append_left _ (e ▸ hj))
            exact (Oper.apart_spec (hloose (haa i hia j ((hmem j).2 (.inl (List.mem_append_left _ hj))) (Ne.symm hji))).1).2.1 t ht), hgi] at this
          exact this
      · exfalso
        have hex : ∃ k, (k ∈ ks ∧ fl k = false) ∨ k ∈ bs := by
          rcases hrem with ⟨k, hk, hf⟩ | hb
          · exact ⟨k, .inl ⟨hk, hf⟩⟩
          · cases bs with
            | nil => exact absurd rfl hb
            | cons k bs' => exact ⟨k, .inr List.mem_cons_self⟩
        obtain ⟨k, hk⟩ := hex
        have hkl : k < l.length := by rcases hk with h | h; exact (hks k h.1).1; exact (has k h).1
        exact unl ((hl k).2 ⟨hkl, by rcases hk with h | h; exact .inl h.1; exact .inr (.inl h)⟩) (hcl.path hs hil hi n k ((hz i hiz k (hk.imp (fun h => h.1) id)).2.1 (hk.symm.imp id (fun h => h.2))))
def regLB (l : List Oper) (ks bs zs fs : List Nat) : Bool :=
  Region.noSelect l.toArray && (l.all (fun o => o.after.all fun e => !Region.binds .any e || decide (e.on < l.length)) && (
    (ks ++ (bs ++ zs)).all (fun k => decide (k < l.length)) && ((ks ++ (bs ++ zs)).length == l.length && ((List.range l.length).all (fun j => (ks ++ (bs ++ zs)).contains j) && (
    ks.all (fun k => !bs.contains k && (!zs.contains k && !edgeB .any l k k)) && (bs.all (fun k => !zs.contains k && !edgeB .any l k k) && (
    pairsB .any l ks && (ks.all (fun k => bs.all fun j => loose .any l k j) && (bs.all (fun k => bs.all fun j => k == j || loose .any l k j) && (
    zs.all (fun z => (ks ++ bs).all fun k => !edgeB .any l z k && ((fs.contains k && !bs.contains k || pathB .any l 3 k z) && (edgeB .any l k z || (opAt l k).apart l.toArray (opAt l z)))) && chainB .any l zs && (match zs.getLast? with | none => true | some z => fs.all fun k => edgeB .any l k z)))))))))))
theorem wp_region_regL {id : Nat} {Q : Exit → Act → World → Prop} {a : Act} {w : World} {l : List Oper} (C D : World → Prop) (tz : Nat → TypeId × Array Value) (ks bs zs fs : List Nat) (hm : P.follows .mixedOrders = true)
    (hB : (regLB l ks bs zs fs && (nodupB bs && nodupB zs)) = true) (hCD : ∀ w, C w → D w) (hCB : ∀ w w', C w → Below w.heap.size w w' → C w') (hC : C w.drew) (hal : ∀ k ∈ bs, AllocB P l.toArray (opAt l k) (tz k).1 (tz k).2)
    (h : wpX P l.toArray C D (fun a' => ∀ (gs : Nat → Nat) (w' : World), C w' → Made tz w.heap.size bs gs w' → wpTailL P l D (fun a w => Q .normal a w) zs (putAll l gs bs a') w') (ks.map fun k => (fs.contains k, opAt l k)) a) :
    (Code.region id l.toArray true).wp P Q a w := by
  rw [Bool.and_eq_true, Bool.and_eq_true] at hB
  obtain ⟨hB, n1, n2⟩ := hB
  simp only [regLB, Bool.and_eq_true, List.all_eq_true, Array.all_eq_true_iff_forall_mem, decide_eq_true_eq, beq_iff_eq, List.contains_iff_mem, List.mem_range, Bool.or_eq_true, Bool.not_eq_true', List.mem_append] at hB
  obtain ⟨h1, h2, h3, h4, h5, h6, h7, h8, h9, h10, ⟨h11, h12⟩, h13⟩ := hB
  obtain ⟨p1, p2⟩ := pairsB_spec h8
  refine wp_region_any hm (wpAny_of_M (Q := fun a' w' => Q .normal a' w') (C := fun _ => True) (fun _ _ h => h) _ _ _ _ ?_)
  have hrep : ∀ k : Nat, (Array.replicate l.length false).getD k true = false ↔ k < l.length := fun k => by
    by_cases hk : k < l.length
    · simp [hk]
    · simp [hk]
  have := wpAnyM_of_regL (P := P) (C := C) (D := D) (fl := fun k => fs.contains k) (md := .any) (l := l) (Q := fun a' w' => Q .normal a' w') (tz := tz) (N := w.heap.size) (all := bs) (zs := zs) (n := 3) hCD hCB (fun j o cs b ho => Region.noSelect_spec h1 j o cs b ho)
    (fun j o ho e he hb => by rcases h2 o (List.mem_of_getElem? ho) e he with h | h; rw [hb] at h; cases h; exact h)
    (fun z hz => h3 z (.inr (.inr hz))) (nodupB_spec n2) h12 (fun zl hz k hk => by rw [hz] at h13; simp only [List.all_eq_true] at h13; exact h13 k (by simpa using hk)) hal (ks.length + bs.length) ks bs (Array.replicate l.length false) a w.drew (fun _ => 0) rfl (by simp)
    (fun i j hj he hl => by rw [(hrep j).2 hj] at hl; cases hl)
    (fun k hk => ⟨h3 k (.inl hk), not_contains (h6 k hk).1, not_contains (h6 k hk).2.1, (h6 k hk).2.2⟩) (fun k hk => ⟨h3 k (.inr (.inl hk)), not_contains (h7 k hk).1, hk, (h7 k hk).2⟩) (nodupB_spec n1)
    (fun j => by rw [hrep j]; exact ⟨fun hj => ⟨hj, h5 j hj⟩, fun h => h.1⟩) p1 h9 (fun k hk j hj hkj => (h10 k hk j hj).resolve_left hkj) (fun z hz k hk => by
      have := h11 z hz k hk
      refine ⟨this.1, fun hq => ?_, this.2.2⟩
      rcases this.2.1 with ⟨hf, hb⟩ | hp
      · rcases hq with hq | hq
        · exact absurd hq (not_contains hb)
        · exact absurd hf (not_contains hq)
      · exact hp) hC (Nat.le_refl _)
    (fun k hk hn => absurd hk hn) (fun j hj k hk hjn => absurd hj hjn) (wpX_mono (fun a' hq gs w' hC' _ hmade => hq gs w' hC' hmade) _ _ h)
  have hlen : ks.length + bs.length + zs.length = l.length := by rw [← h4]; simp; omega
  rw [hlen] at this
  simpa using this
end
end Go.Proofs.YtlfomhdphbchpaaGreatDoor
