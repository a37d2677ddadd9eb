/- Lemmas of a claim, several texts in one: MoG, MoH -/
import Derived.Test.YtlfomhdphbchpaaGreatDoorG22
import Derived.Test.YtlfomhdphbchpaaGreatDoorG24
/-! model: worth -/
namespace Go.Proofs.YtlfomhdphbchpaaGreatDoor.Mo
open Go.RowKit Go.Deep Go.Proofs.YtlfomhdphbchpaaGreatDoor.Wide Go.Proofs.YtlfomhdphbchpaaGreatDoor.Dec Go.Proofs.YtlfomhdphbchpaaGreatDoor.Mp Go.Proofs.YtlfomhdphbchpaaGreatDoor.Pr Go.Proofs.YtlfomhdphbchpaaGreatDoor.Ch
set_option linter.unusedVariables false
set_option linter.unusedSimpArgs false
/-- the amount of a step -/
def worthV (k b a : Int) : Int := if k = 1 then Acc.dayI b 36500000 0 else if k = 2 then Acc.payX a (10000000000000 - b) else 0
theorem ts_tier {w : World} {g c : Nat} (h : TS w (.slice (some ⟨g, 0, none⟩) 1 c)) : Acc.Tier1 g 36500000 w := by
  obtain ⟨g', c', cur, hs, hg, h0, h1⟩ := h
  cases hs
  exact ⟨obj_lt hg, by rw [Blk.cell (t := 66) (cs := cur) hg]; exact h0, by rw [Blk.cell (t := 66) (cs := cur) hg]; exact h1⟩
set_option maxHeartbeats 4000000 in
set_option maxRecDepth 100000 in
theorem worth_ok (gm gc ba br bk gl ga bh : Nat) (day seq b a k : Int) (run : Bool) (st : Value) (hk : k = 1 ∨ k = 2 ∨ k = 3) (hd : 1 ≤ day ∧ day < 3652059) (hb : 0 ≤ b ∧ b ≤ 10000000000000) (W : World) (hc : Cat1 gc W)
    (h : HasO [] W [(gm, .cells (modE day gc ba br bk gl seq run st) 64), (ba, .map #[entA ga] 1), (ga, .cells (acctE b a bh) 126)] W) :
    Calls Tryz.prog 29 #[.pointer (some ⟨gm, 0, none⟩), .agg #[.int .i64 10, .int .i64 k]] W fun e w' => e = .returned (.int .i64 (worthV k b a)) ∧ Below W.heap.size W w' := by
  have CA := Lib.hid (fun w (hb : Below W.heap.size W w) => at1_ok gc day (by omega) w (cat1_step hc hb))
  have H1 := Lib.hid (h.new (g := W.heap.size) rfl (.cells #[.int .i64 10, .int .i64 k] 83))
  have HK := Lib.hid hk
  have HDY := Lib.hid hd
  have HBB := Lib.hid hb
  clear h hc hk hb hd
  go_enter Tryz.func29, Tryz.ntmps29
  go_wp2_with fail
  refine wp_region_class (fun w' => HasO [] W _ w') [0, 1, 2, 3, 4, 5, 6, 7] (by kernel_rfl) (by kernel_rfl) (H1.out.drew) ?_
  simp only [List.map_cons, List.map_nil, opAt, List.getElem?_cons_succ, List.getElem?_cons_zero, Option.getD_some]
  repeat (go_big_quiet_step ((intro _; rfl)))
  refine wpQuiet_cell 57 (.tmp 11) rfl rfl ⟨gm, 2, none⟩ rfl (.map (some ba)) _ (fun w hw => (hw.get 1 rfl).cell 2) Tryz.underlying57 rfl (fun KK hKK => ?_)
  go_simp
  refine hKK _ ?_
  clear hKK KK
  repeat (go_big_quiet_step ((intro _; rfl)))
  refine wpQuiet_cell 2 (.tmp 13) rfl rfl ⟨W.heap.size, 0, none⟩ rfl (.int .i64 10) _ (fun w hw => (hw.get 0 rfl).cell 0) Tryz.underlying2 rfl (fun KK hKK => ?_)
  go_simp
  refine hKK _ ?_
  clear hKK KK
  refine wpQuiet_lookup rfl 57 (.tmp 12) (.tmp 14) false rfl ba (.int .i64 10) (.pointer (some ⟨ga, 0, none⟩)) rfl rfl (fun w hw => look10 ga ba w (hw.obj 2 rfl)) (fun KK hKK => ?_)
  go_simp
  refine hKK _ ?_
  clear hKK KK
  repeat (go_big_quiet_step ((intro _; rfl)))
  refine wpQuiet_nil ?_
  intro w5 H5
  have H5 := Lib.hid H5
  clear H1
  go_wp2_with fail
  apply wp_region_cut3 (fun w' => HasO [] W [(W.heap.size, .cells #[.int .i64 10, .int .i64 k] 83), (gm, .cells (modE day gc ba br bk gl seq run st) 64), (ba, .map #[entA ga] 1), (ga, .cells (acctE b a bh) 126)] w') (fun g7 g5 c5 w' => HasO [] W ((g7, .cells (prodE (.slice (some ⟨g5, 0, none⟩) 1 c5)) 115) :: [(W.heap.size, .cells #[.int .i64 10, .int .i64 k] 83), (gm, .cells (modE day gc ba br bk gl seq run st) 64), (ba, .map #[entA ga] 1), (ga, .cells (acctE b a bh) 126)]) w' ∧ TS w' (.slice (some ⟨g5, 0, none⟩) 1 c5)) _ (.seg [0, 1, 2, 3, 4, 5, 6, 7, 8, 9, 10, 11, 12] (.fork 13 (.seg [14, 15, 16] (.turn 17 (.turn 18 (.turn 19 .nil)))) 17 (.turn 13 (.seg [14, 15, 16] (.turn 18 (.turn 19 .nil)))))) (by kernel_rfl) (by kernel_rfl) H5.out.drew
  case h =>
    simp only [wpPlan, List.map_cons, List.map_nil, opAt, List.getElem?_cons_succ, List.getElem?_cons_zero, Option.getD_some]
    repeat (go_big_quiet_step ((intro _; rfl)))
    refine wpQuiet_cell 55 (.tmp 19) rfl rfl ⟨gm, 1, none⟩ rfl (.pointer (some ⟨gc, 0, none⟩)) _ (fun w hw => (hw.get 1 rfl).cell 1) Tryz.underlying55 rfl (fun KK hKK => ?_)
    go_simp
    refine hKK _ ?_
    clear hKK KK
    repeat (go_big_quiet_step ((intro _; rfl)))
    refine wpQuiet_cell 2 (.tmp 24) rfl rfl ⟨ga, 1, none⟩ rfl (.int .i64 1) _ (fun w hw => (hw.get 3 rfl).cell 1) Tryz.underlying2 rfl (fun KK hKK => ?_)
    go_simp
    refine hKK _ ?_
    clear hKK KK
    repeat (go_big_quiet_step ((intro _; rfl)))
    refine wpQuiet_cell 3 (.tmp 28) rfl rfl ⟨gm, 0, none⟩ rfl (.int .i64 day) _ (fun w hw => (hw.get 1 rfl).cell 0) Tryz.underlying3 rfl (fun KK hKK => ?_)
    go_simp
    refine hKK _ ?_
    clear hKK KK
    repeat (go_big_quiet_step ((intro _; rfl)))
    refine wpQuiet_nil ?_
    have HD := Lib.hid H5.out.drew
    refine ⟨?_, ?_⟩
    · go_wp2_with fail
      refine (CA.out _ HD.out.below).mono ?_
      rintro e w11 ⟨⟨s', rfl, hs'⟩, hb1⟩
      have HSa := Lib.hid hs'
      obtain ⟨g5, c5, cu5, rfl, _⟩ := hs'
      have H2a := Lib.hid (HD.out.step hb1)
      clear hb1 HD
      go_wp2_with fail
      refine ⟨H2a.out, ?_⟩
      repeat (go_big_quiet_step ((intro _; rfl)))
      refine wpQuiet_nil ?_
      go_wp2_with fail
      obtain ⟨g7, hg7⟩ : ∃ g7, g7 = w11.heap.size := ⟨_, rfl⟩
      have H3a := Lib.hid (H2a.out.new hg7 (.cells prodZ 115))
      have HSb := Lib.hid (HSa.out.step (Below.al (Below.refl _ _) (.cells prodZ 115)))
      have HNa := Lib.hid (H2a.out.size)
      rw [← hg7] at HNa
      rw [← hg7]
      refine ⟨H3a.out.tail, ?_⟩
      clear hg7 H2a HSa
      go_wp2_with (refine wpList_turn rfl 115 (.tmp 6) (.tmp 31) rfl g7 0 (.agg (prodE (.slice (some ⟨g5, 0, none⟩) 1 c5))) rfl rfl 115 prodZ (prodE (.slice (some ⟨g5, 0, none⟩) 1 c5)) (H3a.out.get 0 rfl) (by first | kernel_rfl | (rw [enc_size]; kernel_rfl)) (by first | (simp [Value.cells]; done) | (simp [Value.cells, prodE, prodZ, evE, nsE, evZ]; done) | exact Nat.le_refl _) (by first | exact decE_all _ _ | (simp [Value.cells, Value.oneCell']; done) | (simp [Value.cells, Value.oneCell', prodE, prodZ, evE, nsE, evZ]; done) | (rw [Array.all_eq_true']; simp [Value.cells, Value.oneCell', prodE, prodZ, evE, nsE, evZ])) rfl ?_; intro W6 HT6)
      have H4a := Lib.hid (H3a.out.turn 0 rfl HT6 (.inr HNa.out) (H3a.out.apart 0 rfl rfl))
      have HSc := Lib.hid (HSb.out.keep HT6.keep (by intro k hk cur hc; simp only [List.mem_singleton] at hk; subst hk; rw [H3a.out.obj 0 rfl] at hc; cases hc))
      refine ⟨H4a.out.tail, ?_⟩
      go_wp2_with fail
      refine ⟨H4a.out.tail, ?_⟩
      exact ⟨g7, g5, c5, ⟨H4a.out, HSc.out⟩, rfl⟩
    · go_wp2_with fail
      obtain ⟨g7, hg7⟩ : ∃ g7, g7 = w5.heap.size := ⟨_, rfl⟩
      have H3a : Hid (HasO [] _ ((g7, .cells prodZ 115) :: [(W.heap.size, .cells #[.int .i64 10, .int .i64 k] 83), (gm, .cells (modE day gc ba br bk gl seq run st) 64), (ba, .map #[entA ga] 1), (ga, .cells (acctE b a bh) 126)]) _) := Lib.hid ((H5.out.new hg7 (.cells prodZ 115)).drew)
      have HNa := Lib.hid (H5.out.size)
      rw [← hg7] at HNa
      rw [← hg7]
      refine ⟨H3a.out.tail, ?_⟩
      clear hg7 HD
      go_wp2_with fail
      refine (CA.out _ H3a.out.below).mono ?_
      rintro e w11 ⟨⟨s', rfl, hs'⟩, hb1⟩
      have HSb := Lib.hid hs'
      obtain ⟨g5, c5, cu5, rfl, _⟩ := hs'
      have H2a := Lib.hid (H3a.out.step hb1)
      clear hb1 H3a
      go_wp2_with fail
      refine ⟨H2a.out.tail, ?_⟩
      repeat (go_big_quiet_step ((intro _; rfl)))
      refine wpQuiet_nil ?_
      go_wp2_with (refine wpList_turn rfl 115 (.tmp 6) (.tmp 31) rfl g7 0 (.agg (prodE (.slice (some ⟨g5, 0, none⟩) 1 c5))) rfl rfl 115 prodZ (prodE (.slice (some ⟨g5, 0, none⟩) 1 c5)) (H2a.out.get 0 rfl) (by first | kernel_rfl | (rw [enc_size]; kernel_rfl)) (by first | (simp [Value.cells]; done) | (simp [Value.cells, prodE, prodZ, evE, nsE, evZ]; done) | exact Nat.le_refl _) (by first | exact decE_all _ _ | (simp [Value.cells, Value.oneCell']; done) | (simp [Value.cells, Value.oneCell', prodE, prodZ, evE, nsE, evZ]; done) | (rw [Array.all_eq_true']; simp [Value.cells, Value.oneCell', prodE, prodZ, evE, nsE, evZ])) rfl ?_; intro W6 HT6)
      have H4a := Lib.hid (H2a.out.turn 0 rfl HT6 (.inr HNa.out) (H2a.out.apart 0 rfl rfl))
      have HSc := Lib.hid (HSb.out.keep HT6.keep (by intro k hk cur hc; simp only [List.mem_singleton] at hk; subst hk; rw [H2a.out.obj 0 rfl] at hc; cases hc))
      refine ⟨H4a.out.tail, ?_⟩
      go_wp2_with fail
      refine ⟨H4a.out.tail, ?_⟩
      exact ⟨g7, g5, c5, ⟨H4a.out, HSc.out⟩, rfl⟩
  case hR =>
    intro g7 g5 c5 w6 H6
    have HT6 := Lib.hid H6.2
    have H6 := Lib.hid H6.1
    clear H5 CA
    have ck := (H6.out.get 1 rfl).cell 1
    simp only [List.getElem?_toArray, List.getElem?_cons_succ, List.getElem?_cons_zero] at ck
    rcases HK.out with rfl | rfl | rfl
    · clear HK
      obtain ⟨b1, b2⟩ := HBB.out
      obtain ⟨d1, d2⟩ := HDY.out
      have CD := Lib.hid (fun w (ht : TS w (.slice (some ⟨g5, 0, none⟩) 1 c5)) => Acc.daily_ok b 36500000 0 day g5 c5 (by omega) HBB.out (by omega) HDY.out w (ts_tier ht))
      have e1 : IntKind.i64.wrap (day + 1) = day + 1 := IntWalk.i64_in _ (by omega)
      have emx : max b 0 = b := by omega
      go_wp2_with fail
      clear ck
      refine wp_region_class (fun w' => HasO [] w6 _ w') [0, 1, 2, 3, 4, 5, 6, 7, 8, 9, 10, 11, 12, 13, 14, 15, 16, 17, 18, 19, 20, 21, 22, 23, 24, 25] (by kernel_rfl) (by kernel_rfl) ((HasO.re H6.out).drew) ?_
      simp only [List.map_cons, List.map_nil, opAt, List.getElem?_cons_succ, List.getElem?_cons_zero, Option.getD_some]
      repeat (go_big_quiet_step ((intro _; rfl)))
      refine wpQuiet_cell 2 (.tmp 41) rfl rfl ⟨ga, 5, none⟩ rfl (.int .i64 b) _ (fun w hw => (hw.get 4 rfl).cell 5) Tryz.underlying2 rfl (fun KK hKK => ?_)
      go_simp
      refine hKK _ ?_
      clear hKK KK
      repeat (go_big_quiet_step ((intro _; rfl)))
      refine wpQuiet_cell 30 (.tmp 44) rfl rfl ⟨g7, 8, none⟩ rfl (.slice (some ⟨g5, 0, none⟩) 1 c5) _ (fun w hw => (hw.get 0 rfl).cell 8) Tryz.underlying30 rfl (fun KK hKK => ?_)
      go_simp
      refine hKK _ ?_
      clear hKK KK
      repeat (go_big_quiet_step ((intro _; rfl)))
      refine wpQuiet_cell 3 (.tmp 46) rfl rfl ⟨g7, 4, none⟩ rfl (.int .i64 1) _ (fun w hw => (hw.get 0 rfl).cell 4) Tryz.underlying3 rfl (fun KK hKK => ?_)
      go_simp
      refine hKK _ ?_
      clear hKK KK
      repeat (go_big_quiet_step ((intro _; rfl)))
      refine wpQuiet_cell 3 (.tmp 48) rfl rfl ⟨g7, 5, none⟩ rfl (.int .i64 0) _ (fun w hw => (hw.get 0 rfl).cell 5) Tryz.underlying3 rfl (fun KK hKK => ?_)
      go_simp
      refine hKK _ ?_
      clear hKK KK
      repeat (go_big_quiet_step ((intro _; rfl)))
      refine wpQuiet_cell 3 (.tmp 52) rfl rfl ⟨gm, 0, none⟩ rfl (.int .i64 day) _ (fun w hw => (hw.get 2 rfl).cell 0) Tryz.underlying3 rfl (fun KK hKK => ?_)
      go_simp
      refine hKK _ ?_
      clear hKK KK
      repeat (go_big_quiet_step ((intro _; rfl)))
      refine wpQuiet_cell 3 (.tmp 56) rfl rfl ⟨gm, 0, none⟩ rfl (.int .i64 day) _ (fun w hw => (hw.get 2 rfl).cell 0) Tryz.underlying3 rfl (fun KK hKK => ?_)
      go_simp
      refine hKK _ ?_
      clear hKK KK
      repeat (go_big_quiet_step ((intro _; rfl)))
      go_big_quiet_step ((intro hw; exact (CD.out _ (HT6.out.step hw.below)).mono fun e w' h => ⟨h.1, hw.step h.2⟩))
      repeat (go_big_quiet_step ((intro _; rfl)))
      refine wpQuiet_nil ?_
      intro w7 H7
      have hb7 := Lib.hid (H6.out.below.trans (H7.below.mono H6.out.size))
      clear H7 H6 CD HT6
      go_wp2_with fail
      exact bodyPost_ret (results_one rfl _ _ rfl) rfl ⟨rfl, hb7.out⟩
    · clear HK
      obtain ⟨b1, b2⟩ := HBB.out
      have CD := Lib.hid (fun w => Acc.pay_ok a (10000000000000 - b) w)
      have e1 : IntKind.i64.wrap (10000000000000 - b) = 10000000000000 - b := IntWalk.i64_in _ (by omega)
      go_wp2_with fail
      clear ck
      refine wp_region_class (fun w' => HasO [] w6 _ w') [0, 1, 2, 3, 4, 5, 6, 7, 8, 9, 10, 11, 12, 13, 14, 15, 16] (by kernel_rfl) (by kernel_rfl) ((HasO.re H6.out).drew) ?_
      simp only [List.map_cons, List.map_nil, opAt, List.getElem?_cons_succ, List.getElem?_cons_zero, Option.getD_some]
      repeat (go_big_quiet_step ((intro _; rfl)))
      refine wpQuiet_cell 2 (.tmp 68) rfl rfl ⟨ga, 7, none⟩ rfl (.int .i64 a) _ (fun w hw => (hw.get 4 rfl).cell 7) Tryz.underlying2 rfl (fun KK hKK => ?_)
      go_simp
      refine hKK _ ?_
      clear hKK KK
      repeat (go_big_quiet_step ((intro _; rfl)))
      refine wpQuiet_cell 2 (.tmp 73) rfl rfl ⟨ga, 5, none⟩ rfl (.int .i64 b) _ (fun w hw => (hw.get 4 rfl).cell 5) Tryz.underlying2 rfl (fun KK hKK => ?_)
      go_simp
      refine hKK _ ?_
      clear hKK KK
      repeat (go_big_quiet_step ((intro _; rfl)))
      go_big_quiet_step ((intro hw; exact (CD.out _).mono fun e w' h => ⟨h.1, by rw [h.2]; exact hw⟩))
      repeat (go_big_quiet_step ((intro _; rfl)))
      refine wpQuiet_nil ?_
      intro w7 H7
      have hb7 := Lib.hid (H6.out.below.trans (H7.below.mono H6.out.size))
      clear H7 H6 CD HT6
      go_wp2_with fail
      exact bodyPost_ret (results_one rfl _ _ rfl) rfl ⟨rfl, hb7.out⟩
    · clear HK
      obtain ⟨b1, b2⟩ := HBB.out
      have CD := Lib.hid (fun w => Acc.fee0_ok b b1 w)
      have emx : max b 0 = b := by omega
      go_wp2_with fail
      clear ck
      refine wp_region_class (fun w' => HasO [] w6 _ w') [0, 1, 2, 3, 4, 5, 6, 7, 8, 9, 10, 11, 12, 13, 14, 15, 16, 17] (by kernel_rfl) (by kernel_rfl) ((HasO.re H6.out).drew) ?_
      simp only [List.map_cons, List.map_nil, opAt, List.getElem?_cons_succ, List.getElem?_cons_zero, Option.getD_some]
      repeat (go_big_quiet_step ((intro _; rfl)))
      refine wpQuiet_cell 2 (.tmp 86) rfl rfl ⟨ga, 5, none⟩ rfl (.int .i64 b) _ (fun w hw => (hw.get 4 rfl).cell 5) Tryz.underlying2 rfl (fun KK hKK => ?_)
      go_simp
      refine hKK _ ?_
      clear hKK KK
      repeat (go_big_quiet_step ((intro _; rfl)))
      refine wpQuiet_cell 2 (.tmp 92) rfl rfl ⟨ga, 6, none⟩ rfl (.int .i64 0) _ (fun w hw => (hw.get 4 rfl).cell 6) Tryz.underlying2 rfl (fun KK hKK => ?_)
      go_simp
      refine hKK _ ?_
      clear hKK KK
      repeat (go_big_quiet_step ((intro _; rfl)))
      refine wpQuiet_cell 2 (.tmp 94) rfl rfl ⟨g7, 6, none⟩ rfl (.int .i64 0) _ (fun w hw => (hw.get 0 rfl).cell 6) Tryz.underlying2 rfl (fun KK hKK => ?_)
      go_simp
      refine hKK _ ?_
      clear hKK KK
      go_big_quiet_step ((intro hw; exact (CD.out _).mono fun e w' h => ⟨h.1, by rw [h.2]; exact hw⟩))
      repeat (go_big_quiet_step ((intro _; rfl)))
      refine wpQuiet_nil ?_
      intro w7 H7
      have hb7 := Lib.hid (H6.out.below.trans (H7.below.mono H6.out.size))
      clear H7 H6 CD HT6
      go_wp2_with fail
      exact bodyPost_ret (results_one rfl _ _ rfl) rfl ⟨rfl, hb7.out⟩
end Go.Proofs.YtlfomhdphbchpaaGreatDoor.Mo

/-! model: Next -/
namespace Go.Proofs.YtlfomhdphbchpaaGreatDoor.Mo
open Go.RowKit Go.Deep Go.Proofs.YtlfomhdphbchpaaGreatDoor.Wide Go.Proofs.YtlfomhdphbchpaaGreatDoor.Dec Go.Proofs.YtlfomhdphbchpaaGreatDoor.Mp Go.Proofs.YtlfomhdphbchpaaGreatDoor.Pr Go.Proofs.YtlfomhdphbchpaaGreatDoor.Ch
set_option linter.unusedVariables false
set_option linter.unusedSimpArgs false
/-- steps that are still to come, of account 10: their stages -/
def StepsAt (w : World) (st : Value) (ks : List Int) : Prop := ∃ (A : Option Addr) (c : Nat), st = .slice A ks.length c ∧ ks.length ≤ c ∧ c ≤ maxLen ∧ (ks ≠ [] → ∃ (g off : Nat) (cur : Array Value), A = some ⟨g, off, none⟩ ∧ w.heap[g]? = some (.cells cur 83) ∧
  ∀ (j : Nat) (k : Int), ks[j]? = some k → cur[off + 2 * j]? = some (.int .i64 10) ∧ cur[off + 2 * j + 1]? = some (.int .i64 k))
theorem StepsAt.keep {S : List Nat} {w w' : World} {st : Value} {ks : List Int} (h : StepsAt w st ks) (hk : Keep S w w') (hS : ∀ k ∈ S, ∀ cur, w.heap[k]? ≠ some (.cells cur 83)) : StepsAt w' st ks := by
  obtain ⟨A, c, h1, h2, h2', h3⟩ := h
  refine ⟨A, c, h1, h2, h2', fun hn => ?_⟩
  obtain ⟨g, off, cur, h4, h5, h6⟩ := h3 hn
  exact ⟨g, off, cur, h4, (hk.block g (obj_lt h5) (fun hm => hS g hm _ h5)).trans h5, h6⟩
theorem StepsAt.step {w w' : World} {st : Value} {ks : List Int} (h : StepsAt w st ks) (hb : Below w.heap.size w w') : StepsAt w' st ks := h.keep (S := []) (Keep.of_below hb) (by simp)
set_option maxHeartbeats 4000000 in
set_option maxRecDepth 100000 in
theorem next_begin (gm gc ba br bk gl : Nat) (day seq : Int) (st : Value) (hd : 1 ≤ day ∧ day < 3652059) (W : World) (h : W.heap[gm]? = some (.cells (modE day gc ba br bk gl seq false st) 64)) :
    Calls Tryz.prog 12 #[.pointer (some ⟨gm, 0, none⟩)] W fun e w' => e = .returned (.tuple #[.agg (evE 13 day 0 0 0 0 0 0 0 (.slice none 0 0)), .int .i64 0]) ∧ Below W.heap.size W w' := by
  have H1 := Lib.hid ((HasO.cons h (HasO.start [] W)).new (g := W.heap.size) rfl (.cells evZ 32))
  have d1 : (day == 3652059) = false := beq_eq_false_iff_ne.2 (by omega)
  clear h hd
  go_enter Tryz.func12, Tryz.ntmps12
  go_wp2_with (first
    | (refine wpListG_cell rfl 4 (.tmp 12) rfl gm 7 rfl 64 (modE day gc ba br bk gl seq false st) (.bool false) rfl _ (H1.out.get 1 rfl) Tryz.underlying4 rfl ?_)
    | (refine wpListG_cell rfl 3 (.tmp 18) rfl gm 0 rfl 64 (modE day gc ba br bk gl seq false st) (.int .i64 day) rfl _ (H1.out.get 1 rfl) Tryz.underlying3 rfl ?_)
    | (refine wpListG_cell rfl 4 (.tmp 26) rfl gm 7 rfl 64 (modE day gc ba br bk gl seq false st) (.bool false) rfl _ (H1.out.get 1 rfl) Tryz.underlying4 rfl ?_)
    | (refine wpListG_cell rfl 3 (.tmp 31) rfl gm 0 rfl 64 (modE day gc ba br bk gl seq false st) (.int .i64 day) rfl _ (H1.out.get 1 rfl) Tryz.underlying3 rfl ?_))
  have H2 := Lib.hid (H1.out.new (g := W.heap.size + 1) (by simp) (.cells #[.int .i64 day] 2))
  refine (of1_ok 13 day (W.heap.size + 1) _ (H2.out.obj 0 rfl)).mono ?_
  rintro e w3 ⟨rfl, hb3⟩
  have H3 := Lib.hid (H2.out.step hb3)
  clear hb3 H2 H1
  go_wp2_with (refine wpList_turn rfl 32 (.tmp 2) (.tmp 34) rfl W.heap.size 0 (.agg (evE 13 day 0 0 0 0 0 0 0 (.slice none 0 0))) rfl rfl 32 evZ (evE 13 day 0 0 0 0 0 0 0 (.slice none 0 0)) (H3.out.get 1 rfl) (by first | kernel_rfl | (rw [enc_size]; kernel_rfl)) (by first | (simp [Value.cells]; done) | (simp [Value.cells, prodE, prodZ, evE, nsE, evZ]; done) | exact Nat.le_refl _) (by first | exact decE_all _ _ | (simp [Value.cells, Value.oneCell']; done) | (simp [Value.cells, Value.oneCell', prodE, prodZ, evE, nsE, evZ]; done) | (rw [Array.all_eq_true']; simp [Value.cells, Value.oneCell', prodE, prodZ, evE, nsE, evZ])) rfl ?_; intro W4 HT4)
  have hk := H3.out.1.trans HT4.keep (by simp)
  exact bodyPost_ret (results_row_tmp rfl _ _ W.heap.size 32 (evE 13 day 0 0 0 0 0 0 0 (.slice none 0 0)) _ _ rfl HT4.at_ Tryz.underlying32 rfl (by kernel_rfl) rfl) rfl ⟨rfl, hk.below⟩
set_option maxHeartbeats 4000000 in
set_option maxRecDepth 100000 in
theorem next_roll (gm gc ba br bk gl : Nat) (day seq : Int) (st : Value) (hd : 1 ≤ day ∧ day < 3652059) (W : World) (h : W.heap[gm]? = some (.cells (modE day gc ba br bk gl seq true st) 64)) (hs : StepsAt W st []) :
    Calls Tryz.prog 12 #[.pointer (some ⟨gm, 0, none⟩)] W fun e w' => e = .returned (.tuple #[.agg (evE 15 (day + 1) 0 0 0 0 0 0 0 (.slice none 0 0)), .int .i64 0]) ∧ Below W.heap.size W w' := by
  obtain ⟨A, c, rfl, _⟩ := hs
  have H1 := Lib.hid ((HasO.cons h (HasO.start [] W)).new (g := W.heap.size) rfl (.cells evZ 32))
  have e1 : IntKind.i64.wrap (day + 1) = day + 1 := IntWalk.i64_in _ (by omega)
  clear h
  obtain ⟨d1, d2⟩ := hd
  go_enter Tryz.func12, Tryz.ntmps12
  go_wp2_with (first
    | (refine wpListG_cell rfl 4 (.tmp 12) rfl gm 7 rfl 64 (modE day gc ba br bk gl seq true (.slice A 0 c)) (.bool true) rfl _ (H1.out.get 1 rfl) Tryz.underlying4 rfl ?_)
    | (refine wpListG_cell rfl 4 (.tmp 26) rfl gm 7 rfl 64 (modE day gc ba br bk gl seq true (.slice A 0 c)) (.bool true) rfl _ (H1.out.get 1 rfl) Tryz.underlying4 rfl ?_)
    | (refine wpListG_cell rfl 62 (.tmp 38) rfl gm 8 rfl 64 (modE day gc ba br bk gl seq true (.slice A 0 c)) (.slice A ([] : List Int).length c) rfl _ (H1.out.get 1 rfl) Tryz.underlying62 rfl ?_)
    | (refine wpListG_cell rfl 3 (.tmp 59) rfl gm 0 rfl 64 (modE day gc ba br bk gl seq true (.slice A 0 c)) (.int .i64 day) rfl _ (H1.out.get 1 rfl) Tryz.underlying3 rfl ?_))
  have H2 := Lib.hid (H1.out.new (g := W.heap.size + 1) (by simp) (.cells #[.int .i64 (day + 1)] 2))
  refine (of1_ok 15 (day + 1) (W.heap.size + 1) _ (H2.out.obj 0 rfl)).mono ?_
  rintro e w3 ⟨rfl, hb3⟩
  have H3 := Lib.hid (H2.out.step hb3)
  clear hb3 H2 H1 e1
  go_wp2_with (refine wpList_turn rfl 32 (.tmp 2) (.tmp 63) rfl W.heap.size 0 (.agg (evE 15 (day + 1) 0 0 0 0 0 0 0 (.slice none 0 0))) rfl rfl 32 evZ (evE 15 (day + 1) 0 0 0 0 0 0 0 (.slice none 0 0)) (H3.out.get 1 rfl) (by first | kernel_rfl | (rw [enc_size]; kernel_rfl)) (by first | (simp [Value.cells]; done) | (simp [Value.cells, prodE, prodZ, evE, nsE, evZ]; done) | exact Nat.le_refl _) (by first | exact decE_all _ _ | (simp [Value.cells, Value.oneCell']; done) | (simp [Value.cells, Value.oneCell', prodE, prodZ, evE, nsE, evZ]; done) | (rw [Array.all_eq_true']; simp [Value.cells, Value.oneCell', prodE, prodZ, evE, nsE, evZ])) rfl ?_; intro W4 HT4)
  have hk := H3.out.1.trans HT4.keep (by simp)
  exact bodyPost_ret (results_row_tmp rfl _ _ W.heap.size 32 (evE 15 (day + 1) 0 0 0 0 0 0 0 (.slice none 0 0)) _ _ rfl HT4.at_ Tryz.underlying32 rfl (by kernel_rfl) rfl) rfl ⟨rfl, hk.below⟩
set_option maxHeartbeats 4000000 in
set_option maxRecDepth 100000 in
theorem next_step (gm gc ba br bk gl ga bh : Nat) (day seq b a k : Int) (ks : List Int) (st : Value) (hk : k = 1 ∨ k = 2 ∨ k = 3) (hd : 1 ≤ day ∧ day < 3652059) (hb : 0 ≤ b ∧ b ≤ 10000000000000) (W : World) (hc : Cat1 gc W) (hs : StepsAt W st (k :: ks))
    (h : HasO [] W [(gm, .cells (modE day gc ba br bk gl seq true st) 64), (ba, .map #[entA ga] 1), (ga, .cells (acctE b a bh) 126)] W) :
    Calls Tryz.prog 12 #[.pointer (some ⟨gm, 0, none⟩)] W fun e w' => e = .returned (.tuple #[.agg (evE 14 10 k (worthV k b a) 0 0 0 0 0 (.slice none 0 0)), .int .i64 0]) ∧ Below W.heap.size W w' := by
  have CW := Lib.hid (fun w (hb' : Below W.heap.size W w) (hw : HasO [] w [(gm, .cells (modE day gc ba br bk gl seq true st) 64), (ba, .map #[entA ga] 1), (ga, .cells (acctE b a bh) 126)] w) => worth_ok gm gc ba br bk gl ga bh day seq b a k true st hk hd hb w (cat1_step hc hb') hw)
  obtain ⟨A, c, rfl, hlc, hc1, hA⟩ := hs
  obtain ⟨gs, off, cur, rfl, hgs, hcur⟩ := hA (by simp)
  obtain ⟨q0, q1⟩ := hcur 0 k rfl
  have HP : Hid (∀ (j : Nat) (v : Value), (#[Value.int .i64 10, .int .i64 k] : Array Value).toList[j]? = some v → cur[off + j]? = some v) := Lib.hid (by
    intro j v hj
    have hj2 : j < 2 := (List.getElem?_eq_some_iff.1 hj).1
    have : j = 0 ∨ j = 1 := by omega
    rcases this with rfl | rfl
    · exact q0.trans hj
    · exact q1.trans hj)
  have H1 := Lib.hid ((h.add (gs := [(gs, .cells cur 83)]) (by simp [hgs])).new (g := W.heap.size) rfl (.cells evZ 32))
  have hlen : (k :: ks).length = ks.length + 1 := rfl
  rw [hlen] at hlc CW
  have hl1 : ks.length < 9223372036854775807 := by unfold maxLen at hc1; omega
  clear hcur q0 q1 hA hlen h hgs hc
  obtain ⟨v, hv⟩ : ∃ v, v = worthV k b a := ⟨_, rfl⟩
  rw [← hv]
  rw [← hv] at CW
  clear hv
  go_enter Tryz.func12, Tryz.ntmps12
  go_wp2_with (first
    | (refine wpListG_cell rfl 4 (.tmp 12) rfl gm 7 rfl 64 (modE day gc ba br bk gl seq true (.slice (some ⟨gs, off, none⟩) (ks.length + 1) c)) (.bool true) rfl _ (H1.out.get 2 rfl) Tryz.underlying4 rfl ?_)
    | (refine wpListG_cell rfl 4 (.tmp 26) rfl gm 7 rfl 64 (modE day gc ba br bk gl seq true (.slice (some ⟨gs, off, none⟩) (ks.length + 1) c)) (.bool true) rfl _ (H1.out.get 2 rfl) Tryz.underlying4 rfl ?_)
    | (refine wpListG_cell rfl 62 (.tmp 38) rfl gm 8 rfl 64 (modE day gc ba br bk gl seq true (.slice (some ⟨gs, off, none⟩) (ks.length + 1) c)) (.slice (some ⟨gs, off, none⟩) (ks.length + 1) c) rfl _ (H1.out.get 2 rfl) Tryz.underlying62 rfl ?_)
    | (refine wpListG_cell rfl 62 (.tmp 44) rfl gm 8 rfl 64 (modE day gc ba br bk gl seq true (.slice (some ⟨gs, off, none⟩) (ks.length + 1) c)) (.slice (some ⟨gs, off, none⟩) (ks.length + 1) c) rfl _ (H1.out.get 2 rfl) Tryz.underlying62 rfl ?_)
    | (refine wpListG_part rfl 83 (.tmp 46) rfl gs off rfl 83 cur #[.int .i64 10, .int .i64 k] _ (H1.out.get 1 rfl) HP.out Tryz.underlying83 rfl (by first | kernel_rfl | (rw [enc_size]; kernel_rfl)) ?_))
  have H2 : Hid (HasO [] W [(W.heap.size + 1, .cells #[.int .i64 10, .int .i64 k] 83), (W.heap.size, .cells evZ 32), (gm, .cells (modE day gc ba br bk gl seq true (.slice (some ⟨gs, off, none⟩) (ks.length + 1) c)) 64), (ba, .map #[entA ga] 1), (ga, .cells (acctE b a bh) 126)] _) := Lib.hid ((H1.out.new (g := W.heap.size + 1) (by simp) (.cells #[.int .i64 10, .int .i64 k] 83)).of_mem (by simp))
  clear H1 HP
  refine wp_region_regF (fun w' => HasO [] W [(W.heap.size + 1, .cells #[.int .i64 10, .int .i64 k] 83), (W.heap.size, .cells evZ 32), (gm, .cells (modE day gc ba br bk gl seq true (.slice (some ⟨gs, off, none⟩) (ks.length + 1) c)) 64), (ba, .map #[entA ga] 1), (ga, .cells (acctE b a bh) 126)] w') (fun w' => HasO [] W [] w') (fun _ => (0, #[])) [0, 1, 2, 3, 4, 5, 6] [] [7, 8, 9, 10] [] (by kernel_rfl) (by kernel_rfl) ?_ (fun w w' h hb => h.step hb) ?_ (fun k hk => by cases hk) ?_
  · exact fun w h => h.of_mem (by simp)
  · exact H2.out.drew
  simp only [List.map_cons, List.map_nil, opAt, List.getElem?_cons_succ, List.getElem?_cons_zero, Option.getD_some, List.contains_cons, List.contains_nil, Nat.reduceBEq, Bool.or_false, Bool.or_true, Bool.true_or, Bool.false_or]
  repeat (refine wpX_pure rfl ?_; go_big_quiet_step ((intro _; rfl)); refine wpQuiet_nil ?_)
  refine wpX_pure rfl ?_
  refine wpQuiet_cell 2 (.tmp 48) rfl rfl ⟨(W.heap.size + 1), 0, none⟩ rfl (.int .i64 10) _ (fun w hw => (hw.get 0 rfl).cell 0) Tryz.underlying2 rfl (fun KK hKK => ?_)
  go_simp
  refine hKK _ ?_
  clear hKK KK
  refine wpQuiet_nil ?_
  repeat (refine wpX_pure rfl ?_; go_big_quiet_step ((intro _; rfl)); refine wpQuiet_nil ?_)
  refine wpX_pure rfl ?_
  refine wpQuiet_cell 2 (.tmp 50) rfl rfl ⟨(W.heap.size + 1), 1, none⟩ rfl (.int .i64 k) _ (fun w hw => (hw.get 0 rfl).cell 1) Tryz.underlying2 rfl (fun KK hKK => ?_)
  go_simp
  refine hKK _ ?_
  clear hKK KK
  refine wpQuiet_nil ?_
  repeat (refine wpX_pure rfl ?_; go_big_quiet_step ((intro _; rfl)); refine wpQuiet_nil ?_)
  refine wpX_pure rfl ?_
  refine wpQuiet_row 83 (.tmp 4) rfl rfl (W.heap.size + 1) rfl 83 #[.int .i64 10, .int .i64 k] _ (fun w hw => hw.get 0 rfl) Tryz.underlying83 rfl (by first | kernel_rfl | (rw [enc_size]; kernel_rfl)) (fun KK hKK => ?_)
  go_simp
  refine hKK _ ?_
  clear hKK KK
  refine wpQuiet_nil ?_
  refine wpX_call (.int .i64 v) 29 #[.pointer (some ⟨gm, 0, none⟩), .agg #[.int .i64 10, .int .i64 k]] rfl (fun w => by go_simp) (fun w hw => CW.out _ hw.below (HasO.re hw).tail.tail) (fun KK hKK => ?_)
  go_simp
  refine hKK _ ?_
  clear hKK KK
  refine wpX_nil ?_
  intro gs5 w5 H5
  intro hmade
  simp only [putAll, wpTail, opAt, List.getElem?_cons_succ, List.getElem?_cons_zero, Option.getD_some, Act.put]
  have H5 := Lib.hid H5
  clear hmade H2 CW
  go_wp2_with fail
  have H6 := Lib.hid (H5.out.new (g := w5.heap.size) rfl (.cells #[.int .i64 10, .int .i64 k, .int .i64 v] 2))
  refine ⟨H6.out.of_mem (by simp), ?_⟩
  clear H5
  go_wp2_with fail
  refine (of3_ok 14 10 k v w5.heap.size _ (H6.out.obj 0 rfl)).mono ?_
  rintro e w7 ⟨rfl, hb7⟩
  have H7 := Lib.hid (H6.out.step hb7)
  clear hb7 H6
  go_wp2_with fail
  refine ⟨H7.out.of_mem (by simp), ?_⟩
  go_wp2_with (refine wpList_turn rfl 32 (.tmp 2) (.tmp 56) rfl W.heap.size 0 (.agg (evE 14 10 k v 0 0 0 0 0 (.slice none 0 0))) rfl rfl 32 evZ (evE 14 10 k v 0 0 0 0 0 (.slice none 0 0)) (H7.out.get 2 rfl) (by first | kernel_rfl | (rw [enc_size]; kernel_rfl)) (by first | (simp [Value.cells]; done) | (simp [Value.cells, prodE, prodZ, evE, nsE, evZ]; done) | exact Nat.le_refl _) (by first | exact decE_all _ _ | (simp [Value.cells, Value.oneCell']; done) | (simp [Value.cells, Value.oneCell', prodE, prodZ, evE, nsE, evZ]; done) | (rw [Array.all_eq_true']; simp [Value.cells, Value.oneCell', prodE, prodZ, evE, nsE, evZ])) rfl ?_; intro W8 HT8)
  have HK8 := Lib.hid ((H7.out.1.trans HT8.keep (by simp) : Keep [] W W8))
  refine ⟨HasO.nil HK8.out, ?_⟩
  go_wp2_with fail
  refine ⟨HasO.nil HK8.out, ?_⟩
  go_wp2_with fail
  have hk := H7.out.1.trans HT8.keep (by simp)
  exact bodyPost_ret (results_row_tmp rfl _ _ W.heap.size 32 (evE 14 10 k v 0 0 0 0 0 (.slice none 0 0)) _ _ rfl HT8.at_ Tryz.underlying32 rfl (by kernel_rfl) rfl) rfl ⟨rfl, hk.below⟩
end Go.Proofs.YtlfomhdphbchpaaGreatDoor.Mo
