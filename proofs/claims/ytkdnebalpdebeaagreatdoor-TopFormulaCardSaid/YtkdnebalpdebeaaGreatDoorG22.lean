/- Lemmas of a claim: MoG, MoH -/
import Derived.Test.YtkdnebalpdebeaaGreatDoorG19
import Derived.Test.YtkdnebalpdebeaaGreatDoorG21
set_option linter.unusedVariables false
set_option linter.unusedSimpArgs false
set_option maxHeartbeats 16000000
set_option maxRecDepth 100000
namespace Go.Proofs.YtkdnebalpdebeaaGreatDoor
namespace Mo
open Go.RowKit Go.Deep Wide Dec Mp Pr Ch
def worthV (q : Qd) (day k b a : Int) : Int := if k = 1 then Acc.dayG b q.rate (Bas.partN q.how day) (Bas.partD q.how) q.mo else if k = 2 then Acc.payX a (10000000000000 - b) else 0
theorem ts_tier {q : Qd} {w : World} {g c : Nat} (h : TS q.rate w (.slice (some ⟨g, 0, none⟩) 1 c)) : Acc.Tier1 g q.rate w := by
 obtain ⟨g', c', cur, hs, hg, h0, h1⟩ := h
 cases hs
 exact ⟨obj_lt hg, by rw [Blk.cell (t := 31) (cs := cur) hg]; exact h0, by rw [Blk.cell (t := 31) (cs := cur) hg]; exact h1⟩
theorem worth_ok (q : Qd) (gm gc ba br bk gl ga bh : Nat) (day seq b a k : Int) (run : Bool) (st : Value) (hk : k = 1 ∨ k = 2 ∨ k = 3) (hd : 1 <= day /\ day < 3652059) (hb : 0 <= b /\ b <= 10000000000000) (W : World) (hc : CatQ q gc W)
 (h : HasO [] W [(gm, .cells (modE day gc ba br bk gl seq run st) 82), (ba, .map #[entA ga] 1), (ga, .cells (acctE b a bh) 112)] W) :
 Calls Tryz.prog 40 #[.pointer (some ⟨gm, 0, none⟩), .agg #[.int .i64 10, .int .i64 k]] W fun e w' => e = .returned (.int .i64 (worthV q day k b a)) /\ Below W.heap.size W w' := by
 have CA := Hd (fun w (hb : Below W.heap.size W w) => atQ_ok q gc day (by omega) w (cat1_step hc hb))
 have H1 := Hd (h.new (g := W.heap.size) rfl (.cells #[.int .i64 10, .int .i64 k] 107))
 have HK := Hd hk
 have HDY := Hd hd
 have HBB := Hd hb
 clear h hc hk hb hd
 go_enter Tryz.func40, Tryz.ntmps40
 go_wp2_with fail
 refine wp_region_class (fun w' => HasO [] W _ w') [0, 1, 2, 3, 4, 5, 6, 7] (by kernel_rfl) (by kernel_rfl) (H1.o.drew) ?_
 simp only [List.map_cons, List.map_nil, opAt, List.getElem?_cons_succ, List.getElem?_cons_zero, Option.getD_some]
 repeat (go_big_quiet_step ((intro _; rfl)))
 refine wpQuiet_cell 75 (.tmp 11) rfl rfl ⟨gm, 2, none⟩ rfl (.map (some ba)) _ (fun w hw => (hw.get 1 rfl).cell 2) Tryz.underlying75 rfl (fun K1 k1 => ?_)
 go_simp
 refine k1 _ ?_
 clear k1 K1
 repeat (go_big_quiet_step ((intro _; rfl)))
 refine wpQuiet_cell 2 (.tmp 13) rfl rfl ⟨W.heap.size, 0, none⟩ rfl (.int .i64 10) _ (fun w hw => (hw.get 0 rfl).cell 0) Tryz.underlying2 rfl (fun K1 k1 => ?_)
 go_simp
 refine k1 _ ?_
 clear k1 K1
 refine wpQuiet_lookup rfl 75 (.tmp 12) (.tmp 14) false rfl ba (.int .i64 10) (.pointer (some ⟨ga, 0, none⟩)) rfl rfl (fun w hw => look10 ga ba w (hw.obj 2 rfl)) (fun K1 k1 => ?_)
 go_simp
 refine k1 _ ?_
 clear k1 K1
 repeat (go_big_quiet_step ((intro _; rfl)))
 refine wpQuiet_nil ?_
 intro w5 H5
 have H5 := Hd H5
 clear H1
 go_wp2_with fail
 apply wp_region_cut3 (fun w' => HasO [] W [(W.heap.size, .cells #[.int .i64 10, .int .i64 k] 107), (gm, .cells (modE day gc ba br bk gl seq run st) 82), (ba, .map #[entA ga] 1), (ga, .cells (acctE b a bh) 112)] w') (fun g7 g5 c5 w' => HasO [] W ((g7, .cells (prodQ q (.slice (some ⟨g5, 0, none⟩) 1 c5)) 153) :: [(W.heap.size, .cells #[.int .i64 10, .int .i64 k] 107), (gm, .cells (modE day gc ba br bk gl seq run st) 82), (ba, .map #[entA ga] 1), (ga, .cells (acctE b a bh) 112)]) w' /\ TS q.rate w' (.slice (some ⟨g5, 0, none⟩) 1 c5)) _ (.seg [0, 1, 2, 3, 4, 5, 6, 7, 8, 9, 10, 11, 12] (.fork 13 (.seg [14, 15, 16] (.turn 17 (.turn 18 (.turn 19 .nil)))) 17 (.turn 13 (.seg [14, 15, 16] (.turn 18 (.turn 19 .nil)))))) (by kernel_rfl) (by kernel_rfl) H5.o.drew
 case h =>
  simp only [wpPlan, List.map_cons, List.map_nil, opAt, List.getElem?_cons_succ, List.getElem?_cons_zero, Option.getD_some]
  repeat (go_big_quiet_step ((intro _; rfl)))
  refine wpQuiet_cell 73 (.tmp 19) rfl rfl ⟨gm, 1, none⟩ rfl (.pointer (some ⟨gc, 0, none⟩)) _ (fun w hw => (hw.get 1 rfl).cell 1) Tryz.underlying73 rfl (fun K1 k1 => ?_)
  go_simp
  refine k1 _ ?_
  clear k1 K1
  repeat (go_big_quiet_step ((intro _; rfl)))
  refine wpQuiet_cell 2 (.tmp 24) rfl rfl ⟨ga, 1, none⟩ rfl (.int .i64 1) _ (fun w hw => (hw.get 3 rfl).cell 1) Tryz.underlying2 rfl (fun K1 k1 => ?_)
  go_simp
  refine k1 _ ?_
  clear k1 K1
  repeat (go_big_quiet_step ((intro _; rfl)))
  refine wpQuiet_cell 3 (.tmp 28) rfl rfl ⟨gm, 0, none⟩ rfl (.int .i64 day) _ (fun w hw => (hw.get 1 rfl).cell 0) Tryz.underlying3 rfl (fun K1 k1 => ?_)
  go_simp
  refine k1 _ ?_
  clear k1 K1
  repeat (go_big_quiet_step ((intro _; rfl)))
  refine wpQuiet_nil ?_
  have HD := Hd H5.o.drew
  refine ⟨?_, ?_⟩
  . go_wp2_with fail
    refine (CA.o _ HD.o.below).mono ?_
    rintro e w11 ⟨⟨s', rfl, hs'⟩, hb1⟩
    have HSa := Hd hs'
    obtain ⟨g5, c5, cu5, rfl, _⟩ := hs'
    have H2a := Hd (HD.o.step hb1)
    clear hb1 HD
    go_wp2_with fail
    refine ⟨H2a.o, ?_⟩
    repeat (go_big_quiet_step ((intro _; rfl)))
    refine wpQuiet_nil ?_
    go_wp2_with fail
    obtain ⟨g7, hg7⟩ : ∃ g7, g7 = w11.heap.size := ⟨_, rfl⟩
    have H3a := Hd (H2a.o.new hg7 (.cells prodZ 153))
    have HSb := Hd (HSa.o.step (Below.al (Below.refl _ _) (.cells prodZ 153)))
    have HNa := Hd (H2a.o.size)
    rw [<- hg7] at HNa
    rw [<- hg7]
    refine ⟨H3a.o.tail, ?_⟩
    clear hg7 H2a HSa
    go_wp2_with (refine wpList_turn rfl 153 (.tmp 6) (.tmp 31) rfl g7 0 (.agg (prodQ q (.slice (some ⟨g5, 0, none⟩) 1 c5))) rfl rfl 153 prodZ (prodQ q (.slice (some ⟨g5, 0, none⟩) 1 c5)) (H3a.o.get 0 rfl) (by kernel_rfl) (by simp [Value.cells, prodQ, prodZ, evE, nsE, evZ]) (by simp [Value.cells, Value.oneCell', prodQ, prodZ, evE, nsE, evZ]) rfl ?_; intro W6 HT6)
    have H4a := Hd (H3a.o.turn 0 rfl HT6 (.inr HNa.o) (H3a.o.apart 0 rfl rfl))
    have HSc := Hd (HSb.o.keep HT6.keep (by intro k hk cur hc; simp only [List.mem_singleton] at hk; subst hk; rw [H3a.o.obj 0 rfl] at hc; cases hc))
    refine ⟨H4a.o.tail, ?_⟩
    go_wp2_with fail
    refine ⟨H4a.o.tail, ?_⟩
    exact ⟨g7, g5, c5, ⟨H4a.o, HSc.o⟩, rfl⟩
  . go_wp2_with fail
    obtain ⟨g7, hg7⟩ : ∃ g7, g7 = w5.heap.size := ⟨_, rfl⟩
    have H3a : Hi (HasO [] _ ((g7, .cells prodZ 153) :: [(W.heap.size, .cells #[.int .i64 10, .int .i64 k] 107), (gm, .cells (modE day gc ba br bk gl seq run st) 82), (ba, .map #[entA ga] 1), (ga, .cells (acctE b a bh) 112)]) _) := Hd ((H5.o.new hg7 (.cells prodZ 153)).drew)
    have HNa := Hd (H5.o.size)
    rw [<- hg7] at HNa
    rw [<- hg7]
    refine ⟨H3a.o.tail, ?_⟩
    clear hg7 HD
    go_wp2_with fail
    refine (CA.o _ H3a.o.below).mono ?_
    rintro e w11 ⟨⟨s', rfl, hs'⟩, hb1⟩
    have HSb := Hd hs'
    obtain ⟨g5, c5, cu5, rfl, _⟩ := hs'
    have H2a := Hd (H3a.o.step hb1)
    clear hb1 H3a
    go_wp2_with fail
    refine ⟨H2a.o.tail, ?_⟩
    repeat (go_big_quiet_step ((intro _; rfl)))
    refine wpQuiet_nil ?_
    go_wp2_with (refine wpList_turn rfl 153 (.tmp 6) (.tmp 31) rfl g7 0 (.agg (prodQ q (.slice (some ⟨g5, 0, none⟩) 1 c5))) rfl rfl 153 prodZ (prodQ q (.slice (some ⟨g5, 0, none⟩) 1 c5)) (H2a.o.get 0 rfl) (by kernel_rfl) (by simp [Value.cells, prodQ, prodZ, evE, nsE, evZ]) (by simp [Value.cells, Value.oneCell', prodQ, prodZ, evE, nsE, evZ]) rfl ?_; intro W6 HT6)
    have H4a := Hd (H2a.o.turn 0 rfl HT6 (.inr HNa.o) (H2a.o.apart 0 rfl rfl))
    have HSc := Hd (HSb.o.keep HT6.keep (by intro k hk cur hc; simp only [List.mem_singleton] at hk; subst hk; rw [H2a.o.obj 0 rfl] at hc; cases hc))
    refine ⟨H4a.o.tail, ?_⟩
    go_wp2_with fail
    refine ⟨H4a.o.tail, ?_⟩
    exact ⟨g7, g5, c5, ⟨H4a.o, HSc.o⟩, rfl⟩
 case hR =>
  intro g7 g5 c5 w6 H6
  have HT6 := Hd H6.2
  have H6 := Hd H6.1
  clear H5 CA
  have ck := (H6.o.get 1 rfl).cell 1
  simp only [List.getElem?_toArray, List.getElem?_cons_succ, List.getElem?_cons_zero] at ck
  rcases HK.o with rfl | rfl | rfl
  . clear HK
    obtain ⟨b1, b2⟩ := HBB.o
    obtain ⟨d1, d2⟩ := HDY.o
    have CD := Hd (fun w (ht : TS q.rate w (.slice (some ⟨g5, 0, none⟩) 1 c5)) => Acc.dailyG_ok q.how b q.rate q.mo day q.ok.how g5 c5 q.ok.mo HBB.o q.ok.rate HDY.o w (ts_tier ht))
    have e1 : IntKind.i64.wrap (day + 1) = day + 1 := IntWalk.i64_in _ (by omega)
    have emx : max b 0 = b := by omega
    go_wp2_with fail
    clear ck
    refine wp_region_class (fun w' => HasO [] w6 _ w') [0, 1, 2, 3, 4, 5, 6, 7, 8, 9, 10, 11, 12, 13, 14, 15, 16, 17, 18, 19, 20, 21, 22, 23, 24, 25] (by kernel_rfl) (by kernel_rfl) ((HasO.re H6.o).drew) ?_
    simp only [List.map_cons, List.map_nil, opAt, List.getElem?_cons_succ, List.getElem?_cons_zero, Option.getD_some]
    repeat (go_big_quiet_step ((intro _; rfl)))
    refine wpQuiet_cell 2 (.tmp 41) rfl rfl ⟨ga, 5, none⟩ rfl (.int .i64 b) _ (fun w hw => (hw.get 4 rfl).cell 5) Tryz.underlying2 rfl (fun K1 k1 => ?_)
    go_simp
    refine k1 _ ?_
    clear k1 K1
    repeat (go_big_quiet_step ((intro _; rfl)))
    refine wpQuiet_cell 32 (.tmp 44) rfl rfl ⟨g7, 8, none⟩ rfl (.slice (some ⟨g5, 0, none⟩) 1 c5) _ (fun w hw => (hw.get 0 rfl).cell 8) Tryz.underlying32 rfl (fun K1 k1 => ?_)
    go_simp
    refine k1 _ ?_
    clear k1 K1
    repeat (go_big_quiet_step ((intro _; rfl)))
    refine wpQuiet_cell 3 (.tmp 46) rfl rfl ⟨g7, 4, none⟩ rfl (.int .i64 q.how) _ (fun w hw => (hw.get 0 rfl).cell 4) Tryz.underlying3 rfl (fun K1 k1 => ?_)
    go_simp
    refine k1 _ ?_
    clear k1 K1
    repeat (go_big_quiet_step ((intro _; rfl)))
    refine wpQuiet_cell 3 (.tmp 48) rfl rfl ⟨g7, 5, none⟩ rfl (.int .i64 q.mo) _ (fun w hw => (hw.get 0 rfl).cell 5) Tryz.underlying3 rfl (fun K1 k1 => ?_)
    go_simp
    refine k1 _ ?_
    clear k1 K1
    repeat (go_big_quiet_step ((intro _; rfl)))
    refine wpQuiet_cell 3 (.tmp 52) rfl rfl ⟨gm, 0, none⟩ rfl (.int .i64 day) _ (fun w hw => (hw.get 2 rfl).cell 0) Tryz.underlying3 rfl (fun K1 k1 => ?_)
    go_simp
    refine k1 _ ?_
    clear k1 K1
    repeat (go_big_quiet_step ((intro _; rfl)))
    refine wpQuiet_cell 3 (.tmp 56) rfl rfl ⟨gm, 0, none⟩ rfl (.int .i64 day) _ (fun w hw => (hw.get 2 rfl).cell 0) Tryz.underlying3 rfl (fun K1 k1 => ?_)
    go_simp
    refine k1 _ ?_
    clear k1 K1
    repeat (go_big_quiet_step ((intro _; rfl)))
    go_big_quiet_step ((intro hw; exact (CD.o _ (HT6.o.step hw.below)).mono fun e w' h => ⟨h.1, hw.step h.2⟩))
    repeat (go_big_quiet_step ((intro _; rfl)))
    refine wpQuiet_nil ?_
    intro w7 H7
    have hb7 := Hd (H6.o.below.trans (H7.below.mono H6.o.size))
    clear H7 H6 CD HT6
    go_wp2_with fail
    exact bodyPost_ret (results_one rfl _ _ rfl) rfl ⟨rfl, hb7.o⟩
  . clear HK
    obtain ⟨b1, b2⟩ := HBB.o
    have CD := Hd (fun w => Acc.pay_ok a (10000000000000 - b) w)
    have e1 : IntKind.i64.wrap (10000000000000 - b) = 10000000000000 - b := IntWalk.i64_in _ (by omega)
    go_wp2_with fail
    clear ck
    refine wp_region_class (fun w' => HasO [] w6 _ w') [0, 1, 2, 3, 4, 5, 6, 7, 8, 9, 10, 11, 12, 13, 14, 15, 16] (by kernel_rfl) (by kernel_rfl) ((HasO.re H6.o).drew) ?_
    simp only [List.map_cons, List.map_nil, opAt, List.getElem?_cons_succ, List.getElem?_cons_zero, Option.getD_some]
    repeat (go_big_quiet_step ((intro _; rfl)))
    refine wpQuiet_cell 2 (.tmp 68) rfl rfl ⟨ga, 7, none⟩ rfl (.int .i64 a) _ (fun w hw => (hw.get 4 rfl).cell 7) Tryz.underlying2 rfl (fun K1 k1 => ?_)
    go_simp
    refine k1 _ ?_
    clear k1 K1
    repeat (go_big_quiet_step ((intro _; rfl)))
    refine wpQuiet_cell 2 (.tmp 73) rfl rfl ⟨ga, 5, none⟩ rfl (.int .i64 b) _ (fun w hw => (hw.get 4 rfl).cell 5) Tryz.underlying2 rfl (fun K1 k1 => ?_)
    go_simp
    refine k1 _ ?_
    clear k1 K1
    repeat (go_big_quiet_step ((intro _; rfl)))
    go_big_quiet_step ((intro hw; exact (CD.o _).mono fun e w' h => ⟨h.1, by rw [h.2]; exact hw⟩))
    repeat (go_big_quiet_step ((intro _; rfl)))
    refine wpQuiet_nil ?_
    intro w7 H7
    have hb7 := Hd (H6.o.below.trans (H7.below.mono H6.o.size))
    clear H7 H6 CD HT6
    go_wp2_with fail
    exact bodyPost_ret (results_one rfl _ _ rfl) rfl ⟨rfl, hb7.o⟩
  . clear HK
    obtain ⟨b1, b2⟩ := HBB.o
    have CD := Hd (fun w => Acc.fee0_ok b b1 w)
    have emx : max b 0 = b := by omega
    go_wp2_with fail
    clear ck
    refine wp_region_class (fun w' => HasO [] w6 _ w') [0, 1, 2, 3, 4, 5, 6, 7, 8, 9, 10, 11, 12, 13, 14, 15, 16, 17] (by kernel_rfl) (by kernel_rfl) ((HasO.re H6.o).drew) ?_
    simp only [List.map_cons, List.map_nil, opAt, List.getElem?_cons_succ, List.getElem?_cons_zero, Option.getD_some]
    repeat (go_big_quiet_step ((intro _; rfl)))
    refine wpQuiet_cell 2 (.tmp 86) rfl rfl ⟨ga, 5, none⟩ rfl (.int .i64 b) _ (fun w hw => (hw.get 4 rfl).cell 5) Tryz.underlying2 rfl (fun K1 k1 => ?_)
    go_simp
    refine k1 _ ?_
    clear k1 K1
    repeat (go_big_quiet_step ((intro _; rfl)))
    refine wpQuiet_cell 2 (.tmp 92) rfl rfl ⟨ga, 6, none⟩ rfl (.int .i64 0) _ (fun w hw => (hw.get 4 rfl).cell 6) Tryz.underlying2 rfl (fun K1 k1 => ?_)
    go_simp
    refine k1 _ ?_
    clear k1 K1
    repeat (go_big_quiet_step ((intro _; rfl)))
    refine wpQuiet_cell 2 (.tmp 94) rfl rfl ⟨g7, 6, none⟩ rfl (.int .i64 0) _ (fun w hw => (hw.get 0 rfl).cell 6) Tryz.underlying2 rfl (fun K1 k1 => ?_)
    go_simp
    refine k1 _ ?_
    clear k1 K1
    go_big_quiet_step ((intro hw; exact (CD.o _).mono fun e w' h => ⟨h.1, by rw [h.2]; exact hw⟩))
    repeat (go_big_quiet_step ((intro _; rfl)))
    refine wpQuiet_nil ?_
    intro w7 H7
    have hb7 := Hd (H6.o.below.trans (H7.below.mono H6.o.size))
    clear H7 H6 CD HT6
    go_wp2_with fail
    exact bodyPost_ret (results_one rfl _ _ rfl) rfl ⟨rfl, hb7.o⟩
end Mo
namespace Mo
open Go.RowKit Go.Deep Wide Dec Mp Pr Ch
def StepsAt (w : World) (st : Value) (ks : List Int) : Prop := ∃ (A : Option Addr) (c : Nat), st = .slice A ks.length c /\ ks.length <= c /\ c <= maxLen /\ (ks ≠ [] -> ∃ (g off : Nat) (cur : Array Value), A = some ⟨g, off, none⟩ /\ w.heap[g]? = some (.cells cur 107) /\
 ∀ (j : Nat) (k : Int), ks[j]? = some k -> cur[off + 2 * j]? = some (.int .i64 10) /\ cur[off + 2 * j + 1]? = some (.int .i64 k))
theorem StepsAt.keep {S : List Nat} {w w' : World} {st : Value} {ks : List Int} (h : StepsAt w st ks) (hk : Keep S w w') (hS : ∀ k ∈ S, ∀ cur, w.heap[k]? ≠ some (.cells cur 107)) : StepsAt w' st ks := by
 obtain ⟨A, c, h1, h2, h2', h3⟩ := h
 refine ⟨A, c, h1, h2, h2', fun hn => ?_⟩
 obtain ⟨g, off, cur, h4, h5, h6⟩ := h3 hn
 exact ⟨g, off, cur, h4, (hk.block g (obj_lt h5) (fun hm => hS g hm _ h5)).trans h5, h6⟩
theorem StepsAt.step {w w' : World} {st : Value} {ks : List Int} (h : StepsAt w st ks) (hb : Below w.heap.size w w') : StepsAt w' st ks := h.keep (S := []) (Keep.of_below hb) (by simp)
theorem next_begin (gm gc ba br bk gl : Nat) (day seq : Int) (st : Value) (hd : 1 <= day /\ day < 3652059) (W : World) (h : W.heap[gm]? = some (.cells (modE day gc ba br bk gl seq false st) 82)) :
 Calls Tryz.prog 11 #[.pointer (some ⟨gm, 0, none⟩)] W fun e w' => e = .returned (.tuple #[.agg (evE 13 day 0 0 0 0 0 0 0 (.slice none 0 0)), .int .i64 0]) /\ Below W.heap.size W w' := by
 have H1 := Hd ((HasO.cons h (HasO.start [] W)).new (g := W.heap.size) rfl (.cells evZ 34))
 have d1 : (day == 3652059) = false := beq_eq_false_iff_ne.2 (by omega)
 clear h hd
 go_enter Tryz.func11, Tryz.ntmps11
 go_wp2_with (first
  | (refine wpListG_cell rfl 4 (.tmp 12) rfl gm 7 rfl 82 (modE day gc ba br bk gl seq false st) (.bool false) rfl _ (H1.o.get 1 rfl) Tryz.underlying4 rfl ?_)
  | (refine wpListG_cell rfl 3 (.tmp 18) rfl gm 0 rfl 82 (modE day gc ba br bk gl seq false st) (.int .i64 day) rfl _ (H1.o.get 1 rfl) Tryz.underlying3 rfl ?_)
  | (refine wpListG_cell rfl 4 (.tmp 26) rfl gm 7 rfl 82 (modE day gc ba br bk gl seq false st) (.bool false) rfl _ (H1.o.get 1 rfl) Tryz.underlying4 rfl ?_)
  | (refine wpListG_cell rfl 3 (.tmp 31) rfl gm 0 rfl 82 (modE day gc ba br bk gl seq false st) (.int .i64 day) rfl _ (H1.o.get 1 rfl) Tryz.underlying3 rfl ?_))
 have H2 := Hd (H1.o.new (g := W.heap.size + 1) (by simp) (.cells #[.int .i64 day] 2))
 refine (of1_ok 13 day (W.heap.size + 1) _ (H2.o.obj 0 rfl)).mono ?_
 rintro e w3 ⟨rfl, hb3⟩
 have H3 := Hd (H2.o.step hb3)
 clear hb3 H2 H1
 go_wp2_with (refine wpList_turn rfl 34 (.tmp 2) (.tmp 34) rfl W.heap.size 0 (.agg (evE 13 day 0 0 0 0 0 0 0 (.slice none 0 0))) rfl rfl 34 evZ (evE 13 day 0 0 0 0 0 0 0 (.slice none 0 0)) (H3.o.get 1 rfl) (by kernel_rfl) (by simp [Value.cells, prodQ, prodZ, evE, nsE, evZ]) (by simp [Value.cells, Value.oneCell', prodQ, prodZ, evE, nsE, evZ]) rfl ?_; intro W4 HT4)
 have hk := H3.o.1.trans HT4.keep (by simp)
 exact bodyPost_ret (results_row_tmp rfl _ _ W.heap.size 34 (evE 13 day 0 0 0 0 0 0 0 (.slice none 0 0)) _ _ rfl HT4.at_ Tryz.underlying34 rfl (by kernel_rfl) rfl) rfl ⟨rfl, hk.below⟩
theorem next_roll (gm gc ba br bk gl : Nat) (day seq : Int) (st : Value) (hd : 1 <= day /\ day < 3652059) (W : World) (h : W.heap[gm]? = some (.cells (modE day gc ba br bk gl seq true st) 82)) (hs : StepsAt W st []) :
 Calls Tryz.prog 11 #[.pointer (some ⟨gm, 0, none⟩)] W fun e w' => e = .returned (.tuple #[.agg (evE 15 (day + 1) 0 0 0 0 0 0 0 (.slice none 0 0)), .int .i64 0]) /\ Below W.heap.size W w' := by
 obtain ⟨A, c, rfl, _⟩ := hs
 have H1 := Hd ((HasO.cons h (HasO.start [] W)).new (g := W.heap.size) rfl (.cells evZ 34))
 have e1 : IntKind.i64.wrap (day + 1) = day + 1 := IntWalk.i64_in _ (by omega)
 clear h
 obtain ⟨d1, d2⟩ := hd
 go_enter Tryz.func11, Tryz.ntmps11
 go_wp2_with (first
  | (refine wpListG_cell rfl 4 (.tmp 12) rfl gm 7 rfl 82 (modE day gc ba br bk gl seq true (.slice A 0 c)) (.bool true) rfl _ (H1.o.get 1 rfl) Tryz.underlying4 rfl ?_)
  | (refine wpListG_cell rfl 4 (.tmp 26) rfl gm 7 rfl 82 (modE day gc ba br bk gl seq true (.slice A 0 c)) (.bool true) rfl _ (H1.o.get 1 rfl) Tryz.underlying4 rfl ?_)
  | (refine wpListG_cell rfl 80 (.tmp 38) rfl gm 8 rfl 82 (modE day gc ba br bk gl seq true (.slice A 0 c)) (.slice A ([] : List Int).length c) rfl _ (H1.o.get 1 rfl) Tryz.underlying80 rfl ?_)
  | (refine wpListG_cell rfl 3 (.tmp 59) rfl gm 0 rfl 82 (modE day gc ba br bk gl seq true (.slice A 0 c)) (.int .i64 day) rfl _ (H1.o.get 1 rfl) Tryz.underlying3 rfl ?_))
 have H2 := Hd (H1.o.new (g := W.heap.size + 1) (by simp) (.cells #[.int .i64 (day + 1)] 2))
 refine (of1_ok 15 (day + 1) (W.heap.size + 1) _ (H2.o.obj 0 rfl)).mono ?_
 rintro e w3 ⟨rfl, hb3⟩
 have H3 := Hd (H2.o.step hb3)
 clear hb3 H2 H1 e1
 go_wp2_with (refine wpList_turn rfl 34 (.tmp 2) (.tmp 63) rfl W.heap.size 0 (.agg (evE 15 (day + 1) 0 0 0 0 0 0 0 (.slice none 0 0))) rfl rfl 34 evZ (evE 15 (day + 1) 0 0 0 0 0 0 0 (.slice none 0 0)) (H3.o.get 1 rfl) (by kernel_rfl) (by simp [Value.cells, prodQ, prodZ, evE, nsE, evZ]) (by simp [Value.cells, Value.oneCell', prodQ, prodZ, evE, nsE, evZ]) rfl ?_; intro W4 HT4)
 have hk := H3.o.1.trans HT4.keep (by simp)
 exact bodyPost_ret (results_row_tmp rfl _ _ W.heap.size 34 (evE 15 (day + 1) 0 0 0 0 0 0 0 (.slice none 0 0)) _ _ rfl HT4.at_ Tryz.underlying34 rfl (by kernel_rfl) rfl) rfl ⟨rfl, hk.below⟩
theorem next_step (q : Qd) (gm gc ba br bk gl ga bh : Nat) (day seq b a k : Int) (ks : List Int) (st : Value) (hk : k = 1 ∨ k = 2 ∨ k = 3) (hd : 1 <= day /\ day < 3652059) (hb : 0 <= b /\ b <= 10000000000000) (W : World) (hc : CatQ q gc W) (hs : StepsAt W st (k :: ks))
 (h : HasO [] W [(gm, .cells (modE day gc ba br bk gl seq true st) 82), (ba, .map #[entA ga] 1), (ga, .cells (acctE b a bh) 112)] W) :
 Calls Tryz.prog 11 #[.pointer (some ⟨gm, 0, none⟩)] W fun e w' => e = .returned (.tuple #[.agg (evE 14 10 k (worthV q day k b a) 0 0 0 0 0 (.slice none 0 0)), .int .i64 0]) /\ Below W.heap.size W w' := by
 have CW := Hd (fun w (hb' : Below W.heap.size W w) (hw : HasO [] w [(gm, .cells (modE day gc ba br bk gl seq true st) 82), (ba, .map #[entA ga] 1), (ga, .cells (acctE b a bh) 112)] w) => worth_ok q gm gc ba br bk gl ga bh day seq b a k true st hk hd hb w (cat1_step hc hb') hw)
 obtain ⟨A, c, rfl, hlc, hc1, hA⟩ := hs
 obtain ⟨gs, off, cur, rfl, hgs, hcur⟩ := hA (by simp)
 obtain ⟨q0, q1⟩ := hcur 0 k rfl
 have HP : Hi (∀ (j : Nat) (v : Value), (#[Value.int .i64 10, .int .i64 k] : Array Value).toList[j]? = some v -> cur[off + j]? = some v) := Hd (by
  intro j v hj
  have hj2 : j < 2 := (List.getElem?_eq_some_iff.1 hj).1
  have : j = 0 ∨ j = 1 := by omega
  rcases this with rfl | rfl
  . exact q0.trans hj
  . exact q1.trans hj)
 have H1 := Hd ((h.add (gs := [(gs, .cells cur 107)]) (by simp [hgs])).new (g := W.heap.size) rfl (.cells evZ 34))
 have hlen : (k :: ks).length = ks.length + 1 := rfl
 rw [hlen] at hlc CW
 have hl1 : ks.length < 9223372036854775807 := by unfold maxLen at hc1; omega
 clear hcur q0 q1 hA hlen h hgs hc
 obtain ⟨v, hv⟩ : ∃ v, v = worthV q day k b a := ⟨_, rfl⟩
 rw [<- hv]
 rw [<- hv] at CW
 clear hv
 go_enter Tryz.func11, Tryz.ntmps11
 go_wp2_with (first
  | (refine wpListG_cell rfl 4 (.tmp 12) rfl gm 7 rfl 82 (modE day gc ba br bk gl seq true (.slice (some ⟨gs, off, none⟩) (ks.length + 1) c)) (.bool true) rfl _ (H1.o.get 2 rfl) Tryz.underlying4 rfl ?_)
  | (refine wpListG_cell rfl 4 (.tmp 26) rfl gm 7 rfl 82 (modE day gc ba br bk gl seq true (.slice (some ⟨gs, off, none⟩) (ks.length + 1) c)) (.bool true) rfl _ (H1.o.get 2 rfl) Tryz.underlying4 rfl ?_)
  | (refine wpListG_cell rfl 80 (.tmp 38) rfl gm 8 rfl 82 (modE day gc ba br bk gl seq true (.slice (some ⟨gs, off, none⟩) (ks.length + 1) c)) (.slice (some ⟨gs, off, none⟩) (ks.length + 1) c) rfl _ (H1.o.get 2 rfl) Tryz.underlying80 rfl ?_)
  | (refine wpListG_cell rfl 80 (.tmp 44) rfl gm 8 rfl 82 (modE day gc ba br bk gl seq true (.slice (some ⟨gs, off, none⟩) (ks.length + 1) c)) (.slice (some ⟨gs, off, none⟩) (ks.length + 1) c) rfl _ (H1.o.get 2 rfl) Tryz.underlying80 rfl ?_)
  | (refine wpListG_part rfl 107 (.tmp 46) rfl gs off rfl 107 cur #[.int .i64 10, .int .i64 k] _ (H1.o.get 1 rfl) HP.o Tryz.underlying107 rfl (by kernel_rfl) ?_))
 have H2 : Hi (HasO [] W [(W.heap.size + 1, .cells #[.int .i64 10, .int .i64 k] 107), (W.heap.size, .cells evZ 34), (gm, .cells (modE day gc ba br bk gl seq true (.slice (some ⟨gs, off, none⟩) (ks.length + 1) c)) 82), (ba, .map #[entA ga] 1), (ga, .cells (acctE b a bh) 112)] _) := Hd ((H1.o.new (g := W.heap.size + 1) (by simp) (.cells #[.int .i64 10, .int .i64 k] 107)).of_mem (by simp))
 clear H1 HP
 refine wp_region_regF (fun w' => HasO [] W [(W.heap.size + 1, .cells #[.int .i64 10, .int .i64 k] 107), (W.heap.size, .cells evZ 34), (gm, .cells (modE day gc ba br bk gl seq true (.slice (some ⟨gs, off, none⟩) (ks.length + 1) c)) 82), (ba, .map #[entA ga] 1), (ga, .cells (acctE b a bh) 112)] w') (fun w' => HasO [] W [] w') (fun _ => (0, #[])) [0, 1, 2, 3, 4, 5, 6] [] [7, 8, 9, 10] [] (by kernel_rfl) (by kernel_rfl) ?_ (fun w w' h hb => h.step hb) ?_ (fun k hk => by cases hk) ?_
 . exact fun w h => h.of_mem (by simp)
 . exact H2.o.drew
 simp only [List.map_cons, List.map_nil, opAt, List.getElem?_cons_succ, List.getElem?_cons_zero, Option.getD_some, List.contains_cons, List.contains_nil, Nat.reduceBEq, Bool.or_false, Bool.or_true, Bool.true_or, Bool.false_or]
 repeat (refine wpX_pure rfl ?_; go_big_quiet_step ((intro _; rfl)); refine wpQuiet_nil ?_)
 refine wpX_pure rfl ?_
 refine wpQuiet_cell 2 (.tmp 48) rfl rfl ⟨(W.heap.size + 1), 0, none⟩ rfl (.int .i64 10) _ (fun w hw => (hw.get 0 rfl).cell 0) Tryz.underlying2 rfl (fun K1 k1 => ?_)
 go_simp
 refine k1 _ ?_
 clear k1 K1
 refine wpQuiet_nil ?_
 repeat (refine wpX_pure rfl ?_; go_big_quiet_step ((intro _; rfl)); refine wpQuiet_nil ?_)
 refine wpX_pure rfl ?_
 refine wpQuiet_cell 2 (.tmp 50) rfl rfl ⟨(W.heap.size + 1), 1, none⟩ rfl (.int .i64 k) _ (fun w hw => (hw.get 0 rfl).cell 1) Tryz.underlying2 rfl (fun K1 k1 => ?_)
 go_simp
 refine k1 _ ?_
 clear k1 K1
 refine wpQuiet_nil ?_
 repeat (refine wpX_pure rfl ?_; go_big_quiet_step ((intro _; rfl)); refine wpQuiet_nil ?_)
 refine wpX_pure rfl ?_
 refine wpQuiet_row 107 (.tmp 4) rfl rfl (W.heap.size + 1) rfl 107 #[.int .i64 10, .int .i64 k] _ (fun w hw => hw.get 0 rfl) Tryz.underlying107 rfl (by kernel_rfl) (fun K1 k1 => ?_)
 go_simp
 refine k1 _ ?_
 clear k1 K1
 refine wpQuiet_nil ?_
 refine wpX_call (.int .i64 v) 40 #[.pointer (some ⟨gm, 0, none⟩), .agg #[.int .i64 10, .int .i64 k]] rfl (fun w => by go_simp) (fun w hw => CW.o _ hw.below (HasO.re hw).tail.tail) (fun K1 k1 => ?_)
 go_simp
 refine k1 _ ?_
 clear k1 K1
 refine wpX_nil ?_
 intro gs5 w5 H5
 intro hmade
 simp only [putAll, wpTail, opAt, List.getElem?_cons_succ, List.getElem?_cons_zero, Option.getD_some, Act.put]
 have H5 := Hd H5
 clear hmade H2 CW
 go_wp2_with fail
 have H6 := Hd (H5.o.new (g := w5.heap.size) rfl (.cells #[.int .i64 10, .int .i64 k, .int .i64 v] 2))
 refine ⟨H6.o.of_mem (by simp), ?_⟩
 clear H5
 go_wp2_with fail
 refine (of3_ok 14 10 k v w5.heap.size _ (H6.o.obj 0 rfl)).mono ?_
 rintro e w7 ⟨rfl, hb7⟩
 have H7 := Hd (H6.o.step hb7)
 clear hb7 H6
 go_wp2_with fail
 refine ⟨H7.o.of_mem (by simp), ?_⟩
 go_wp2_with (refine wpList_turn rfl 34 (.tmp 2) (.tmp 56) rfl W.heap.size 0 (.agg (evE 14 10 k v 0 0 0 0 0 (.slice none 0 0))) rfl rfl 34 evZ (evE 14 10 k v 0 0 0 0 0 (.slice none 0 0)) (H7.o.get 2 rfl) (by kernel_rfl) (by simp [Value.cells, prodQ, prodZ, evE, nsE, evZ]) (by simp [Value.cells, Value.oneCell', prodQ, prodZ, evE, nsE, evZ]) rfl ?_; intro W8 HT8)
 have HK8 := Hd ((H7.o.1.trans HT8.keep (by simp) : Keep [] W W8))
 refine ⟨HasO.nil HK8.o, ?_⟩
 go_wp2_with fail
 refine ⟨HasO.nil HK8.o, ?_⟩
 go_wp2_with fail
 have hk := H7.o.1.trans HT8.keep (by simp)
 exact bodyPost_ret (results_row_tmp rfl _ _ W.heap.size 34 (evE 14 10 k v 0 0 0 0 0 (.slice none 0 0)) _ _ rfl HT8.at_ Tryz.underlying34 rfl (by kernel_rfl) rfl) rfl ⟨rfl, hk.below⟩
end Mo
end Go.Proofs.YtkdnebalpdebeaaGreatDoor
