/- Lemmas of a claim: PrB, PrC, InL -/
import Derived.Test.YtkdnebalpdebeaaGreatDoorG13
import Derived.RangeFuncNested
import Derived.RangeFuncBound
import Derived.RangeFuncCalls
import Derived.RangeFuncLeaves
import Derived.Shelf.Abstract
import Derived.Shelf.RegionOpen
import Derived.OwnWalkIn
import Derived.TacticsInMore
import Derived.LoopNIn
import Derived.LoopIn
import Derived.BigFrameIn
set_option linter.unusedVariables false
set_option linter.unusedSimpArgs false
set_option maxHeartbeats 16000000
set_option maxRecDepth 100000
namespace Go.Proofs.YtkdnebalpdebeaaGreatDoor
namespace Pr
open Go.RowKit Go.Deep Wide Dec Mp
theorem tier_part {r : Int} {cur : Array Value} (h0 : cur[0]? = some (.int .i64 0)) (h1 : cur[1]? = some (.int .i64 r)) : ∀ (j : Nat) (v : Value), (#[Value.int .i64 0, .int .i64 r] : Array Value).toList[j]? = some v -> cur[0 + j]? = some v := by
 intro j v h
 have hj2 : j < 2 := (List.getElem?_eq_some_iff.1 h).1
 have : j = 0 ∨ j = 1 := by omega
 rcases this with rfl | rfl
 . rw [Nat.add_zero, h0]; exact h
 . rw [Nat.zero_add, h1]; exact h
theorem pwithin_b (n m : Int) (hn : 0 <= n /\ n <= m) (hm : InR m) (W : World) : Calls Tryz.prog 164 #[.int .i64 n, .int .i64 m] W fun e w' => e = .returned (.bool true) /\ Below W.heap.size W w' :=
 (pwithin_ok n m hn hm W).mono fun e w' h => ⟨h.1, by rw [h.2]; exact Below.refl _ _⟩
theorem tiers_ok (r : Int) (hr : 0 <= r /\ r <= 1000000000) (s : Value) (W : World) (h : TS r W s) : Calls Tryz.prog 132 #[s] W fun e w' => e = .returned (.int .i64 0) /\ Below W.heap.size W w' := by
 obtain ⟨g, c, cur, rfl, hg, h0, h1⟩ := h
 have HG := Hd hg
 have H0 := Hd h0
 have H1 := Hd h1
 obtain ⟨r1, r2⟩ := hr
 clear hg h0 h1
 go_enter Tryz.func132, Tryz.ntmps132
 go_wp2_with (refine wpListG_cell rfl 2 (.tmp 14) rfl g 0 rfl 31 cur (.int .i64 0) H0.o _ HG.o Tryz.underlying2 rfl ?_)
 have HH : Hi (Has W [] W) := Hd (Has.start _)
 go_loopw [20] (fun i wr => ∃ k : Nat, k <= 1 /\ i = .int .i64 k /\ Hi (Has W [] wr)) (fun i _ => 1 - (intOf i).toNat)
 case atStart => exact ⟨0, by omega, rfl, HH⟩
 case round =>
  clear HH
  obtain ⟨k, hk, rfl, HH⟩ := hrel
  by_cases hk0 : k = 0
  . subst hk0
    go_wp2_with (refine wpListG_part rfl 31 (.tmp 23) rfl g 0 rfl 31 cur #[.int .i64 0, .int .i64 r] _ (by have := HH.o.below.block g (obj_lt HG.o); exact this.trans HG.o) (tier_part H0.o H1.o) Tryz.underlying31 rfl (by kernel_rfl) ?_)
    have H2 : Hi (Has W [(wr.heap.size, 31, #[.int .i64 0, .int .i64 r])] (wr.alloc (.cells #[.int .i64 0, .int .i64 r] 31))) := Hd (Has.cons (Blk.new _ _ _) (Has.nil (Below.al HH.o.below _)))
    obtain ⟨g2, hg2⟩ : ∃ g2, g2 = wr.heap.size := ⟨_, rfl⟩
    rw [<- hg2] at H2 ⊢
    clear hg2 HH
    refine wp_region_class (fun w' => Has W [(g2, 31, #[.int .i64 0, .int .i64 r])] w') [0, 1, 2, 3, 4, 5, 6, 7, 8, 9, 10, 11, 12, 13, 14, 15, 16, 17, 18, 19, 20, 21, 22, 23] (by kernel_rfl) (by kernel_rfl) H2.o.drew ?_
    simp only [List.map_cons, List.map_nil, opAt, List.getElem?_cons_succ, List.getElem?_cons_zero, Option.getD_some]
    repeat (go_big_quiet_step ((intro _; rfl)))
    refine wpQuiet_cell 2 (.tmp 39) rfl rfl ⟨g2, 0, none⟩ rfl (.int .i64 0) _ (fun w hw => (hw.get 0 rfl).cell 0) Tryz.underlying2 rfl (fun K1 k1 => ?_)
    go_simp
    refine k1 _ ?_
    clear k1 K1
    repeat (go_big_quiet_step ((intro _; rfl)))
    refine wpQuiet_cell 2 (.tmp 44) rfl rfl ⟨g2, 1, none⟩ rfl (.int .i64 r) _ (fun w hw => (hw.get 0 rfl).cell 1) Tryz.underlying2 rfl (fun K1 k1 => ?_)
    go_simp
    refine k1 _ ?_
    clear k1 K1
    repeat (go_big_quiet_step ((intro _; rfl)))
    go_big_quiet_step ((intro hw; exact (pwithin_b r 1000000000 (by omega) (by unfold InR; omega) _).mono fun e w' h => ⟨h.1, hw.step h.2⟩))
    repeat (go_big_quiet_step ((intro _; rfl)))
    refine wpQuiet_nil ?_
    intro w5 H5
    clear H2
    have H5 := Hd H5
    go_wp2_with fail
    go_roundw
    case rel => exact ⟨1, by omega, by go_num, Hd (H5.o.of_mem (by simp))⟩
    case measure => simp [intOf]
  . obtain rfl : k = 1 := by omega
    go_wp2_with fail
    exact bodyPost_ret (results_one rfl _ _ rfl) rfl ⟨rfl, HH.o.below⟩
theorem pcheck_ok (p : Pd) (hp : p.ok) (s : Value) (W : World) (h : TS p.rate W s) : Calls Tryz.prog 118 #[.agg (prodE p s)] W fun e w' => e = .returned (.int .i64 0) /\ Below W.heap.size W w' := by
 have HS := Hd h
 have HP := Hd (And.intro (fun w => pwithin_b p.fee 10000000000000 hp.fee (by unfold InR; omega) w) (fun w => pwithin_b p.lim 10000000000000 hp.lim (by unfold InR; omega) w))
 have HR := Hd hp.rate
 obtain ⟨i1, i2⟩ := hp.id
 obtain ⟨m1, m2⟩ := hp.mo
 have hk := hp.kind
 have hh : 0 <= p.how /\ p.how <= 3 := by have := hp.how; omega
 obtain ⟨h1, h2⟩ := hh
 obtain ⟨id, kind, how, mo, fee, lim, rate⟩ := p
 simp only at i1 i2 m1 m2 hk h1 h2 HR HP HS
 have d1 : decide (id < 1) = false := by simp; omega
 have d2 : decide (1000000000 < id) = false := by simp; omega
 have d3 : decide (how < 0) = false := by simp; omega
 have d4 : decide (3 < how) = false := by simp; omega
 have d5 : decide (mo < 0) = false := by simp; omega
 have d6 : decide (6 < mo) = false := by simp; omega
 clear h hp i1 i2 m1 m2 h1 h2
 rcases hk with rfl | rfl
 . unfold prodE
   go_enter Tryz.func118, Tryz.ntmps118
   go_wp2_with fail
   have H1 : Hi (Has W [(W.heap.size, 153, prodE ⟨id, 1, how, mo, fee, lim, rate⟩ s)] (W.alloc (.cells (prodE ⟨id, 1, how, mo, fee, lim, rate⟩ s) 153))) := Hd (Has.cons (Blk.new _ _ _) (Has.nil (Below.al (Below.refl _ _) _)))
   refine (Cal.digits0_ok _).mono ?_
   rintro e w1 ⟨rfl, hw⟩
   obtain rfl := hw
   go_wp2_with (first
    | (refine wpListG_cell rfl 3 (.tmp 12) rfl W.heap.size 0 rfl 153 (prodE ⟨id, 1, how, mo, fee, lim, rate⟩ s) (.int .i64 id) rfl _ (H1.o.get 0 rfl) Tryz.underlying3 rfl ?_))
   refine (HP.o.1 _).mono ?_
   rintro e w2 ⟨rfl, hb2⟩
   have H2 := Hd (H1.o.step hb2)
   clear hb2 H1
   go_wp2_with (first
    | (refine wpListG_cell rfl 2 (.tmp 70) rfl W.heap.size 7 rfl 153 (prodE ⟨id, 1, how, mo, fee, lim, rate⟩ s) (.int .i64 lim) rfl _ (H2.o.get 0 rfl) Tryz.underlying2 rfl ?_))
   refine (HP.o.2 _).mono ?_
   rintro e w3 ⟨rfl, hb3⟩
   have H3 := Hd (H2.o.step hb3)
   clear hb3 H2
   obtain ⟨g1, c1, cu, rfl, _⟩ := HS.o
   go_wp2_with (first
    | (refine wpListG_cell rfl 32 (.tmp 75) rfl W.heap.size 8 rfl 153 (prodE ⟨id, 1, how, mo, fee, lim, rate⟩ (.slice (some ⟨g1, 0, none⟩) 1 c1)) (.slice (some ⟨g1, 0, none⟩) 1 c1) rfl _ (H3.o.get 0 rfl) Tryz.underlying32 rfl ?_))
   refine (tiers_ok _ HR.o _ _ (HS.o.step H3.o.below)).mono ?_
   rintro e w4 ⟨rfl, hb4⟩
   have H4 := Hd (H3.o.step hb4)
   clear hb4 H3
   go_wp2_with fail
   exact bodyPost_ret (results_one rfl _ _ rfl) rfl ⟨rfl, H4.o.below⟩
 . unfold prodE
   go_enter Tryz.func118, Tryz.ntmps118
   go_wp2_with fail
   have H1 : Hi (Has W [(W.heap.size, 153, prodE ⟨id, 2, how, mo, fee, lim, rate⟩ s)] (W.alloc (.cells (prodE ⟨id, 2, how, mo, fee, lim, rate⟩ s) 153))) := Hd (Has.cons (Blk.new _ _ _) (Has.nil (Below.al (Below.refl _ _) _)))
   refine (Cal.digits0_ok _).mono ?_
   rintro e w1 ⟨rfl, hw⟩
   obtain rfl := hw
   go_wp2_with (first
    | (refine wpListG_cell rfl 3 (.tmp 12) rfl W.heap.size 0 rfl 153 (prodE ⟨id, 2, how, mo, fee, lim, rate⟩ s) (.int .i64 id) rfl _ (H1.o.get 0 rfl) Tryz.underlying3 rfl ?_))
   refine (HP.o.1 _).mono ?_
   rintro e w2 ⟨rfl, hb2⟩
   have H2 := Hd (H1.o.step hb2)
   clear hb2 H1
   go_wp2_with (first
    | (refine wpListG_cell rfl 2 (.tmp 70) rfl W.heap.size 7 rfl 153 (prodE ⟨id, 2, how, mo, fee, lim, rate⟩ s) (.int .i64 lim) rfl _ (H2.o.get 0 rfl) Tryz.underlying2 rfl ?_))
   refine (HP.o.2 _).mono ?_
   rintro e w3 ⟨rfl, hb3⟩
   have H3 := Hd (H2.o.step hb3)
   clear hb3 H2
   obtain ⟨g1, c1, cu, rfl, _⟩ := HS.o
   go_wp2_with (first
    | (refine wpListG_cell rfl 32 (.tmp 75) rfl W.heap.size 8 rfl 153 (prodE ⟨id, 2, how, mo, fee, lim, rate⟩ (.slice (some ⟨g1, 0, none⟩) 1 c1)) (.slice (some ⟨g1, 0, none⟩) 1 c1) rfl _ (H3.o.get 0 rfl) Tryz.underlying32 rfl ?_))
   refine (tiers_ok _ HR.o _ _ (HS.o.step H3.o.below)).mono ?_
   rintro e w4 ⟨rfl, hb4⟩
   have H4 := Hd (H3.o.step hb4)
   clear hb4 H3
   go_wp2_with fail
   exact bodyPost_ret (results_one rfl _ _ rfl) rfl ⟨rfl, H4.o.below⟩
end Pr
namespace Pr
open Go.RowKit Go.Deep Wide Dec Mp
theorem keyP : Key2 Tryz.prog 219 := by
 have hu := Tryz.underlying219
 have hv : Tryz.prog.underlying 3 = some (.int .i64) := by kernel_rfl
 have hv' : Tryz.prog.underlying 2 = some (.int .i64) := by kernel_rfl
 have hc1 : Tryz.prog.cellsOf 219 = 2 := by kernel_rfl
 have hc2 : Tryz.prog.cellsOf 3 = 1 := by kernel_rfl
 have hc3 : Tryz.prog.cellsOf 2 = 1 := by kernel_rfl
 refine ⟨by kernel_rfl, by kernel_rfl, fun u v => by simp [Value.formed, key2, hu, hc1], fun x y hx hy => ?_⟩
 have w1 := Ch.i64_wf hx
 have w2 := Ch.i64_wf hy
 simp [Program.keyLits, hu, hv, hv', hc1, hc2, hc3, w1, w2]
def cat0 (gc ba : Nat) : List (Nat × Obj) := [(gc, .cells #[.slice none 0 0, .map (some ba)] 144), (ba, .map #[] 0)]
theorem clash0_ok (p : Pd) (hp : p.ok) (s : Value) (gc ba : Nat) (W : World) (h : HasO [] W (cat0 gc ba) W) : Calls Tryz.prog 119 #[.pointer (some ⟨gc, 0, none⟩), .agg (prodE p s)] W fun e w' => e = .returned (.int .i64 0) /\ Below W.heap.size W w' := by
 have hlk : Hi (∀ w : World, w.heap[ba]? = some (.map #[] 0) -> (Instr.lookup 141 (.map (some ba)) (key2 p.id 1) true).run Tryz.prog w = .ok (.tuple #[.int .i64 0, .bool false]) w) := Hd (fun w hw =>
  run_lookup2 (P := Tryz.prog) (z := .int .i64 0) keyP Tryz.underlying141 (fun w => by first | exact Tryz.zeroValue3 w | exact Tryz.zeroValue3 _) (x := p.id) (y := 1) (by have := hp.id; unfold InR; omega) (by unfold InR; omega) w ba [] 0 (fun e he => by cases he) hw)
 have H1 : Hi (HasO [] W ((W.heap.size, .cells (prodE p s) 153) :: cat0 gc ba) (W.alloc (.cells (prodE p s) 153))) := Hd (h.new rfl _)
 unfold cat0 at H1
 clear h hp
 unfold prodE
 go_enter Tryz.func119, Tryz.ntmps119
 go_wp2_with fail
 refine wp_region_class (fun w' => HasO [] W [(W.heap.size, .cells (prodE p s) 153), (gc, .cells #[.slice none 0 0, .map (some ba)] 144), (ba, .map #[] 0)] w') [0, 1, 2, 3, 4, 5, 6, 7, 8, 9, 10, 11, 12, 13, 14] (by kernel_rfl) (by kernel_rfl) H1.o.drew ?_
 simp only [List.map_cons, List.map_nil, opAt, List.getElem?_cons_succ, List.getElem?_cons_zero, Option.getD_some]
 repeat (go_big_quiet_step ((intro _; rfl)))
 refine wpQuiet_cell 141 (.tmp 13) rfl rfl ⟨gc, 1, none⟩ rfl (.map (some ba)) _ (fun w hw => (hw.get 1 rfl).cell 1) Tryz.underlying141 rfl (fun K1 k1 => ?_)
 go_simp
 refine k1 _ ?_
 clear k1 K1
 repeat (go_big_quiet_step ((intro _; rfl)))
 refine wpQuiet_cell 2 (.tmp 15) rfl rfl ⟨W.heap.size, 0, none⟩ rfl (.int .i64 p.id) _ (fun w hw => (hw.get 0 rfl).cell 0) Tryz.underlying2 rfl (fun K1 k1 => ?_)
 go_simp
 refine k1 _ ?_
 clear k1 K1
 repeat (go_big_quiet_step ((intro _; rfl)))
 refine wpQuiet_cell 3 (.tmp 17) rfl rfl ⟨W.heap.size, 3, none⟩ rfl (.int .i64 1) _ (fun w hw => (hw.get 0 rfl).cell 3) Tryz.underlying3 rfl (fun K1 k1 => ?_)
 go_simp
 refine k1 _ ?_
 clear k1 K1
 repeat (go_big_quiet_step ((intro _; rfl)))
 refine wpQuiet_val (.tuple #[.int .i64 0, .bool false]) rfl (fun w hw => by have h := hlk.o w (hw.obj 2 rfl); unfold key2 at h; unfold execOp; go_simp) (fun K1 k1 => ?_)
 go_simp
 refine k1 _ ?_
 clear k1 K1
 repeat (go_big_quiet_step ((intro _; rfl)))
 refine wpQuiet_nil ?_
 intro w5 H5
 have H5 := Hd H5
 clear H1
 go_wp2_with (refine wpListG_cell rfl 142 (.tmp 26) rfl gc 0 rfl 144 #[.slice none 0 0, .map (some ba)] (.slice none 0 0) rfl _ (H5.o.get 1 rfl) Tryz.underlying142 rfl ?_)
 go_loopw [7, 29] (fun x i wr => x = .int .i64 0 /\ i = .int .i64 0 /\ Hi (HasO [] W [(W.heap.size, .cells (prodE p s) 153), (gc, .cells #[.slice none 0 0, .map (some ba)] 144), (ba, .map #[] 0)] wr)) (fun _ _ _ => 0)
 case atStart => exact ⟨rfl, rfl, H5⟩
 case round =>
  clear H5
  obtain ⟨rfl, rfl, H5⟩ := hrel
  go_wp2_with (refine wpListG_cell rfl 142 (.tmp 64) rfl gc 0 rfl 144 #[.slice none 0 0, .map (some ba)] (.slice none 0 0) rfl _ (H5.o.get 1 rfl) Tryz.underlying142 rfl ?_)
  exact bodyPost_ret (results_one rfl _ _ rfl) rfl ⟨rfl, H5.o.below⟩
theorem TS.cat {r : Int} {s : Value} {gc ba : Nat} {W w : World} (hs : TS r W s) (h : HasO [] W (cat0 gc ba) W) (hk : Keep [gc, ba] W w) : TS r w s := hs.keep hk (by
 intro k hk cur hc
 simp only [List.mem_cons, List.not_mem_nil, or_false] at hk
 rcases hk with rfl | rfl
 . rw [h.obj 0 rfl] at hc; cases hc
 . rw [h.obj 1 rfl] at hc; cases hc)
def Cat1 (p : Pd) (gc : Nat) (w : World) : Prop := ∃ (gL cap : Nat) (cur : Array Value) (s m : Value), w.heap[gc]? = some (.cells #[.slice (some ⟨gL, 0, none⟩) 1 cap, m] 144) /\ w.heap[gL]? = some (.cells cur 153) /\ (∀ (j : Nat) (v : Value), (prodE p s).toList[j]? = some v -> cur[0 + j]? = some v) /\ TS p.rate w s
theorem add1_ok (p : Pd) (hp : p.ok) (s : Value) (gc ba : Nat) (W : World) (h : HasO [] W (cat0 gc ba) W) (hs : TS p.rate W s) : Calls Tryz.prog 70 #[.pointer (some ⟨gc, 0, none⟩), .agg (prodE p s)] W fun e w' => e = .returned (.int .i64 0) /\ Keep [gc, ba] W w' /\ Cat1 p gc w' := by
 have HS := Hd (fun w (hk : Keep [gc, ba] W w) => hs.cat h hk)
 have H1 : Hi (HasO [] W ((W.heap.size, .cells (prodE p s) 153) :: cat0 gc ba) (W.alloc (.cells (prodE p s) 153))) := Hd (h.new rfl _)
 have HB := Hd (And.intro (obj_lt (h.obj 0 rfl)) (obj_lt (h.obj 1 rfl)))
 have CK := Hd (fun w (hb : Below W.heap.size W w) => pcheck_ok p hp s w (hs.step hb))
 have CL := Hd (fun w (hb : HasO [] W (cat0 gc ba) w) => clash0_ok p hp s gc ba w ⟨Keep.refl _ _, hb.2⟩)
 have HID := Hd hp.id
 clear h hs hp
 have CC := Hd (fun w (h : TS p.rate w s) => copied_ok p s w h)
 unfold cat0 at H1 CL
 unfold prodE at CK CL CC ⊢
 go_enter Tryz.func70, Tryz.ntmps70
 go_wp2_with fail
 refine (CK.o _ (Below.al (Below.refl _ _) _)).mono ?_
 rintro e w1 ⟨rfl, hb1⟩
 have H2 := Hd (H1.o.step hb1)
 clear hb1 H1
 go_wp2_with (refine wpListG_row rfl 153 (.tmp 3) rfl W.heap.size rfl 153 #[.int .i64 p.id, .int .i64 p.kind, .int .i64 0, .int .i64 1, .int .i64 p.how, .int .i64 p.mo, .int .i64 p.fee, .int .i64 p.lim, s] _ (H2.o.get 0 rfl) Tryz.underlying153 rfl (by kernel_rfl) ?_)
 refine (CL.o _ H2.o.tail).mono ?_
 rintro e w2 ⟨rfl, hb2⟩
 have H3 := Hd (H2.o.step hb2)
 clear hb2 H2
 obtain ⟨g0, hg0⟩ : ∃ g0, g0 = W.heap.size := ⟨_, rfl⟩
 rw [<- hg0] at H3
 have H4 : Hi (HasO [gc, ba] W [(g0, .cells (prodE p s) 153), (gc, .cells #[.slice none 0 0, .map (some ba)] 144), (ba, .map #[] 0)] w2) := Hd ⟨H3.o.1.mono (by simp), H3.o.2⟩
 have HG0 := Hd hg0
 go_wp2_with fail
 rw [<- hg0]
 clear H3 hg0
 refine wp_region_classZ (fun w' => HasO [gc, ba] W [(g0, .cells (prodE p s) 153), (gc, .cells #[.slice none 0 0, .map (some ba)] 144), (ba, .map #[] 0)] w') [0, 1, 2, 3, 4, 5, 6, 7, 8, 9, 10, 11, 12, 13] 14 (by kernel_rfl) (by kernel_rfl) H4.o.drew ?_
 simp only [List.map_cons, List.map_nil, opAt, List.getElem?_cons_succ, List.getElem?_cons_zero, Option.getD_some]
 repeat (go_big_quiet_step ((intro _; rfl)))
 refine wpQuiet_cell 141 (.tmp 22) rfl rfl ⟨gc, 1, none⟩ rfl (.map (some ba)) _ (fun w hw => (hw.get 1 rfl).cell 1) Tryz.underlying141 rfl (fun K1 k1 => ?_)
 go_simp
 refine k1 _ ?_
 clear k1 K1
 repeat (go_big_quiet_step ((intro _; rfl)))
 refine wpQuiet_cell 2 (.tmp 24) rfl rfl ⟨g0, 0, none⟩ rfl (.int .i64 p.id) _ (fun w hw => (hw.get 0 rfl).cell 0) Tryz.underlying2 rfl (fun K1 k1 => ?_)
 go_simp
 refine k1 _ ?_
 clear k1 K1
 repeat (go_big_quiet_step ((intro _; rfl)))
 refine wpQuiet_cell 3 (.tmp 26) rfl rfl ⟨g0, 3, none⟩ rfl (.int .i64 1) _ (fun w hw => (hw.get 0 rfl).cell 3) Tryz.underlying3 rfl (fun K1 k1 => ?_)
 go_simp
 refine k1 _ ?_
 clear k1 K1
 repeat (go_big_quiet_step ((intro _; rfl)))
 refine wpQuiet_cell 142 (.tmp 31) rfl rfl ⟨gc, 0, none⟩ rfl (.slice none 0 0) _ (fun w hw => (hw.get 1 rfl).cell 0) Tryz.underlying142 rfl (fun K1 k1 => ?_)
 go_simp
 refine k1 _ ?_
 clear k1 K1
 repeat (go_big_quiet_step ((intro _; rfl)))
 refine wpQuiet_nil ?_
 intro w5 H5
 have H5 := Hd H5
 clear H4
 refine wpList_update2 rfl 141 (.tmp 23) (.tmp 28) (.tmp 33) rfl keyP Tryz.underlying141 (show InR p.id by have := HID.o; unfold InR; omega) (show InR 1 by unfold InR; omega) ba [] 0 rfl rfl (fun e he => by cases he) (H5.o.obj 2 rfl) ?_
 intro W7 HM7 hfar7 hbel7 hsz7
 have H7 := Hd (H5.o.turn 2 rfl (Turn.of_map HM7 hfar7 hbel7 hsz7) (.inl (by simp)) (H5.o.apart 2 rfl rfl))
 clear HM7 hfar7 hbel7 hsz7 H5
 go_wp2_with fail
 rw [onlyNormal_normal]
 go_wp2_with fail
 refine wp_region_regL (fun w' => HasO [gc, ba] W [(g0, .cells (prodE p s) 153), (gc, .cells #[.slice none 0 0, .map (some ba)] 144)] w') (fun w' => HasO [gc, ba] W [(gc, .cells #[.slice none 0 0, .map (some ba)] 144)] w') (fun _ => (0, #[])) [0, 1, 2, 3, 4, 5] [] [6, 7, 8, 9, 10, 11] [0, 1, 2, 3, 4] (by kernel_rfl) (by kernel_rfl) ?_ (fun w w' h hb => h.step hb) ?_ (fun k hk => by cases hk) ?_
 . exact fun w h => h.of_mem (by simp)
 . exact (H7.o.of_mem (by simp)).drew
 simp only [List.map_cons, List.map_nil, opAt, List.getElem?_cons_succ, List.getElem?_cons_zero, Option.getD_some, List.contains_cons, List.contains_nil, Nat.reduceBEq, Bool.or_false, Bool.or_true, Bool.true_or, Bool.false_or]
 repeat (refine wpX_float rfl ?_; go_big_quiet_step ((intro _; rfl)); refine wpQuiet_nil ?_)
 refine wpX_float rfl ?_
 refine wpQuiet_cell 142 (.tmp 37) rfl rfl ⟨gc, 0, none⟩ rfl (.slice none 0 0) _ (fun w hw => (hw.get 0 rfl).cell 0) Tryz.underlying142 rfl (fun K1 k1 => ?_)
 go_simp
 refine k1 _ ?_
 clear k1 K1
 refine wpQuiet_nil ?_
 refine wpX_pure rfl ?_
 refine wpQuiet_row 153 (.tmp 3) rfl rfl g0 rfl 153 (prodE p s) _ (fun w hw => hw.get 0 rfl) Tryz.underlying153 rfl (by kernel_rfl) (fun K1 k1 => ?_)
 go_simp
 refine k1 _ ?_
 clear k1 K1
 refine wpQuiet_nil ?_
 repeat (refine wpX_pure rfl ?_; go_big_quiet_step ((intro _; rfl)); refine wpQuiet_nil ?_)
 refine wpX_nil ?_
 intro gs w8 H8
 intro hmade
 simp only [putAll, wpTailL, opAt, List.getElem?_cons_succ, List.getElem?_cons_zero, Option.getD_some, Act.put]
 have H8 := Hd H8
 clear hmade H7
 go_wp2_with fail
 refine (CC.o _ (HS.o _ H8.o.1)).mono ?_
 rintro e w9 ⟨⟨s', rfl, hs'⟩, hb9⟩
 have H9 := Hd (H8.o.step hb9)
 have HS9 := Hd hs'
 obtain ⟨g1, c1, cu1, rfl, _⟩ := hs'
 clear hb9 H8
 go_wp2_with fail
 refine ⟨fun _ => H9.o.of_mem (by simp), ?_⟩
 go_wp2_with fail
 obtain ⟨g2, hg2⟩ : ∃ g2, g2 = w9.heap.size := ⟨_, rfl⟩
 have H10 : Hi (HasO [gc, ba] W _ (w9.alloc (.cells (prodE p (.slice (some ⟨g1, 0, none⟩) 1 c1)) 153))) := Hd (H9.o.new hg2 _)
 obtain ⟨W10, hW10⟩ : ∃ W10, W10 = w9.alloc (.cells (prodE p (.slice (some ⟨g1, 0, none⟩) 1 c1)) 153) := ⟨_, rfl⟩
 have HS10 : Hi (TS p.rate W10 (.slice (some ⟨g1, 0, none⟩) 1 c1)) := Hd (by rw [hW10]; exact HS9.o.step (Below.al (Below.refl _ _) _))
 unfold prodE at hW10
 rw [<- hg2, <- hW10]
 unfold prodE at H10
 rw [<- hW10] at H10
 clear hg2 hW10 HS9 H9
 refine ⟨fun _ => H10.o.of_mem (by simp), ?_⟩
 obtain ⟨i, hi, h2, h3, h4⟩ : ∃ i, Tryz.prog.info? 153 = some i /\ i.zero = some (.agg prodZ) /\ i.size = 9 /\ i.bytes = 88 := ⟨_, rfl, by kernel_rfl, by kernel_rfl, by kernel_rfl⟩
 go_wp2_with (at_builtin
              refine wpList_append_own _ rfl (.tmp 38) (.tmp 41) 142 rfl W10.heap.size 153 i (.agg prodZ) 9 88 Tryz.underlying142 hi h2 h3 h4 rfl (by omega) (.slice none 0 0) 0 [] rfl (World.ownsRow_nil W10 _ _ _) ⟨g2, 0, none⟩ 1 1 (prodE p (.slice (some ⟨g1, 0, none⟩) 1 c1)).toList rfl rfl (fun j u hj => by rw [Addr.add_lit, (H10.o.get 0 rfl).cell]; simpa [prodE] using hj) (by intro u hu; simp only [prodE, List.mem_cons, List.not_mem_nil, or_false] at hu; rcases hu with rfl | rfl | rfl | rfl | rfl | rfl | rfl | rfl | rfl <;> rfl) (by simp only [maxLen]; omega) (by omega) (Nat.le_refl _) ?_
              intro v1 w1 hown1 hg1 hat1)
 obtain ⟨_, hn | ⟨g3, cap, cu, rfl, hb, hh, hc1, hc2, hc3, hc4⟩⟩ := hown1
 . exact absurd hn.2 (by simp)
 have hb11 : Below W10.heap.size W10 w1 := Below.of_grown hg1 (by simp [Value.ownBlock])
 have H11 : Hi (HasO [gc, ba] W ((g3, .cells cu 153) :: _) w1) := Hd (HasO.cons hh (H10.o.step hb11))
 have HS11 := Hd (HS10.o.step hb11)
 have HCU := Hd hc4
 have HGE := Hd (Nat.le_trans H10.o.size hb)
 clear hb hh hc1 hc2 hc3 hc4 hb11 hg1 hat1 HS10 H10
 go_wp2_with fail
 refine ⟨H11.o.of_mem (by simp), ?_⟩
 go_wp2_with fail
 refine ⟨H11.o.of_mem (by simp), ?_⟩
 go_wp2_with fail
 refine ⟨H11.o.of_mem (by simp), ?_⟩
 go_wp2_with (refine wpList_turn rfl 142 (.tmp 44) (.tmp 42) rfl gc 0 (.slice (some ⟨g3, 0, none⟩) 1 cap) rfl rfl 144 #[.slice none 0 0, .map (some ba)] #[.slice (some ⟨g3, 0, none⟩) 1 cap, .map (some ba)] (H11.o.get 3 rfl) (by kernel_rfl) (by simp [Value.cells, prodE, prodZ]) (by simp [Value.cells, Value.oneCell', prodE, prodZ]) rfl ?_; intro W12 HT12)
 rw [onlyNormal_normal]
 go_wp2_with fail
 have hgc : g3 ≠ gc := by have := HGE.o; have := HB.o.1; omega
 refine bodyPost_ret (results_one rfl _ _ rfl) rfl ⟨rfl, H11.o.1.trans HT12.keep (by simp), g3, cap, cu, .slice (some ⟨g1, 0, none⟩) 1 c1, .map (some ba), HT12.at_, (HT12.far _ hgc).trans (H11.o.get 0 rfl), ?_, HS11.o.keep HT12.keep ?_⟩
 . intro j v hj
   have hj9 : j < 9 := (List.getElem?_eq_some_iff.1 hj).1
   have h1 : (cu.toList.take 9)[j]? = some v := by
    have := HCU.o
    simp only [Nat.zero_add, Nat.one_mul, List.nil_append] at this
    rw [this]; exact hj
   rw [List.getElem?_take, if_pos hj9] at h1
   simpa using h1
 . intro k hk cur hc
   simp only [List.mem_singleton] at hk
   subst hk
   have := H11.o.obj 3 rfl
   rw [this] at hc; cases hc
end Pr
section
open Go.RowKit Go.Deep Go.Shelf
section
variable {F : Fence} {n : Nat} {P : Program} {ops : Array Oper} {rest : List Oper} {o : Oper} {a : Act} {w : World} {Q : Exit -> Act -> World -> Prop}
theorem wpListIn_run (hw : Region.wanted o (yielded ops a.tmps) = true) (hd : ∀ c, o.op ≠ .defer c) (hc : ∀ c, o.op ≠ .call c) (v : Value) (w' : World)
 (hr : (execOp a.eval o).run P w = .ok (.value v) w') (h : wpListIn F n P ops Q rest (a.put o.dst v) w') : wpListIn F n P ops Q (o :: rest) a w := by
 refine wpListIn_step fun K hK => ?_
 rw [if_pos hw]
 unfold Oper.wpIn
 refine ⟨fun f hf => ?_, ?_⟩
 . unfold Oper.about at hf
   cases ho : o.op <;> simp only [ho] at hf <;> first | (cases hf; done) | exact absurd ho (hc _)
 . rw [Oper.semAt_eq _ _ _ hd, hr]
   exact hK _ _ h
theorem wpListIn_runS (hw : Region.wanted o (yielded ops a.tmps) = true) (hd : ∀ c, o.op ≠ .defer c) (hc : ∀ c, o.op ≠ .call c) (w' : World)
 (hr : (execOp a.eval o).run P w = .ok .skip w') (h : wpListIn F n P ops Q rest (a.put o.dst undef) w') : wpListIn F n P ops Q (o :: rest) a w := by
 refine wpListIn_step fun K hK => ?_
 rw [if_pos hw]
 unfold Oper.wpIn
 refine ⟨fun f hf => ?_, ?_⟩
 . unfold Oper.about at hf
   cases ho : o.op <;> simp only [ho] at hf <;> first | (cases hf; done) | exact absurd ho (hc _)
 . rw [Oper.semAt_eq _ _ _ hd, hr]
   exact hK _ _ h
theorem wpListIn_row (hw : Region.wanted o (yielded ops a.tmps) = true) (ty : TypeId) (x : Operand) (ho : o.op = .load ty x)
 (g : Nat) (hx : a.eval x = .pointer (some ⟨g, 0, none⟩)) (t : TypeId) (cs : Array Value) (d : TypeDesc) (hg : Blk w g t cs)
 (hu : P.underlying ty = some d) (hd : (match d with | .struct _ | .array _ _ => true | _ => false) = true) (hi : (P.info? ty).map (·.size) = some cs.size)
 (h : wpListIn F n P ops Q rest (a.put o.dst (.agg cs)) w) : wpListIn F n P ops Q (o :: rest) a w :=
 wpListIn_run hw (by rw [ho]; intro c e; cases e) (by rw [ho]; intro c e; cases e) (.agg cs) w (by
  unfold execOp
  simp only [ho, hx, Instr.loadAt, Instr.sureAddr, Sem.run_bind, Sem.run_pure, Result.andThen_ok, run_loadVar_row w g t ty cs (0, 0) d hg hu hd hi]) h
theorem wpListIn_part (hw : Region.wanted o (yielded ops a.tmps) = true) (ty : TypeId) (x : Operand) (ho : o.op = .load ty x)
 (g off : Nat) (hx : a.eval x = .pointer (some ⟨g, off, none⟩)) (t : TypeId) (cs part : Array Value) (d : TypeDesc) (hg : Blk w g t cs) (hp : ∀ j v, part.toList[j]? = some v -> cs[off + j]? = some v)
 (hu : P.underlying ty = some d) (hd : (match d with | .struct _ | .array _ _ => true | _ => false) = true) (hi : (P.info? ty).map (·.size) = some part.size)
 (h : wpListIn F n P ops Q rest (a.put o.dst (.agg part)) w) : wpListIn F n P ops Q (o :: rest) a w :=
 wpListIn_run hw (by rw [ho]; intro c e; cases e) (by rw [ho]; intro c e; cases e) (.agg part) w (by
  unfold execOp
  simp only [ho, hx, Instr.loadAt, Instr.sureAddr, Sem.run_bind, Sem.run_pure, Result.andThen_ok, run_loadVar_part w g off t ty cs part d hg hp hu hd hi]) h
theorem wpListIn_cell (hw : Region.wanted o (yielded ops a.tmps) = true) (ty : TypeId) (x : Operand) (ho : o.op = .load ty x)
 (g off : Nat) (hx : a.eval x = .pointer (some ⟨g, off, none⟩)) (t : TypeId) (cs : Array Value) (v : Value) (hv : cs[off]? = some v) (d : TypeDesc) (hg : Blk w g t cs)
 (hu : P.underlying ty = some d) (hd : (match d with | .struct _ | .array _ _ => false | _ => true) = true)
 (h : wpListIn F n P ops Q rest (a.put o.dst v) w) : wpListIn F n P ops Q (o :: rest) a w :=
 wpListIn_run hw (by rw [ho]; intro c e; cases e) (by rw [ho]; intro c e; cases e) v w (by
  have hagg : (isAgg ty).run P w = .ok false w := by
   unfold isAgg
   rw [Sem.run_bind, run_underlying hu w]
   cases d <;> simp_all
  have hc : w.cell? ⟨g, off, none⟩ = some v := by rw [hg.cell, hv]
  have hl : (loadVar ty ⟨g, off, none⟩).run P w = .ok v w := by simp [loadVar, Sem.run_bind, hagg, hc, go_sem]
  unfold execOp
  simp only [ho, hx, Instr.loadAt, Instr.sureAddr, Sem.run_bind, Sem.run_pure, Result.andThen_ok, hl]) h
theorem wpListIn_turn (hw : Region.wanted o (yielded ops a.tmps) = true) (ty : TypeId) (x y : Operand) (ho : o.op = .store ty x y)
 (g off : Nat) (v : Value) (hx : a.eval x = .pointer (some ⟨g, off, none⟩)) (hy : a.eval y = v) (t : TypeId) (old new : Array Value) (hg : Blk w g t old) (hi : (P.info? ty).map (·.size) = some v.cells.size)
 (hfit : off + v.cells.size <= old.size) (h1 : v.cells.all (·.oneCell') = true) (hnew : splice old off v.cells = new)
 (h : ∀ W2, Turn w g (.cells new t) W2 -> wpListIn F n P ops Q rest (a.put o.dst undef) W2) : wpListIn F n P ops Q (o :: rest) a w := by
 have hst := run_storeCells_at P g off t v.cells.toList 0 old w hg (by simpa using hfit) (fun v' hv => by rw [Array.all_eq_true'] at h1; exact h1 v' (by simpa using hv))
 have hsv : (storeVar ty ⟨g, off, none⟩ v).run P w = .ok () (w.setRow g new) := by
  cases hq : P.info? ty with
  | none => simp [hq] at hi
  | some i =>
    have hs : i.size = v.cells.size := by simpa [hq] using hi
    rw [<- hnew]
    simp [storeVar, Sem.run_bind, sizeOf, typeInfo, hq, hs, hst, splice]
 exact wpListIn_runS hw (by rw [ho]; intro c e; cases e) (by rw [ho]; intro c e; cases e) (w.setRow g new) (by
  unfold execOp
  simp only [ho, hx, hy, Instr.storeAt, Instr.sureAddr, Sem.run_bind, Sem.run_pure, Result.andThen_ok, hsv]) (h _ (turn_setRow hg))
end
end
end Go.Proofs.YtkdnebalpdebeaaGreatDoor
