/- Lemmas of a claim: DecH, DecI, AccA, ChA -/
import Derived.Test.YtkdnebalpdebeaaGreatDoorG08
set_option linter.unusedVariables false
set_option linter.unusedSimpArgs false
set_option maxHeartbeats 16000000
set_option maxRecDepth 100000
namespace Go.Proofs.YtkdnebalpdebeaaGreatDoor
namespace Dec
open Go.RowKit Go.Deep Wide
theorem roundN_one (mode : Int) (m : Bool) (a : Nat) : roundN mode m a 1 = a := by
 unfold roundN moreB; rw [Nat.mod_one, Nat.div_one]; simp
theorem rounded1_ok (m : Bool) (a : Nat) (s mode : Int) (hmode : 0 <= mode /\ mode <= 6) (ha : a + 1 < P 6) (W : World) :
 Calls Tryz.prog 188 #[.bool m, .agg (enc a), .agg #[.int .u64 1, .int .u64 0, .int .u64 0, .int .u64 0, .int .u64 0, .int .u64 0], .int .i64 s, .int .i64 mode] W fun e w' => e = .returned (.tuple #[.agg (decE (togC m a) (togS a s)), .int .i64 (togE a)]) /\ Below W.heap.size W w' := by
 have := rounded_ok m a 1 s mode hmode ha (by decide) (by decide +kernel) W
 unfold rndC at this
 rw [roundN_one, enc_small 1 (by decide)] at this
 exact this
theorem big_lt : 10 ^ 18 * (T * T) + 1 < P 6 := by decide +kernel
theorem scaled_ok (m : Bool) (n : Nat) (s u mode : Int) (hmode : 0 <= mode /\ mode <= 6) (hn : n <= T * T) (h0 : 0 <= s) (h1 : s <= u) (h2 : u <= 18) (W : World) :
 Calls Tryz.prog 213 #[.bool m, .agg (enc n), .int .i64 s, .int .i64 u, .int .i64 mode] W fun e w' => e = .returned (.tuple #[.agg (decE (togC m (n * 10 ^ (u - s).toNat)) (togS (n * 10 ^ (u - s).toNat) u)), .int .i64 (togE (n * 10 ^ (u - s).toNat))]) /\ Below W.heap.size W w' := by
 obtain ⟨k, hk⟩ : ∃ k : Nat, k = (u - s).toNat := ⟨_, rfl⟩
 have hks : u - s = (k : Int) := by omega
 rw [<- hk]
 have hk18 : k <= 18 := by omega
 have es : IntKind.i64.wrap (u - s) = (k : Int) := by rw [hks]; exact IntWalk.i64_in _ (by omega)
 have hlt : n * 10 ^ k + 1 < P 6 := by
  have h1 : 10 ^ k * n <= 10 ^ 18 * (T * T) := Nat.mul_le_mul (Nat.pow_le_pow_right (by decide) hk18) hn
  rw [Nat.mul_comm]; have := big_lt; omega
 have hn6 : n < P 6 := by have := big_lt; have : T * T <= 10 ^ 18 * (T * T) := Nat.le_mul_of_pos_left _ (by decide); omega
 have CT := Hd (fun W' => ten_ok k (by omega) W')
 have CM := Hd (fun W' => mul_ok n (10 ^ k) hn6 W')
 have CR := Hd (fun W' => rounded1_ok m (n * 10 ^ k) u mode hmode hlt W')
 obtain ⟨a, ha⟩ : ∃ a, a = n * 10 ^ k := ⟨_, rfl⟩
 rw [<- ha] at CR CM ⊢
 have hge : decide (s <= u) = true := by simpa using h1
 have hinit : ∀ w1, w1 = (W.alloc (.cells (enc n) 115)).alloc (.cells #[.int .i64 0, .int .u64 0, .int .i64 0] 56) ->
  Has W [(W.heap.size, 115, enc n), (W.heap.size + 1, 56, decE 0 0)] w1 := fun w1 e => by
  subst e
  refine Has.cons ?_ (Has.cons ?_ (Has.nil ?_))
  . exact (Blk.new _ _ _).alloc _
  . exact Blk.new' (by simp)
  . exact Below.al (Below.al (Below.refl _ _) _) _
 have HI := Hd (hinit _ rfl)
 clear hinit hks hk hlt hn6 ha hn hmode
 go_enter Tryz.func213, Tryz.ntmps213
 go_wp2_with fail
 refine wp_region_reg (fun w' => Has W [(W.heap.size, 115, enc n), (W.heap.size + 1, 56, decE 0 0)] w') (fun _ => (0, #[])) [0, 1, 2, 3, 4, 5, 6, 7, 8, 9, 10, 11, 12] [] [13, 14] (by kernel_rfl) (by kernel_rfl) (fun w w' h hb => h.step hb) ?_ (fun k hk => by cases hk) ?_
 . exact HI.o.drew
 clear HI
 simp only [List.map_cons, List.map_nil, opAt, List.getElem?_cons_succ, List.getElem?_cons_zero, Option.getD_some]
 repeat (refine wpB_pure rfl ?_; go_big_quiet_step ((intro _; rfl)); refine wpQuiet_nil ?_)
 refine wpB_pure rfl ?_
 refine wpQuiet_row 115 (.tmp 6) rfl rfl W.heap.size rfl 115 (enc n) _ (fun w hw => hw.get 0 rfl) Tryz.underlying115 rfl (by first | kernel_rfl | (rw [enc_size]; kernel_rfl)) (fun K1 k1 => ?_)
 go_simp
 refine k1 _ ?_
 clear k1 K1
 refine wpQuiet_nil ?_
 repeat (refine wpB_pure rfl ?_; go_big_quiet_step ((intro _; rfl)); refine wpQuiet_nil ?_)
 refine wpB_call (.agg (enc (10 ^ k))) 45 #[.int .i64 (k : Int)] rfl (fun w => by go_simp) (fun w hw => CT.o _) (fun K1 k1 => ?_)
 go_simp
 refine k1 _ ?_
 clear k1 K1
 refine wpB_call (.agg (enc a)) 93 #[.agg (enc n), .agg (enc (10 ^ k))] rfl (fun w => by go_simp) (fun w hw => CM.o _) (fun K1 k1 => ?_)
 go_simp
 refine k1 _ ?_
 clear k1 K1
 repeat (refine wpB_pure rfl ?_; go_big_quiet_step ((intro _; rfl)); refine wpQuiet_nil ?_)
 refine wpB_call (.tuple #[.agg (decE (togC m a) (togS a u)), .int .i64 (togE a)]) 188 #[.bool m, .agg (enc a), .agg #[.int .u64 1, .int .u64 0, .int .u64 0, .int .u64 0, .int .u64 0, .int .u64 0], .int .i64 u, .int .i64 mode] rfl (fun w => by go_simp) (fun w hw => CR.o _) (fun K1 k1 => ?_)
 go_simp
 refine k1 _ ?_
 clear k1 K1
 repeat (refine wpB_pure rfl ?_; go_big_quiet_step ((intro _; rfl)); refine wpQuiet_nil ?_)
 refine wpB_nil ?_
 intro gs w2 H2
 intro hmade
 simp only [putAll, opAt, List.getElem?_cons_succ, List.getElem?_cons_zero, Option.getD_some, Act.put]
 clear hmade
 refine wpList_put rfl 56 (.tmp 10) (.tmp 26) rfl (W.heap.size + 1) (decE (togC m a) (togS a u)) rfl rfl 56 _ (H2.get 1 rfl) (by kernel_rfl) (by first | rfl | (rw [enc_size]; rfl)) (decE_all _ _) ?_
 intro W4 HB4 hfar4 hbel4 hsz4 hcell4
 have H4 := hbel4 W.heap.size W (by omega) H2.below
 go_wp2_with fail
 rw [onlyNormal_normal]
 go_wp2_with fail
 exact bodyPost_ret (results_row_tmp rfl _ W4 (W.heap.size + 1) 56 _ _ _ rfl HB4 Tryz.underlying56 rfl (by kernel_rfl) rfl) rfl ⟨rfl, H4⟩
end Dec
namespace Dec
open Go.RowKit Go.Deep Wide
def mulM (a b : Int) : Bool := !(decide (a < 0) == decide (b < 0))
def mulN (a b : Int) : Nat := a.natAbs * b.natAbs
theorem chk0 {a : Int} (h : a ≠ -170141183460469231731687303715884105728) : chk a 0 = 0 := chk_yes (by omega)
theorem mul0_ok (a b mode : Int) (hmode : 0 <= mode /\ mode <= 6) (ha : InT a) (hb : InT b) (ha' : a ≠ -170141183460469231731687303715884105728) (hb' : b ≠ -170141183460469231731687303715884105728) (W : World) :
 Calls Tryz.prog 170 #[.agg (decE a 0), .agg (decE b 0), .int .i64 0, .int .i64 mode] W fun e w' => e = .returned (.tuple #[.agg (decE (togC (mulM a b) (mulN a b)) 0), .int .i64 (togE (mulN a b))]) /\ Below W.heap.size W w' := by
 have CW := Hd (fun W' => way_ok 0 mode ⟨by omega, by omega, hmode.1, hmode.2⟩ W')
 have CB := Hd (fun W' => both_ok a 0 b 0 ha hb (chk0 ha') W')
 rw [chk0 hb'] at CB
 have CA := Hd (fun W' => apart_ok a 0 ha W')
 have CC := Hd (fun W' => apart_ok b 0 hb W')
 have hTT : a.natAbs * b.natAbs <= T * T := Nat.mul_le_mul (by unfold InT at ha; unfold T; omega) (by unfold InT at hb; unfold T; omega)
 have CM := Hd (fun W' => mul_ok a.natAbs b.natAbs (abs6 ha) W')
 have CS := Hd (fun W' => scaled_ok (mulM a b) (a.natAbs * b.natAbs) 0 0 mode hmode hTT (by omega) (by omega) (by omega) W')
 have e1 : a.natAbs * b.natAbs * 10 ^ (0 - 0 : Int).toNat = mulN a b := by show a.natAbs * b.natAbs * 1 = _; rw [Nat.mul_one]; rfl
 rw [e1] at CS
 have e2 : togS (mulN a b) 0 = 0 := by unfold togS; split <;> rfl
 rw [e2] at CS
 have hm : mulM a b = !(decide (a < 0) == decide (b < 0)) := rfl
 obtain ⟨m, hme⟩ : ∃ m, m = mulM a b := ⟨_, rfl⟩
 obtain ⟨p, hp⟩ : ∃ p, p = mulN a b := ⟨_, rfl⟩
 have hp' : a.natAbs * b.natAbs = p := by rw [hp]; rfl
 rw [hp'] at CM CS
 rw [<- hme, <- hp] at CS ⊢
 rw [<- hme] at hm
 obtain ⟨x, hx⟩ : ∃ x, x = a.natAbs := ⟨_, rfl⟩
 obtain ⟨y, hy⟩ : ∃ y, y = b.natAbs := ⟨_, rfl⟩
 obtain ⟨k, hk⟩ : ∃ k, k = decide (a < 0) := ⟨_, rfl⟩
 obtain ⟨j, hj⟩ : ∃ j, j = decide (b < 0) := ⟨_, rfl⟩
 rw [<- hx, <- hk] at CA
 rw [<- hy, <- hj] at CC
 rw [<- hx, <- hy] at CM
 rw [<- hk, <- hj] at hm
 clear hp' hp hme e1 e2 hTT hx hy hk hj hmode
 subst hm
 clear ha hb ha' hb'
 have hinit : ∀ w1, w1 = ((W.alloc (.cells (decE a 0) 56)).alloc (.cells (decE b 0) 56)).alloc (.cells #[.int .i64 0, .int .u64 0, .int .i64 0] 56) ->
  Has W [(W.heap.size, 56, decE a 0), (W.heap.size + 1, 56, decE b 0), (W.heap.size + 2, 56, decE 0 0)] w1 := fun w1 e => by
  subst e
  refine Has.cons ?_ (Has.cons ?_ (Has.cons ?_ (Has.nil ?_)))
  . exact ((Blk.new _ _ _).alloc _).alloc _
  . exact (Blk.new' (by simp)).alloc _
  . exact Blk.new' (by simp)
  . exact Below.al (Below.al (Below.al (Below.refl _ _) _) _) _
 have HI := Hd (hinit _ rfl)
 clear hinit
 rw [decE, decE]
 go_enter Tryz.func170, Tryz.ntmps170
 go_wp2_with fail
 refine (CW.o _).mono ?_
 rintro e w1 ⟨rfl, rfl⟩
 go_wp2_with fail
 refine (CB.o _).mono ?_
 rintro e w1 ⟨rfl, hb1⟩
 have H1 := Hd (HI.o.step hb1)
 clear hb1 HI
 go_wp2_with fail
 refine wp_region_reg (fun w' => Has W [(W.heap.size, 56, decE a 0), (W.heap.size + 1, 56, decE b 0), (W.heap.size + 2, 56, decE 0 0)] w') (fun _ => (118, numE false 0 0)) [0, 1, 2, 3] [4, 5] [6, 7] (by kernel_rfl) (by kernel_rfl) (fun w w' h hb => h.step hb) ?_ (fun k hk => by simp only [List.mem_cons, List.not_mem_nil, or_false] at hk; first | (subst hk; exact ⟨rfl, fun a w => by simp only [opAt, List.getElem?_cons_succ, List.getElem?_cons_zero, Option.getD_some]; go_simp <;> rfl⟩) | (rcases hk with rfl | rfl <;> exact ⟨rfl, fun a w => by simp only [opAt, List.getElem?_cons_succ, List.getElem?_cons_zero, Option.getD_some]; go_simp <;> rfl⟩)) ?_
 . exact H1.o.drew
 have hN := Hd (H1.o.get 2 rfl).lt
 clear H1
 simp only [List.map_cons, List.map_nil, opAt, List.getElem?_cons_succ, List.getElem?_cons_zero, Option.getD_some]
 refine wpB_pure rfl ?_
 refine wpQuiet_row 56 (.tmp 4) rfl rfl W.heap.size rfl 56 (decE a 0) _ (fun w hw => hw.get 0 rfl) Tryz.underlying56 rfl (by kernel_rfl) (fun K1 k1 => ?_)
 go_simp
 refine k1 _ ?_
 clear k1 K1
 refine wpQuiet_nil ?_
 refine wpB_call (.agg (numE k x 0)) 43 #[.agg (decE a 0)] rfl (fun w => by go_simp) (fun w hw => CA.o _) (fun K1 k1 => ?_)
 go_simp
 refine k1 _ ?_
 clear k1 K1
 refine wpB_pure rfl ?_
 refine wpQuiet_row 56 (.tmp 5) rfl rfl (W.heap.size + 1) rfl 56 (decE b 0) _ (fun w hw => hw.get 1 rfl) Tryz.underlying56 rfl (by kernel_rfl) (fun K1 k1 => ?_)
 go_simp
 refine k1 _ ?_
 clear k1 K1
 refine wpQuiet_nil ?_
 refine wpB_call (.agg (numE j y 0)) 43 #[.agg (decE b 0)] rfl (fun w => by go_simp) (fun w hw => CC.o _) (fun K1 k1 => ?_)
 go_simp
 refine k1 _ ?_
 clear k1 K1
 refine wpB_nil ?_
 intro gs w2 H2
 intro hmade
 simp only [putAll, opAt, List.getElem?_cons_succ, List.getElem?_cons_zero, Option.getD_some, Act.put]
 obtain ⟨g, hg⟩ : ∃ g, g = gs 4 := ⟨_, rfl⟩
 obtain ⟨f, hf⟩ : ∃ f, f = gs 5 := ⟨_, rfl⟩
 obtain ⟨g1, g2⟩ := hmade.1 4 (by simp)
 obtain ⟨f1, f2⟩ := hmade.1 5 (by simp)
 have hgf := hmade.2 4 (by simp) 5 (by simp) (by decide)
 rw [<- hg] at g1 g2 hgf ⊢
 rw [<- hf] at f1 f2 hgf ⊢
 have hgW : Hi (W.heap.size + 2 < g /\ W.heap.size + 2 < f /\ g ≠ f) := Hd ⟨Nat.lt_of_lt_of_le hN.o g1, Nat.lt_of_lt_of_le hN.o f1, hgf⟩
 have H3 := Hd (Has.cons g2 (Has.cons f2 H2))
 clear hmade hg hf g1 g2 f1 f2 hgf H2 hN
 refine wpList_put rfl 118 (.tmp 12) (.tmp 29) rfl g (numE k x 0) rfl rfl 118 _ (H3.o.get 0 rfl) (by first | kernel_rfl | (rw [enc_size]; kernel_rfl)) (by first | rfl | (rw [enc_size]; rfl)) (numE_all _ _ _) ?_
 intro W4 HB4 hfar4 hbel4 hsz4 hcell4
 have H4 := Hd (H3.o.upd 0 rfl (by have := hgW.o; omega) (by simp; have := hgW.o; omega) HB4 hfar4 hbel4)
 clear HB4 hfar4 hbel4 hsz4 hcell4 H3
 refine wpList_put rfl 118 (.tmp 13) (.tmp 31) rfl f (numE j y 0) rfl rfl 118 _ (H4.o.get 1 rfl) (by first | kernel_rfl | (rw [enc_size]; kernel_rfl)) (by first | rfl | (rw [enc_size]; rfl)) (numE_all _ _ _) ?_
 intro W5 HB5 hfar5 hbel5 hsz5 hcell5
 have H5 := Hd (H4.o.upd 1 rfl (by have := hgW.o; omega) (by simp; have := hgW.o; omega) HB5 hfar5 hbel5)
 clear HB5 hfar5 hbel5 hsz5 hcell5 H4
 go_wp2_with fail
 rw [onlyNormal_normal]
 go_wp2_with fail
 refine wp_region_reg (fun w' => Has W [(g, 118, numE k x 0), (f, 118, numE j y 0), (W.heap.size, 56, decE a 0), (W.heap.size + 1, 56, decE b 0), (W.heap.size + 2, 56, decE 0 0)] w') (fun _ => (0, #[])) [0, 1, 2, 3, 4, 5, 6, 7, 8, 9, 10, 11, 12, 13, 14, 15, 16, 17, 18, 19] [] [20, 21] (by kernel_rfl) (by kernel_rfl) (fun w w' h hb => h.step hb) ?_ (fun k hk => by cases hk) ?_
 . exact H5.o.drew
 clear H5
 simp only [List.map_cons, List.map_nil, opAt, List.getElem?_cons_succ, List.getElem?_cons_zero, Option.getD_some]
 repeat (refine wpB_pure rfl ?_; go_big_quiet_step ((intro _; rfl)); refine wpQuiet_nil ?_)
 refine wpB_pure rfl ?_
 refine wpQuiet_cell 4 (.tmp 32) rfl rfl ⟨g, 0, none⟩ rfl (.bool k) _ (fun w hw => (hw.get 0 rfl).cell 0) Tryz.underlying4 rfl (fun K1 k1 => ?_)
 go_simp
 refine k1 _ ?_
 clear k1 K1
 refine wpQuiet_nil ?_
 repeat (refine wpB_pure rfl ?_; go_big_quiet_step ((intro _; rfl)); refine wpQuiet_nil ?_)
 refine wpB_pure rfl ?_
 refine wpQuiet_cell 4 (.tmp 34) rfl rfl ⟨f, 0, none⟩ rfl (.bool j) _ (fun w hw => (hw.get 1 rfl).cell 0) Tryz.underlying4 rfl (fun K1 k1 => ?_)
 go_simp
 refine k1 _ ?_
 clear k1 K1
 refine wpQuiet_nil ?_
 repeat (refine wpB_pure rfl ?_; go_big_quiet_step ((intro _; rfl)); refine wpQuiet_nil ?_)
 refine wpB_pure rfl ?_
 refine wpQuiet_part 115 (.tmp 37) rfl rfl g 1 rfl 118 (numE k x 0) (enc x) _ (fun w hw => hw.get 0 rfl) (num_part k x 0) Tryz.underlying115 rfl (by first | kernel_rfl | (rw [enc_size]; kernel_rfl)) (fun K1 k1 => ?_)
 go_simp
 refine k1 _ ?_
 clear k1 K1
 refine wpQuiet_nil ?_
 repeat (refine wpB_pure rfl ?_; go_big_quiet_step ((intro _; rfl)); refine wpQuiet_nil ?_)
 refine wpB_pure rfl ?_
 refine wpQuiet_part 115 (.tmp 39) rfl rfl f 1 rfl 118 (numE j y 0) (enc y) _ (fun w hw => hw.get 1 rfl) (num_part j y 0) Tryz.underlying115 rfl (by first | kernel_rfl | (rw [enc_size]; kernel_rfl)) (fun K1 k1 => ?_)
 go_simp
 refine k1 _ ?_
 clear k1 K1
 refine wpQuiet_nil ?_
 refine wpB_call (.agg (enc p)) 93 #[.agg (enc x), .agg (enc y)] rfl (fun w => by go_simp) (fun w hw => CM.o _) (fun K1 k1 => ?_)
 go_simp
 refine k1 _ ?_
 clear k1 K1
 repeat (refine wpB_pure rfl ?_; go_big_quiet_step ((intro _; rfl)); refine wpQuiet_nil ?_)
 refine wpB_pure rfl ?_
 refine wpQuiet_cell 3 (.tmp 42) rfl rfl ⟨g, 7, none⟩ rfl (.int .i64 0) _ (fun w hw => (hw.get 0 rfl).cell 7) Tryz.underlying3 rfl (fun K1 k1 => ?_)
 go_simp
 refine k1 _ ?_
 clear k1 K1
 refine wpQuiet_nil ?_
 repeat (refine wpB_pure rfl ?_; go_big_quiet_step ((intro _; rfl)); refine wpQuiet_nil ?_)
 refine wpB_pure rfl ?_
 refine wpQuiet_cell 3 (.tmp 44) rfl rfl ⟨f, 7, none⟩ rfl (.int .i64 0) _ (fun w hw => (hw.get 1 rfl).cell 7) Tryz.underlying3 rfl (fun K1 k1 => ?_)
 go_simp
 refine k1 _ ?_
 clear k1 K1
 refine wpQuiet_nil ?_
 repeat (refine wpB_pure rfl ?_; go_big_quiet_step ((intro _; rfl)); refine wpQuiet_nil ?_)
 refine wpB_call (.tuple #[.agg (decE (togC (!(k == j)) p) 0), .int .i64 (togE p)]) 213 #[.bool (!(k == j)), .agg (enc p), .int .i64 0, .int .i64 0, .int .i64 mode] rfl (fun w => by go_simp) (fun w hw => CS.o _) (fun K1 k1 => ?_)
 go_simp
 refine k1 _ ?_
 clear k1 K1
 repeat (refine wpB_pure rfl ?_; go_big_quiet_step ((intro _; rfl)); refine wpQuiet_nil ?_)
 refine wpB_nil ?_
 intro gs2 w6 H6
 intro hmade
 simp only [putAll, opAt, List.getElem?_cons_succ, List.getElem?_cons_zero, Option.getD_some, Act.put]
 clear hmade
 refine wpList_put rfl 56 (.tmp 8) (.tmp 50) rfl (W.heap.size + 2) (decE (togC (!(k == j)) p) 0) rfl rfl 56 _ (H6.get 4 rfl) (by kernel_rfl) (by first | rfl | (rw [enc_size]; rfl)) (decE_all _ _) ?_
 intro W7 HB7 hfar7 hbel7 hsz7 hcell7
 have H7 := hbel7 W.heap.size W (by omega) H6.below
 go_wp2_with fail
 rw [onlyNormal_normal]
 go_wp2_with fail
 exact bodyPost_ret (results_row_tmp rfl _ W7 (W.heap.size + 2) 56 _ _ _ rfl HB7 Tryz.underlying56 rfl (by kernel_rfl) rfl) rfl ⟨rfl, H7⟩
end Dec
namespace Acc
open Go.RowKit Go.Deep Wide Dec
open Cal hiding results_one results_two
def amtB (n : Int) : Bool := decide (0 <= n /\ n <= 10000000000000)
theorem amount_ok (n : Int) (W : World) : Calls Tryz.prog 131 #[.int .i64 n] W fun e w' => e = .returned (.bool (amtB n)) /\ w' = W := by
 by_cases h1 : 0 <= n
 . by_cases h2 : n <= 10000000000000
   . rw [show amtB n = true by simp [amtB, h1, h2]]
     go_enter Tryz.func131, Tryz.ntmps131
     go_wp2_with fail
     exact bodyPost_ret (results_one rfl _ _ rfl) rfl ⟨by first | rfl | simp, rfl⟩
   . rw [show amtB n = false by simp [amtB, h2]]
     have h3 : decide (n <= 10000000000000) = false := by simpa using h2
     clear h2
     go_enter Tryz.func131, Tryz.ntmps131
     go_wp2_with fail
     exact bodyPost_ret (results_one rfl _ _ rfl) rfl ⟨by first | rfl | simp, rfl⟩
 . rw [show amtB n = false by simp [amtB, h1]]
   have h3 : decide (0 <= n) = false := by simpa using h1
   clear h1
   go_enter Tryz.func131, Tryz.ntmps131
   go_wp2_with fail
   exact bodyPost_ret (results_one rfl _ _ rfl) rfl ⟨by first | rfl | simp, rfl⟩
theorem within_ok (n m : Int) (h : 0 <= n) (h2 : n <= m) (W : World) : Calls Tryz.prog 164 #[.int .i64 n, .int .i64 m] W fun e w' => e = .returned (.bool true) /\ w' = W := by
 go_enter Tryz.func164, Tryz.ntmps164
 go_wp2_with fail
 exact bodyPost_ret (results_one rfl _ _ rfl) rfl ⟨by first | rfl | simp, rfl⟩
theorem of_ok (n : Int) (hn : -9223372036854775808 <= n /\ n <= 9223372036854775807) (W : World) : Calls Tryz.prog 133 #[.int .i64 n] W fun e w' => e = .returned (.agg (decE n 0)) /\ Below W.heap.size W w' := by
 have CO := Hd (fun W' => dof_ok n 0 hn (by omega) W')
 clear hn
 go_enter Tryz.func133, Tryz.ntmps133
 go_wp2_with fail
 refine (CO.o _).mono ?_
 rintro e w1 ⟨rfl, hb1⟩
 have H1 : Has W [(W.heap.size, 56, #[.int .i64 0, .int .u64 0, .int .i64 0])] w1 := by
  refine Has.step (Has.cons ?_ (Has.nil ?_)) hb1
  . exact Blk.new _ _ _
  . exact Below.al (Below.refl _ _) _
 have HH1 := Hd H1
 clear hb1 H1
 go_wp2_with (first
  | (refine wpList_put rfl 56 (.tmp 3) (.tmp 8) rfl w1.heap.size (decE n 0) rfl rfl 56 _ (Blk.new w1 _ _) (by kernel_rfl) (by first | rfl | (rw [enc_size]; rfl)) (decE_all _ _) ?_
     intro W2 HB2 hfar2 hbel2 hsz2 hcell2
     have H2 := Hd ((HH1.o.new rfl 56 #[.int .i64 0, .int .u64 0, .int .i64 0]).upd 0 rfl HH1.o.size HH1.o.fresh HB2 hfar2 hbel2)
     clear HB2 hfar2 hbel2 hsz2 hcell2)
  | (refine wpList_load_row rfl 56 (.tmp 3) rfl w1.heap.size rfl 56 (decE n 0) (0, 0) _ (H2.o.get 0 rfl) Tryz.underlying56 rfl (by kernel_rfl) ?_)
  | (refine wpList_put rfl 56 (.tmp 2) (.tmp 10) rfl W.heap.size (decE n 0) rfl rfl 56 _ (H2.o.get 1 rfl) (by kernel_rfl) (by first | rfl | (rw [enc_size]; rfl)) (decE_all _ _) ?_
     intro W3 HB3 hfar3 hbel3 hsz3 hcell3))
 exact bodyPost_ret (results_cell_row rfl _ W3 W.heap.size 56 (decE n 0) (0, 0) _ rfl HB3 Tryz.underlying56 rfl (by kernel_rfl)) rfl ⟨rfl, hbel3 _ _ (by omega) H2.o.below⟩
theorem mul_val {a b : Int} (h : a.natAbs * b.natAbs < T) : togC (mulM a b) (mulN a b) = a * b /\ togE (mulN a b) = 0 := by
 have hn : mulN a b < T := h
 unfold togC togE
 rw [if_pos hn, if_pos hn]
 refine ⟨?_, rfl⟩
 unfold coef mulM mulN
 by_cases h1 : a < 0
 . have ea : ((a.natAbs : Nat) : Int) = -a := by omega
   by_cases h2 : b < 0
   . have eb : ((b.natAbs : Nat) : Int) = -b := by omega
     simp only [h1, h2, decide_true, beq_self_eq_true, Bool.not_true, Bool.false_eq_true, if_false, Int.natCast_mul, ea, eb, Int.neg_mul_neg]
   . have eb : ((b.natAbs : Nat) : Int) = b := by omega
     simp only [h1, h2, decide_true, decide_false, Int.natCast_mul, ea, eb]
     simp [Int.neg_mul]
 . have ea : ((a.natAbs : Nat) : Int) = a := by omega
   by_cases h2 : b < 0
   . have eb : ((b.natAbs : Nat) : Int) = -b := by omega
     simp only [h1, h2, decide_true, decide_false, Int.natCast_mul, ea, eb]
     simp [Int.mul_neg]
   . have eb : ((b.natAbs : Nat) : Int) = b := by omega
     simp only [h1, h2, decide_false, beq_self_eq_true, Bool.not_true, Bool.false_eq_true, if_false, Int.natCast_mul, ea, eb]
theorem times_ok (a b : Int) (ha : InT a) (hb : InT b) (ha' : a ≠ -170141183460469231731687303715884105728) (hb' : b ≠ -170141183460469231731687303715884105728) (hf : a.natAbs * b.natAbs < T) (W : World) :
 Calls Tryz.prog 136 #[.agg (decE a 0), .agg (decE b 0)] W fun e w' => e = .returned (.agg (decE (a * b) 0)) /\ Below W.heap.size W w' := by
 have CM := Hd (fun W' => mul0_ok a b 0 (by omega) ha hb ha' hb' W')
 rw [(mul_val hf).1, (mul_val hf).2] at CM
 obtain ⟨p, hp⟩ : ∃ p, p = a * b := ⟨_, rfl⟩
 rw [<- hp] at CM ⊢
 clear hp hf ha hb ha' hb'
 have hinit : ∀ w1, w1 = ((W.alloc (.cells (decE a 0) 56)).alloc (.cells (decE b 0) 56)).alloc (.cells #[.int .i64 0, .int .u64 0, .int .i64 0] 56) ->
  Has W [(W.heap.size, 56, decE a 0), (W.heap.size + 1, 56, decE b 0), (W.heap.size + 2, 56, decE 0 0)] w1 := fun w1 e => by
  subst e
  refine Has.cons ?_ (Has.cons ?_ (Has.cons ?_ (Has.nil ?_)))
  . exact ((Blk.new _ _ _).alloc _).alloc _
  . exact (Blk.new' (by simp)).alloc _
  . exact Blk.new' (by simp)
  . exact Below.al (Below.al (Below.al (Below.refl _ _) _) _) _
 have HI := Hd (hinit _ rfl)
 clear hinit
 go_enter Tryz.func136, Tryz.ntmps136
 go_wp2_with (first
  | (refine wpList_load_row rfl 56 (.tmp 2) rfl W.heap.size rfl 56 (decE a 0) (0, 0) _ (HI.o.get 0 rfl) Tryz.underlying56 rfl (by kernel_rfl) ?_)
  | (refine wpList_load_row rfl 56 (.tmp 3) rfl (W.heap.size + 1) rfl 56 (decE b 0) (0, 0) _ (HI.o.get 1 rfl) Tryz.underlying56 rfl (by kernel_rfl) ?_))
 refine (CM.o _).mono ?_
 rintro e w1 ⟨rfl, hb1⟩
 have HH1 := Hd (HI.o.step hb1)
 clear hb1 HI
 go_wp2_with (first
  | (refine wpList_put rfl 56 (.tmp 5) (.tmp 11) rfl w1.heap.size (decE p 0) rfl rfl 56 _ (Blk.new w1 _ _) (by kernel_rfl) (by first | rfl | (rw [enc_size]; rfl)) (decE_all _ _) ?_
     intro W2 HB2 hfar2 hbel2 hsz2 hcell2
     have H2 := Hd ((HH1.o.new rfl 56 #[.int .i64 0, .int .u64 0, .int .i64 0]).upd 0 rfl HH1.o.size HH1.o.fresh HB2 hfar2 hbel2)
     clear HB2 hfar2 hbel2 hsz2 hcell2)
  | (refine wpList_load_row rfl 56 (.tmp 5) rfl w1.heap.size rfl 56 (decE p 0) (0, 0) _ (H2.o.get 0 rfl) Tryz.underlying56 rfl (by kernel_rfl) ?_)
  | (refine wpList_put rfl 56 (.tmp 4) (.tmp 13) rfl (W.heap.size + 2) (decE p 0) rfl rfl 56 _ (H2.o.get 3 rfl) (by kernel_rfl) (by first | rfl | (rw [enc_size]; rfl)) (decE_all _ _) ?_
     intro W3 HB3 hfar3 hbel3 hsz3 hcell3))
 exact bodyPost_ret (results_cell_row rfl _ W3 (W.heap.size + 2) 56 (decE p 0) (0, 0) _ rfl HB3 Tryz.underlying56 rfl (by kernel_rfl)) rfl ⟨rfl, hbel3 _ _ (by omega) H2.o.below⟩
theorem bcheck_ok (h f t : Int) (hh : 0 <= h /\ h <= 3) (hf : 1 <= f /\ f <= 3652059) (ht : f <= t /\ t <= 3652059) (W : World) : Calls Tryz.prog 180 #[.int .i64 h, .int .i64 f, .int .i64 t] W fun e w' => e = .returned (.int .i64 0) /\ w' = W := by
 obtain ⟨a1, a2⟩ := hh
 obtain ⟨b1, b2⟩ := hf
 obtain ⟨c1, c2⟩ := ht
 have d1 : decide (h < 0) = false := by simpa using a1
 have d2 : decide (3 < h) = false := by simpa using a2
 have d3 : decide (f < 1) = false := by simp; omega
 have d4 : decide (3652059 < f) = false := by simpa using b2
 have d5 : decide (t < 1) = false := by simp; omega
 have d6 : decide (3652059 < t) = false := by simpa using c2
 go_enter Tryz.func180, Tryz.ntmps180
 go_wp2_with fail
 exact bodyPost_ret (results_one rfl _ _ rfl) rfl ⟨rfl, rfl⟩
theorem part365_ok (d : Int) (hd : 1 <= d /\ d < 3652059) (W : World) : Calls Tryz.prog 130 #[.int .i64 1, .int .i64 d, .int .i64 (d + 1)] W fun e w' => e = .returned (.tuple #[.int .i64 1, .int .i64 365, .int .i64 0]) /\ w' = W := by
 have CB := Hd (fun W' => bcheck_ok 1 d (d + 1) (by omega) (by omega) (by omega) W')
 obtain ⟨d1, d2⟩ := hd
 have e1 : d + 1 - d = 1 := by omega
 go_enter Tryz.func130, Tryz.ntmps130
 go_wp2_with fail
 refine (CB.o _).mono ?_
 rintro e w1 ⟨rfl, rfl⟩
 go_wp2_with fail
 exact bodyPost_ret (results_three rfl _ _ rfl rfl rfl) rfl ⟨by first | rfl | simp [e1], rfl⟩
end Acc
namespace Ch
open Go.RowKit Go.Deep Wide Dec Go.Proofs.YtkdnebalpdebeaaGreatDoor.Acc
open Cal hiding results_one results_two
theorem ten_le {k : Nat} (h : k <= 24) : (10 : Int) ^ k <= 1000000000000000000000000 /\ 0 < (10 : Int) ^ k := by
 have h1 : 10 ^ k <= 10 ^ 24 := Nat.pow_le_pow_right (by decide) h
 have h2 : 0 < 10 ^ k := Nat.pow_pos (by decide)
 have h3 : ((10 ^ k : Nat) : Int) = (10 : Int) ^ k := by simp
 have h4 : (10 ^ 24 : Nat) = 1000000000000000000000000 := by decide
 omega
theorem mul10_ok (k : Nat) (h : k < 24) (W : World) :
 Calls Tryz.prog 170 #[.agg (decE (10 ^ k) 0), .agg #[.int .i64 0, .int .u64 10, .int .i64 0], .int .i64 0, .int .i64 0] W fun e w' => e = .returned (.tuple #[.agg (decE (10 ^ (k + 1)) 0), .int .i64 0]) /\ Below W.heap.size W w' := by
 obtain ⟨h1, h2⟩ := ten_le (k := k) (by omega)
 have := mul0_ok (10 ^ k) 10 0 (by omega) (by unfold InT; omega) (by unfold InT; omega) (by omega) (by omega) W
 have hf : ((10 : Int) ^ k).natAbs * (10 : Int).natAbs < T := by
  rw [show (10 : Int).natAbs = 10 from rfl]; unfold T; omega
 rw [(mul_val hf).1, (mul_val hf).2, <- Int.pow_succ] at this
 exact this
theorem power_ok (n : Nat) (hn : n <= 24) (W : World) : Calls Tryz.prog 211 #[.int .i64 (n : Int)] W fun e w' => e = .returned (.agg (decE (10 ^ n) 0)) /\ Below W.heap.size W w' := by
 go_enter Tryz.func211, Tryz.ntmps211
 go_wp2_with fail
 go_loopw [6] (fun i wr => ∃ k : Nat, k <= n /\ i = .int .i64 k /\ Hi (Has W [(W.heap.size + 1, 56, decE (10 ^ k) 0), (W.heap.size, 56, decE 0 0)] wr)) (fun i _ => n - (intOf i).toNat)
 case atStart =>
  refine ⟨0, by omega, rfl, Hd (Has.cons ?_ (Has.cons ?_ (Has.nil ?_)))⟩
  . exact Blk.new' (by simp)
  . exact (Blk.new _ _ _).alloc _
  . exact Below.al (Below.al (Below.refl _ _) _) _
 case round =>
  obtain ⟨k, hk, rfl, HH⟩ := hrel
  by_cases hlt : k < n
  . have CM := Hd (fun W' => mul10_ok k (by omega) W')
    go_wp2_with (refine wpList_load_row rfl 56 (.tmp 3) rfl (W.heap.size + 1) rfl 56 (decE (10 ^ k) 0) (0, 0) _ (HH.o.get 0 rfl) Tryz.underlying56 rfl (by kernel_rfl) ?_)
    refine (CM.o _).mono ?_
    rintro e w1 ⟨rfl, hb1⟩
    have H1 := Hd (HH.o.step hb1)
    clear hb1 HH
    go_wp2_with (refine wpList_put rfl 56 (.tmp 3) (.tmp 12) rfl (W.heap.size + 1) (decE (10 ^ (k + 1)) 0) rfl rfl 56 _ (H1.o.get 0 rfl) (by kernel_rfl) (by first | rfl | (rw [enc_size]; rfl)) (decE_all _ _) ?_
                 intro W2 HB2 hfar2 hbel2 hsz2 hcell2
                 have H2 := Hd (H1.o.upd 0 rfl (by omega) (by simp) HB2 hfar2 hbel2)
                 clear HB2 hfar2 hbel2 hsz2 hcell2)
    go_roundw
    case rel => exact ⟨k + 1, by omega, by go_num, H2⟩
    case measure => simp [intOf]; omega
  . obtain rfl : n = k := by omega
    go_wp2_with (first
     | (refine wpList_load_row rfl 56 (.tmp 3) rfl (W.heap.size + 1) rfl 56 (decE (10 ^ n) 0) (0, 0) _ (HH.o.get 0 rfl) Tryz.underlying56 rfl (by kernel_rfl) ?_)
     | (refine wpList_put rfl 56 (.tmp 2) (.tmp 15) rfl W.heap.size (decE (10 ^ n) 0) rfl rfl 56 _ (HH.o.get 1 rfl) (by kernel_rfl) (by first | rfl | (rw [enc_size]; rfl)) (decE_all _ _) ?_
        intro W2 HB2 hfar2 hbel2 hsz2 hcell2))
    exact bodyPost_ret (results_cell_row rfl _ W2 W.heap.size 56 (decE (10 ^ n) 0) (0, 0) _ rfl HB2 Tryz.underlying56 rfl (by kernel_rfl)) rfl ⟨rfl, hbel2 _ _ (by omega) HH.o.below⟩
def winB (c s : Int) (n : Nat) : Bool := decide (cmpD c s (10 ^ n) 0 <= 0) && decide (cmpD (-(10 ^ n)) 0 c s <= 0)
theorem decE_lit (c s : Int) : decE c s = #[.int .i64 (c / 18446744073709551616), .int .u64 (c % 18446744073709551616), .int .i64 s] := rfl
theorem within_ok (c s : Int) (n : Nat) (hn : n <= 24) (hc : InT c) (hs : chk c s = 0) (W : World) :
 Calls Tryz.prog 167 #[.agg (decE c s), .int .i64 (n : Int)] W fun e w' => e = .returned (.bool (winB c s n)) /\ Below W.heap.size W w' := by
 obtain ⟨h1, h2⟩ := ten_le hn
 have CP := Hd (fun W' => power_ok n hn W')
 have CN := Hd (fun W' => neg_ok (10 ^ n) 0 (by unfold InT; omega) (chk0 (by omega)) W')
 have C1 := Hd (fun W' => dcmp_ok c s (10 ^ n) 0 hc (by unfold InT; omega) hs (chk0 (by omega)) W')
 have C2 := Hd (fun W' => dcmp_ok (-(10 ^ n)) 0 c s (by unfold InT; omega) hc (chk0 (by omega)) hs W')
 unfold winB
 obtain ⟨x, hx⟩ : ∃ x, x = cmpD c s (10 ^ n) 0 := ⟨_, rfl⟩
 obtain ⟨y, hy⟩ : ∃ y, y = cmpD (-(10 ^ n)) 0 c s := ⟨_, rfl⟩
 rw [<- hx] at C1 ⊢
 rw [<- hy] at C2 ⊢
 obtain ⟨p, hp⟩ : ∃ p : Int, p = 10 ^ n := ⟨_, rfl⟩
 rw [<- hp] at CP CN C1 C2
 clear hx hy hp h1 h2 hs hc
 obtain ⟨r, hr⟩ : ∃ r, r = (decide (x <= 0) && decide (y <= 0)) := ⟨_, rfl⟩
 rw [<- hr]
 by_cases hx0 : x <= 0
 . have hr2 : decide (y <= 0) = r := by rw [hr]; simp [hx0]
   have HR := Hd hr2
   clear hr hr2
   have HI : Hi (Has W [(W.heap.size, 56, decE c s)] (W.alloc (.cells (decE c s) 56))) := Hd (Has.cons (Blk.new _ _ _) (Has.nil (Below.al (Below.refl _ _) _)))
   go_enter Tryz.func167, Tryz.ntmps167
   go_wp2_with fail
   refine (CP.o _).mono ?_
   rintro e w1 ⟨rfl, hb1⟩
   have H1 := Hd (HI.o.step hb1)
   clear hb1 HI
   go_wp2_with (first
    | (refine wpList_put rfl 56 (.tmp 5) (.tmp 13) rfl w1.heap.size (decE p 0) rfl rfl 56 _ (Blk.new w1 _ _) (by kernel_rfl) (by first | rfl | (rw [enc_size]; rfl)) (decE_all _ _) ?_
       intro W2 HB2 hfar2 hbel2 hsz2 hcell2
       have H2 := Hd ((H1.o.new rfl 56 #[.int .i64 0, .int .u64 0, .int .i64 0]).upd 0 rfl H1.o.size H1.o.fresh HB2 hfar2 hbel2)
       clear HB2 hfar2 hbel2 hsz2 hcell2)
    | (refine wpList_load_row rfl 56 (.tmp 5) rfl w1.heap.size rfl 56 (decE p 0) (0, 0) _ (H2.o.get 0 rfl) Tryz.underlying56 rfl (by kernel_rfl) ?_))
   obtain ⟨g, hg⟩ : ∃ g, g = w1.heap.size := ⟨_, rfl⟩
   rw [<- hg] at H2 ⊢
   clear hg H1
   refine (CN.o _).mono ?_
   rintro e w3 ⟨rfl, hb3⟩
   have H3 := Hd (H2.o.step hb3)
   clear hb3 H2
   go_wp2_with (first
    | (refine wpList_put rfl 56 (.tmp 6) (.tmp 17) rfl w3.heap.size (decE (-p) 0) rfl rfl 56 _ (Blk.new w3 _ _) (by kernel_rfl) (by first | rfl | (rw [enc_size]; rfl)) (decE_all _ _) ?_
       intro W4 HB4 hfar4 hbel4 hsz4 hcell4
       have H4 := Hd ((H3.o.new rfl 56 #[.int .i64 0, .int .u64 0, .int .i64 0]).upd 0 rfl H3.o.size H3.o.fresh HB4 hfar4 hbel4)
       clear HB4 hfar4 hbel4 hsz4 hcell4)
    | (refine wpList_load_row rfl 56 (.tmp 2) rfl W.heap.size rfl 56 (decE c s) (0, 0) _ (H4.o.get 2 rfl) Tryz.underlying56 rfl (by kernel_rfl) ?_)
    | (refine wpList_load_row rfl 56 (.tmp 5) rfl g rfl 56 (decE p 0) (0, 0) _ (H4.o.get 1 rfl) Tryz.underlying56 rfl (by kernel_rfl) ?_))
   obtain ⟨f, hf⟩ : ∃ f, f = w3.heap.size := ⟨_, rfl⟩
   rw [<- hf] at H4 ⊢
   clear hf H3
   refine (C1.o _).mono ?_
   rintro e w5 ⟨rfl, hb5⟩
   have H5 := Hd (H4.o.step hb5)
   clear hb5 H4
   go_wp2_with (first
    | (refine wpList_load_row rfl 56 (.tmp 6) rfl f rfl 56 (decE (-p) 0) (0, 0) _ (H5.o.get 0 rfl) Tryz.underlying56 rfl (by kernel_rfl) ?_)
    | (refine wpList_load_row rfl 56 (.tmp 2) rfl W.heap.size rfl 56 (decE c s) (0, 0) _ (H5.o.get 2 rfl) Tryz.underlying56 rfl (by kernel_rfl) ?_))
   refine (C2.o _).mono ?_
   rintro e w6 ⟨rfl, hb6⟩
   have H6 := (H5.o.step hb6).below
   clear hb6 H5
   go_wp2_with fail
   exact bodyPost_ret (results_one rfl _ _ rfl) rfl ⟨by rw [<- HR.o]; rfl, H6⟩
 . have hr2 : r = false := by rw [hr]; simp [hx0]
   have hd : decide (x <= 0) = false := by simpa using hx0
   subst hr2
   clear hr hx0
   have HI : Hi (Has W [(W.heap.size, 56, decE c s)] (W.alloc (.cells (decE c s) 56))) := Hd (Has.cons (Blk.new _ _ _) (Has.nil (Below.al (Below.refl _ _) _)))
   go_enter Tryz.func167, Tryz.ntmps167
   go_wp2_with fail
   refine (CP.o _).mono ?_
   rintro e w1 ⟨rfl, hb1⟩
   have H1 := Hd (HI.o.step hb1)
   clear hb1 HI
   go_wp2_with (first
    | (refine wpList_put rfl 56 (.tmp 5) (.tmp 13) rfl w1.heap.size (decE p 0) rfl rfl 56 _ (Blk.new w1 _ _) (by kernel_rfl) (by first | rfl | (rw [enc_size]; rfl)) (decE_all _ _) ?_
       intro W2 HB2 hfar2 hbel2 hsz2 hcell2
       have H2 := Hd ((H1.o.new rfl 56 #[.int .i64 0, .int .u64 0, .int .i64 0]).upd 0 rfl H1.o.size H1.o.fresh HB2 hfar2 hbel2)
       clear HB2 hfar2 hbel2 hsz2 hcell2)
    | (refine wpList_load_row rfl 56 (.tmp 5) rfl w1.heap.size rfl 56 (decE p 0) (0, 0) _ (H2.o.get 0 rfl) Tryz.underlying56 rfl (by kernel_rfl) ?_))
   obtain ⟨g, hg⟩ : ∃ g, g = w1.heap.size := ⟨_, rfl⟩
   rw [<- hg] at H2 ⊢
   clear hg H1
   refine (CN.o _).mono ?_
   rintro e w3 ⟨rfl, hb3⟩
   have H3 := Hd (H2.o.step hb3)
   clear hb3 H2
   go_wp2_with (first
    | (refine wpList_put rfl 56 (.tmp 6) (.tmp 17) rfl w3.heap.size (decE (-p) 0) rfl rfl 56 _ (Blk.new w3 _ _) (by kernel_rfl) (by first | rfl | (rw [enc_size]; rfl)) (decE_all _ _) ?_
       intro W4 HB4 hfar4 hbel4 hsz4 hcell4
       have H4 := Hd ((H3.o.new rfl 56 #[.int .i64 0, .int .u64 0, .int .i64 0]).upd 0 rfl H3.o.size H3.o.fresh HB4 hfar4 hbel4)
       clear HB4 hfar4 hbel4 hsz4 hcell4)
    | (refine wpList_load_row rfl 56 (.tmp 2) rfl W.heap.size rfl 56 (decE c s) (0, 0) _ (H4.o.get 2 rfl) Tryz.underlying56 rfl (by kernel_rfl) ?_)
    | (refine wpList_load_row rfl 56 (.tmp 5) rfl g rfl 56 (decE p 0) (0, 0) _ (H4.o.get 1 rfl) Tryz.underlying56 rfl (by kernel_rfl) ?_))
   obtain ⟨f, hf⟩ : ∃ f, f = w3.heap.size := ⟨_, rfl⟩
   rw [<- hf] at H4 ⊢
   clear hf H3
   refine (C1.o _).mono ?_
   rintro e w5 ⟨rfl, hb5⟩
   have H5 := Hd (H4.o.step hb5)
   clear hb5 H4
   go_wp2_with (first
    | (refine wpList_load_row rfl 56 (.tmp 6) rfl f rfl 56 (decE (-p) 0) (0, 0) _ (H5.o.get 0 rfl) Tryz.underlying56 rfl (by kernel_rfl) ?_)
    | (refine wpList_load_row rfl 56 (.tmp 2) rfl W.heap.size rfl 56 (decE c s) (0, 0) _ (H5.o.get 2 rfl) Tryz.underlying56 rfl (by kernel_rfl) ?_))
   refine (C2.o _).mono ?_
   rintro e w6 ⟨rfl, hb6⟩
   have H6 := (H5.o.step hb6).below
   clear hb6 H5
   go_wp2_with fail
   exact bodyPost_ret (results_one rfl _ _ rfl) rfl ⟨rfl, H6⟩
theorem nought_ok (W : World) : Calls Tryz.prog 88 #[] W fun e w' => e = .returned (.agg (decE 0 12)) /\ Below W.heap.size W w' := by
 go_enter Tryz.func88, Tryz.ntmps88
 go_wp2_with fail
 exact bodyPost_ret (results_cell_row rfl _ _ W.heap.size 56 (decE 0 12) (0, 0) _ rfl (Blk.new _ _ _) Tryz.underlying56 rfl (by kernel_rfl)) rfl ⟨rfl, Below.al (Below.refl _ _) _⟩
theorem is_ok (k : Int) (h : 1 <= k /\ k <= 8) (W : World) : Calls Tryz.prog 209 #[.int .i64 k, .int .i64 0] W fun e w' => e = .returned (.bool true) /\ w' = W := by
 obtain ⟨h1, h2⟩ := h
 go_enter Tryz.func209, Tryz.ntmps209
 go_wp2_with fail
 refine (digits0_ok _).mono ?_
 rintro e w1 ⟨rfl, rfl⟩
 go_wp2_with fail
 exact bodyPost_ret (results_one rfl _ _ rfl) rfl ⟨by first | rfl | simp, rfl⟩
end Ch
end Go.Proofs.YtkdnebalpdebeaaGreatDoor
