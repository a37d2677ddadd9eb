/- Lemmas of a claim: DecE, DecF, DecG -/
import Derived.Test.YtkdnebalpdebeaaGreatDoorG07
set_option linter.unusedVariables false
set_option linter.unusedSimpArgs false
set_option maxHeartbeats 16000000
set_option maxRecDepth 100000
namespace Go.Proofs.YtkdnebalpdebeaaGreatDoor
namespace Dec
open Go.RowKit Go.Deep Wide
def upN (a s c : Int) : Nat := a.natAbs * 10 ^ (c - s).toNat
theorem ten18 : 10 ^ 18 * (2 * T) < P 6 := by decide +kernel
theorem upN_lt {a s c : Int} (ha : InT a) (h0 : 0 <= s) (h1 : c <= 18) : upN a s c <= 10 ^ 18 * T := by
 unfold upN
 rw [Nat.mul_comm]
 refine Nat.mul_le_mul (Nat.pow_le_pow_right (by decide) (by omega)) ?_
 unfold InT at ha; unfold T; omega
theorem upN6 {a s c : Int} (ha : InT a) (h0 : 0 <= s) (h1 : c <= 18) : upN a s c < P 6 := by
 have := upN_lt ha h0 h1; have := ten18; omega
theorem abs6 {a : Int} (ha : InT a) : a.natAbs < P 6 := by
 have h : a.natAbs <= T := by unfold InT at ha; unfold T; omega
 have := ten18; have : T <= 10 ^ 18 * (2 * T) := by decide +kernel
 omega
theorem plusN_le (m : Bool) (a : Nat) (k : Bool) (b : Nat) : plusN m a k b <= a + b := by unfold plusN; split; omega; split <;> omega
theorem plus6 {a s b u c : Int} (ha : InT a) (hb : InT b) (h0 : 0 <= s) (h1 : 0 <= u) (h2 : c <= 18) (m k : Bool) : plusN m (upN a s c) k (upN b u c) < P 6 := by
 have := plusN_le m (upN a s c) k (upN b u c)
 have := upN_lt ha h0 h2; have := upN_lt hb h1 h2; have := ten18
 omega
theorem chk_zero {c s : Int} (h : chk c s = 0) : 0 <= s /\ s <= 18 := by
 unfold chk at h; split at h
 . cases h
 . omega
def addM (a s b u : Int) : Bool := plusM (decide (a < 0)) (upN a s (max s u)) (decide (b < 0)) (upN b u (max s u))
def addN (a s b u : Int) : Nat := plusN (decide (a < 0)) (upN a s (max s u)) (decide (b < 0)) (upN b u (max s u))
theorem decE_all (c s : Int) : (decE c s).all (·.oneCell') = true := by rw [decE, Array.all_eq_true']; simp [Value.oneCell']
theorem add_ok (a s b u : Int) (ha : InT a) (hb : InT b) (hs : chk a s = 0) (hu : chk b u = 0) (W : World) :
 Calls Tryz.prog 135 #[.agg (decE a s), .agg (decE b u)] W fun e w' => e = .returned (.tuple #[.agg (decE (togC (addM a s b u) (addN a s b u)) (togS (addN a s b u) (max s u))), .int .i64 (togE (addN a s b u))]) /\ Below W.heap.size W w' := by
 obtain ⟨s0, s1⟩ := chk_zero hs
 obtain ⟨u0, u1⟩ := chk_zero hu
 have CB := Hd (fun W' => both_ok a s b u ha hb hs W')
 rw [hu] at CB
 have CA := Hd (fun W' => apart_ok a s ha W')
 have CC := Hd (fun W' => apart_ok b u hb W')
 have hc18 : max s u <= 18 := by omega
 have hcs : s <= max s u := by omega
 have hcu : u <= max s u := by omega
 have T1 := Hd (fun W' => to_ok (decide (a < 0)) a.natAbs s (max s u) (abs6 ha) s0 hcs (by omega) W')
 have T2 := Hd (fun W' => to_ok (decide (b < 0)) b.natAbs u (max s u) (abs6 hb) u0 hcu (by omega) W')
 have PL := Hd (fun W' => plus_ok (decide (a < 0)) (upN a s (max s u)) (decide (b < 0)) (upN b u (max s u)) (max s u) (max s u) (upN6 ha s0 hc18) (upN6 hb u0 hc18) W')
 have TG := Hd (fun W' => tog_all (addM a s b u) (addN a s b u) (max s u) (plus6 ha hb s0 u0 hc18 _ _) W')
 obtain ⟨c, hc⟩ : ∃ c, c = max s u := ⟨_, rfl⟩
 obtain ⟨m, hm⟩ : ∃ m, m = addM a s b u := ⟨_, rfl⟩
 obtain ⟨n, hn⟩ : ∃ n, n = addN a s b u := ⟨_, rfl⟩
 have PL' : Hi (∀ W', Calls Tryz.prog 186 #[.agg (numE (decide (a < 0)) (upN a s c) c), .agg (numE (decide (b < 0)) (upN b u c) c)] W' fun e w' => e = .returned (.agg (numE m n c)) /\ Below W'.heap.size W' w') := by
  rw [hm, hn, hc]; exact PL
 rw [<- hm, <- hn, <- hc] at TG ⊢
 rw [<- hc] at T1 T2
 clear PL hm hn hs hu hc18
 have hinit : ∀ w1, w1 = ((W.alloc (.cells (decE a s) 56)).alloc (.cells (decE b u) 56)).alloc (.cells #[.int .i64 0, .int .u64 0, .int .i64 0] 56) ->
  Has W [(W.heap.size, 56, decE a s), (W.heap.size + 1, 56, decE b u), (W.heap.size + 2, 56, decE 0 0)] w1 := fun w1 e => by
  subst e
  refine Has.cons ?_ (Has.cons ?_ (Has.cons ?_ (Has.nil ?_)))
  . exact ((Blk.new _ _ _).alloc _).alloc _
  . exact (Blk.new' (by simp)).alloc _
  . exact Blk.new' (by simp)
  . exact Below.al (Below.al (Below.al (Below.refl _ _) _) _) _
 rw [decE, decE]
 have HC := Hd hc
 clear hc
 go_enter Tryz.func135, Tryz.ntmps135
 go_wp2_with fail
 refine (CB.o _).mono ?_
 rintro e w1 ⟨rfl, hb1⟩
 have H1 := Hd ((hinit _ rfl).step hb1)
 clear hb1 hinit
 have ca2 : w1.cell? ⟨W.heap.size, 2, none⟩ = some (.int .i64 s) := (H1.o.get 0 rfl).cell 2
 have cb2 : w1.cell? ⟨W.heap.size + 1, 2, none⟩ = some (.int .i64 u) := (H1.o.get 1 rfl).cell 2
 have hmx : max s u = c := HC.o.symm
 go_wp2_with fail
 clear hmx ca2 cb2
 refine wp_region_reg (fun w' => Has W [(W.heap.size, 56, decE a s), (W.heap.size + 1, 56, decE b u), (W.heap.size + 2, 56, decE 0 0)] w') (fun _ => (0, #[])) [0, 1, 2, 3, 4, 5, 6, 7, 8, 9, 10, 11] [] [12, 13] (by kernel_rfl) (by kernel_rfl) (fun w w' h hb => h.step hb) ?_ (fun k hk => by cases hk) ?_
 . exact H1.o.drew
 clear H1
 simp only [List.map_cons, List.map_nil, opAt, List.getElem?_cons_succ, List.getElem?_cons_zero, Option.getD_some]
 repeat (refine wpB_pure rfl ?_; go_big_quiet_step ((intro _; rfl)); refine wpQuiet_nil ?_)
 refine wpB_pure rfl ?_
 refine wpQuiet_row 56 (.tmp 2) rfl rfl W.heap.size rfl 56 (decE a s) _ (fun w hw => hw.get 0 rfl) Tryz.underlying56 rfl (by kernel_rfl) (fun K1 k1 => ?_)
 go_simp
 refine k1 _ ?_
 clear k1 K1
 refine wpQuiet_nil ?_
 refine wpB_call (.agg (numE (decide (a < 0)) a.natAbs s)) 43 #[.agg (decE a s)] rfl (fun w => by go_simp) (fun w hw => CA.o _) (fun K1 k1 => ?_)
 go_simp
 refine k1 _ ?_
 clear k1 K1
 repeat (refine wpB_pure rfl ?_; go_big_quiet_step ((intro _; rfl)); refine wpQuiet_nil ?_)
 refine wpB_call (.agg (numE (decide (a < 0)) (upN a s c) c)) 185 #[.agg (numE (decide (a < 0)) a.natAbs s), .int .i64 c] rfl (fun w => by go_simp) (fun w hw => T1.o _) (fun K1 k1 => ?_)
 go_simp
 refine k1 _ ?_
 clear k1 K1
 repeat (refine wpB_pure rfl ?_; go_big_quiet_step ((intro _; rfl)); refine wpQuiet_nil ?_)
 refine wpB_pure rfl ?_
 refine wpQuiet_row 56 (.tmp 3) rfl rfl (W.heap.size + 1) rfl 56 (decE b u) _ (fun w hw => hw.get 1 rfl) Tryz.underlying56 rfl (by kernel_rfl) (fun K1 k1 => ?_)
 go_simp
 refine k1 _ ?_
 clear k1 K1
 refine wpQuiet_nil ?_
 refine wpB_call (.agg (numE (decide (b < 0)) b.natAbs u)) 43 #[.agg (decE b u)] rfl (fun w => by go_simp) (fun w hw => CC.o _) (fun K1 k1 => ?_)
 go_simp
 refine k1 _ ?_
 clear k1 K1
 repeat (refine wpB_pure rfl ?_; go_big_quiet_step ((intro _; rfl)); refine wpQuiet_nil ?_)
 refine wpB_call (.agg (numE (decide (b < 0)) (upN b u c) c)) 185 #[.agg (numE (decide (b < 0)) b.natAbs u), .int .i64 c] rfl (fun w => by go_simp) (fun w hw => T2.o _) (fun K1 k1 => ?_)
 go_simp
 refine k1 _ ?_
 clear k1 K1
 repeat (refine wpB_pure rfl ?_; go_big_quiet_step ((intro _; rfl)); refine wpQuiet_nil ?_)
 refine wpB_call (.agg (numE m n c)) 186 #[.agg (numE (decide (a < 0)) (upN a s c) c), .agg (numE (decide (b < 0)) (upN b u c) c)] rfl (fun w => by go_simp) (fun w hw => PL'.o _) (fun K1 k1 => ?_)
 go_simp
 refine k1 _ ?_
 clear k1 K1
 refine wpB_call (.tuple #[.agg (decE (togC m n) (togS n c)), .int .i64 (togE n)]) 47 #[.agg (numE m n c)] rfl (fun w => by go_simp) (fun w hw => TG.o _) (fun K1 k1 => ?_)
 go_simp
 refine k1 _ ?_
 clear k1 K1
 repeat (refine wpB_pure rfl ?_; go_big_quiet_step ((intro _; rfl)); refine wpQuiet_nil ?_)
 refine wpB_nil ?_
 intro gs w2 H2
 intro hmade
 simp only [putAll, opAt, List.getElem?_cons_succ, List.getElem?_cons_zero, Option.getD_some, Act.put]
 clear hmade
 refine wpList_put rfl 56 (.tmp 4) (.tmp 30) rfl (W.heap.size + 2) (decE (togC m n) (togS n c)) rfl rfl 56 _ (H2.get 2 rfl) (by kernel_rfl) (by first | rfl | (rw [enc_size]; rfl)) (decE_all _ _) ?_
 intro W4 HB4 hfar4 hbel4 hsz4 hcell4
 have H4 := hbel4 W.heap.size W (by omega) H2.below
 go_wp2_with fail
 rw [onlyNormal_normal]
 go_wp2_with fail
 exact bodyPost_ret (results_row_tmp rfl _ W4 (W.heap.size + 2) 56 _ _ _ rfl HB4 Tryz.underlying56 rfl (by kernel_rfl) rfl) rfl ⟨rfl, H4⟩
end Dec
namespace Dec
open Go.RowKit Go.Deep Wide
theorem coef_not {a : Int} : coef (!decide (a < 0)) a.natAbs = -a := by
 unfold coef; by_cases h : a < 0
 . simp [h]; omega
 . simp [h]; omega
theorem neg_ok (a s : Int) (ha : InT a) (hs : chk a s = 0) (W : World) :
 Calls Tryz.prog 212 #[.agg (decE a s)] W fun e w' => e = .returned (.tuple #[.agg (decE (-a) s), .int .i64 0]) /\ Below W.heap.size W w' := by
 have hT : a.natAbs < T := by
  unfold chk at hs; split at hs
  . cases hs
  . unfold InT at ha; unfold T; omega
 have CK := Hd (fun W' => check_ok a s ha W')
 rw [hs] at CK
 have CA := Hd (fun W' => apart_ok a s ha W')
 have TG := Hd (fun W' => tog_ok (!decide (a < 0)) a.natAbs s hT W')
 rw [coef_not] at TG
 obtain ⟨m, hm⟩ : ∃ m, m = decide (a < 0) := ⟨_, rfl⟩
 obtain ⟨n, hn⟩ : ∃ n, n = a.natAbs := ⟨_, rfl⟩
 rw [<- hm, <- hn] at CA TG
 clear hm hn hs hT
 have hinit : ∀ w1, w1 = (W.alloc (.cells (decE a s) 56)).alloc (.cells #[.int .i64 0, .int .u64 0, .int .i64 0] 56) ->
  Has W [(W.heap.size, 56, decE a s), (W.heap.size + 1, 56, decE 0 0)] w1 := fun w1 e => by
  subst e
  refine Has.cons ?_ (Has.cons ?_ (Has.nil ?_))
  . exact (Blk.new _ _ _).alloc _
  . exact Blk.new' (by simp)
  . exact Below.al (Below.al (Below.refl _ _) _) _
 rw [decE]
 go_enter Tryz.func212, Tryz.ntmps212
 go_wp2_with fail
 refine (CK.o _).mono ?_
 rintro e w1 ⟨rfl, hb1⟩
 have H1 := Hd ((hinit _ rfl).step hb1)
 clear hb1 hinit
 go_wp2_with (refine wpList_load_row rfl 56 (.tmp 1) rfl W.heap.size rfl 56 (decE a s) (0, 0) _ (H1.o.get 0 rfl) Tryz.underlying56 rfl (by kernel_rfl) ?_)
 refine (CA.o _).mono ?_
 rintro e w2 ⟨rfl, hb2⟩
 have H2 := Hd (H1.o.step hb2)
 clear hb2 H1
 go_wp2_with (first
  | (refine wpList_put rfl 118 (.tmp 5) (.tmp 13) rfl w2.heap.size (numE m n s) rfl rfl 118 _ (Blk.new w2 _ _) (by first | kernel_rfl | (rw [enc_size]; kernel_rfl)) (by first | rfl | (rw [enc_size]; rfl)) (numE_all _ _ _) ?_
     intro W4 HB4 hfar4 hbel4 hsz4 hcell4
     have H3 := (H2.o.new rfl 118 #[.bool false, .int .u64 0, .int .u64 0, .int .u64 0, .int .u64 0, .int .u64 0, .int .u64 0, .int .i64 0]).upd 0 rfl H2.o.size H2.o.fresh HB4 hfar4 hbel4
     have c0 : W4.cell? ⟨w2.heap.size, 0, none⟩ = some (.bool m) := (H3.get 0 rfl).cell 0
     have f0 := (H3.get 0 rfl).frozen 0
     have H4 := Hd (H3.setAt 0 rfl H2.o.size H2.o.fresh 0 (.bool (!m)))
     clear H3 HB4 hfar4 hbel4 hsz4 hcell4)
  | (refine wpList_load_row rfl 118 (.tmp 5) rfl w2.heap.size rfl 118 (numE (!m) n s) (0, 0) _ (H4.o.get 0 rfl) Tryz.underlying118 rfl (by first | kernel_rfl | (rw [enc_size]; kernel_rfl)) ?_))
 refine (TG.o _).mono ?_
 rintro e w3 ⟨rfl, hb3⟩
 have H5 := Hd ((H4.o.step hb3).of_mem (gs := [(W.heap.size + 1, 56, decE 0 0)]) (by simp))
 clear hb3 H4 H2
 go_wp2_with (first
  | (refine wpList_put rfl 56 (.tmp 2) (.tmp 20) rfl (W.heap.size + 1) (decE (-a) s) rfl rfl 56 _ (H5.o.get 0 rfl) (by kernel_rfl) (by first | rfl | (rw [enc_size]; rfl)) (decE_all _ _) ?_
     intro W6 HB6 hfar6 hbel6 hsz6 hcell6))
 have H6 := hbel6 W.heap.size W (by omega) H5.o.below
 exact bodyPost_ret (results_row_tmp rfl _ W6 (W.heap.size + 1) 56 _ _ _ rfl HB6 Tryz.underlying56 rfl (by kernel_rfl) rfl) rfl ⟨rfl, H6⟩
theorem results_two {fn : Func} {u v : Tmp} (h : fn.results = #[.tmp u, .tmp v]) (tmps : Array Value) (w : World) {x y : Value} (hx : tmps.getD u undef = x) (hy : tmps.getD v undef = y) : (results fn tmps).run Tryz.prog w = .ok (.tuple #[x, y]) w := by
 subst hx hy
 simp [results, h, go_sem, Result.andThen]
def cmpD (a s b u : Int) : Int :=
 if plusN (decide (a < 0)) (upN a s (max s u)) (!decide (b < 0)) (upN b u (max s u)) = 0 then 0 else if plusM (decide (a < 0)) (upN a s (max s u)) (!decide (b < 0)) (upN b u (max s u)) then -1 else 1
theorem len_zero {n : Nat} : Go.bitLen n = 0 ↔ n = 0 := by
 constructor
 . intro h
   rcases Nat.eq_zero_or_pos n with h0 | h0
   . exact h0
   . have := bitLen_pos h0; omega
 . rintro rfl; rfl
theorem dcmp_ok (a s b u : Int) (ha : InT a) (hb : InT b) (hs : chk a s = 0) (hu : chk b u = 0) (W : World) :
 Calls Tryz.prog 138 #[.agg (decE a s), .agg (decE b u)] W fun e w' => e = .returned (.tuple #[.int .i64 (cmpD a s b u), .int .i64 0]) /\ Below W.heap.size W w' := by
 obtain ⟨s0, s1⟩ := chk_zero hs
 obtain ⟨u0, u1⟩ := chk_zero hu
 have CB := Hd (fun W' => both_ok a s b u ha hb hs W')
 rw [hu] at CB
 have CA := Hd (fun W' => apart_ok a s ha W')
 have CC := Hd (fun W' => apart_ok b u hb W')
 have hc18 : max s u <= 18 := by omega
 have hcs : s <= max s u := by omega
 have hcu : u <= max s u := by omega
 have T1 := Hd (fun W' => to_ok (decide (a < 0)) a.natAbs s (max s u) (abs6 ha) s0 hcs (by omega) W')
 have T2 := Hd (fun W' => to_ok (decide (b < 0)) b.natAbs u (max s u) (abs6 hb) u0 hcu (by omega) W')
 have PL := Hd (fun W' => plus_ok (decide (a < 0)) (upN a s (max s u)) (!decide (b < 0)) (upN b u (max s u)) (max s u) (max s u) (upN6 ha s0 hc18) (upN6 hb u0 hc18) W')
 have h6 := plus6 ha hb s0 u0 hc18 (decide (a < 0)) (!decide (b < 0))
 unfold cmpD
 obtain ⟨c, hc⟩ : ∃ c, c = max s u := ⟨_, rfl⟩
 rw [<- hc] at T1 T2 PL h6 ⊢
 obtain ⟨kb, hkb⟩ : ∃ kb, kb = decide (b < 0) := ⟨_, rfl⟩
 rw [<- hkb] at T2 CC PL h6 ⊢
 obtain ⟨m, hm⟩ : ∃ m, m = plusM (decide (a < 0)) (upN a s c) (!kb) (upN b u c) := ⟨_, rfl⟩
 obtain ⟨n, hn⟩ : ∃ n, n = plusN (decide (a < 0)) (upN a s c) (!kb) (upN b u c) := ⟨_, rfl⟩
 rw [<- hm, <- hn] at PL ⊢
 rw [<- hn] at h6
 have CL := Hd (fun W' => lenL_ok n h6 W')
 obtain ⟨L, hLe⟩ : ∃ L, L = Go.bitLen n := ⟨_, rfl⟩
 rw [<- hLe] at CL
 have hL0 : (L = 0) ↔ (n = 0) := by rw [hLe]; exact len_zero
 obtain ⟨r, hr⟩ : ∃ r : Int, r = if n = 0 then 0 else if m = true then -1 else 1 := ⟨_, rfl⟩
 rw [<- hr]
 have HR : Hi (r = if L = 0 then 0 else if m = true then -1 else 1) := Hd (by rw [hr]; simp only [hL0])
 clear hm hn hs hu hc18 hLe hr h6 hkb hL0
 have hinit : ∀ w1, w1 = (W.alloc (.cells (decE a s) 56)).alloc (.cells (decE b u) 56) ->
  Has W [(W.heap.size, 56, decE a s), (W.heap.size + 1, 56, decE b u)] w1 := fun w1 e => by
  subst e
  refine Has.cons ?_ (Has.cons ?_ (Has.nil ?_))
  . exact (Blk.new _ _ _).alloc _
  . exact Blk.new' (by simp)
  . exact Below.al (Below.al (Below.refl _ _) _) _
 rw [decE, decE]
 have HC := Hd hc
 clear hc
 go_enter Tryz.func138, Tryz.ntmps138
 go_wp2_with fail
 refine (CB.o _).mono ?_
 rintro e w1 ⟨rfl, hb1⟩
 have H1 := Hd ((hinit _ rfl).step hb1)
 clear hb1 hinit
 have ca2 : w1.cell? ⟨W.heap.size, 2, none⟩ = some (.int .i64 s) := (H1.o.get 0 rfl).cell 2
 have cb2 : w1.cell? ⟨W.heap.size + 1, 2, none⟩ = some (.int .i64 u) := (H1.o.get 1 rfl).cell 2
 have hmx : max s u = c := HC.o.symm
 go_wp2_with (refine wpList_load_row rfl 56 (.tmp 3) rfl (W.heap.size + 1) rfl 56 (decE b u) (0, 0) _ (H1.o.get 1 rfl) Tryz.underlying56 rfl (by kernel_rfl) ?_)
 clear hmx ca2 cb2
 refine (CC.o _).mono ?_
 rintro e w2 ⟨rfl, hb2⟩
 have H2 := Hd (H1.o.step hb2)
 clear hb2 H1
 go_wp2_with fail
 refine (T2.o _).mono ?_
 rintro e w3 ⟨rfl, hb3⟩
 have H3 := Hd (H2.o.step hb3)
 clear hb3 H2
 go_wp2_with (first
  | (refine wpList_put rfl 118 (.tmp 8) (.tmp 24) rfl w3.heap.size (numE kb (upN b u c) c) rfl rfl 118 _ (Blk.new w3 _ _) (by first | kernel_rfl | (rw [enc_size]; kernel_rfl)) (by first | rfl | (rw [enc_size]; rfl)) (numE_all _ _ _) ?_
     intro W4 HB4 hfar4 hbel4 hsz4 hcell4
     have H4 := (H3.o.new rfl 118 #[.bool false, .int .u64 0, .int .u64 0, .int .u64 0, .int .u64 0, .int .u64 0, .int .u64 0, .int .i64 0]).upd 0 rfl H3.o.size H3.o.fresh HB4 hfar4 hbel4
     have c0 : W4.cell? ⟨w3.heap.size, 0, none⟩ = some (.bool kb) := (H4.get 0 rfl).cell 0
     have f0 := (H4.get 0 rfl).frozen 0
     have H5 := Hd (H4.setAt 0 rfl H3.o.size H3.o.fresh 0 (.bool (!kb)))
     clear H4 HB4 hfar4 hbel4 hsz4 hcell4))
 obtain ⟨g, hg⟩ : ∃ g, g = w3.heap.size := ⟨_, rfl⟩
 have hgW : Hi (W.heap.size + 1 < g) := Hd (by rw [hg]; exact (H3.o.get 1 rfl).lt)
 rw [<- hg] at H5 ⊢
 clear hg H3
 refine wp_region_reg (fun w' => Has W [(g, 118, numE (!kb) (upN b u c) c), (W.heap.size, 56, decE a s), (W.heap.size + 1, 56, decE b u)] w') (fun _ => (118, numE false 0 0)) [0, 1, 2, 3, 4, 5] [6] [7] (by kernel_rfl) (by kernel_rfl) (fun w w' h hb => h.step hb) ?_ (fun k hk => by simp only [List.mem_cons, List.not_mem_nil, or_false] at hk; first | (subst hk; exact ⟨rfl, fun a w => by simp only [opAt, List.getElem?_cons_succ, List.getElem?_cons_zero, Option.getD_some]; go_simp <;> rfl⟩) | (rcases hk with rfl | rfl <;> exact ⟨rfl, fun a w => by simp only [opAt, List.getElem?_cons_succ, List.getElem?_cons_zero, Option.getD_some]; go_simp <;> rfl⟩)) ?_
 . exact H5.o.drew
 have hN := Hd H5.o.size
 clear H5
 simp only [List.map_cons, List.map_nil, opAt, List.getElem?_cons_succ, List.getElem?_cons_zero, Option.getD_some]
 repeat (refine wpB_pure rfl ?_; go_big_quiet_step ((intro _; rfl)); refine wpQuiet_nil ?_)
 refine wpB_pure rfl ?_
 refine wpQuiet_row 56 (.tmp 2) rfl rfl W.heap.size rfl 56 (decE a s) _ (fun w hw => hw.get 1 rfl) Tryz.underlying56 rfl (by kernel_rfl) (fun K1 k1 => ?_)
 go_simp
 refine k1 _ ?_
 clear k1 K1
 refine wpQuiet_nil ?_
 refine wpB_call (.agg (numE (decide (a < 0)) a.natAbs s)) 43 #[.agg (decE a s)] rfl (fun w => by go_simp) (fun w hw => CA.o _) (fun K1 k1 => ?_)
 go_simp
 refine k1 _ ?_
 clear k1 K1
 repeat (refine wpB_pure rfl ?_; go_big_quiet_step ((intro _; rfl)); refine wpQuiet_nil ?_)
 refine wpB_call (.agg (numE (decide (a < 0)) (upN a s c) c)) 185 #[.agg (numE (decide (a < 0)) a.natAbs s), .int .i64 c] rfl (fun w => by go_simp) (fun w hw => T1.o _) (fun K1 k1 => ?_)
 go_simp
 refine k1 _ ?_
 clear k1 K1
 repeat (refine wpB_pure rfl ?_; go_big_quiet_step ((intro _; rfl)); refine wpQuiet_nil ?_)
 refine wpB_pure rfl ?_
 refine wpQuiet_row 118 (.tmp 8) rfl rfl g rfl 118 (numE (!kb) (upN b u c) c) _ (fun w hw => hw.get 0 rfl) Tryz.underlying118 rfl (by first | kernel_rfl | (rw [enc_size]; kernel_rfl)) (fun K1 k1 => ?_)
 go_simp
 refine k1 _ ?_
 clear k1 K1
 refine wpQuiet_nil ?_
 refine wpB_call (.agg (numE m n c)) 186 #[.agg (numE (decide (a < 0)) (upN a s c) c), .agg (numE (!kb) (upN b u c) c)] rfl (fun w => by go_simp) (fun w hw => PL.o _) (fun K1 k1 => ?_)
 go_simp
 refine k1 _ ?_
 clear k1 K1
 repeat (refine wpB_pure rfl ?_; go_big_quiet_step ((intro _; rfl)); refine wpQuiet_nil ?_)
 refine wpB_nil ?_
 intro gs w2 H6
 intro hmade
 simp only [putAll, opAt, List.getElem?_cons_succ, List.getElem?_cons_zero, Option.getD_some, Act.put]
 obtain ⟨q, hq⟩ : ∃ q, q = gs 6 := ⟨_, rfl⟩
 have hb6 := (hmade.1 6 List.mem_cons_self)
 rw [<- hq] at hb6 ⊢
 obtain ⟨hq1, hq2⟩ := hb6
 have hqW := Nat.le_trans hN.o hq1
 clear hmade hq
 refine wpList_put rfl 118 (.tmp 9) (.tmp 34) rfl q (numE m n c) rfl rfl 118 _ hq2 (by first | kernel_rfl | (rw [enc_size]; kernel_rfl)) (by first | rfl | (rw [enc_size]; rfl)) (numE_all _ _ _) ?_
 intro W7 HB7 hfar7 hbel7 hsz7 hcell7
 have H8 : Has W [(q, 118, numE m n c)] W7 := Has.cons HB7 (Has.nil (hbel7 _ _ hqW H6.below))
 have c0 : W7.cell? ⟨q, 0, none⟩ = some (.bool m) := (H8.get 0 rfl).cell 0
 have H9 := Hd H8
 clear H8 H6 HB7 hfar7 hbel7 hsz7 hcell7 hq1 hq2
 go_wp2_with fail
 rw [onlyNormal_normal]
 go_wp2_with (refine wpList_load_part rfl 115 (.tmp 36) rfl q 1 rfl 118 (numE m n c) (enc n) _ (H9.o.get 0 rfl) (num_part m n c) Tryz.underlying115 rfl (by first | kernel_rfl | (rw [enc_size]; kernel_rfl)) ?_)
 refine (CL.o _).mono ?_
 rintro e w8 ⟨rfl, hb8⟩
 have H10 := H9.o.step hb8
 have c1 : w8.cell? ⟨q, 0, none⟩ = some (.bool m) := (H10.get 0 rfl).cell 0
 have hfin := H10.below
 clear hb8 H10
 by_cases h0 : L = 0
 . have HR2 := HR.o
   rw [if_pos h0] at HR2
   subst HR2 h0
   go_wp2_with fail
   exact bodyPost_ret (results_two rfl _ _ rfl rfl) rfl ⟨rfl, hfin⟩
 . have HR2 := HR.o
   rw [if_neg h0] at HR2
   have e0 : ((L : Int) == 0) = false := beq_eq_false_iff_ne.2 (by omega)
   cases m with
   | false =>
     simp only [Bool.false_eq_true, if_false] at HR2
     subst HR2
     go_wp2_with fail
     exact bodyPost_ret (results_two rfl _ _ rfl rfl) rfl ⟨rfl, hfin⟩
   | true =>
     simp only [if_true] at HR2
     subst HR2
     go_wp2_with fail
     exact bodyPost_ret (results_two rfl _ _ rfl rfl) rfl ⟨rfl, hfin⟩
end Dec
namespace Dec
open Go.RowKit Go.Deep Wide
def moreV (mode : Int) (m : Bool) (hv : Int) (odd : Bool) : Bool :=
 if mode = 0 then false else if mode = 1 then true else if mode = 2 then m else if mode = 3 then !m
 else if mode = 4 then decide (0 <= hv) else if mode = 5 then decide (0 < hv) else decide (0 < hv) || (decide (hv = 0) && odd)
theorem moreV_eq {mode : Int} {m : Bool} {q r b : Nat} (hr : r ≠ 0) : moreB mode m q r b = moreV mode m (cmpv (r * 2 ^ (64 * 0 + 1)) b) (decide (w q 0 % 2 = 1)) := by
 have e : r * 2 ^ (64 * 0 + 1) = 2 * r := by rw [Nat.mul_zero, Nat.zero_add, Nat.pow_one, Nat.mul_comm]
 have ho : w q 0 % 2 = q % 2 := by rw [w_zero]; omega
 rw [e, ho]
 unfold moreB moreV cmpv
 rw [if_neg hr]
 rcases Nat.lt_trichotomy (2 * r) b with h | h | h
 . rw [if_pos h]
   have a1 : ¬ b <= 2 * r := by omega
   have a2 : ¬ b < 2 * r := by omega
   have a3 : ¬ b = 2 * r := by omega
   simp [a1, a2, a3]
 . have a1 : ¬ 2 * r < b := by omega
   have a2 : ¬ b < 2 * r := by omega
   rw [if_neg a1, if_neg a2]
   simp [h]
 . have a1 : ¬ 2 * r < b := by omega
   have a3 : ¬ b = 2 * r := by omega
   have a4 : b <= 2 * r := by omega
   rw [if_neg a1, if_pos h]
   simp [a3, h, a4]
theorem and1 (n : Nat) (h : n < 18446744073709551616) : bits .and .u64 (n : Int) 1 = ((n % 2 : Nat) : Int) := by
 have hl : n &&& 1 < 2 ^ 64 := Nat.lt_of_le_of_lt Nat.and_le_left (by omega)
 show IntKind.u64.wrap ((BitVec.ofInt 64 (n : Int) &&& BitVec.ofInt 64 ((1 : Nat) : Int)).toNat : Int) = _
 rw [BitVec.ofInt_natCast, BitVec.ofInt_natCast, BitVec.toNat_and, BitVec.toNat_ofNat, BitVec.toNat_ofNat, Nat.mod_eq_of_lt (by omega), Nat.mod_eq_of_lt (by omega), IntWalk.u64_in _ (by omega), Nat.and_one_is_mod]
theorem cmpv_in (a b : Nat) : -1 <= cmpv a b /\ cmpv a b <= 1 := by unfold cmpv; split; omega; split <;> omega
theorem more_ok (mode : Int) (m : Bool) (q r b : Nat) (hmode : 0 <= mode /\ mode <= 6) (hr6 : 2 * r < P 6) (hb6 : b < P 6) (W : World) :
 Calls Tryz.prog 221 #[.int .i64 mode, .bool m, .agg (enc q), .agg (enc r), .agg (enc b)] W fun e w' => e = .returned (.bool (moreB mode m q r b)) /\ Below W.heap.size W w' := by
 have CL := Hd (fun W' => len_ok r (by omega) W')
 obtain ⟨L, hLe⟩ : ∃ L, L = Go.bitLen r := ⟨_, rfl⟩
 rw [<- hLe] at CL
 have hL0 : (L = 0) ↔ (r = 0) := by rw [hLe]; exact len_zero
 have hinit : ∀ w1, w1 = ((W.alloc (.cells (enc q) 115)).alloc (.cells (enc r) 115)).alloc (.cells (enc b) 115) ->
  Has W [(W.heap.size, 115, enc q), (W.heap.size + 1, 115, enc r), (W.heap.size + 2, 115, enc b)] w1 := fun w1 e => by
  subst e
  refine Has.cons ?_ (Has.cons ?_ (Has.cons ?_ (Has.nil ?_)))
  . exact ((Blk.new _ _ _).alloc _).alloc _
  . exact (Blk.new' (by simp)).alloc _
  . exact Blk.new' (by simp)
  . exact Below.al (Below.al (Below.al (Below.refl _ _) _) _) _
 have HI := Hd (hinit _ rfl)
 clear hLe hinit
 by_cases h0 : r = 0
 . have e : moreB mode m q r b = false := by simp [moreB, h0]
   rw [e]
   obtain rfl : L = 0 := hL0.2 h0
   clear e h0 hL0 hr6
   go_enter Tryz.func221, Tryz.ntmps221
   go_wp2_with (refine wpList_load_row rfl 115 (.tmp 8) rfl (W.heap.size + 1) rfl 115 (enc r) (0, 0) _ (HI.o.get 1 rfl) Tryz.underlying115 rfl (by first | kernel_rfl | (rw [enc_size]; kernel_rfl)) ?_)
   refine (CL.o _).mono ?_
   rintro e w1 ⟨rfl, hb1⟩
   have hfin := (HI.o.step hb1).below
   clear hb1 HI
   go_wp2_with fail
   exact bodyPost_ret (results_one rfl _ _ rfl) rfl ⟨rfl, hfin⟩
 . rw [moreV_eq h0]
   have e2 : r * 2 ^ (64 * 0 + 1) = 2 * r := by rw [Nat.mul_zero, Nat.zero_add, Nat.pow_one, Nat.mul_comm]
   have C1 := Hd (fun W' => left_ok r 0 1 (by omega) (by omega) W')
   have C2 := Hd (fun W' => cmp_ok (r * 2 ^ (64 * 0 + 1)) b (by omega) hb6 W')
   have hin := cmpv_in (r * 2 ^ (64 * 0 + 1)) b
   obtain ⟨t, ht⟩ : ∃ t, t = r * 2 ^ (64 * 0 + 1) := ⟨_, rfl⟩
   rw [<- ht] at C1 C2 hin ⊢
   obtain ⟨hv, hhv⟩ : ∃ hv, hv = cmpv t b := ⟨_, rfl⟩
   rw [<- hhv] at C2 hin ⊢
   have e0 : ((L : Int) == 0) = false := beq_eq_false_iff_ne.2 (by omega)
   have C1' : Hi (∀ W', Calls Tryz.prog 90 #[.agg (enc r), .int .i64 1] W' fun e w' => e = .returned (.agg (enc t)) /\ Below W'.heap.size W' w') := C1
   clear ht hhv h0 hL0 e2 C1 hr6
   obtain ⟨hv1, hv2⟩ := hin
   have hq0 := w_lt q 0
   unfold B at hq0
   have eand : bits .and .u64 (w q 0 : Nat) 1 = ((w q 0 % 2 : Nat) : Int) := and1 _ hq0
   obtain ⟨d, hd⟩ : ∃ d, d = w q 0 % 2 := ⟨_, rfl⟩
   rw [<- hd] at eand ⊢
   have hd2 : d < 2 := by omega
   have EA := Hd eand
   clear hd eand
   go_enter Tryz.func221, Tryz.ntmps221
   go_wp2_with (refine wpList_load_row rfl 115 (.tmp 8) rfl (W.heap.size + 1) rfl 115 (enc r) (0, 0) _ (HI.o.get 1 rfl) Tryz.underlying115 rfl (by first | kernel_rfl | (rw [enc_size]; kernel_rfl)) ?_)
   refine (CL.o _).mono ?_
   rintro e w1 ⟨rfl, hb1⟩
   have H1 := Hd (HI.o.step hb1)
   clear hb1 HI
   go_wp2_with fail
   refine wp_region_class (fun w' => Has W [(W.heap.size, 115, enc q), (W.heap.size + 1, 115, enc r), (W.heap.size + 2, 115, enc b)] w') [0, 1, 2, 3, 4] (by kernel_rfl) (by kernel_rfl) H1.o.drew ?_
   simp only [List.map_cons, List.map_nil, opAt, List.getElem?_cons_succ, List.getElem?_cons_zero, Option.getD_some]
   refine wpQuiet_row 115 (.tmp 8) rfl rfl (W.heap.size + 1) rfl 115 (enc r) _ (fun w hw => hw.get 1 rfl) Tryz.underlying115 rfl (by first | kernel_rfl | (rw [enc_size]; kernel_rfl)) (fun K1 k1 => ?_)
   go_simp
   refine k1 _ ?_
   clear k1 K1
   go_big_quiet_step ((intro hw; exact (C1'.o _).mono fun e w' h => ⟨h.1, hw.step h.2⟩))
   refine wpQuiet_row 115 (.tmp 9) rfl rfl (W.heap.size + 2) rfl 115 (enc b) _ (fun w hw => hw.get 2 rfl) Tryz.underlying115 rfl (by first | kernel_rfl | (rw [enc_size]; kernel_rfl)) (fun K1 k1 => ?_)
   go_simp
   refine k1 _ ?_
   clear k1 K1
   go_big_quiet_step ((intro hw; exact (C2.o _).mono fun e w' h => ⟨h.1, hw.step h.2⟩))
   repeat (go_big_quiet_step ((intro _; rfl)))
   refine wpQuiet_nil ?_
   intro w2 H2
   have c0 : w2.cell? ⟨W.heap.size, 0, none⟩ = some (.int .u64 (w q 0 : Nat)) := (H2.get 0 rfl).cell 0
   have eand := EA.o
   have hfin := H2.below
   clear H1 H2
   have hmm : mode = 0 ∨ mode = 1 ∨ mode = 2 ∨ mode = 3 ∨ mode = 4 ∨ mode = 5 ∨ mode = 6 := by omega
   clear hmode
   rcases hmm with rfl | rfl | rfl | rfl | rfl | rfl | rfl
   iterate 6
    . go_wp2_with fail
      exact bodyPost_ret (results_one rfl _ _ rfl) rfl ⟨by simp [moreV], hfin⟩
   have h3 : hv = -1 ∨ hv = 0 ∨ hv = 1 := by omega
   have h4 : d = 0 ∨ d = 1 := by omega
   clear hv1 hv2 hd2
   rcases h3 with rfl | rfl | rfl
   . go_wp2_with fail
     exact bodyPost_ret (results_one rfl _ _ rfl) rfl ⟨by simp [moreV], hfin⟩
   . rcases h4 with rfl | rfl
     . go_wp2_with fail
       exact bodyPost_ret (results_one rfl _ _ rfl) rfl ⟨by simp [moreV], hfin⟩
     . go_wp2_with fail
       exact bodyPost_ret (results_one rfl _ _ rfl) rfl ⟨by simp [moreV], hfin⟩
   . go_wp2_with fail
     exact bodyPost_ret (results_one rfl _ _ rfl) rfl ⟨by simp [moreV], hfin⟩
theorem add1_ok (a : Nat) (W : World) : Calls Tryz.prog 220 #[.agg (enc a), .agg #[.int .u64 1, .int .u64 0, .int .u64 0, .int .u64 0, .int .u64 0, .int .u64 0]] W
 fun e w' => e = .returned (.agg (enc (a + 1))) /\ Below W.heap.size W w' := by
 have := Wide.add_ok a 1 W
 rwa [enc_small 1 (by decide)] at this
def rndC (mode : Int) (m : Bool) (a b : Nat) : Int := togC m (roundN mode m a b)
theorem roundN_le (mode : Int) (m : Bool) (a b : Nat) : roundN mode m a b <= a + 1 := by
 have := Nat.div_le_self a b
 unfold roundN; split <;> omega
theorem rounded_ok (m : Bool) (a b : Nat) (s mode : Int) (hmode : 0 <= mode /\ mode <= 6) (ha : a + 1 < P 6) (hb : 0 < b) (hb6 : 2 * b < P 6) (W : World) :
 Calls Tryz.prog 188 #[.bool m, .agg (enc a), .agg (enc b), .int .i64 s, .int .i64 mode] W fun e w' => e = .returned (.tuple #[.agg (decE (rndC mode m a b) (togS (roundN mode m a b) s)), .int .i64 (togE (roundN mode m a b))]) /\ Below W.heap.size W w' := by
 have hr := Nat.mod_lt a hb
 have CQ := Hd (fun W' => quo_ok a b (by omega) hb (by omega) W')
 have CM := Hd (fun W' => more_ok mode m (a / b) (a % b) b hmode (by omega) (by omega) W')
 have C1 := Hd (fun W' => add1_ok (a / b) W')
 have TG := Hd (fun W' => tog_all m (roundN mode m a b) s (by have := roundN_le mode m a b; omega) W')
 unfold rndC
 have HN : Hi (roundN mode m a b = if moreB mode m (a / b) (a % b) b then a / b + 1 else a / b) := Hd rfl
 obtain ⟨n, hn⟩ : ∃ n, n = roundN mode m a b := ⟨_, rfl⟩
 obtain ⟨q, hq⟩ : ∃ q, q = a / b := ⟨_, rfl⟩
 obtain ⟨r, hr⟩ : ∃ r, r = a % b := ⟨_, rfl⟩
 obtain ⟨k, hk⟩ : ∃ k, k = moreB mode m (a / b) (a % b) b := ⟨_, rfl⟩
 rw [<- hk] at CM HN
 rw [<- hq, <- hr] at CQ CM
 rw [<- hq] at HN C1
 rw [<- hn] at HN TG ⊢
 clear hn hq hr hk hmode ha hb hb6
 have hinit : ∀ w1, w1 = ((W.alloc (.cells (enc a) 115)).alloc (.cells (enc b) 115)).alloc (.cells #[.int .i64 0, .int .u64 0, .int .i64 0] 56) ->
  Has W [(W.heap.size, 115, enc a), (W.heap.size + 1, 115, enc b), (W.heap.size + 2, 56, decE 0 0)] w1 := fun w1 e => by
  subst e
  refine Has.cons ?_ (Has.cons ?_ (Has.cons ?_ (Has.nil ?_)))
  . exact ((Blk.new _ _ _).alloc _).alloc _
  . exact (Blk.new' (by simp)).alloc _
  . exact Blk.new' (by simp)
  . exact Below.al (Below.al (Below.al (Below.refl _ _) _) _) _
 have HI := Hd (hinit _ rfl)
 clear hinit
 go_enter Tryz.func188, Tryz.ntmps188
 go_wp2_with (first
  | (refine wpList_load_row rfl 115 (.tmp 6) rfl W.heap.size rfl 115 (enc a) (0, 0) _ (HI.o.get 0 rfl) Tryz.underlying115 rfl (by first | kernel_rfl | (rw [enc_size]; kernel_rfl)) ?_)
  | (refine wpList_load_row rfl 115 (.tmp 7) rfl (W.heap.size + 1) rfl 115 (enc b) (0, 0) _ (HI.o.get 1 rfl) Tryz.underlying115 rfl (by first | kernel_rfl | (rw [enc_size]; kernel_rfl)) ?_))
 refine (CQ.o _).mono ?_
 rintro e w1 ⟨rfl, hb1⟩
 have H1 := Hd (HI.o.step hb1)
 clear hb1 HI
 obtain ⟨g, hg⟩ : ∃ g, g = w1.heap.size := ⟨_, rfl⟩
 have HA := Hd ((H1.o.new rfl 115 #[.int .u64 0, .int .u64 0, .int .u64 0, .int .u64 0, .int .u64 0, .int .u64 0]).new (g := w1.heap.size + 1) (by simp) 115 #[.int .u64 0, .int .u64 0, .int .u64 0, .int .u64 0, .int .u64 0, .int .u64 0])
 have hgW : Hi (W.heap.size + 2 < w1.heap.size) := Hd (H1.o.get 2 rfl).lt
 go_wp2_with (first
  | (refine wpList_put rfl 115 (.tmp 12) (.tmp 18) rfl w1.heap.size (enc q) rfl rfl 115 _ (HA.o.get 1 rfl) (by first | kernel_rfl | (rw [enc_size]; kernel_rfl)) (by first | rfl | (rw [enc_size]; rfl)) (enc_all _) ?_
     intro W2 HB2 hfar2 hbel2 hsz2 hcell2
     have H2 := Hd (HA.o.upd 1 rfl (by have := hgW.o; omega) (by simp; have := hgW.o; omega) HB2 hfar2 hbel2)
     clear HB2 hfar2 hbel2 hsz2 hcell2)
  | (refine wpList_put rfl 115 (.tmp 13) (.tmp 19) rfl (w1.heap.size + 1) (enc r) rfl rfl 115 _ (H2.o.get 0 rfl) (by first | kernel_rfl | (rw [enc_size]; kernel_rfl)) (by first | rfl | (rw [enc_size]; rfl)) (enc_all _) ?_
     intro W3 HB3 hfar3 hbel3 hsz3 hcell3
     have H3 := Hd (H2.o.upd 0 rfl (by have := hgW.o; omega) (by simp; have := hgW.o; omega) HB3 hfar3 hbel3)
     clear HB3 hfar3 hbel3 hsz3 hcell3)
  | (refine wpList_load_row rfl 115 (.tmp 12) rfl w1.heap.size rfl 115 (enc q) (0, 0) _ (H3.o.get 1 rfl) Tryz.underlying115 rfl (by first | kernel_rfl | (rw [enc_size]; kernel_rfl)) ?_)
  | (refine wpList_load_row rfl 115 (.tmp 13) rfl (w1.heap.size + 1) rfl 115 (enc r) (0, 0) _ (H3.o.get 0 rfl) Tryz.underlying115 rfl (by first | kernel_rfl | (rw [enc_size]; kernel_rfl)) ?_)
  | (refine wpList_load_row rfl 115 (.tmp 7) rfl (W.heap.size + 1) rfl 115 (enc b) (0, 0) _ (H3.o.get 3 rfl) Tryz.underlying115 rfl (by first | kernel_rfl | (rw [enc_size]; kernel_rfl)) ?_))
 trace_state
 refine (CM.o _).mono ?_
 rintro e w4 ⟨rfl, hb4⟩
 have H4 := Hd (H3.o.step hb4)
 clear hb4 H2 HA H1
 rw [<- hg] at H4 hgW ⊢
 clear hg H3
 cases k with
 | false =>
   obtain rfl : n = q := HN.o
   go_wp2_with (refine wpList_load_row rfl 115 (.tmp 12) rfl g rfl 115 #[.int .u64 (w (n) 0 : Nat), .int .u64 (w (n) 1 : Nat), .int .u64 (w (n) 2 : Nat), .int .u64 (w (n) 3 : Nat), .int .u64 (w (n) 4 : Nat), .int .u64 (w (n) 5 : Nat)] (0, 0) _ (H4.o.get 1 rfl) Tryz.underlying115 rfl (by kernel_rfl) ?_)
   refine (TG.o _).mono ?_
   rintro e w6 ⟨rfl, hb6⟩
   have H6 := Hd (H4.o.step hb6)
   clear hb6 H4
   go_wp2_with (refine wpList_put rfl 56 (.tmp 10) (.tmp 34) rfl (W.heap.size + 2) (decE (togC m n) (togS n s)) rfl rfl 56 _ (H6.o.get 4 rfl) (by kernel_rfl) (by first | rfl | (rw [enc_size]; rfl)) (decE_all _ _) ?_
                intro W7 HB7 hfar7 hbel7 hsz7 hcell7)
   have H7 := hbel7 W.heap.size W (by omega) H6.o.below
   exact bodyPost_ret (results_row_tmp rfl _ W7 (W.heap.size + 2) 56 _ _ _ rfl HB7 Tryz.underlying56 rfl (by kernel_rfl) rfl) rfl ⟨rfl, H7⟩
 | true =>
   obtain rfl : n = q + 1 := HN.o
   go_wp2_with (refine wpList_load_row rfl 115 (.tmp 12) rfl g rfl 115 (enc q) (0, 0) _ (H4.o.get 1 rfl) Tryz.underlying115 rfl (by first | kernel_rfl | (rw [enc_size]; kernel_rfl)) ?_)
   refine (C1.o _).mono ?_
   rintro e w5 ⟨rfl, hb5⟩
   have H5 := Hd (H4.o.step hb5)
   clear hb5 H4
   go_wp2_with (first
    | (refine wpList_put rfl 115 (.tmp 12) (.tmp 28) rfl g (enc (q + 1)) rfl rfl 115 _ (H5.o.get 1 rfl) (by first | kernel_rfl | (rw [enc_size]; kernel_rfl)) (by first | rfl | (rw [enc_size]; rfl)) (enc_all _) ?_
       intro W2 HB2 hfar2 hbel2 hsz2 hcell2
       have H2 := Hd (H5.o.upd 1 rfl (by have := hgW.o; omega) (by simp; have := hgW.o; omega) HB2 hfar2 hbel2)
       clear HB2 hfar2 hbel2 hsz2 hcell2)
    | (refine wpList_load_row rfl 115 (.tmp 12) rfl g rfl 115 #[.int .u64 (w (q + 1) 0 : Nat), .int .u64 (w (q + 1) 1 : Nat), .int .u64 (w (q + 1) 2 : Nat), .int .u64 (w (q + 1) 3 : Nat), .int .u64 (w (q + 1) 4 : Nat), .int .u64 (w (q + 1) 5 : Nat)] (0, 0) _ (H2.o.get 1 rfl) Tryz.underlying115 rfl (by kernel_rfl) ?_))
   refine (TG.o _).mono ?_
   rintro e w6 ⟨rfl, hb6⟩
   have H6 := Hd (H2.o.step hb6)
   clear hb6 H2
   go_wp2_with (refine wpList_put rfl 56 (.tmp 10) (.tmp 34) rfl (W.heap.size + 2) (decE (togC m (q + 1)) (togS (q + 1) s)) rfl rfl 56 _ (H6.o.get 4 rfl) (by kernel_rfl) (by first | rfl | (rw [enc_size]; rfl)) (decE_all _ _) ?_
                intro W7 HB7 hfar7 hbel7 hsz7 hcell7)
   have H7 := hbel7 W.heap.size W (by omega) H6.o.below
   exact bodyPost_ret (results_row_tmp rfl _ W7 (W.heap.size + 2) 56 _ _ _ rfl HB7 Tryz.underlying56 rfl (by kernel_rfl) rfl) rfl ⟨rfl, H7⟩
end Dec
end Go.Proofs.YtkdnebalpdebeaaGreatDoor
