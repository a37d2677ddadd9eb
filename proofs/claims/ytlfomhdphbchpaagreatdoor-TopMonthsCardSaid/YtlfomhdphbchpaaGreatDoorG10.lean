/- Lemmas of a claim, several texts in one: DecG, DecH, DecI -/
import Derived.Test.YtlfomhdphbchpaaGreatDoorG09
/-! dec: more, rounded -/
namespace Go.Proofs.YtlfomhdphbchpaaGreatDoor.Dec
open Go.RowKit Go.Deep Go.Proofs.YtlfomhdphbchpaaGreatDoor.Wide
set_option linter.unusedVariables false
set_option linter.unusedSimpArgs false
/-- what 'more' says, by how twice the rest lies to the divisor, and whether the quotient is odd -/
def moreV (mode : Int) (m : Bool) (hv : Int) (odd : Bool) : Bool :=
  if mode = 0 then false else if mode = 1 then true else if mode = 2 then m else if mode = 3 then !m
  else if mode = 4 then decide (0 ≤ hv) else if mode = 5 then decide (0 < hv) else decide (0 < hv) || (decide (hv = 0) && odd)
theorem moreV_eq {mode : Int} {m : Bool} {q r b : Nat} (hr : r ≠ 0) : moreB mode m q r b = moreV mode m (cmpv (r * 2 ^ (64 * 0 + 1)) b) (decide (w q 0 % 2 = 1)) := by
  have e : r * 2 ^ (64 * 0 + 1) = 2 * r := by rw [Nat.mul_zero, Nat.zero_add, Nat.pow_one, Nat.mul_comm]
  have ho : w q 0 % 2 = q % 2 := by rw [w_zero]; omega
  rw [e, ho]
  unfold moreB moreV cmpv
  rw [if_neg hr]
  rcases Nat.lt_trichotomy (2 * r) b with h | h | h
  · rw [if_pos h]
    have a1 : ¬ b ≤ 2 * r := by omega
    have a2 : ¬ b < 2 * r := by omega
    have a3 : ¬ b = 2 * r := by omega
    simp [a1, a2, a3]
  · have a1 : ¬ 2 * r < b := by omega
    have a2 : ¬ b < 2 * r := by omega
    rw [if_neg a1, if_neg a2]
    simp [h]
  · have a1 : ¬ 2 * r < b := by omega
    have a3 : ¬ b = 2 * r := by omega
    have a4 : b ≤ 2 * r := by omega
    rw [if_neg a1, if_pos h]
    simp [a3, h, a4]
theorem and1 (n : Nat) (h : n < 18446744073709551616) : bits .and .u64 (n : Int) 1 = ((n % 2 : Nat) : Int) := by
  have hl : n &&& 1 < 2 ^ 64 := Nat.lt_of_le_of_lt Nat.and_le_left (by omega)
  show IntKind.u64.wrap ((BitVec.ofInt 64 (n : Int) &&& BitVec.ofInt 64 ((1 : Nat) : Int)).toNat : Int) = _
  rw [BitVec.ofInt_natCast, BitVec.ofInt_natCast, BitVec.toNat_and, BitVec.toNat_ofNat, BitVec.toNat_ofNat, Nat.mod_eq_of_lt (by omega), Nat.mod_eq_of_lt (by omega), IntWalk.u64_in _ (by omega), Nat.and_one_is_mod]
theorem cmpv_in (a b : Nat) : -1 ≤ cmpv a b ∧ cmpv a b ≤ 1 := by unfold cmpv; split; omega; split <;> omega
set_option maxHeartbeats 8000000 in
set_option maxRecDepth 100000 in
theorem more_ok (mode : Int) (m : Bool) (q r b : Nat) (hmode : 0 ≤ mode ∧ mode ≤ 6) (hr6 : 2 * r < P 6) (hb6 : b < P 6) (W : World) :
    Calls Tryz.prog 191 #[.int .i64 mode, .bool m, .agg (enc q), .agg (enc r), .agg (enc b)] W fun e w' => e = .returned (.bool (moreB mode m q r b)) ∧ Below W.heap.size W w' := by
  have CL := Lib.hid (fun W' => len_ok r (by omega) W')
  obtain ⟨L, hLe⟩ : ∃ L, L = Go.bitLen r := ⟨_, rfl⟩
  rw [← hLe] at CL
  have hL0 : (L = 0) ↔ (r = 0) := by rw [hLe]; exact len_zero
  have hinit : ∀ w1, w1 = ((W.alloc (.cells (enc q) 246)).alloc (.cells (enc r) 246)).alloc (.cells (enc b) 246) →
      Has W [(W.heap.size, 246, enc q), (W.heap.size + 1, 246, enc r), (W.heap.size + 2, 246, enc b)] w1 := fun w1 e => by
    subst e
    refine Has.cons ?_ (Has.cons ?_ (Has.cons ?_ (Has.nil ?_)))
    · exact ((Blk.new _ _ _).alloc _).alloc _
    · exact (Blk.new' (by simp)).alloc _
    · exact Blk.new' (by simp)
    · exact Below.al (Below.al (Below.al (Below.refl _ _) _) _) _
  have HI := Lib.hid (hinit _ rfl)
  clear hLe hinit
  by_cases h0 : r = 0
  · have e : moreB mode m q r b = false := by simp [moreB, h0]
    rw [e]
    obtain rfl : L = 0 := hL0.2 h0
    clear e h0 hL0 hr6
    go_enter Tryz.func191, Tryz.ntmps191
    go_wp2_with (refine wpList_load_row rfl 246 (.tmp 8) rfl (W.heap.size + 1) rfl 246 (enc r) (0, 0) _ (HI.out.get 1 rfl) Tryz.underlying246 rfl (by first | kernel_rfl | (rw [enc_size]; kernel_rfl)) ?_)
    refine (CL.out _).mono ?_
    rintro e w1 ⟨rfl, hb1⟩
    have hfin := (HI.out.step hb1).below
    clear hb1 HI
    go_wp2_with fail
    exact bodyPost_ret (results_one rfl _ _ rfl) rfl ⟨rfl, hfin⟩
  · rw [moreV_eq h0]
    have e2 : r * 2 ^ (64 * 0 + 1) = 2 * r := by rw [Nat.mul_zero, Nat.zero_add, Nat.pow_one, Nat.mul_comm]
    have C1 := Lib.hid (fun W' => left_ok r 0 1 (by omega) (by omega) W')
    have C2 := Lib.hid (fun W' => cmp_ok (r * 2 ^ (64 * 0 + 1)) b (by omega) hb6 W')
    have hin := cmpv_in (r * 2 ^ (64 * 0 + 1)) b
    obtain ⟨t, ht⟩ : ∃ t, t = r * 2 ^ (64 * 0 + 1) := ⟨_, rfl⟩
    rw [← ht] at C1 C2 hin ⊢
    obtain ⟨hv, hhv⟩ : ∃ hv, hv = cmpv t b := ⟨_, rfl⟩
    rw [← hhv] at C2 hin ⊢
    have e0 : ((L : Int) == 0) = false := beq_eq_false_iff_ne.2 (by omega)
    have C1' : Hid (∀ W', Calls Tryz.prog 192 #[.agg (enc r), .int .i64 1] W' fun e w' => e = .returned (.agg (enc t)) ∧ Below W'.heap.size W' w') := C1
    clear ht hhv h0 hL0 e2 C1 hr6
    obtain ⟨hv1, hv2⟩ := hin
    have hq0 := w_lt q 0
    unfold B at hq0
    have eand : bits .and .u64 (w q 0 : Nat) 1 = ((w q 0 % 2 : Nat) : Int) := and1 _ hq0
    obtain ⟨d, hd⟩ : ∃ d, d = w q 0 % 2 := ⟨_, rfl⟩
    rw [← hd] at eand ⊢
    have hd2 : d < 2 := by omega
    have EA := Lib.hid eand
    clear hd eand
    go_enter Tryz.func191, Tryz.ntmps191
    go_wp2_with (refine wpList_load_row rfl 246 (.tmp 8) rfl (W.heap.size + 1) rfl 246 (enc r) (0, 0) _ (HI.out.get 1 rfl) Tryz.underlying246 rfl (by first | kernel_rfl | (rw [enc_size]; kernel_rfl)) ?_)
    refine (CL.out _).mono ?_
    rintro e w1 ⟨rfl, hb1⟩
    have H1 := Lib.hid (HI.out.step hb1)
    clear hb1 HI
    go_wp2_with fail
    refine wp_region_class (fun w' => Has W [(W.heap.size, 246, enc q), (W.heap.size + 1, 246, enc r), (W.heap.size + 2, 246, enc b)] w') [0, 1, 2, 3, 4] (by kernel_rfl) (by kernel_rfl) H1.out.drew ?_
    simp only [List.map_cons, List.map_nil, opAt, List.getElem?_cons_succ, List.getElem?_cons_zero, Option.getD_some]
    refine wpQuiet_row 246 (.tmp 8) rfl rfl (W.heap.size + 1) rfl 246 (enc r) _ (fun w hw => hw.get 1 rfl) Tryz.underlying246 rfl (by first | kernel_rfl | (rw [enc_size]; kernel_rfl)) (fun KK hKK => ?_)
    go_simp
    refine hKK _ ?_
    clear hKK KK
    go_big_quiet_step ((intro hw; exact (C1'.out _).mono fun e w' h => ⟨h.1, hw.step h.2⟩))
    refine wpQuiet_row 246 (.tmp 9) rfl rfl (W.heap.size + 2) rfl 246 (enc b) _ (fun w hw => hw.get 2 rfl) Tryz.underlying246 rfl (by first | kernel_rfl | (rw [enc_size]; kernel_rfl)) (fun KK hKK => ?_)
    go_simp
    refine hKK _ ?_
    clear hKK KK
    go_big_quiet_step ((intro hw; exact (C2.out _).mono fun e w' h => ⟨h.1, hw.step h.2⟩))
    repeat (go_big_quiet_step ((intro _; rfl)))
    refine wpQuiet_nil ?_
    intro w2 H2
    have c0 : w2.cell? ⟨W.heap.size, 0, none⟩ = some (.int .u64 (w q 0 : Nat)) := (H2.get 0 rfl).cell 0
    have eand := EA.out
    have hfin := H2.below
    clear H1 H2
    have hmm : mode = 0 ∨ mode = 1 ∨ mode = 2 ∨ mode = 3 ∨ mode = 4 ∨ mode = 5 ∨ mode = 6 := by omega
    clear hmode
    rcases hmm with rfl | rfl | rfl | rfl | rfl | rfl | rfl
    iterate 6
      · go_wp2_with fail
        exact bodyPost_ret (results_one rfl _ _ rfl) rfl ⟨by simp [moreV], hfin⟩
    have h3 : hv = -1 ∨ hv = 0 ∨ hv = 1 := by omega
    have h4 : d = 0 ∨ d = 1 := by omega
    clear hv1 hv2 hd2
    rcases h3 with rfl | rfl | rfl
    · go_wp2_with fail
      exact bodyPost_ret (results_one rfl _ _ rfl) rfl ⟨by simp [moreV], hfin⟩
    · rcases h4 with rfl | rfl
      · go_wp2_with fail
        exact bodyPost_ret (results_one rfl _ _ rfl) rfl ⟨by simp [moreV], hfin⟩
      · go_wp2_with fail
        exact bodyPost_ret (results_one rfl _ _ rfl) rfl ⟨by simp [moreV], hfin⟩
    · go_wp2_with fail
      exact bodyPost_ret (results_one rfl _ _ rfl) rfl ⟨by simp [moreV], hfin⟩
theorem add1_ok (a : Nat) (W : World) : Calls Tryz.prog 185 #[.agg (enc a), .agg #[.int .u64 1, .int .u64 0, .int .u64 0, .int .u64 0, .int .u64 0, .int .u64 0]] W
    fun e w' => e = .returned (.agg (enc (a + 1))) ∧ Below W.heap.size W w' := by
  have := Wide.add_ok a 1 W
  rwa [enc_small 1 (by decide)] at this
/-- a over b, with a sign, as a decimal of a scale -/
def rndC (mode : Int) (m : Bool) (a b : Nat) : Int := togC m (roundN mode m a b)
theorem roundN_le (mode : Int) (m : Bool) (a b : Nat) : roundN mode m a b ≤ a + 1 := by
  have := Nat.div_le_self a b
  unfold roundN; split <;> omega
set_option maxHeartbeats 4000000 in
set_option maxRecDepth 100000 in
theorem rounded_ok (m : Bool) (a b : Nat) (s mode : Int) (hmode : 0 ≤ mode ∧ mode ≤ 6) (ha : a + 1 < P 6) (hb : 0 < b) (hb6 : 2 * b < P 6) (W : World) :
    Calls Tryz.prog 150 #[.bool m, .agg (enc a), .agg (enc b), .int .i64 s, .int .i64 mode] W fun e w' => e = .returned (.tuple #[.agg (decE (rndC mode m a b) (togS (roundN mode m a b) s)), .int .i64 (togE (roundN mode m a b))]) ∧ Below W.heap.size W w' := by
  have hr := Nat.mod_lt a hb
  have CQ := Lib.hid (fun W' => quo_ok a b (by omega) hb (by omega) W')
  have CM := Lib.hid (fun W' => more_ok mode m (a / b) (a % b) b hmode (by omega) (by omega) W')
  have C1 := Lib.hid (fun W' => add1_ok (a / b) W')
  have TG := Lib.hid (fun W' => tog_all m (roundN mode m a b) s (by have := roundN_le mode m a b; omega) W')
  unfold rndC
  have HN : Hid (roundN mode m a b = if moreB mode m (a / b) (a % b) b then a / b + 1 else a / b) := Lib.hid rfl
  obtain ⟨n, hn⟩ : ∃ n, n = roundN mode m a b := ⟨_, rfl⟩
  obtain ⟨q, hq⟩ : ∃ q, q = a / b := ⟨_, rfl⟩
  obtain ⟨r, hr⟩ : ∃ r, r = a % b := ⟨_, rfl⟩
  obtain ⟨k, hk⟩ : ∃ k, k = moreB mode m (a / b) (a % b) b := ⟨_, rfl⟩
  rw [← hk] at CM HN
  rw [← hq, ← hr] at CQ CM
  rw [← hq] at HN C1
  rw [← hn] at HN TG ⊢
  clear hn hq hr hk hmode ha hb hb6
  have hinit : ∀ w1, w1 = ((W.alloc (.cells (enc a) 246)).alloc (.cells (enc b) 246)).alloc (.cells #[.int .i64 0, .int .u64 0, .int .i64 0] 168) →
      Has W [(W.heap.size, 246, enc a), (W.heap.size + 1, 246, enc b), (W.heap.size + 2, 168, decE 0 0)] w1 := fun w1 e => by
    subst e
    refine Has.cons ?_ (Has.cons ?_ (Has.cons ?_ (Has.nil ?_)))
    · exact ((Blk.new _ _ _).alloc _).alloc _
    · exact (Blk.new' (by simp)).alloc _
    · exact Blk.new' (by simp)
    · exact Below.al (Below.al (Below.al (Below.refl _ _) _) _) _
  have HI := Lib.hid (hinit _ rfl)
  clear hinit
  go_enter Tryz.func150, Tryz.ntmps150
  go_wp2_with (first
    | (refine wpList_load_row rfl 246 (.tmp 6) rfl W.heap.size rfl 246 (enc a) (0, 0) _ (HI.out.get 0 rfl) Tryz.underlying246 rfl (by first | kernel_rfl | (rw [enc_size]; kernel_rfl)) ?_)
    | (refine wpList_load_row rfl 246 (.tmp 7) rfl (W.heap.size + 1) rfl 246 (enc b) (0, 0) _ (HI.out.get 1 rfl) Tryz.underlying246 rfl (by first | kernel_rfl | (rw [enc_size]; kernel_rfl)) ?_))
  refine (CQ.out _).mono ?_
  rintro e w1 ⟨rfl, hb1⟩
  have H1 := Lib.hid (HI.out.step hb1)
  clear hb1 HI
  obtain ⟨g, hg⟩ : ∃ g, g = w1.heap.size := ⟨_, rfl⟩
  have HA := Lib.hid ((H1.out.new rfl 246 #[.int .u64 0, .int .u64 0, .int .u64 0, .int .u64 0, .int .u64 0, .int .u64 0]).new (g := w1.heap.size + 1) (by simp) 246 #[.int .u64 0, .int .u64 0, .int .u64 0, .int .u64 0, .int .u64 0, .int .u64 0])
  have hgW : Hid (W.heap.size + 2 < w1.heap.size) := Lib.hid (H1.out.get 2 rfl).lt
  go_wp2_with (first
    | (refine wpList_put rfl 246 (.tmp 12) (.tmp 18) rfl w1.heap.size (enc q) rfl rfl 246 _ (HA.out.get 1 rfl) (by first | kernel_rfl | (rw [enc_size]; kernel_rfl)) (by first | rfl | (rw [enc_size]; rfl)) (by first | exact enc_all _ | exact numE_all _ _ _ | exact decE_all _ _ | (rw [Array.all_eq_true']; simp [Value.oneCell'])) ?_
       intro W2 HB2 hfar2 hbel2 hsz2 hcell2
       have H2 := Lib.hid (HA.out.upd 1 rfl (by have := hgW.out; omega) (by simp; have := hgW.out; omega) HB2 hfar2 hbel2)
       clear HB2 hfar2 hbel2 hsz2 hcell2)
    | (refine wpList_put rfl 246 (.tmp 13) (.tmp 19) rfl (w1.heap.size + 1) (enc r) rfl rfl 246 _ (H2.out.get 0 rfl) (by first | kernel_rfl | (rw [enc_size]; kernel_rfl)) (by first | rfl | (rw [enc_size]; rfl)) (by first | exact enc_all _ | exact numE_all _ _ _ | exact decE_all _ _ | (rw [Array.all_eq_true']; simp [Value.oneCell'])) ?_
       intro W3 HB3 hfar3 hbel3 hsz3 hcell3
       have H3 := Lib.hid (H2.out.upd 0 rfl (by have := hgW.out; omega) (by simp; have := hgW.out; omega) HB3 hfar3 hbel3)
       clear HB3 hfar3 hbel3 hsz3 hcell3)
    | (refine wpList_load_row rfl 246 (.tmp 12) rfl w1.heap.size rfl 246 (enc q) (0, 0) _ (H3.out.get 1 rfl) Tryz.underlying246 rfl (by first | kernel_rfl | (rw [enc_size]; kernel_rfl)) ?_)
    | (refine wpList_load_row rfl 246 (.tmp 13) rfl (w1.heap.size + 1) rfl 246 (enc r) (0, 0) _ (H3.out.get 0 rfl) Tryz.underlying246 rfl (by first | kernel_rfl | (rw [enc_size]; kernel_rfl)) ?_)
    | (refine wpList_load_row rfl 246 (.tmp 7) rfl (W.heap.size + 1) rfl 246 (enc b) (0, 0) _ (H3.out.get 3 rfl) Tryz.underlying246 rfl (by first | kernel_rfl | (rw [enc_size]; kernel_rfl)) ?_))
  trace_state
  refine (CM.out _).mono ?_
  rintro e w4 ⟨rfl, hb4⟩
  have H4 := Lib.hid (H3.out.step hb4)
  clear hb4 H2 HA H1
  rw [← hg] at H4 hgW ⊢
  clear hg H3
  cases k with
  | false =>
    obtain rfl : n = q := HN.out
    go_wp2_with (refine wpList_load_row rfl 246 (.tmp 12) rfl g rfl 246 #[.int .u64 (w (n) 0 : Nat), .int .u64 (w (n) 1 : Nat), .int .u64 (w (n) 2 : Nat), .int .u64 (w (n) 3 : Nat), .int .u64 (w (n) 4 : Nat), .int .u64 (w (n) 5 : Nat)] (0, 0) _ (H4.out.get 1 rfl) Tryz.underlying246 rfl (by first | kernel_rfl | (rw [enc_size]; kernel_rfl)) ?_)
    refine (TG.out _).mono ?_
    rintro e w6 ⟨rfl, hb6⟩
    have H6 := Lib.hid (H4.out.step hb6)
    clear hb6 H4
    go_wp2_with (refine wpList_put rfl 168 (.tmp 10) (.tmp 34) rfl (W.heap.size + 2) (decE (togC m n) (togS n s)) rfl rfl 168 _ (H6.out.get 4 rfl) (by first | kernel_rfl | (rw [enc_size]; kernel_rfl)) (by first | rfl | (rw [enc_size]; rfl)) (by first | exact enc_all _ | exact numE_all _ _ _ | exact decE_all _ _ | (rw [Array.all_eq_true']; simp [Value.oneCell'])) ?_
                 intro W7 HB7 hfar7 hbel7 hsz7 hcell7)
    have H7 := hbel7 W.heap.size W (by omega) H6.out.below
    exact bodyPost_ret (results_row_tmp rfl _ W7 (W.heap.size + 2) 168 _ _ _ rfl HB7 Tryz.underlying168 rfl (by kernel_rfl) rfl) rfl ⟨rfl, H7⟩
  | true =>
    obtain rfl : n = q + 1 := HN.out
    go_wp2_with (refine wpList_load_row rfl 246 (.tmp 12) rfl g rfl 246 (enc q) (0, 0) _ (H4.out.get 1 rfl) Tryz.underlying246 rfl (by first | kernel_rfl | (rw [enc_size]; kernel_rfl)) ?_)
    refine (C1.out _).mono ?_
    rintro e w5 ⟨rfl, hb5⟩
    have H5 := Lib.hid (H4.out.step hb5)
    clear hb5 H4
    go_wp2_with (first
      | (refine wpList_put rfl 246 (.tmp 12) (.tmp 28) rfl g (enc (q + 1)) rfl rfl 246 _ (H5.out.get 1 rfl) (by first | kernel_rfl | (rw [enc_size]; kernel_rfl)) (by first | rfl | (rw [enc_size]; rfl)) (by first | exact enc_all _ | exact numE_all _ _ _ | exact decE_all _ _ | (rw [Array.all_eq_true']; simp [Value.oneCell'])) ?_
         intro W2 HB2 hfar2 hbel2 hsz2 hcell2
         have H2 := Lib.hid (H5.out.upd 1 rfl (by have := hgW.out; omega) (by simp; have := hgW.out; omega) HB2 hfar2 hbel2)
         clear HB2 hfar2 hbel2 hsz2 hcell2)
      | (refine wpList_load_row rfl 246 (.tmp 12) rfl g rfl 246 #[.int .u64 (w (q + 1) 0 : Nat), .int .u64 (w (q + 1) 1 : Nat), .int .u64 (w (q + 1) 2 : Nat), .int .u64 (w (q + 1) 3 : Nat), .int .u64 (w (q + 1) 4 : Nat), .int .u64 (w (q + 1) 5 : Nat)] (0, 0) _ (H2.out.get 1 rfl) Tryz.underlying246 rfl (by first | kernel_rfl | (rw [enc_size]; kernel_rfl)) ?_))
    refine (TG.out _).mono ?_
    rintro e w6 ⟨rfl, hb6⟩
    have H6 := Lib.hid (H2.out.step hb6)
    clear hb6 H2
    go_wp2_with (refine wpList_put rfl 168 (.tmp 10) (.tmp 34) rfl (W.heap.size + 2) (decE (togC m (q + 1)) (togS (q + 1) s)) rfl rfl 168 _ (H6.out.get 4 rfl) (by first | kernel_rfl | (rw [enc_size]; kernel_rfl)) (by first | rfl | (rw [enc_size]; rfl)) (by first | exact enc_all _ | exact numE_all _ _ _ | exact decE_all _ _ | (rw [Array.all_eq_true']; simp [Value.oneCell'])) ?_
                 intro W7 HB7 hfar7 hbel7 hsz7 hcell7)
    have H7 := hbel7 W.heap.size W (by omega) H6.out.below
    exact bodyPost_ret (results_row_tmp rfl _ W7 (W.heap.size + 2) 168 _ _ _ rfl HB7 Tryz.underlying168 rfl (by kernel_rfl) rfl) rfl ⟨rfl, H7⟩
end Go.Proofs.YtlfomhdphbchpaaGreatDoor.Dec

/-! dec: scaled (where no figure is lost), Mul -/
namespace Go.Proofs.YtlfomhdphbchpaaGreatDoor.Dec
open Go.RowKit Go.Deep Go.Proofs.YtlfomhdphbchpaaGreatDoor.Wide
set_option linter.unusedVariables false
set_option linter.unusedSimpArgs false
theorem roundN_one (mode : Int) (m : Bool) (a : Nat) : roundN mode m a 1 = a := by
  unfold roundN moreB; rw [Nat.mod_one, Nat.div_one]; simp
theorem rounded1_ok (m : Bool) (a : Nat) (s mode : Int) (hmode : 0 ≤ mode ∧ mode ≤ 6) (ha : a + 1 < P 6) (W : World) :
    Calls Tryz.prog 150 #[.bool m, .agg (enc a), .agg #[.int .u64 1, .int .u64 0, .int .u64 0, .int .u64 0, .int .u64 0, .int .u64 0], .int .i64 s, .int .i64 mode] W fun e w' => e = .returned (.tuple #[.agg (decE (togC m a) (togS a s)), .int .i64 (togE a)]) ∧ Below W.heap.size W w' := by
  have := rounded_ok m a 1 s mode hmode ha (by decide) (by decide +kernel) W
  unfold rndC at this
  rw [roundN_one, enc_small 1 (by decide)] at this
  exact this
theorem big_lt : 10 ^ 18 * (T * T) + 1 < P 6 := by decide +kernel
set_option maxHeartbeats 4000000 in
set_option maxRecDepth 100000 in
theorem scaled_ok (m : Bool) (n : Nat) (s u mode : Int) (hmode : 0 ≤ mode ∧ mode ≤ 6) (hn : n ≤ T * T) (h0 : 0 ≤ s) (h1 : s ≤ u) (h2 : u ≤ 18) (W : World) :
    Calls Tryz.prog 179 #[.bool m, .agg (enc n), .int .i64 s, .int .i64 u, .int .i64 mode] W fun e w' => e = .returned (.tuple #[.agg (decE (togC m (n * 10 ^ (u - s).toNat)) (togS (n * 10 ^ (u - s).toNat) u)), .int .i64 (togE (n * 10 ^ (u - s).toNat))]) ∧ Below W.heap.size W w' := by
  obtain ⟨k, hk⟩ : ∃ k : Nat, k = (u - s).toNat := ⟨_, rfl⟩
  have hks : u - s = (k : Int) := by omega
  rw [← hk]
  have hk18 : k ≤ 18 := by omega
  have es : IntKind.i64.wrap (u - s) = (k : Int) := by rw [hks]; exact IntWalk.i64_in _ (by omega)
  have hlt : n * 10 ^ k + 1 < P 6 := by
    have h1 : 10 ^ k * n ≤ 10 ^ 18 * (T * T) := Nat.mul_le_mul (Nat.pow_le_pow_right (by decide) hk18) hn
    rw [Nat.mul_comm]; have := big_lt; omega
  have hn6 : n < P 6 := by have := big_lt; have : T * T ≤ 10 ^ 18 * (T * T) := Nat.le_mul_of_pos_left _ (by decide); omega
  have CT := Lib.hid (fun W' => ten_ok k (by omega) W')
  have CM := Lib.hid (fun W' => mul_ok n (10 ^ k) hn6 W')
  have CR := Lib.hid (fun W' => rounded1_ok m (n * 10 ^ k) u mode hmode hlt W')
  obtain ⟨a, ha⟩ : ∃ a, a = n * 10 ^ k := ⟨_, rfl⟩
  rw [← ha] at CR CM ⊢
  have hge : decide (s ≤ u) = true := by simpa using h1
  have hinit : ∀ w1, w1 = (W.alloc (.cells (enc n) 246)).alloc (.cells #[.int .i64 0, .int .u64 0, .int .i64 0] 168) →
      Has W [(W.heap.size, 246, enc n), (W.heap.size + 1, 168, decE 0 0)] w1 := fun w1 e => by
    subst e
    refine Has.cons ?_ (Has.cons ?_ (Has.nil ?_))
    · exact (Blk.new _ _ _).alloc _
    · exact Blk.new' (by simp)
    · exact Below.al (Below.al (Below.refl _ _) _) _
  have HI := Lib.hid (hinit _ rfl)
  clear hinit hks hk hlt hn6 ha hn hmode
  go_enter Tryz.func179, Tryz.ntmps179
  go_wp2_with fail
  refine wp_region_reg (fun w' => Has W [(W.heap.size, 246, enc n), (W.heap.size + 1, 168, decE 0 0)] w') (fun _ => (0, #[])) [0, 1, 2, 3, 4, 5, 6, 7, 8, 9, 10, 11, 12] [] [13, 14] (by kernel_rfl) (by kernel_rfl) (fun w w' h hb => h.step hb) ?_ (fun k hk => by cases hk) ?_
  · exact HI.out.drew
  clear HI
  simp only [List.map_cons, List.map_nil, opAt, List.getElem?_cons_succ, List.getElem?_cons_zero, Option.getD_some]
  repeat (refine wpB_pure rfl ?_; go_big_quiet_step ((intro _; rfl)); refine wpQuiet_nil ?_)
  refine wpB_pure rfl ?_
  refine wpQuiet_row 246 (.tmp 6) rfl rfl W.heap.size rfl 246 (enc n) _ (fun w hw => hw.get 0 rfl) Tryz.underlying246 rfl (by first | kernel_rfl | (rw [enc_size]; kernel_rfl)) (fun KK hKK => ?_)
  go_simp
  refine hKK _ ?_
  clear hKK KK
  refine wpQuiet_nil ?_
  repeat (refine wpB_pure rfl ?_; go_big_quiet_step ((intro _; rfl)); refine wpQuiet_nil ?_)
  refine wpB_call (.agg (enc (10 ^ k))) 149 #[.int .i64 (k : Int)] rfl (fun w => by go_simp) (fun w hw => CT.out _) (fun KK hKK => ?_)
  go_simp
  refine hKK _ ?_
  clear hKK KK
  refine wpB_call (.agg (enc a)) 148 #[.agg (enc n), .agg (enc (10 ^ k))] rfl (fun w => by go_simp) (fun w hw => CM.out _) (fun KK hKK => ?_)
  go_simp
  refine hKK _ ?_
  clear hKK KK
  repeat (refine wpB_pure rfl ?_; go_big_quiet_step ((intro _; rfl)); refine wpQuiet_nil ?_)
  refine wpB_call (.tuple #[.agg (decE (togC m a) (togS a u)), .int .i64 (togE a)]) 150 #[.bool m, .agg (enc a), .agg #[.int .u64 1, .int .u64 0, .int .u64 0, .int .u64 0, .int .u64 0, .int .u64 0], .int .i64 u, .int .i64 mode] rfl (fun w => by go_simp) (fun w hw => CR.out _) (fun KK hKK => ?_)
  go_simp
  refine hKK _ ?_
  clear hKK KK
  repeat (refine wpB_pure rfl ?_; go_big_quiet_step ((intro _; rfl)); refine wpQuiet_nil ?_)
  refine wpB_nil ?_
  intro gs w2 H2
  intro hmade
  simp only [putAll, opAt, List.getElem?_cons_succ, List.getElem?_cons_zero, Option.getD_some, Act.put]
  clear hmade
  refine wpList_put rfl 168 (.tmp 10) (.tmp 26) rfl (W.heap.size + 1) (decE (togC m a) (togS a u)) rfl rfl 168 _ (H2.get 1 rfl) (by first | kernel_rfl | (rw [enc_size]; kernel_rfl)) (by first | rfl | (rw [enc_size]; rfl)) (by first | exact enc_all _ | exact numE_all _ _ _ | exact decE_all _ _ | (rw [Array.all_eq_true']; simp [Value.oneCell'])) ?_
  intro W4 HB4 hfar4 hbel4 hsz4 hcell4
  have H4 := hbel4 W.heap.size W (by omega) H2.below
  go_wp2_with fail
  rw [onlyNormal_normal]
  go_wp2_with fail
  exact bodyPost_ret (results_row_tmp rfl _ W4 (W.heap.size + 1) 168 _ _ _ rfl HB4 Tryz.underlying168 rfl (by kernel_rfl) rfl) rfl ⟨rfl, H4⟩
end Go.Proofs.YtlfomhdphbchpaaGreatDoor.Dec

/-! dec: Mul (of whole numbers) -/
namespace Go.Proofs.YtlfomhdphbchpaaGreatDoor.Dec
open Go.RowKit Go.Deep Go.Proofs.YtlfomhdphbchpaaGreatDoor.Wide
set_option linter.unusedVariables false
set_option linter.unusedSimpArgs false
/-- the sign of a product -/
def mulM (a b : Int) : Bool := !(decide (a < 0) == decide (b < 0))
def mulN (a b : Int) : Nat := a.natAbs * b.natAbs
theorem chk0 {a : Int} (h : a ≠ -170141183460469231731687303715884105728) : chk a 0 = 0 := chk_yes (by omega)
set_option maxHeartbeats 4000000 in
set_option maxRecDepth 100000 in
theorem mul0_ok (a b mode : Int) (hmode : 0 ≤ mode ∧ mode ≤ 6) (ha : InT a) (hb : InT b) (ha' : a ≠ -170141183460469231731687303715884105728) (hb' : b ≠ -170141183460469231731687303715884105728) (W : World) :
    Calls Tryz.prog 130 #[.agg (decE a 0), .agg (decE b 0), .int .i64 0, .int .i64 mode] W fun e w' => e = .returned (.tuple #[.agg (decE (togC (mulM a b) (mulN a b)) 0), .int .i64 (togE (mulN a b))]) ∧ Below W.heap.size W w' := by
  have CW := Lib.hid (fun W' => way_ok 0 mode ⟨by omega, by omega, hmode.1, hmode.2⟩ W')
  have CB := Lib.hid (fun W' => both_ok a 0 b 0 ha hb (chk0 ha') W')
  rw [chk0 hb'] at CB
  have CA := Lib.hid (fun W' => apart_ok a 0 ha W')
  have CC := Lib.hid (fun W' => apart_ok b 0 hb W')
  have hTT : a.natAbs * b.natAbs ≤ T * T := Nat.mul_le_mul (by unfold InT at ha; unfold T; omega) (by unfold InT at hb; unfold T; omega)
  have CM := Lib.hid (fun W' => mul_ok a.natAbs b.natAbs (abs6 ha) W')
  have CS := Lib.hid (fun W' => scaled_ok (mulM a b) (a.natAbs * b.natAbs) 0 0 mode hmode hTT (by omega) (by omega) (by omega) W')
  have e1 : a.natAbs * b.natAbs * 10 ^ (0 - 0 : Int).toNat = mulN a b := by show a.natAbs * b.natAbs * 1 = _; rw [Nat.mul_one]; rfl
  rw [e1] at CS
  have e2 : togS (mulN a b) 0 = 0 := by unfold togS; split <;> rfl
  rw [e2] at CS
  have hm : mulM a b = !(decide (a < 0) == decide (b < 0)) := rfl
  obtain ⟨m, hme⟩ : ∃ m, m = mulM a b := ⟨_, rfl⟩
  obtain ⟨p, hp⟩ : ∃ p, p = mulN a b := ⟨_, rfl⟩
  have hp' : a.natAbs * b.natAbs = p := by rw [hp]; rfl
  rw [hp'] at CM CS
  rw [← hme, ← hp] at CS ⊢
  rw [← hme] at hm
  obtain ⟨x, hx⟩ : ∃ x, x = a.natAbs := ⟨_, rfl⟩
  obtain ⟨y, hy⟩ : ∃ y, y = b.natAbs := ⟨_, rfl⟩
  obtain ⟨k, hk⟩ : ∃ k, k = decide (a < 0) := ⟨_, rfl⟩
  obtain ⟨j, hj⟩ : ∃ j, j = decide (b < 0) := ⟨_, rfl⟩
  rw [← hx, ← hk] at CA
  rw [← hy, ← hj] at CC
  rw [← hx, ← hy] at CM
  rw [← hk, ← hj] at hm
  clear hp' hp hme e1 e2 hTT hx hy hk hj hmode
  subst hm
  clear ha hb ha' hb'
  have hinit : ∀ w1, w1 = ((W.alloc (.cells (decE a 0) 168)).alloc (.cells (decE b 0) 168)).alloc (.cells #[.int .i64 0, .int .u64 0, .int .i64 0] 168) →
      Has W [(W.heap.size, 168, decE a 0), (W.heap.size + 1, 168, decE b 0), (W.heap.size + 2, 168, decE 0 0)] w1 := fun w1 e => by
    subst e
    refine Has.cons ?_ (Has.cons ?_ (Has.cons ?_ (Has.nil ?_)))
    · exact ((Blk.new _ _ _).alloc _).alloc _
    · exact (Blk.new' (by simp)).alloc _
    · exact Blk.new' (by simp)
    · exact Below.al (Below.al (Below.al (Below.refl _ _) _) _) _
  have HI := Lib.hid (hinit _ rfl)
  clear hinit
  rw [decE, decE]
  go_enter Tryz.func130, Tryz.ntmps130
  go_wp2_with fail
  refine (CW.out _).mono ?_
  rintro e w1 ⟨rfl, rfl⟩
  go_wp2_with fail
  refine (CB.out _).mono ?_
  rintro e w1 ⟨rfl, hb1⟩
  have H1 := Lib.hid (HI.out.step hb1)
  clear hb1 HI
  go_wp2_with fail
  refine wp_region_reg (fun w' => Has W [(W.heap.size, 168, decE a 0), (W.heap.size + 1, 168, decE b 0), (W.heap.size + 2, 168, decE 0 0)] w') (fun _ => (248, numE false 0 0)) [0, 1, 2, 3] [4, 5] [6, 7] (by kernel_rfl) (by kernel_rfl) (fun w w' h hb => h.step hb) ?_ (fun k hk => by simp only [List.mem_cons, List.not_mem_nil, or_false] at hk; first | (subst hk; exact ⟨rfl, fun a w => by simp only [opAt, List.getElem?_cons_succ, List.getElem?_cons_zero, Option.getD_some]; go_simp <;> rfl⟩) | (rcases hk with rfl | rfl <;> exact ⟨rfl, fun a w => by simp only [opAt, List.getElem?_cons_succ, List.getElem?_cons_zero, Option.getD_some]; go_simp <;> rfl⟩)) ?_
  · exact H1.out.drew
  have hN := Lib.hid (H1.out.get 2 rfl).lt
  clear H1
  simp only [List.map_cons, List.map_nil, opAt, List.getElem?_cons_succ, List.getElem?_cons_zero, Option.getD_some]
  refine wpB_pure rfl ?_
  refine wpQuiet_row 168 (.tmp 4) rfl rfl W.heap.size rfl 168 (decE a 0) _ (fun w hw => hw.get 0 rfl) Tryz.underlying168 rfl (by first | kernel_rfl | (rw [enc_size]; kernel_rfl)) (fun KK hKK => ?_)
  go_simp
  refine hKK _ ?_
  clear hKK KK
  refine wpQuiet_nil ?_
  refine wpB_call (.agg (numE k x 0)) 143 #[.agg (decE a 0)] rfl (fun w => by go_simp) (fun w hw => CA.out _) (fun KK hKK => ?_)
  go_simp
  refine hKK _ ?_
  clear hKK KK
  refine wpB_pure rfl ?_
  refine wpQuiet_row 168 (.tmp 5) rfl rfl (W.heap.size + 1) rfl 168 (decE b 0) _ (fun w hw => hw.get 1 rfl) Tryz.underlying168 rfl (by first | kernel_rfl | (rw [enc_size]; kernel_rfl)) (fun KK hKK => ?_)
  go_simp
  refine hKK _ ?_
  clear hKK KK
  refine wpQuiet_nil ?_
  refine wpB_call (.agg (numE j y 0)) 143 #[.agg (decE b 0)] rfl (fun w => by go_simp) (fun w hw => CC.out _) (fun KK hKK => ?_)
  go_simp
  refine hKK _ ?_
  clear hKK KK
  refine wpB_nil ?_
  intro gs w2 H2
  intro hmade
  simp only [putAll, opAt, List.getElem?_cons_succ, List.getElem?_cons_zero, Option.getD_some, Act.put]
  obtain ⟨g, hg⟩ : ∃ g, g = gs 4 := ⟨_, rfl⟩
  obtain ⟨f, hf⟩ : ∃ f, f = gs 5 := ⟨_, rfl⟩
  obtain ⟨g1, g2⟩ := hmade.1 4 (by simp)
  obtain ⟨f1, f2⟩ := hmade.1 5 (by simp)
  have hgf := hmade.2 4 (by simp) 5 (by simp) (by decide)
  rw [← hg] at g1 g2 hgf ⊢
  rw [← hf] at f1 f2 hgf ⊢
  have hgW : Hid (W.heap.size + 2 < g ∧ W.heap.size + 2 < f ∧ g ≠ f) := Lib.hid ⟨Nat.lt_of_lt_of_le hN.out g1, Nat.lt_of_lt_of_le hN.out f1, hgf⟩
  have H3 := Lib.hid (Has.cons g2 (Has.cons f2 H2))
  clear hmade hg hf g1 g2 f1 f2 hgf H2 hN
  refine wpList_put rfl 248 (.tmp 12) (.tmp 29) rfl g (numE k x 0) rfl rfl 248 _ (H3.out.get 0 rfl) (by first | kernel_rfl | (rw [enc_size]; kernel_rfl)) (by first | rfl | (rw [enc_size]; rfl)) (by first | exact enc_all _ | exact numE_all _ _ _ | exact decE_all _ _ | (rw [Array.all_eq_true']; simp [Value.oneCell'])) ?_
  intro W4 HB4 hfar4 hbel4 hsz4 hcell4
  have H4 := Lib.hid (H3.out.upd 0 rfl (by have := hgW.out; omega) (by simp; have := hgW.out; omega) HB4 hfar4 hbel4)
  clear HB4 hfar4 hbel4 hsz4 hcell4 H3
  refine wpList_put rfl 248 (.tmp 13) (.tmp 31) rfl f (numE j y 0) rfl rfl 248 _ (H4.out.get 1 rfl) (by first | kernel_rfl | (rw [enc_size]; kernel_rfl)) (by first | rfl | (rw [enc_size]; rfl)) (by first | exact enc_all _ | exact numE_all _ _ _ | exact decE_all _ _ | (rw [Array.all_eq_true']; simp [Value.oneCell'])) ?_
  intro W5 HB5 hfar5 hbel5 hsz5 hcell5
  have H5 := Lib.hid (H4.out.upd 1 rfl (by have := hgW.out; omega) (by simp; have := hgW.out; omega) HB5 hfar5 hbel5)
  clear HB5 hfar5 hbel5 hsz5 hcell5 H4
  go_wp2_with fail
  rw [onlyNormal_normal]
  go_wp2_with fail
  refine wp_region_reg (fun w' => Has W [(g, 248, numE k x 0), (f, 248, numE j y 0), (W.heap.size, 168, decE a 0), (W.heap.size + 1, 168, decE b 0), (W.heap.size + 2, 168, decE 0 0)] w') (fun _ => (0, #[])) [0, 1, 2, 3, 4, 5, 6, 7, 8, 9, 10, 11, 12, 13, 14, 15, 16, 17, 18, 19] [] [20, 21] (by kernel_rfl) (by kernel_rfl) (fun w w' h hb => h.step hb) ?_ (fun k hk => by cases hk) ?_
  · exact H5.out.drew
  clear H5
  simp only [List.map_cons, List.map_nil, opAt, List.getElem?_cons_succ, List.getElem?_cons_zero, Option.getD_some]
  repeat (refine wpB_pure rfl ?_; go_big_quiet_step ((intro _; rfl)); refine wpQuiet_nil ?_)
  refine wpB_pure rfl ?_
  refine wpQuiet_cell 4 (.tmp 32) rfl rfl ⟨g, 0, none⟩ rfl (.bool k) _ (fun w hw => (hw.get 0 rfl).cell 0) Tryz.underlying4 rfl (fun KK hKK => ?_)
  go_simp
  refine hKK _ ?_
  clear hKK KK
  refine wpQuiet_nil ?_
  repeat (refine wpB_pure rfl ?_; go_big_quiet_step ((intro _; rfl)); refine wpQuiet_nil ?_)
  refine wpB_pure rfl ?_
  refine wpQuiet_cell 4 (.tmp 34) rfl rfl ⟨f, 0, none⟩ rfl (.bool j) _ (fun w hw => (hw.get 1 rfl).cell 0) Tryz.underlying4 rfl (fun KK hKK => ?_)
  go_simp
  refine hKK _ ?_
  clear hKK KK
  refine wpQuiet_nil ?_
  repeat (refine wpB_pure rfl ?_; go_big_quiet_step ((intro _; rfl)); refine wpQuiet_nil ?_)
  refine wpB_pure rfl ?_
  refine wpQuiet_part 246 (.tmp 37) rfl rfl g 1 rfl 248 (numE k x 0) (enc x) _ (fun w hw => hw.get 0 rfl) (num_part k x 0) Tryz.underlying246 rfl (by first | kernel_rfl | (rw [enc_size]; kernel_rfl)) (fun KK hKK => ?_)
  go_simp
  refine hKK _ ?_
  clear hKK KK
  refine wpQuiet_nil ?_
  repeat (refine wpB_pure rfl ?_; go_big_quiet_step ((intro _; rfl)); refine wpQuiet_nil ?_)
  refine wpB_pure rfl ?_
  refine wpQuiet_part 246 (.tmp 39) rfl rfl f 1 rfl 248 (numE j y 0) (enc y) _ (fun w hw => hw.get 1 rfl) (num_part j y 0) Tryz.underlying246 rfl (by first | kernel_rfl | (rw [enc_size]; kernel_rfl)) (fun KK hKK => ?_)
  go_simp
  refine hKK _ ?_
  clear hKK KK
  refine wpQuiet_nil ?_
  refine wpB_call (.agg (enc p)) 148 #[.agg (enc x), .agg (enc y)] rfl (fun w => by go_simp) (fun w hw => CM.out _) (fun KK hKK => ?_)
  go_simp
  refine hKK _ ?_
  clear hKK KK
  repeat (refine wpB_pure rfl ?_; go_big_quiet_step ((intro _; rfl)); refine wpQuiet_nil ?_)
  refine wpB_pure rfl ?_
  refine wpQuiet_cell 3 (.tmp 42) rfl rfl ⟨g, 7, none⟩ rfl (.int .i64 0) _ (fun w hw => (hw.get 0 rfl).cell 7) Tryz.underlying3 rfl (fun KK hKK => ?_)
  go_simp
  refine hKK _ ?_
  clear hKK KK
  refine wpQuiet_nil ?_
  repeat (refine wpB_pure rfl ?_; go_big_quiet_step ((intro _; rfl)); refine wpQuiet_nil ?_)
  refine wpB_pure rfl ?_
  refine wpQuiet_cell 3 (.tmp 44) rfl rfl ⟨f, 7, none⟩ rfl (.int .i64 0) _ (fun w hw => (hw.get 1 rfl).cell 7) Tryz.underlying3 rfl (fun KK hKK => ?_)
  go_simp
  refine hKK _ ?_
  clear hKK KK
  refine wpQuiet_nil ?_
  repeat (refine wpB_pure rfl ?_; go_big_quiet_step ((intro _; rfl)); refine wpQuiet_nil ?_)
  refine wpB_call (.tuple #[.agg (decE (togC (!(k == j)) p) 0), .int .i64 (togE p)]) 179 #[.bool (!(k == j)), .agg (enc p), .int .i64 0, .int .i64 0, .int .i64 mode] rfl (fun w => by go_simp) (fun w hw => CS.out _) (fun KK hKK => ?_)
  go_simp
  refine hKK _ ?_
  clear hKK KK
  repeat (refine wpB_pure rfl ?_; go_big_quiet_step ((intro _; rfl)); refine wpQuiet_nil ?_)
  refine wpB_nil ?_
  intro gs2 w6 H6
  intro hmade
  simp only [putAll, opAt, List.getElem?_cons_succ, List.getElem?_cons_zero, Option.getD_some, Act.put]
  clear hmade
  refine wpList_put rfl 168 (.tmp 8) (.tmp 50) rfl (W.heap.size + 2) (decE (togC (!(k == j)) p) 0) rfl rfl 168 _ (H6.get 4 rfl) (by first | kernel_rfl | (rw [enc_size]; kernel_rfl)) (by first | rfl | (rw [enc_size]; rfl)) (by first | exact enc_all _ | exact numE_all _ _ _ | exact decE_all _ _ | (rw [Array.all_eq_true']; simp [Value.oneCell'])) ?_
  intro W7 HB7 hfar7 hbel7 hsz7 hcell7
  have H7 := hbel7 W.heap.size W (by omega) H6.below
  go_wp2_with fail
  rw [onlyNormal_normal]
  go_wp2_with fail
  exact bodyPost_ret (results_row_tmp rfl _ W7 (W.heap.size + 2) 168 _ _ _ rfl HB7 Tryz.underlying168 rfl (by kernel_rfl) rfl) rfl ⟨rfl, H7⟩
end Go.Proofs.YtlfomhdphbchpaaGreatDoor.Dec
