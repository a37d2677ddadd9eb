/- Lemmas of a claim, several texts in one: DecD, DecE, DecF -/
import Derived.Test.YtlfomhdphbchpaaGreatDoorG07
import Derived.Test.YtlfomhdphbchpaaGreatDoorG08
/-! dec: together in whole; to, plus -/
namespace Go.Proofs.YtlfomhdphbchpaaGreatDoor.Dec
open Go.RowKit Go.Deep Go.Proofs.YtlfomhdphbchpaaGreatDoor.Wide
set_option linter.unusedVariables false
set_option linter.unusedSimpArgs false
theorem P2_6 {n : Nat} (h : n < P 2) : n < P 6 := Nat.lt_of_lt_of_le h (P_mono (by omega))
set_option maxHeartbeats 4000000 in
set_option maxRecDepth 100000 in
theorem tog_no (m : Bool) (n : Nat) (s : Int) (hn : ¬ n < T) (hP6 : n < P 6) (W : World) :
    Calls Tryz.prog 142 #[.agg (numE m n s)] W fun e w' => e = .returned (.tuple #[.agg (decE 0 0), .int .i64 4]) ∧ Below W.heap.size W w' := by
  have CL := Lib.hid (fun W' => lenL_ok n hP6 W')
  have hL : decide ((127 : Int) < (Go.bitLen n : Nat)) = true := by simpa using len_lt.2 hn
  obtain ⟨L, hLe⟩ : ∃ L, L = Go.bitLen n := ⟨_, rfl⟩
  rw [← hLe] at CL hL
  rw [numE]
  clear hLe hn hP6
  go_enter Tryz.func142, Tryz.ntmps142
  go_wp2_with fail
  refine (CL.out _).mono ?_
  rintro e w1 ⟨rfl, hb1⟩
  have H0 : Has W [(W.heap.size + 1, 168, #[.int .i64 0, .int .u64 0, .int .i64 0])] w1 := by
    refine Has.step (Has.cons ?_ (Has.nil ?_)) hb1
    · exact Blk.new' (by simp)
    · exact Below.al (Below.al (Below.refl _ _) _) _
  have H1 := Lib.hid H0
  clear hb1 H0
  go_wp2_with (refine wpList_put rfl 168 (.tmp 2) (.tmp 10) rfl (W.heap.size + 1) #[.int .i64 0, .int .u64 0, .int .i64 0] rfl rfl 168 _ (H1.out.get 0 rfl) (by kernel_rfl) rfl (by rw [Array.all_eq_true']; simp [Value.oneCell']) ?_
               intro W6 HB6 hfar6 hbel6 hsz6 hcell6)
  have H6 := hbel6 W.heap.size W (by omega) H1.out.below
  exact bodyPost_ret (results_row_tmp rfl _ W6 (W.heap.size + 1) 168 _ _ _ rfl HB6 Tryz.underlying168 rfl (by kernel_rfl) rfl) rfl ⟨rfl, H6⟩
/-- what comes of a sign, a size and a scale -/
def togC (m : Bool) (n : Nat) : Int := if n < T then coef m n else 0
def togS (n : Nat) (s : Int) : Int := if n < T then s else 0
def togE (n : Nat) : Int := if n < T then 0 else 4
theorem tog_all (m : Bool) (n : Nat) (s : Int) (hP6 : n < P 6) (W : World) :
    Calls Tryz.prog 142 #[.agg (numE m n s)] W fun e w' => e = .returned (.tuple #[.agg (decE (togC m n) (togS n s)), .int .i64 (togE n)]) ∧ Below W.heap.size W w' := by
  unfold togC togS togE
  by_cases h : n < T
  · rw [if_pos h, if_pos h, if_pos h]; exact tog_ok m n s h W
  · rw [if_neg h, if_neg h, if_neg h]; exact tog_no m n s h hP6 W
theorem togC_in (m : Bool) (n : Nat) : InT (togC m n) := by
  unfold togC coef InT; split
  · rename_i h; unfold T at h; split <;> omega
  · omega
theorem mulL_ok (a b : Nat) (ha : a < P 6) (W : World) : Calls Tryz.prog 148 #[.agg #[.int .u64 (w a 0 : Nat), .int .u64 (w a 1 : Nat), .int .u64 (w a 2 : Nat), .int .u64 (w a 3 : Nat), .int .u64 (w a 4 : Nat), .int .u64 (w a 5 : Nat)], .agg (enc b)] W
    fun e w' => e = .returned (.agg (enc (a * b))) ∧ Below W.heap.size W w' := mul_ok a b ha W
theorem num_part (m : Bool) (n : Nat) (s : Int) : ∀ (j : Nat) (v : Value), (enc n).toList[j]? = some v → (numE m n s)[1 + j]? = some v := by
  intro j v h
  have hj : j < 6 := by
    have := (List.getElem?_eq_some_iff.1 h).1
    simpa [enc_size] using this
  have : j = 0 ∨ j = 1 ∨ j = 2 ∨ j = 3 ∨ j = 4 ∨ j = 5 := by omega
  rcases this with rfl | rfl | rfl | rfl | rfl | rfl <;> exact h
theorem num_splice (m : Bool) (n k : Nat) (s : Int) : splice (numE m n s) 1 (enc k) = numE m k s := rfl
set_option maxHeartbeats 4000000 in
set_option maxRecDepth 100000 in
theorem to_ok (m : Bool) (n : Nat) (s u : Int) (hn : n < P 6) (h0 : 0 ≤ s) (h1 : s ≤ u) (h2 : u ≤ 36) (W : World) :
    Calls Tryz.prog 144 #[.agg (numE m n s), .int .i64 u] W fun e w' => e = .returned (.agg (numE m (n * 10 ^ (u - s).toNat) u)) ∧ Below W.heap.size W w' := by
  obtain ⟨k, hk⟩ : ∃ k : Nat, k = (u - s).toNat := ⟨_, rfl⟩
  have hks : u - s = (k : Int) := by omega
  rw [← hk]
  have hk36 : k ≤ 100 := by omega
  have es : IntKind.i64.wrap (u - s) = (k : Int) := by rw [hks]; exact IntWalk.i64_in _ (by omega)
  have CT := Lib.hid (fun W' => ten_ok k hk36 W')
  have CM := Lib.hid (fun W' => mul_ok n (10 ^ k) hn W')
  have HS := Lib.hid hks
  clear hk hks
  go_enter Tryz.func144, Tryz.ntmps144
  go_wp2_with fail
  refine wp_region_classZ (fun w' => Has W [(W.heap.size, 248, numE m n s), (W.heap.size + 1, 248, numE false 0 0)] w') [0, 1, 2, 3, 4, 5, 6, 7, 8] 9 (by kernel_rfl) (by kernel_rfl) ?_ ?_
  · refine Has.drew (Has.cons ?_ (Has.cons ?_ (Has.nil ?_)))
    · exact (Blk.new _ _ _).alloc _
    · exact Blk.new' (by simp)
    · exact Below.al (Below.al (Below.refl _ _) _) _
  simp only [List.map_cons, List.map_nil, opAt, List.getElem?_cons_succ, List.getElem?_cons_zero, Option.getD_some]
  repeat (go_big_quiet_step ((intro _; rfl)))
  refine wpQuiet_part 246 (.tmp 5) rfl rfl W.heap.size 1 rfl 248 (numE m n s) (enc n) _ (fun w hw => hw.get 0 rfl) (num_part m n s) Tryz.underlying246 rfl (by first | kernel_rfl | (rw [enc_size]; kernel_rfl)) (fun KK hKK => ?_)
  go_simp
  refine hKK _ ?_
  clear hKK KK
  repeat (go_big_quiet_step ((intro _; rfl)))
  refine wpQuiet_cell 3 (.tmp 8) rfl rfl ⟨W.heap.size, 7, none⟩ rfl (.int .i64 s) _ (fun w hw => (hw.get 0 rfl).cell 7) Tryz.underlying3 rfl (fun KK hKK => ?_)
  go_simp
  refine hKK _ ?_
  clear hKK KK
  repeat (go_big_quiet_step ((intro _; rfl)))
  go_big_quiet_step ((intro hw; exact (CT.out _).mono fun e w' h => ⟨h.1, hw.step h.2⟩))
  go_big_quiet_step ((intro hw; exact (CM.out _).mono fun e w' h => ⟨h.1, hw.step h.2⟩))
  repeat (go_big_quiet_step ((intro _; rfl)))
  refine wpQuiet_nil ?_
  intro w1 H1
  refine wpList_putP rfl 246 (.tmp 13) (.tmp 12) rfl W.heap.size 1 (enc (n * 10 ^ k)) rfl rfl 248 _ (numE m (n * 10 ^ k) s) (H1.get 0 rfl) (by first | kernel_rfl | (rw [enc_size]; kernel_rfl)) (by first | decide | (simp [enc_size, numE_size]; done) | (simp [enc_size]; done)) (by first | exact enc_all _ | exact numE_all _ _ _ | exact decE_all _ _ | (rw [Array.all_eq_true']; simp [Value.oneCell'])) (num_splice m n _ s) ?_
  intro W2 HB2 hfar2 hbel2 hsz2 hcell2
  have H2 := H1.upd 0 rfl (Nat.le_refl _) (by simp) HB2 hfar2 hbel2
  have c7 := (H2.get 0 rfl).cell 7
  have f7 := (H2.get 0 rfl).frozen 7
  have H3 := Lib.hid (H2.setAt 0 rfl (Nat.le_refl _) (by simp) 7 (.int .i64 u))
  clear H1 H2 HB2 hfar2 hbel2 hsz2 hcell2
  go_wp2_with fail
  rw [onlyNormal_normal]
  go_wp2_with (first
    | (refine wpList_load_row rfl 248 (.tmp 2) rfl W.heap.size rfl 248 (numE m (n * 10 ^ k) u) (0, 0) _ (H3.out.get 0 rfl) Tryz.underlying248 rfl (by first | kernel_rfl | (rw [enc_size]; kernel_rfl)) ?_)
    | (refine wpList_put rfl 248 (.tmp 4) (.tmp 16) rfl (W.heap.size + 1) (numE m (n * 10 ^ k) u) rfl rfl 248 _ (H3.out.get 1 rfl) (by first | kernel_rfl | (rw [enc_size]; kernel_rfl)) (by first | rfl | (rw [enc_size]; rfl)) (by first | exact enc_all _ | exact numE_all _ _ _ | exact decE_all _ _ | (rw [Array.all_eq_true']; simp [Value.oneCell'])) ?_
       intro W4 HB4 hfar4 hbel4 hsz4 hcell4))
  exact bodyPost_ret (results_cell_row rfl _ W4 (W.heap.size + 1) 248 (numE m (n * 10 ^ k) u) (0, 0) _ rfl HB4 Tryz.underlying248 rfl (by kernel_rfl)) rfl ⟨rfl, hbel4 _ _ (by omega) H3.out.below⟩
/-- the sum of two signed sizes -/
def plusM (m : Bool) (a : Nat) (k : Bool) (b : Nat) : Bool := if m = k then m else if b ≤ a then m else k
def plusN (m : Bool) (a : Nat) (k : Bool) (b : Nat) : Nat := if m = k then a + b else if b ≤ a then a - b else b - a
theorem plus_val (m : Bool) (a : Nat) (k : Bool) (b : Nat) : coef (plusM m a k b) (plusN m a k b) = coef m a + coef k b := by
  unfold coef plusM plusN
  by_cases h : m = k
  · subst h; simp only [if_true]; cases m <;> simp <;> omega
  · simp only [if_neg h]
    by_cases h2 : b ≤ a
    · simp only [if_pos h2]; cases m <;> cases k <;> simp at h ⊢ <;> omega
    · simp only [if_neg h2]; cases m <;> cases k <;> simp at h ⊢ <;> omega
set_option maxHeartbeats 4000000 in
set_option maxRecDepth 100000 in
theorem plus_ok (m : Bool) (a : Nat) (k : Bool) (b : Nat) (s u : Int) (ha : a < P 6) (hb : b < P 6) (W : World) :
    Calls Tryz.prog 145 #[.agg (numE m a s), .agg (numE k b u)] W fun e w' => e = .returned (.agg (numE (plusM m a k b) (plusN m a k b) s)) ∧ Below W.heap.size W w' := by
  have hinit : ∀ w1, w1 = ((W.alloc (.cells (numE m a s) 248)).alloc (.cells (numE k b u) 248)).alloc (.cells #[.bool false, .int .u64 0, .int .u64 0, .int .u64 0, .int .u64 0, .int .u64 0, .int .u64 0, .int .i64 0] 248) →
      Has W [(W.heap.size, 248, numE m a s), (W.heap.size + 1, 248, numE k b u), (W.heap.size + 2, 248, numE false 0 0)] w1 := fun w1 e => by
    subst e
    refine Has.cons ?_ (Has.cons ?_ (Has.cons ?_ (Has.nil ?_)))
    · exact ((Blk.new _ _ _).alloc _).alloc _
    · exact (Blk.new' (by simp)).alloc _
    · exact Blk.new' (by simp)
    · exact Below.al (Below.al (Below.al (Below.refl _ _) _) _) _
  by_cases hmk : m = k
  · subst hmk
    have e1 : plusM m a m b = m := by simp [plusM]
    have e2 : plusN m a m b = a + b := by simp [plusN]
    rw [e1, e2]
    clear e1 e2
    rw [numE, numE]
    go_enter Tryz.func145, Tryz.ntmps145
    go_wp2_with fail
    refine (add_ok a b _).mono ?_
    rintro e w1 ⟨rfl, hb1⟩
    have H1 := Lib.hid ((hinit _ rfl).step hb1)
    clear hb1 hinit
    go_wp2_with (first
      | (refine wpList_putP rfl 246 (.tmp 25) (.tmp 24) rfl W.heap.size 1 (enc (a + b)) rfl rfl 248 _ (numE m (a + b) s) (H1.out.get 0 rfl) (by first | kernel_rfl | (rw [enc_size]; kernel_rfl)) (by first | decide | (simp [enc_size, numE_size]; done) | (simp [enc_size]; done)) (by first | exact enc_all _ | exact numE_all _ _ _ | exact decE_all _ _ | (rw [Array.all_eq_true']; simp [Value.oneCell'])) (num_splice m a _ s) ?_
         intro W2 HB2 hfar2 hbel2 hsz2 hcell2
         have H2 := Lib.hid (H1.out.upd 0 rfl (Nat.le_refl _) (by simp) HB2 hfar2 hbel2)
         clear H1 HB2 hfar2 hbel2 hsz2 hcell2)
      | (refine wpList_load_row rfl 248 (.tmp 2) rfl W.heap.size rfl 248 (numE m (a + b) s) (0, 0) _ (H2.out.get 0 rfl) Tryz.underlying248 rfl (by first | kernel_rfl | (rw [enc_size]; kernel_rfl)) ?_)
      | (refine wpList_put rfl 248 (.tmp 4) (.tmp 39) rfl (W.heap.size + 2) (numE m (a + b) s) rfl rfl 248 _ (H2.out.get 2 rfl) (by first | kernel_rfl | (rw [enc_size]; kernel_rfl)) (by first | rfl | (rw [enc_size]; rfl)) (by first | exact enc_all _ | exact numE_all _ _ _ | exact decE_all _ _ | (rw [Array.all_eq_true']; simp [Value.oneCell'])) ?_
         intro W4 HB4 hfar4 hbel4 hsz4 hcell4))
    exact bodyPost_ret (results_cell_row rfl _ W4 (W.heap.size + 2) 248 (numE m (a + b) s) (0, 0) _ rfl HB4 Tryz.underlying248 rfl (by kernel_rfl)) rfl ⟨rfl, hbel4 _ _ (by omega) H2.out.below⟩
  · have e0 : (m == k) = false := beq_eq_false_iff_ne.2 hmk
    by_cases hab : b ≤ a
    · have e1 : plusM m a k b = m := by simp [plusM, hmk, hab]
      have e2 : plusN m a k b = a - b := by simp [plusN, hmk, hab]
      rw [e1, e2]
      have hcv : (0 : Int) ≤ cmpv a b := cmpv_ge.2 hab
      clear e1 e2 hmk
      rw [numE, numE]
      go_enter Tryz.func145, Tryz.ntmps145
      go_wp2_with fail
      refine (cmp_ok a b ha hb _).mono ?_
      rintro e w0 ⟨rfl, hb0⟩
      have H0 := Lib.hid ((hinit _ rfl).step hb0)
      clear hb0 hinit
      go_wp2_with (first
        | (refine wpList_load_part rfl 246 (.tmp 33) rfl W.heap.size 1 rfl 248 (numE m a s) (enc a) _ (H0.out.get 0 rfl) (num_part m a s) Tryz.underlying246 rfl (by first | kernel_rfl | (rw [enc_size]; kernel_rfl)) ?_)
        | (refine wpList_load_part rfl 246 (.tmp 35) rfl (W.heap.size + 1) 1 rfl 248 (numE k b u) (enc b) _ (H0.out.get 1 rfl) (num_part k b u) Tryz.underlying246 rfl (by first | kernel_rfl | (rw [enc_size]; kernel_rfl)) ?_))
      refine (sub_ok a b hab _).mono ?_
      rintro e w1 ⟨rfl, hb1⟩
      have H1 := Lib.hid (H0.out.step hb1)
      clear hb1 H0
      go_wp2_with (first
        | (refine wpList_putP rfl 246 (.tmp 38) (.tmp 37) rfl W.heap.size 1 (enc (a - b)) rfl rfl 248 _ (numE m (a - b) s) (H1.out.get 0 rfl) (by first | kernel_rfl | (rw [enc_size]; kernel_rfl)) (by first | decide | (simp [enc_size, numE_size]; done) | (simp [enc_size]; done)) (by first | exact enc_all _ | exact numE_all _ _ _ | exact decE_all _ _ | (rw [Array.all_eq_true']; simp [Value.oneCell'])) (num_splice m a _ s) ?_
           intro W2 HB2 hfar2 hbel2 hsz2 hcell2
           have H2 := Lib.hid (H1.out.upd 0 rfl (Nat.le_refl _) (by simp) HB2 hfar2 hbel2)
           clear H1 HB2 hfar2 hbel2 hsz2 hcell2)
        | (refine wpList_load_row rfl 248 (.tmp 2) rfl W.heap.size rfl 248 (numE m (a - b) s) (0, 0) _ (H2.out.get 0 rfl) Tryz.underlying248 rfl (by first | kernel_rfl | (rw [enc_size]; kernel_rfl)) ?_)
        | (refine wpList_put rfl 248 (.tmp 4) (.tmp 39) rfl (W.heap.size + 2) (numE m (a - b) s) rfl rfl 248 _ (H2.out.get 2 rfl) (by first | kernel_rfl | (rw [enc_size]; kernel_rfl)) (by first | rfl | (rw [enc_size]; rfl)) (by first | exact enc_all _ | exact numE_all _ _ _ | exact decE_all _ _ | (rw [Array.all_eq_true']; simp [Value.oneCell'])) ?_
           intro W4 HB4 hfar4 hbel4 hsz4 hcell4))
      exact bodyPost_ret (results_cell_row rfl _ W4 (W.heap.size + 2) 248 (numE m (a - b) s) (0, 0) _ rfl HB4 Tryz.underlying248 rfl (by kernel_rfl)) rfl ⟨rfl, hbel4 _ _ (by omega) H2.out.below⟩
    · have e1 : plusM m a k b = k := by simp [plusM, hmk, hab]
      have e2 : plusN m a k b = b - a := by simp [plusN, hmk, hab]
      rw [e1, e2]
      have hcv : cmpv a b < 0 := by have := mt cmpv_ge.1 hab; omega
      have hba : a ≤ b := by omega
      clear e1 e2 hmk hab
      rw [numE, numE]
      go_enter Tryz.func145, Tryz.ntmps145
      go_wp2_with fail
      refine (cmp_ok a b ha hb _).mono ?_
      rintro e w0 ⟨rfl, hb0⟩
      have H0 := Lib.hid ((hinit _ rfl).step hb0)
      clear hb0 hinit
      go_wp2_with fail
      refine wp_region_tree (C := fun w' => Has W [(W.heap.size + 1, 248, numE k b u)] w') (.seg [0, 1, 2, 5, 6] (.turn 3 (.turn 4 (.turn 7 (.turn 8 (.turn 9 (.turn 10 .nil))))))) (by kernel_rfl) (by kernel_rfl) (H0.out.drew.of_mem (by simp)) ?_
      simp only [wpPlan, List.map_cons, List.map_nil, opAt, List.getElem?_cons_succ, List.getElem?_cons_zero, Option.getD_some]
      repeat (go_big_quiet_step ((intro _; rfl)))
      refine wpQuiet_part 246 (.tmp 5) rfl rfl (W.heap.size + 1) 1 rfl 248 (numE k b u) (enc b) _ (fun w hw => hw.get 0 rfl) (num_part k b u) Tryz.underlying246 rfl (by first | kernel_rfl | (rw [enc_size]; kernel_rfl)) (fun KK hKK => ?_)
      go_simp
      refine hKK _ ?_
      clear hKK KK
      repeat (go_big_quiet_step ((intro _; rfl)))
      refine wpQuiet_cell 4 (.tmp 10) rfl rfl ⟨(W.heap.size + 1), 0, none⟩ rfl (.bool k) _ (fun w hw => (hw.get 0 rfl).cell 0) Tryz.underlying4 rfl (fun KK hKK => ?_)
      go_simp
      refine hKK _ ?_
      clear hKK KK
      repeat (go_big_quiet_step ((intro _; rfl)))
      refine wpQuiet_nil ?_
      have HD := Lib.hid H0.out.drew
      (refine wpList_load_part rfl 246 (.tmp 7) rfl W.heap.size 1 rfl 248 (numE m a s) (enc a) _ (HD.out.get 0 rfl) (num_part m a s) Tryz.underlying246 rfl (by first | kernel_rfl | (rw [enc_size]; kernel_rfl)) ?_)
      go_wp2_with fail
      refine ⟨HD.out.of_mem (by simp), ?_⟩
      go_wp2_with fail
      refine (sub_ok b a hba _).mono ?_
      rintro e w1 ⟨rfl, hb1⟩
      have H1 := HD.out.step hb1
      clear hb1 HD H0
      go_wp2_with fail
      refine ⟨H1.of_mem (by simp), ?_⟩
      go_wp2_with fail
      refine ⟨H1.of_mem (by simp), ?_⟩
      refine wpList_putP rfl 246 (.tmp 12) (.tmp 9) rfl W.heap.size 1 (enc (b - a)) rfl rfl 248 _ (numE m (b - a) s) (H1.get 0 rfl) (by first | kernel_rfl | (rw [enc_size]; kernel_rfl)) (by first | decide | (simp [enc_size, numE_size]; done) | (simp [enc_size]; done)) (by first | exact enc_all _ | exact numE_all _ _ _ | exact decE_all _ _ | (rw [Array.all_eq_true']; simp [Value.oneCell'])) (num_splice m a _ s) ?_
      intro W2 HB2 hfar2 hbel2 hsz2 hcell2
      have H2 := H1.upd 0 rfl (Nat.le_refl _) (by simp) HB2 hfar2 hbel2
      have c0 := (H2.get 0 rfl).cell 0
      have f0 := (H2.get 0 rfl).frozen 0
      have H3 := Lib.hid (H2.setAt 0 rfl (Nat.le_refl _) (by simp) 0 (.bool k))
      have H2' := Lib.hid H2
      clear H1 H2 HB2 hfar2 hbel2 hsz2 hcell2
      go_wp2_with fail
      refine ⟨H2'.out.of_mem (by simp), ?_⟩
      go_wp2_with fail
      refine ⟨H2'.out.of_mem (by simp), ?_⟩
      go_wp2_with fail
      refine ⟨H3.out.of_mem (by simp), ?_⟩
      go_wp2_with (first
        | (refine wpList_load_row rfl 248 (.tmp 2) rfl W.heap.size rfl 248 (numE k (b - a) s) (0, 0) _ (H3.out.get 0 rfl) Tryz.underlying248 rfl (by first | kernel_rfl | (rw [enc_size]; kernel_rfl)) ?_)
        | (refine wpList_put rfl 248 (.tmp 4) (.tmp 39) rfl (W.heap.size + 2) (numE k (b - a) s) rfl rfl 248 _ (H3.out.get 2 rfl) (by first | kernel_rfl | (rw [enc_size]; kernel_rfl)) (by first | rfl | (rw [enc_size]; rfl)) (by first | exact enc_all _ | exact numE_all _ _ _ | exact decE_all _ _ | (rw [Array.all_eq_true']; simp [Value.oneCell'])) ?_
           intro W4 HB4 hfar4 hbel4 hsz4 hcell4))
      exact bodyPost_ret (results_cell_row rfl _ W4 (W.heap.size + 2) 248 (numE k (b - a) s) (0, 0) _ rfl HB4 Tryz.underlying248 rfl (by kernel_rfl)) rfl ⟨rfl, hbel4 _ _ (by omega) H3.out.below⟩
end Go.Proofs.YtlfomhdphbchpaaGreatDoor.Dec

/-! dec: Add, Neg -/
namespace Go.Proofs.YtlfomhdphbchpaaGreatDoor.Dec
open Go.RowKit Go.Deep Go.Proofs.YtlfomhdphbchpaaGreatDoor.Wide
set_option linter.unusedVariables false
set_option linter.unusedSimpArgs false
def upN (a s c : Int) : Nat := a.natAbs * 10 ^ (c - s).toNat
theorem ten18 : 10 ^ 18 * (2 * T) < P 6 := by decide +kernel
theorem upN_lt {a s c : Int} (ha : InT a) (h0 : 0 ≤ s) (h1 : c ≤ 18) : upN a s c ≤ 10 ^ 18 * T := by
  unfold upN
  rw [Nat.mul_comm]
  refine Nat.mul_le_mul (Nat.pow_le_pow_right (by decide) (by omega)) ?_
  unfold InT at ha; unfold T; omega
theorem upN6 {a s c : Int} (ha : InT a) (h0 : 0 ≤ s) (h1 : c ≤ 18) : upN a s c < P 6 := by
  have := upN_lt ha h0 h1; have := ten18; omega
theorem abs6 {a : Int} (ha : InT a) : a.natAbs < P 6 := by
  have h : a.natAbs ≤ T := by unfold InT at ha; unfold T; omega
  have := ten18; have : T ≤ 10 ^ 18 * (2 * T) := by decide +kernel
  omega
theorem plusN_le (m : Bool) (a : Nat) (k : Bool) (b : Nat) : plusN m a k b ≤ a + b := by unfold plusN; split; omega; split <;> omega
theorem plus6 {a s b u c : Int} (ha : InT a) (hb : InT b) (h0 : 0 ≤ s) (h1 : 0 ≤ u) (h2 : c ≤ 18) (m k : Bool) : plusN m (upN a s c) k (upN b u c) < P 6 := by
  have := plusN_le m (upN a s c) k (upN b u c)
  have := upN_lt ha h0 h2; have := upN_lt hb h1 h2; have := ten18
  omega
theorem chk_zero {c s : Int} (h : chk c s = 0) : 0 ≤ s ∧ s ≤ 18 := by
  unfold chk at h; split at h
  · cases h
  · omega
/-- the sum of two decimals: sign and size -/
def addM (a s b u : Int) : Bool := plusM (decide (a < 0)) (upN a s (max s u)) (decide (b < 0)) (upN b u (max s u))
def addN (a s b u : Int) : Nat := plusN (decide (a < 0)) (upN a s (max s u)) (decide (b < 0)) (upN b u (max s u))
theorem decE_all (c s : Int) : (decE c s).all (·.oneCell') = true := by rw [decE, Array.all_eq_true']; simp [Value.oneCell']
set_option maxHeartbeats 4000000 in
set_option maxRecDepth 100000 in
theorem add_ok (a s b u : Int) (ha : InT a) (hb : InT b) (hs : chk a s = 0) (hu : chk b u = 0) (W : World) :
    Calls Tryz.prog 97 #[.agg (decE a s), .agg (decE b u)] W fun e w' => e = .returned (.tuple #[.agg (decE (togC (addM a s b u) (addN a s b u)) (togS (addN a s b u) (max s u))), .int .i64 (togE (addN a s b u))]) ∧ Below W.heap.size W w' := by
  obtain ⟨s0, s1⟩ := chk_zero hs
  obtain ⟨u0, u1⟩ := chk_zero hu
  have CB := Lib.hid (fun W' => both_ok a s b u ha hb hs W')
  rw [hu] at CB
  have CA := Lib.hid (fun W' => apart_ok a s ha W')
  have CC := Lib.hid (fun W' => apart_ok b u hb W')
  have hc18 : max s u ≤ 18 := by omega
  have hcs : s ≤ max s u := by omega
  have hcu : u ≤ max s u := by omega
  have T1 := Lib.hid (fun W' => to_ok (decide (a < 0)) a.natAbs s (max s u) (abs6 ha) s0 hcs (by omega) W')
  have T2 := Lib.hid (fun W' => to_ok (decide (b < 0)) b.natAbs u (max s u) (abs6 hb) u0 hcu (by omega) W')
  have PL := Lib.hid (fun W' => plus_ok (decide (a < 0)) (upN a s (max s u)) (decide (b < 0)) (upN b u (max s u)) (max s u) (max s u) (upN6 ha s0 hc18) (upN6 hb u0 hc18) W')
  have TG := Lib.hid (fun W' => tog_all (addM a s b u) (addN a s b u) (max s u) (plus6 ha hb s0 u0 hc18 _ _) W')
  obtain ⟨c, hc⟩ : ∃ c, c = max s u := ⟨_, rfl⟩
  obtain ⟨m, hm⟩ : ∃ m, m = addM a s b u := ⟨_, rfl⟩
  obtain ⟨n, hn⟩ : ∃ n, n = addN a s b u := ⟨_, rfl⟩
  have PL' : Hid (∀ W', Calls Tryz.prog 145 #[.agg (numE (decide (a < 0)) (upN a s c) c), .agg (numE (decide (b < 0)) (upN b u c) c)] W' fun e w' => e = .returned (.agg (numE m n c)) ∧ Below W'.heap.size W' w') := by
    rw [hm, hn, hc]; exact PL
  rw [← hm, ← hn, ← hc] at TG ⊢
  rw [← hc] at T1 T2
  clear PL hm hn hs hu hc18
  have hinit : ∀ w1, w1 = ((W.alloc (.cells (decE a s) 168)).alloc (.cells (decE b u) 168)).alloc (.cells #[.int .i64 0, .int .u64 0, .int .i64 0] 168) →
      Has W [(W.heap.size, 168, decE a s), (W.heap.size + 1, 168, decE b u), (W.heap.size + 2, 168, decE 0 0)] w1 := fun w1 e => by
    subst e
    refine Has.cons ?_ (Has.cons ?_ (Has.cons ?_ (Has.nil ?_)))
    · exact ((Blk.new _ _ _).alloc _).alloc _
    · exact (Blk.new' (by simp)).alloc _
    · exact Blk.new' (by simp)
    · exact Below.al (Below.al (Below.al (Below.refl _ _) _) _) _
  rw [decE, decE]
  have HC := Lib.hid hc
  clear hc
  go_enter Tryz.func97, Tryz.ntmps97
  go_wp2_with fail
  refine (CB.out _).mono ?_
  rintro e w1 ⟨rfl, hb1⟩
  have H1 := Lib.hid ((hinit _ rfl).step hb1)
  clear hb1 hinit
  have ca2 : w1.cell? ⟨W.heap.size, 2, none⟩ = some (.int .i64 s) := (H1.out.get 0 rfl).cell 2
  have cb2 : w1.cell? ⟨W.heap.size + 1, 2, none⟩ = some (.int .i64 u) := (H1.out.get 1 rfl).cell 2
  have hmx : max s u = c := HC.out.symm
  go_wp2_with fail
  clear hmx ca2 cb2
  refine wp_region_reg (fun w' => Has W [(W.heap.size, 168, decE a s), (W.heap.size + 1, 168, decE b u), (W.heap.size + 2, 168, decE 0 0)] w') (fun _ => (0, #[])) [0, 1, 2, 3, 4, 5, 6, 7, 8, 9, 10, 11] [] [12, 13] (by kernel_rfl) (by kernel_rfl) (fun w w' h hb => h.step hb) ?_ (fun k hk => by cases hk) ?_
  · exact H1.out.drew
  clear H1
  simp only [List.map_cons, List.map_nil, opAt, List.getElem?_cons_succ, List.getElem?_cons_zero, Option.getD_some]
  repeat (refine wpB_pure rfl ?_; go_big_quiet_step ((intro _; rfl)); refine wpQuiet_nil ?_)
  refine wpB_pure rfl ?_
  refine wpQuiet_row 168 (.tmp 2) rfl rfl W.heap.size rfl 168 (decE a s) _ (fun w hw => hw.get 0 rfl) Tryz.underlying168 rfl (by first | kernel_rfl | (rw [enc_size]; kernel_rfl)) (fun KK hKK => ?_)
  go_simp
  refine hKK _ ?_
  clear hKK KK
  refine wpQuiet_nil ?_
  refine wpB_call (.agg (numE (decide (a < 0)) a.natAbs s)) 143 #[.agg (decE a s)] rfl (fun w => by go_simp) (fun w hw => CA.out _) (fun KK hKK => ?_)
  go_simp
  refine hKK _ ?_
  clear hKK KK
  repeat (refine wpB_pure rfl ?_; go_big_quiet_step ((intro _; rfl)); refine wpQuiet_nil ?_)
  refine wpB_call (.agg (numE (decide (a < 0)) (upN a s c) c)) 144 #[.agg (numE (decide (a < 0)) a.natAbs s), .int .i64 c] rfl (fun w => by go_simp) (fun w hw => T1.out _) (fun KK hKK => ?_)
  go_simp
  refine hKK _ ?_
  clear hKK KK
  repeat (refine wpB_pure rfl ?_; go_big_quiet_step ((intro _; rfl)); refine wpQuiet_nil ?_)
  refine wpB_pure rfl ?_
  refine wpQuiet_row 168 (.tmp 3) rfl rfl (W.heap.size + 1) rfl 168 (decE b u) _ (fun w hw => hw.get 1 rfl) Tryz.underlying168 rfl (by first | kernel_rfl | (rw [enc_size]; kernel_rfl)) (fun KK hKK => ?_)
  go_simp
  refine hKK _ ?_
  clear hKK KK
  refine wpQuiet_nil ?_
  refine wpB_call (.agg (numE (decide (b < 0)) b.natAbs u)) 143 #[.agg (decE b u)] rfl (fun w => by go_simp) (fun w hw => CC.out _) (fun KK hKK => ?_)
  go_simp
  refine hKK _ ?_
  clear hKK KK
  repeat (refine wpB_pure rfl ?_; go_big_quiet_step ((intro _; rfl)); refine wpQuiet_nil ?_)
  refine wpB_call (.agg (numE (decide (b < 0)) (upN b u c) c)) 144 #[.agg (numE (decide (b < 0)) b.natAbs u), .int .i64 c] rfl (fun w => by go_simp) (fun w hw => T2.out _) (fun KK hKK => ?_)
  go_simp
  refine hKK _ ?_
  clear hKK KK
  repeat (refine wpB_pure rfl ?_; go_big_quiet_step ((intro _; rfl)); refine wpQuiet_nil ?_)
  refine wpB_call (.agg (numE m n c)) 145 #[.agg (numE (decide (a < 0)) (upN a s c) c), .agg (numE (decide (b < 0)) (upN b u c) c)] rfl (fun w => by go_simp) (fun w hw => PL'.out _) (fun KK hKK => ?_)
  go_simp
  refine hKK _ ?_
  clear hKK KK
  refine wpB_call (.tuple #[.agg (decE (togC m n) (togS n c)), .int .i64 (togE n)]) 142 #[.agg (numE m n c)] rfl (fun w => by go_simp) (fun w hw => TG.out _) (fun KK hKK => ?_)
  go_simp
  refine hKK _ ?_
  clear hKK KK
  repeat (refine wpB_pure rfl ?_; go_big_quiet_step ((intro _; rfl)); refine wpQuiet_nil ?_)
  refine wpB_nil ?_
  intro gs w2 H2
  intro hmade
  simp only [putAll, opAt, List.getElem?_cons_succ, List.getElem?_cons_zero, Option.getD_some, Act.put]
  clear hmade
  refine wpList_put rfl 168 (.tmp 4) (.tmp 30) rfl (W.heap.size + 2) (decE (togC m n) (togS n c)) rfl rfl 168 _ (H2.get 2 rfl) (by first | kernel_rfl | (rw [enc_size]; kernel_rfl)) (by first | rfl | (rw [enc_size]; rfl)) (by first | exact enc_all _ | exact numE_all _ _ _ | exact decE_all _ _ | (rw [Array.all_eq_true']; simp [Value.oneCell'])) ?_
  intro W4 HB4 hfar4 hbel4 hsz4 hcell4
  have H4 := hbel4 W.heap.size W (by omega) H2.below
  go_wp2_with fail
  rw [onlyNormal_normal]
  go_wp2_with fail
  exact bodyPost_ret (results_row_tmp rfl _ W4 (W.heap.size + 2) 168 _ _ _ rfl HB4 Tryz.underlying168 rfl (by kernel_rfl) rfl) rfl ⟨rfl, H4⟩
end Go.Proofs.YtlfomhdphbchpaaGreatDoor.Dec

/-! dec: Neg, Cmp -/
namespace Go.Proofs.YtlfomhdphbchpaaGreatDoor.Dec
open Go.RowKit Go.Deep Go.Proofs.YtlfomhdphbchpaaGreatDoor.Wide
set_option linter.unusedVariables false
set_option linter.unusedSimpArgs false
theorem coef_not {a : Int} : coef (!decide (a < 0)) a.natAbs = -a := by
  unfold coef; by_cases h : a < 0
  · simp [h]; omega
  · simp [h]; omega
set_option maxHeartbeats 4000000 in
set_option maxRecDepth 100000 in
theorem neg_ok (a s : Int) (ha : InT a) (hs : chk a s = 0) (W : World) :
    Calls Tryz.prog 177 #[.agg (decE a s)] W fun e w' => e = .returned (.tuple #[.agg (decE (-a) s), .int .i64 0]) ∧ Below W.heap.size W w' := by
  have hT : a.natAbs < T := by
    unfold chk at hs; split at hs
    · cases hs
    · unfold InT at ha; unfold T; omega
  have CK := Lib.hid (fun W' => check_ok a s ha W')
  rw [hs] at CK
  have CA := Lib.hid (fun W' => apart_ok a s ha W')
  have TG := Lib.hid (fun W' => tog_ok (!decide (a < 0)) a.natAbs s hT W')
  rw [coef_not] at TG
  obtain ⟨m, hm⟩ : ∃ m, m = decide (a < 0) := ⟨_, rfl⟩
  obtain ⟨n, hn⟩ : ∃ n, n = a.natAbs := ⟨_, rfl⟩
  rw [← hm, ← hn] at CA TG
  clear hm hn hs hT
  have hinit : ∀ w1, w1 = (W.alloc (.cells (decE a s) 168)).alloc (.cells #[.int .i64 0, .int .u64 0, .int .i64 0] 168) →
      Has W [(W.heap.size, 168, decE a s), (W.heap.size + 1, 168, decE 0 0)] w1 := fun w1 e => by
    subst e
    refine Has.cons ?_ (Has.cons ?_ (Has.nil ?_))
    · exact (Blk.new _ _ _).alloc _
    · exact Blk.new' (by simp)
    · exact Below.al (Below.al (Below.refl _ _) _) _
  rw [decE]
  go_enter Tryz.func177, Tryz.ntmps177
  go_wp2_with fail
  refine (CK.out _).mono ?_
  rintro e w1 ⟨rfl, hb1⟩
  have H1 := Lib.hid ((hinit _ rfl).step hb1)
  clear hb1 hinit
  go_wp2_with (refine wpList_load_row rfl 168 (.tmp 1) rfl W.heap.size rfl 168 (decE a s) (0, 0) _ (H1.out.get 0 rfl) Tryz.underlying168 rfl (by first | kernel_rfl | (rw [enc_size]; kernel_rfl)) ?_)
  refine (CA.out _).mono ?_
  rintro e w2 ⟨rfl, hb2⟩
  have H2 := Lib.hid (H1.out.step hb2)
  clear hb2 H1
  go_wp2_with (first
    | (refine wpList_put rfl 248 (.tmp 5) (.tmp 13) rfl w2.heap.size (numE m n s) rfl rfl 248 _ (Blk.new w2 _ _) (by first | kernel_rfl | (rw [enc_size]; kernel_rfl)) (by first | rfl | (rw [enc_size]; rfl)) (by first | exact enc_all _ | exact numE_all _ _ _ | exact decE_all _ _ | (rw [Array.all_eq_true']; simp [Value.oneCell'])) ?_
       intro W4 HB4 hfar4 hbel4 hsz4 hcell4
       have H3 := (H2.out.new rfl 248 #[.bool false, .int .u64 0, .int .u64 0, .int .u64 0, .int .u64 0, .int .u64 0, .int .u64 0, .int .i64 0]).upd 0 rfl H2.out.size H2.out.fresh HB4 hfar4 hbel4
       have c0 : W4.cell? ⟨w2.heap.size, 0, none⟩ = some (.bool m) := (H3.get 0 rfl).cell 0
       have f0 := (H3.get 0 rfl).frozen 0
       have H4 := Lib.hid (H3.setAt 0 rfl H2.out.size H2.out.fresh 0 (.bool (!m)))
       clear H3 HB4 hfar4 hbel4 hsz4 hcell4)
    | (refine wpList_load_row rfl 248 (.tmp 5) rfl w2.heap.size rfl 248 (numE (!m) n s) (0, 0) _ (H4.out.get 0 rfl) Tryz.underlying248 rfl (by first | kernel_rfl | (rw [enc_size]; kernel_rfl)) ?_))
  refine (TG.out _).mono ?_
  rintro e w3 ⟨rfl, hb3⟩
  have H5 := Lib.hid ((H4.out.step hb3).of_mem (gs := [(W.heap.size + 1, 168, decE 0 0)]) (by simp))
  clear hb3 H4 H2
  go_wp2_with (first
    | (refine wpList_put rfl 168 (.tmp 2) (.tmp 20) rfl (W.heap.size + 1) (decE (-a) s) rfl rfl 168 _ (H5.out.get 0 rfl) (by first | kernel_rfl | (rw [enc_size]; kernel_rfl)) (by first | rfl | (rw [enc_size]; rfl)) (by first | exact enc_all _ | exact numE_all _ _ _ | exact decE_all _ _ | (rw [Array.all_eq_true']; simp [Value.oneCell'])) ?_
       intro W6 HB6 hfar6 hbel6 hsz6 hcell6))
  have H6 := hbel6 W.heap.size W (by omega) H5.out.below
  exact bodyPost_ret (results_row_tmp rfl _ W6 (W.heap.size + 1) 168 _ _ _ rfl HB6 Tryz.underlying168 rfl (by kernel_rfl) rfl) rfl ⟨rfl, H6⟩
theorem results_two {fn : Func} {u v : Tmp} (h : fn.results = #[.tmp u, .tmp v]) (tmps : Array Value) (w : World) {x y : Value} (hx : tmps.getD u undef = x) (hy : tmps.getD v undef = y) : (results fn tmps).run Tryz.prog w = .ok (.tuple #[x, y]) w := by
  subst hx hy
  simp [results, h, go_sem, Result.andThen]
/-- how two decimals lie to each other -/
def cmpD (a s b u : Int) : Int :=
  if plusN (decide (a < 0)) (upN a s (max s u)) (!decide (b < 0)) (upN b u (max s u)) = 0 then 0 else if plusM (decide (a < 0)) (upN a s (max s u)) (!decide (b < 0)) (upN b u (max s u)) then -1 else 1
theorem len_zero {n : Nat} : Go.bitLen n = 0 ↔ n = 0 := by
  constructor
  · intro h
    rcases Nat.eq_zero_or_pos n with h0 | h0
    · exact h0
    · have := bitLen_pos h0; omega
  · rintro rfl; rfl
set_option maxHeartbeats 4000000 in
set_option maxRecDepth 100000 in
theorem dcmp_ok (a s b u : Int) (ha : InT a) (hb : InT b) (hs : chk a s = 0) (hu : chk b u = 0) (W : World) :
    Calls Tryz.prog 100 #[.agg (decE a s), .agg (decE b u)] W fun e w' => e = .returned (.tuple #[.int .i64 (cmpD a s b u), .int .i64 0]) ∧ Below W.heap.size W w' := by
  obtain ⟨s0, s1⟩ := chk_zero hs
  obtain ⟨u0, u1⟩ := chk_zero hu
  have CB := Lib.hid (fun W' => both_ok a s b u ha hb hs W')
  rw [hu] at CB
  have CA := Lib.hid (fun W' => apart_ok a s ha W')
  have CC := Lib.hid (fun W' => apart_ok b u hb W')
  have hc18 : max s u ≤ 18 := by omega
  have hcs : s ≤ max s u := by omega
  have hcu : u ≤ max s u := by omega
  have T1 := Lib.hid (fun W' => to_ok (decide (a < 0)) a.natAbs s (max s u) (abs6 ha) s0 hcs (by omega) W')
  have T2 := Lib.hid (fun W' => to_ok (decide (b < 0)) b.natAbs u (max s u) (abs6 hb) u0 hcu (by omega) W')
  have PL := Lib.hid (fun W' => plus_ok (decide (a < 0)) (upN a s (max s u)) (!decide (b < 0)) (upN b u (max s u)) (max s u) (max s u) (upN6 ha s0 hc18) (upN6 hb u0 hc18) W')
  have h6 := plus6 ha hb s0 u0 hc18 (decide (a < 0)) (!decide (b < 0))
  unfold cmpD
  obtain ⟨c, hc⟩ : ∃ c, c = max s u := ⟨_, rfl⟩
  rw [← hc] at T1 T2 PL h6 ⊢
  obtain ⟨kb, hkb⟩ : ∃ kb, kb = decide (b < 0) := ⟨_, rfl⟩
  rw [← hkb] at T2 CC PL h6 ⊢
  obtain ⟨m, hm⟩ : ∃ m, m = plusM (decide (a < 0)) (upN a s c) (!kb) (upN b u c) := ⟨_, rfl⟩
  obtain ⟨n, hn⟩ : ∃ n, n = plusN (decide (a < 0)) (upN a s c) (!kb) (upN b u c) := ⟨_, rfl⟩
  rw [← hm, ← hn] at PL ⊢
  rw [← hn] at h6
  have CL := Lib.hid (fun W' => lenL_ok n h6 W')
  obtain ⟨L, hLe⟩ : ∃ L, L = Go.bitLen n := ⟨_, rfl⟩
  rw [← hLe] at CL
  have hL0 : (L = 0) ↔ (n = 0) := by rw [hLe]; exact len_zero
  obtain ⟨r, hr⟩ : ∃ r : Int, r = if n = 0 then 0 else if m = true then -1 else 1 := ⟨_, rfl⟩
  rw [← hr]
  have HR : Hid (r = if L = 0 then 0 else if m = true then -1 else 1) := Lib.hid (by rw [hr]; simp only [hL0])
  clear hm hn hs hu hc18 hLe hr h6 hkb hL0
  have hinit : ∀ w1, w1 = (W.alloc (.cells (decE a s) 168)).alloc (.cells (decE b u) 168) →
      Has W [(W.heap.size, 168, decE a s), (W.heap.size + 1, 168, decE b u)] w1 := fun w1 e => by
    subst e
    refine Has.cons ?_ (Has.cons ?_ (Has.nil ?_))
    · exact (Blk.new _ _ _).alloc _
    · exact Blk.new' (by simp)
    · exact Below.al (Below.al (Below.refl _ _) _) _
  rw [decE, decE]
  have HC := Lib.hid hc
  clear hc
  go_enter Tryz.func100, Tryz.ntmps100
  go_wp2_with fail
  refine (CB.out _).mono ?_
  rintro e w1 ⟨rfl, hb1⟩
  have H1 := Lib.hid ((hinit _ rfl).step hb1)
  clear hb1 hinit
  have ca2 : w1.cell? ⟨W.heap.size, 2, none⟩ = some (.int .i64 s) := (H1.out.get 0 rfl).cell 2
  have cb2 : w1.cell? ⟨W.heap.size + 1, 2, none⟩ = some (.int .i64 u) := (H1.out.get 1 rfl).cell 2
  have hmx : max s u = c := HC.out.symm
  go_wp2_with (refine wpList_load_row rfl 168 (.tmp 3) rfl (W.heap.size + 1) rfl 168 (decE b u) (0, 0) _ (H1.out.get 1 rfl) Tryz.underlying168 rfl (by first | kernel_rfl | (rw [enc_size]; kernel_rfl)) ?_)
  clear hmx ca2 cb2
  refine (CC.out _).mono ?_
  rintro e w2 ⟨rfl, hb2⟩
  have H2 := Lib.hid (H1.out.step hb2)
  clear hb2 H1
  go_wp2_with fail
  refine (T2.out _).mono ?_
  rintro e w3 ⟨rfl, hb3⟩
  have H3 := Lib.hid (H2.out.step hb3)
  clear hb3 H2
  go_wp2_with (first
    | (refine wpList_put rfl 248 (.tmp 8) (.tmp 24) rfl w3.heap.size (numE kb (upN b u c) c) rfl rfl 248 _ (Blk.new w3 _ _) (by first | kernel_rfl | (rw [enc_size]; kernel_rfl)) (by first | rfl | (rw [enc_size]; rfl)) (by first | exact enc_all _ | exact numE_all _ _ _ | exact decE_all _ _ | (rw [Array.all_eq_true']; simp [Value.oneCell'])) ?_
       intro W4 HB4 hfar4 hbel4 hsz4 hcell4
       have H4 := (H3.out.new rfl 248 #[.bool false, .int .u64 0, .int .u64 0, .int .u64 0, .int .u64 0, .int .u64 0, .int .u64 0, .int .i64 0]).upd 0 rfl H3.out.size H3.out.fresh HB4 hfar4 hbel4
       have c0 : W4.cell? ⟨w3.heap.size, 0, none⟩ = some (.bool kb) := (H4.get 0 rfl).cell 0
       have f0 := (H4.get 0 rfl).frozen 0
       have H5 := Lib.hid (H4.setAt 0 rfl H3.out.size H3.out.fresh 0 (.bool (!kb)))
       clear H4 HB4 hfar4 hbel4 hsz4 hcell4))
  obtain ⟨g, hg⟩ : ∃ g, g = w3.heap.size := ⟨_, rfl⟩
  have hgW : Hid (W.heap.size + 1 < g) := Lib.hid (by rw [hg]; exact (H3.out.get 1 rfl).lt)
  rw [← hg] at H5 ⊢
  clear hg H3
  refine wp_region_reg (fun w' => Has W [(g, 248, numE (!kb) (upN b u c) c), (W.heap.size, 168, decE a s), (W.heap.size + 1, 168, decE b u)] w') (fun _ => (248, numE false 0 0)) [0, 1, 2, 3, 4, 5] [6] [7] (by kernel_rfl) (by kernel_rfl) (fun w w' h hb => h.step hb) ?_ (fun k hk => by simp only [List.mem_cons, List.not_mem_nil, or_false] at hk; first | (subst hk; exact ⟨rfl, fun a w => by simp only [opAt, List.getElem?_cons_succ, List.getElem?_cons_zero, Option.getD_some]; go_simp <;> rfl⟩) | (rcases hk with rfl | rfl <;> exact ⟨rfl, fun a w => by simp only [opAt, List.getElem?_cons_succ, List.getElem?_cons_zero, Option.getD_some]; go_simp <;> rfl⟩)) ?_
  · exact H5.out.drew
  have hN := Lib.hid H5.out.size
  clear H5
  simp only [List.map_cons, List.map_nil, opAt, List.getElem?_cons_succ, List.getElem?_cons_zero, Option.getD_some]
  repeat (refine wpB_pure rfl ?_; go_big_quiet_step ((intro _; rfl)); refine wpQuiet_nil ?_)
  refine wpB_pure rfl ?_
  refine wpQuiet_row 168 (.tmp 2) rfl rfl W.heap.size rfl 168 (decE a s) _ (fun w hw => hw.get 1 rfl) Tryz.underlying168 rfl (by first | kernel_rfl | (rw [enc_size]; kernel_rfl)) (fun KK hKK => ?_)
  go_simp
  refine hKK _ ?_
  clear hKK KK
  refine wpQuiet_nil ?_
  refine wpB_call (.agg (numE (decide (a < 0)) a.natAbs s)) 143 #[.agg (decE a s)] rfl (fun w => by go_simp) (fun w hw => CA.out _) (fun KK hKK => ?_)
  go_simp
  refine hKK _ ?_
  clear hKK KK
  repeat (refine wpB_pure rfl ?_; go_big_quiet_step ((intro _; rfl)); refine wpQuiet_nil ?_)
  refine wpB_call (.agg (numE (decide (a < 0)) (upN a s c) c)) 144 #[.agg (numE (decide (a < 0)) a.natAbs s), .int .i64 c] rfl (fun w => by go_simp) (fun w hw => T1.out _) (fun KK hKK => ?_)
  go_simp
  refine hKK _ ?_
  clear hKK KK
  repeat (refine wpB_pure rfl ?_; go_big_quiet_step ((intro _; rfl)); refine wpQuiet_nil ?_)
  refine wpB_pure rfl ?_
  refine wpQuiet_row 248 (.tmp 8) rfl rfl g rfl 248 (numE (!kb) (upN b u c) c) _ (fun w hw => hw.get 0 rfl) Tryz.underlying248 rfl (by first | kernel_rfl | (rw [enc_size]; kernel_rfl)) (fun KK hKK => ?_)
  go_simp
  refine hKK _ ?_
  clear hKK KK
  refine wpQuiet_nil ?_
  refine wpB_call (.agg (numE m n c)) 145 #[.agg (numE (decide (a < 0)) (upN a s c) c), .agg (numE (!kb) (upN b u c) c)] rfl (fun w => by go_simp) (fun w hw => PL.out _) (fun KK hKK => ?_)
  go_simp
  refine hKK _ ?_
  clear hKK KK
  repeat (refine wpB_pure rfl ?_; go_big_quiet_step ((intro _; rfl)); refine wpQuiet_nil ?_)
  refine wpB_nil ?_
  intro gs w2 H6
  intro hmade
  simp only [putAll, opAt, List.getElem?_cons_succ, List.getElem?_cons_zero, Option.getD_some, Act.put]
  obtain ⟨q, hq⟩ : ∃ q, q = gs 6 := ⟨_, rfl⟩
  have hb6 := (hmade.1 6 List.mem_cons_self)
  rw [← hq] at hb6 ⊢
  obtain ⟨hq1, hq2⟩ := hb6
  have hqW := Nat.le_trans hN.out hq1
  clear hmade hq
  refine wpList_put rfl 248 (.tmp 9) (.tmp 34) rfl q (numE m n c) rfl rfl 248 _ hq2 (by first | kernel_rfl | (rw [enc_size]; kernel_rfl)) (by first | rfl | (rw [enc_size]; rfl)) (by first | exact enc_all _ | exact numE_all _ _ _ | exact decE_all _ _ | (rw [Array.all_eq_true']; simp [Value.oneCell'])) ?_
  intro W7 HB7 hfar7 hbel7 hsz7 hcell7
  have H8 : Has W [(q, 248, numE m n c)] W7 := Has.cons HB7 (Has.nil (hbel7 _ _ hqW H6.below))
  have c0 : W7.cell? ⟨q, 0, none⟩ = some (.bool m) := (H8.get 0 rfl).cell 0
  have H9 := Lib.hid H8
  clear H8 H6 HB7 hfar7 hbel7 hsz7 hcell7 hq1 hq2
  go_wp2_with fail
  rw [onlyNormal_normal]
  go_wp2_with (refine wpList_load_part rfl 246 (.tmp 36) rfl q 1 rfl 248 (numE m n c) (enc n) _ (H9.out.get 0 rfl) (num_part m n c) Tryz.underlying246 rfl (by first | kernel_rfl | (rw [enc_size]; kernel_rfl)) ?_)
  refine (CL.out _).mono ?_
  rintro e w8 ⟨rfl, hb8⟩
  have H10 := H9.out.step hb8
  have c1 : w8.cell? ⟨q, 0, none⟩ = some (.bool m) := (H10.get 0 rfl).cell 0
  have hfin := H10.below
  clear hb8 H10
  by_cases h0 : L = 0
  · have HR2 := HR.out
    rw [if_pos h0] at HR2
    subst HR2 h0
    go_wp2_with fail
    exact bodyPost_ret (results_two rfl _ _ rfl rfl) rfl ⟨rfl, hfin⟩
  · have HR2 := HR.out
    rw [if_neg h0] at HR2
    have e0 : ((L : Int) == 0) = false := beq_eq_false_iff_ne.2 (by omega)
    cases m with
    | false =>
      simp only [Bool.false_eq_true, if_false] at HR2
      subst HR2
      go_wp2_with fail
      exact bodyPost_ret (results_two rfl _ _ rfl rfl) rfl ⟨rfl, hfin⟩
    | true =>
      simp only [if_true] at HR2
      subst HR2
      go_wp2_with fail
      exact bodyPost_ret (results_two rfl _ _ rfl rfl) rfl ⟨rfl, hfin⟩
end Go.Proofs.YtlfomhdphbchpaaGreatDoor.Dec
