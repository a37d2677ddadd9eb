import Derived.Test.YtlgedggjpnmhmaaAwake7
/-! what is written is read again: the law's walk -/
namespace Go.Proofs.Ytlgedggjpnmhmaa.PackBackW
open Go.RowKit Go.Deep Go.Proofs.Ytlgedggjpnmhmaa.Pack
set_option linter.unusedVariables false
theorem back_u (n : Int) (r : List Int) (h0 : 0 ≤ n) (h1 : n < 18446744073709551616) : rdU (enc n ++ r) = (n, ((enc n).length : Int), 0) := rdU_some (dec_enc n r h0 h1)
theorem cut_dec (n : Int) (j : Nat) (h0 : 0 ≤ n) (h1 : n < 18446744073709551616) (hj : j < (enc n).length) : dec ((enc n).take j) = none := by
  have hb : Byt ((enc n).take j) := fun x hx => enc_byt n h0 x (List.mem_of_mem_take hx)
  refine doc_miss (k := j) hb (.inl (by simp; omega)) (fun i hi => ?_)
  have := (enc_shape n h0 h1).1 i (by omega)
  rw [rd_get (by simp; omega)]
  rw [rd_get (by omega)] at this
  simpa using this
theorem cut_u (n : Int) (j : Nat) (h0 : 0 ≤ n) (h1 : n < 18446744073709551616) (hj : j < (enc n).length) : rdU ((enc n).take j) = (0, 0, 3) := rdU_none (cut_dec n j h0 h1 hj)
theorem back_b (q r : List Int) (hq : q.length ≤ 300) : rdB (enc q.length ++ q ++ r) 300 = (q, ((enc q.length).length : Int) + q.length, 0) := by
  unfold rdB
  rw [if_neg (by omega), List.append_assoc, dec_enc _ _ (by omega) (by omega)]
  simp only []
  rw [if_pos (by simp; omega)]
  simp
theorem cut_b (q : List Int) (j : Nat) (hq : q.length ≤ 300) (hj : j < (enc q.length ++ q).length) : rdB ((enc q.length ++ q).take j) 300 = ([], 0, 3) := by
  unfold rdB
  rw [if_neg (by omega)]
  by_cases h : j < (enc (q.length : Int)).length
  · rw [List.take_append_of_le_length (by omega), cut_dec _ j (by omega) (by omega) h]
  · have e : (enc q.length ++ q).take j = enc q.length ++ q.take (j - (enc (q.length : Int)).length) := by
      rw [List.take_append, List.take_of_length_le (by omega)]
    rw [e, dec_enc _ _ (by omega) (by omega)]
    simp only [List.length_append] at hj
    simp only []
    rw [if_neg]
    simp
    omega
theorem cut_lt (cut : Int) (l : Nat) (h : 1 ≤ l) : ∃ j : Nat, cut % (l : Int) = j ∧ j < l := by
  have h0 := Int.emod_nonneg cut (show (l : Int) ≠ 0 by omega)
  have h1 := Int.emod_lt_of_pos cut (show 0 < (l : Int) by omega)
  obtain ⟨j, hj⟩ := Int.eq_ofNat_of_zero_le h0
  exact ⟨j, hj, by omega⟩
set_option maxRecDepth 100000 in
set_option maxHeartbeats 8000000 in
theorem walk (n : Int) (Q : Option Addr) (cq : Nat) (qs : List Int) (M : Option Addr) (cm : Nat) (ms : List Int) (cut : Int) (w : World) (w0 : (Lit.int .u64 n).wf = true) (h1 : ArrIn w .u8 1 Q cq qs) (h2 : ArrIn w .u8 1 M cm ms) (w3 : (Lit.int .u8 cut).wf = true) :
    Calls Try.prog 5 #[.int .u64 n, .slice Q qs.length cq, .slice M ms.length cm, .int .u8 cut] w fun e w' => e = .returned (.bool true) ∧ Below w.heap.size w w' := by
  obtain ⟨n0, n1⟩ := bounds_u64 w0
  obtain ⟨t0, t1⟩ := bounds_u8 w3
  have hqb := h1.byt
  have hmb := h2.byt
  have hqc := h1.cap
  have hql := h1.size
  have hml := h2.size
  have HQ := Lib.hid h1.reads
  have HM := Lib.hid h2.reads
  clear w0 w3 h1 h2
  go_enter Try.func5, Try.ntmps5
  go_wp2_with fail
  refine (awake_ok _).mono ?_
  rintro e w1 ⟨rfl, b1⟩
  have s1 := b1.size
  have HQ1 := Lib.hid ((HQ.out.below b1).more s1)
  have HM1 := Lib.hid ((HM.out.below b1).more s1)
  go_upto_region 3 with (fail)
  go_cut [1] (fun v wc => v = .slice Q (qs.take 300).length cq ∧ w1 = wc)
  case first =>
    rcases (show 300 < qs.length ∨ qs.length ≤ 300 by omega) with h | h
    · have e : (qs.take 300).length = 300 := by simp; omega
      have HE := Lib.hid e
      have h' : (300 : Int) < qs.length := by omega
      have h3 : 300 ≤ cq := by omega
      clear e
      go_wp2
      all_goals go_meet
      case rel => exact ⟨by rw [HE.out], rfl⟩
    · have e : (qs.take 300).length = qs.length := by simp; omega
      have HE := Lib.hid e
      have h' : (qs.length : Int) ≤ 300 := by omega
      clear e
      go_wp2
      all_goals go_meet
      case rel => exact ⟨by rw [HE.out], rfl⟩
  case rest =>
  obtain ⟨rfl, rfl⟩ := hcut
  have HQ2 := Lib.hid (HQ1.out.take 300)
  have hq3 : (qs.take 300).length ≤ 300 := by simp; omega
  have hqb' : Byt (qs.take 300) := fun x hx => hqb x (List.mem_of_mem_take hx)
  generalize qs.take 300 = q at *
  clear HQ1 HQ
  go_wp2_with fail
  refine (uint_ok none 0 [] n _ RI.nil (by simp) n0 (by omega)).mono ?_
  rintro e w2 ⟨v2, rfl, f2⟩
  obtain ⟨A2, c2, rfl⟩ := own_slice f2.1
  have o2 := Lib.hid (RI.of_own f2.1).2
  have b2 := f2.2
  have s2 := b2.size
  have k2 : (enc n).length ≤ c2 := by simpa using own_cap f2.1
  clear f2
  obtain ⟨z, hz⟩ : ∃ z, z = wrap64 n := ⟨_, rfl⟩
  have hzr : -9223372036854775808 ≤ z ∧ z ≤ 9223372036854775807 := by rw [hz]; unfold wrap64; omega
  have hzz := zig_range z hzr.1 hzr.2
  have HZ := Lib.hid hz
  clear hz
  go_wp2_with fail
  rw [← HZ.out]
  refine (int_ok none 0 [] z _ RI.nil (by simp) hzr.1 hzr.2).mono ?_
  rintro e w3 ⟨v3, rfl, f3⟩
  obtain ⟨A3, c3, rfl⟩ := own_slice f3.1
  have o3 := Lib.hid (RI.of_own f3.1).2
  have b3 := f3.2
  have s3 := b3.size
  have k3 : (enc (zig z)).length ≤ c3 := by simpa using own_cap f3.1
  clear f3
  go_wp2_with fail
  refine (bytes_ok none Q 0 cq [] q _ RI.nil ((HQ2.out.below (b2.trans (b3.mono s2))).more (by omega)) (by simp; omega)).mono ?_
  rintro e w4 ⟨v4, rfl, f4⟩
  obtain ⟨A4, c4, rfl⟩ := own_slice f4.1
  have o4 := Lib.hid (RI.of_own f4.1).2
  have b4 := f4.2
  have s4 := b4.size
  have k4 : (enc (q.length : Int)).length + q.length ≤ c4 := by simpa using own_cap f4.1
  clear f4
  have p2 := Lib.hid ((o2.out.below (b3.trans (b4.mono s3))).more (show w2.heap.size ≤ w4.heap.size by omega))
  have p3 := Lib.hid ((o3.out.below b4).more s4)
  have b14 := below_then' (below_then' (below_then' b1 b2) b3) b4
  have HM4 := Lib.hid ((HM1.out.below (b2.trans ((b3.trans (b4.mono s3)).mono s2))).more (show w1.heap.size ≤ w4.heap.size by omega))
  have HQ4 := Lib.hid ((HQ2.out.below (b2.trans ((b3.trans (b4.mono s3)).mono s2))).more (show w1.heap.size ≤ w4.heap.size by omega))
  clear o2 o3 b2 b3 b4 HM1 HQ2 HM
  simp only [List.nil_append] at o4 p2 p3
  go_wp2_with fail
  have H5 := twin_ok A2 c2 (enc n) w4 p2.out (by have := enc_len n; have := enc_len (zig z); omega)
  refine H5.mono ?_
  rintro e w5 ⟨v5, rfl, f5⟩
  have b5 := f5.2
  have s5 := b5.size
  have o5 := f5.1
  have HM5 := Lib.hid ((HM4.out.below b5).more s5)
  clear f5 H5
  go_wp2_with (at_builtin; refine wpList_app w5 rfl (.tmp 37) (.tmp 38) _ rfl w4.heap.size 5 .u8 1 Try.underlying22 info5 (by omega) v5 (enc n) o5 rfl w5.heap.size M cm ms rfl HM5.out (by have := enc_len n; have := enc_len (zig z); have := enc_len (q.length : Int); simp; omega) s5 ?_; intro v5' w5' o5' g5' at5')
  have b5' : Below w4.heap.size w4 w5' := below_own b5 g5' o5 (Nat.le_refl _) s5
  have s5' := b5'.size
  obtain ⟨A5', c5', rfl⟩ := own_slice o5'
  have r5' := Lib.hid (RI.of_own o5').2
  have k5' := own_cap o5'
  clear o5' o5 g5' at5'
  have hb5 : Byt (enc n ++ ms) := fun x hx => by
    rcases List.mem_append.1 hx with h | h
    · exact enc_byt n n0 x h
    · exact hmb x h
  have R5 := readuint_ok A5' c5' w5'.heap.size (enc n ++ ms) w5' r5'.out (by have := enc_len n; simp; omega) hb5
  rw [back_u n ms n0 (by omega), List.length_append] at R5
  have R5 := Lib.hid R5
  clear hb5
  go_wp2_with fail
  refine R5.out.mono ?_
  rintro e w6 ⟨rfl, rfl⟩
  have p3' := Lib.hid ((p3.out.below b5').more s5')
  have o4' := Lib.hid ((o4.out.below b5').more s5')
  have HM5' := Lib.hid ((HM4.out.below b5').more s5')
  have HQ5' := Lib.hid ((HQ4.out.below b5').more s5')
  have p2' := Lib.hid ((p2.out.below b5').more s5')
  have b15 := below_then' b14 b5'
  clear b14 p3 o4 HM4 HQ4 p2 R5 r5' HM5 b5 s5 b5'
  go_wp2_with fail
  have H7 := twin_ok A3 c3 (enc (zig z)) w6 p3'.out (by have := enc_len n; have := enc_len (zig z); omega)
  refine H7.mono ?_
  rintro e w7 ⟨v7, rfl, f7⟩
  have b7 := f7.2
  have s7 := b7.size
  have o7 := f7.1
  have HM7 := Lib.hid ((HM5'.out.below b7).more s7)
  clear f7 H7
  go_wp2_with (at_builtin; refine wpList_app w7 rfl (.tmp 46) (.tmp 47) _ rfl w6.heap.size 5 .u8 1 Try.underlying22 info5 (by omega) v7 (enc (zig z)) o7 rfl w7.heap.size M cm ms rfl HM7.out (by have := enc_len n; have := enc_len (zig z); have := enc_len (q.length : Int); simp; omega) s7 ?_; intro v7' w7' o7' g7' at7')
  have b7' : Below w6.heap.size w6 w7' := below_own b7 g7' o7 (Nat.le_refl _) s7
  have s7' := b7'.size
  obtain ⟨A7', c7', rfl⟩ := own_slice o7'
  have r7' := Lib.hid (RI.of_own o7').2
  have k7' := own_cap o7'
  clear o7' o7 g7' at7'
  have hb7 : Byt (enc (zig z) ++ ms) := fun x hx => by
    rcases List.mem_append.1 hx with h | h
    · exact enc_byt _ hzz.1 x h
    · exact hmb x h
  have R7 := readint_ok A7' c7' w7'.heap.size (enc (zig z) ++ ms) w7' r7'.out (by have := enc_len (zig z); simp; omega) hb7
  rw [back_u (zig z) ms hzz.1 hzz.2] at R7
  simp only [zag_zig] at R7
  have R7 := Lib.hid R7
  clear hb7
  go_wp2_with fail
  refine R7.out.mono ?_
  rintro e w8 ⟨rfl, rfl⟩
  have p3x := Lib.hid ((p3'.out.below b7').more s7')
  have o4x := Lib.hid ((o4'.out.below b7').more s7')
  have HMx := Lib.hid ((HM5'.out.below b7').more s7')
  have HQx := Lib.hid ((HQ5'.out.below b7').more s7')
  have p2x := Lib.hid ((p2'.out.below b7').more s7')
  have b17 := below_then' b15 b7'
  clear b15 p3' o4' HM5' HQ5' p2' R7 r7' HM7 b7 s7 b7'
  go_wp2_with fail
  have H9 := twin_ok A4 c4 (enc (q.length : Int) ++ q) w8 o4x.out (by have := enc_len (q.length : Int); simp; omega)
  rw [List.length_append] at H9
  refine H9.mono ?_
  rintro e w9 ⟨v9, rfl, f9⟩
  have b9 := f9.2
  have s9 := b9.size
  have o9 := f9.1
  have HM9 := Lib.hid ((HMx.out.below b9).more s9)
  clear f9 H9
  go_wp2_with (at_builtin; refine wpList_app w9 rfl (.tmp 55) (.tmp 56) _ rfl w8.heap.size 5 .u8 1 Try.underlying22 info5 (by omega) v9 (enc (q.length : Int) ++ q) o9 rfl w9.heap.size M cm ms rfl HM9.out (by have := enc_len n; have := enc_len (zig z); have := enc_len (q.length : Int); simp; omega) s9 ?_; intro v9' w9' o9' g9' at9')
  have b9' : Below w8.heap.size w8 w9' := below_own b9 g9' o9 (Nat.le_refl _) s9
  have s9' := b9'.size
  obtain ⟨A9', c9', rfl⟩ := own_slice o9'
  have r9' := Lib.hid (RI.of_own o9').2
  have k9' := own_cap o9'
  clear o9' o9 g9' at9'
  have hb9 : Byt (enc (q.length : Int) ++ q ++ ms) := fun x hx => by
    rcases List.mem_append.1 hx with h | h
    · rcases List.mem_append.1 h with h | h
      · exact enc_byt _ (by omega) x h
      · exact hqb' x h
    · exact hmb x h
  have R9 := readbytes_ok A9' c9' (enc (q.length : Int) ++ q ++ ms) 300 w9' r9'.out (by have := enc_len (q.length : Int); simp; omega) k9' hb9
  rw [back_b q ms hq3] at R9
  have R9 := Lib.hid R9
  clear hb9
  go_wp2_with fail
  refine (callsCast R9.out (by simp [Nat.add_assoc])).mono ?_
  rintro e w10 ⟨v10, rfl, f10⟩
  obtain ⟨A10, c10, rfl⟩ := own_slice f10.1
  have r10 := Lib.hid (RI.of_own f10.1).2
  have b10 := f10.2
  have s10 := b10.size
  have b9x := b9'.trans (b10.mono s9')
  have s9x : w8.heap.size ≤ w10.heap.size := by omega
  have p3y := Lib.hid ((p3x.out.below b9x).more s9x)
  have o4y := Lib.hid ((o4x.out.below b9x).more s9x)
  have HQy := Lib.hid ((HQx.out.below b9x).more s9x)
  have p2y := Lib.hid ((p2x.out.below b9x).more s9x)
  have b110 := below_then' b17 b9x
  clear b17 p3x o4x HMx HQx p2x R9 r9' HM9 b9 s9 b9' f10 b10
  have hz2 : (z != wrap64 n) = false := by rw [HZ.out]; simp
  go_wp2_with fail
  refine (SameBytes.same w10.heap.size A10 Q _ _ c10 cq q q w10 r10.out HQy.out (by omega) rfl rfl rfl).mono ?_
  rintro e w11 ⟨rfl, q11, rfl⟩
  have la1 := enc_pos n
  have le2 := enc_len n
  have le3 := enc_len (zig z)
  have lb1 := enc_pos (zig z)
  have lc1 := enc_pos (q.length : Int)
  obtain ⟨j2, he2, hj2⟩ := cut_lt cut (enc n).length la1
  obtain ⟨j3, he3, hj3⟩ := cut_lt cut (enc (zig z)).length lb1
  have ne1 : (((enc n).length : Int) == 0) = false := beq_eq_false_iff_ne.2 (by omega)
  have hc2 : j2 ≤ c2 := by omega
  go_wp2_with fail
  have R12 := readuint_ok A2 c2 w10.heap.size ((enc n).take j2) (w10.drewN q11) ((p2y.out.take _).drew (Drew.step (Drew.refl _) _)) (by simp; omega) (fun x hx => enc_byt n n0 x (List.mem_of_mem_take hx))
  rw [cut_u n _ n0 (by omega) hj2] at R12
  refine (callsCast R12 (by simp; omega)).mono ?_
  rintro e w12 ⟨rfl, rfl⟩
  clear R12 ne1 he2
  have ne1 : (((enc (zig z)).length : Int) == 0) = false := beq_eq_false_iff_ne.2 (by omega)
  have hc3 : j3 ≤ c3 := by omega
  go_wp2_with fail
  have R12 := readint_ok A3 c3 w10.heap.size ((enc (zig z)).take j3) (w10.drewN q11) ((p3y.out.take _).drew (Drew.step (Drew.refl _) _)) (by simp; omega) (fun x hx => enc_byt _ hzz.1 x (List.mem_of_mem_take hx))
  rw [cut_u (zig z) _ hzz.1 hzz.2 hj3] at R12
  refine (callsCast R12 (by simp; omega)).mono ?_
  rintro e w12 ⟨rfl, rfl⟩
  clear R12 ne1 he3
  obtain ⟨j4, he4, hj4⟩ := cut_lt cut ((enc (q.length : Int)).length + q.length) (by omega)
  have he4' : cut % (((enc (q.length : Int)).length : Int) + (q.length : Int)) = j4 := by rw [← he4]; simp
  have ne1 : (((enc (q.length : Int)).length : Int) + (q.length : Int) == 0) = false := beq_eq_false_iff_ne.2 (by omega)
  have hc4 : j4 ≤ c4 := by omega
  have hle := enc_len (q.length : Int)
  go_wp2_with fail
  have R12 := readbytes_ok A4 c4 ((enc (q.length : Int) ++ q).take j4) 300 (w10.drewN q11) ((o4y.out.take _).drew (Drew.step (Drew.refl _) _)) (by simp; omega) (by simp; omega) (fun x hx => by
    rcases List.mem_append.1 (List.mem_of_mem_take hx) with h | h
    · exact enc_byt _ (by omega) x h
    · exact hqb' x h)
  rw [cut_b q j4 hq3 (by simp; omega)] at R12
  refine (callsCast R12 (by simp; omega)).mono ?_
  rintro e w12 ⟨v12, rfl, f12⟩
  have b12 := f12.2
  clear R12 ne1 he4 he4' f12
  go_wp2
  go_ret
  exact ⟨rfl, below_then' (below_drewN b110 q11) b12⟩
end Go.Proofs.Ytlgedggjpnmhmaa.PackBackW
