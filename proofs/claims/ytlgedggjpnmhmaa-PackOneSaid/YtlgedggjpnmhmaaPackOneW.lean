import Derived.Test.YtlgedggjpnmhmaaAwake7
import Derived.Test.YtlgedggjpnmhmaaMix
/-! each number has one form: the law's walk -/
namespace Go.Proofs.Ytlgedggjpnmhmaa.PackOneW
open Go.RowKit Go.Deep Go.Proofs.Ytlgedggjpnmhmaa.Pack
set_option linter.unusedVariables false
set_option maxRecDepth 100000 in
set_option maxHeartbeats 8000000 in
theorem walk (P : Option Addr) (c : Nat) (xs : List Int) (w : World) (h0 : ArrIn w .u8 1 P c xs) :
    Calls Try.prog 6 #[.slice P xs.length c] w fun e w' => e = .returned (.bool true) ∧ Below w.heap.size w w' := by
  have hb := h0.byt
  have hc := h0.cap
  have hl := h0.size
  have hx := h0.reads
  have HB := Lib.hid hb
  have HX := Lib.hid hx
  clear hb hx h0
  go_enter Try.func6, Try.ntmps6
  go_wp2_with fail
  refine (awake_ok _).mono ?_
  rintro e w1 ⟨rfl, b1⟩
  have s1 := b1.size
  have HX1 := Lib.hid ((HX.out.below b1).more s1)
  go_wp2_with fail
  refine (twin_ok P c xs _ HX1.out (by omega)).mono ?_
  rintro e w2 ⟨v2, rfl, f2⟩
  have b2 := f2.2
  have s2 := b2.size
  obtain ⟨A2, c2, rfl⟩ := own_slice f2.1
  have HT := Lib.hid (RI.of_own f2.1).2
  have HX2 := Lib.hid ((HX1.out.below b2).more s2)
  clear f2 HX1
  go_wp2_with fail
  refine (readuint_ok A2 c2 w2.heap.size xs _ HT.out (by omega) HB.out).mono ?_
  obtain ⟨u1, u2, u3, hu⟩ : ∃ u1 u2 u3, rdU xs = (u1, u2, u3) := ⟨_, _, _, rfl⟩
  rw [hu]
  simp only []
  have HU := Lib.hid hu
  clear hu
  rintro e w3 ⟨rfl, rfl⟩
  go_upto_region 4 with (fail)
  go_cut [41] (fun v wc => v = .bool false ∧ Below w.heap.size w wc)
  case first =>
    cases hd : dec xs with
    | none =>
      have hu := HU.out
      rw [rdU_none hd] at hu
      simp only [Prod.mk.injEq] at hu
      obtain ⟨rfl, rfl, rfl⟩ := hu
      clear hd HU
      go_wp2_with fail
      go_quiet (fail)
      go_wp2
      go_meet
      case rel => exact ⟨rfl, below_drewN (below_then' b1 b2) _⟩
    | some r =>
      obtain ⟨n, k⟩ := r
      obtain ⟨n0, n1, hk, r, hr⟩ := dec_some HB.out hd
      have hk1 := enc_pos n
      have hk10 := enc_len n
      have hkl : (enc n).length ≤ xs.length := by rw [hr]; simp
      have hfr : xs.take (enc n).length = enc n := by rw [hr]; simp
      subst hk
      have hu := HU.out
      rw [rdU_some hd] at hu
      simp only [Prod.mk.injEq] at hu
      obtain ⟨rfl, rfl, rfl⟩ := hu
      clear hr hd HU
      generalize hkk : (enc n).length = kk at *
      have hg1 : decide ((kk : Int) < 1) = false := by simp; omega
      have hg1' : decide (kk < 1) = false := by simp; omega
      have hg2 : decide ((xs.length : Int) < kk) = false := by simp; omega
      have hg2' : decide (xs.length < kk) = false := by simp; omega
      have hlc : kk ≤ c := by omega
      have HKK := Lib.hid hkk
      have HF := Lib.hid hfr
      clear hkk hfr
      go_wp2_with fail
      refine wp_region_mix (C := fun _ => True) [([0, 1, 2, 3, 4, 5, 6, 7, 8, 9, 10, 11, 12, 14, 15, 16], some 13), ([], some 17), ([18, 19, 20], none)] (by kernel_rfl) (by kernel_rfl) trivial ?_
      simp only [List.map_cons, List.map_nil, Option.map_some, Option.map_none, opAt, List.getElem?_cons_succ, List.getElem?_cons_zero, Option.getD_some, wpSegs]
      repeat (go_big_quiet_step (fail))
      refine wpQuiet_nil ?_
      go_wp2_with fail
      refine (uint_ok none 0 [] n _ RI.nil (by simp) n0 n1).mono ?_
      rintro e w4 ⟨v4, rfl, f4⟩
      obtain ⟨A4, c4, rfl⟩ := own_slice f4.1
      have HV := Lib.hid (RI.of_own f4.1).2
      have b4 := f4.2
      have s4 := b4.size
      clear f4
      go_wp2_with fail
      refine ⟨trivial, ?_⟩
      repeat (go_big_quiet_step (fail))
      refine wpQuiet_nil ?_
      go_wp2_with fail
      refine (SameBytes.same w4.heap.size A4 P _ _ c4 c (enc n) (xs.take kk) w4 (by simpa using HV.out) ((((HX2.out.drew (Drew.step1 (Drew.refl _))).below b4).take kk).more s4) (by have := HKK.out; omega) HF.out.symm rfl (by simp; omega)).mono ?_
      rintro e w5 ⟨rfl, q, rfl⟩
      go_wp2_with fail
      refine ⟨trivial, ?_⟩
      repeat (go_big_quiet_step (fail))
      refine wpQuiet_nil ?_
      go_wp2
      go_meet
      case rel => exact ⟨rfl, below_drewN (below_then' (below_then' b1 b2).drew b4) _⟩
  case rest =>
  obtain ⟨rfl, bc⟩ := hcut
  clear HX2 HT b2 s2 b1 s1 A2 c2
  have sc := bc.size
  have HXc := Lib.hid ((HX.out.below bc).more sc)
  go_wp2_with fail
  refine (twin_ok P c xs _ HXc.out (by omega)).mono ?_
  rintro e w2 ⟨v2, rfl, f2⟩
  have b2 := f2.2
  have s2 := b2.size
  obtain ⟨A2, c2, rfl⟩ := own_slice f2.1
  have HT := Lib.hid (RI.of_own f2.1).2
  have HX2 := Lib.hid ((HXc.out.below b2).more s2)
  clear f2 HXc
  go_wp2_with fail
  refine (readint_ok A2 c2 w2.heap.size xs _ HT.out (by omega) HB.out).mono ?_
  obtain ⟨u1, u2, u3, hu⟩ : ∃ u1 u2 u3, rdU xs = (u1, u2, u3) := ⟨_, _, _, rfl⟩
  rw [hu]
  simp only []
  have HU := Lib.hid hu
  clear hu
  rintro e w3 ⟨rfl, rfl⟩
  go_upto_region 7 with (fail)
  go_cut [69] (fun v wc => v = .bool false ∧ Below w.heap.size w wc)
  case first =>
    cases hd : dec xs with
    | none =>
      have hu := HU.out
      rw [rdU_none hd] at hu
      simp only [Prod.mk.injEq] at hu
      obtain ⟨rfl, rfl, rfl⟩ := hu
      clear hd HU
      go_wp2_with fail
      go_quiet (fail)
      go_wp2
      go_meet
      case rel => exact ⟨rfl, below_drewN (below_then' bc b2) _⟩
    | some r =>
      obtain ⟨n, k⟩ := r
      obtain ⟨n0, n1, hk, r, hr⟩ := dec_some HB.out hd
      have hk1 := enc_pos n
      have hk10 := enc_len n
      have hkl : (enc n).length ≤ xs.length := by rw [hr]; simp
      have hfr : xs.take (enc n).length = enc n := by rw [hr]; simp
      obtain ⟨z0, z1⟩ := zag_range n n0 n1
      have hzz := zig_zag n n0
      subst hk
      have hu := HU.out
      rw [rdU_some hd] at hu
      simp only [Prod.mk.injEq] at hu
      obtain ⟨rfl, rfl, rfl⟩ := hu
      clear hr hd HU
      generalize hkk : (enc n).length = kk at *
      have hg1 : decide ((kk : Int) < 1) = false := by simp; omega
      have hg1' : decide (kk < 1) = false := by simp; omega
      have hg2 : decide ((xs.length : Int) < kk) = false := by simp; omega
      have hg2' : decide (xs.length < kk) = false := by simp; omega
      have hlc : kk ≤ c := by omega
      have HKK := Lib.hid hkk
      have HF := Lib.hid hfr
      have HZ := Lib.hid hzz
      clear hkk hfr hzz
      go_wp2_with fail
      refine wp_region_mix (C := fun _ => True) [([0, 1, 2, 3, 4, 5, 6, 7, 8, 9, 10, 11, 12, 14, 15, 16], some 13), ([], some 17), ([18, 19, 20], none)] (by kernel_rfl) (by kernel_rfl) trivial ?_
      simp only [List.map_cons, List.map_nil, Option.map_some, Option.map_none, opAt, List.getElem?_cons_succ, List.getElem?_cons_zero, Option.getD_some, wpSegs]
      repeat (go_big_quiet_step (fail))
      refine wpQuiet_nil ?_
      go_wp2_with fail
      refine (int_ok none 0 [] (zag n) _ RI.nil (by simp) z0 z1).mono ?_
      rw [HZ.out]
      rintro e w4 ⟨v4, rfl, f4⟩
      obtain ⟨A4, c4, rfl⟩ := own_slice f4.1
      have HV := Lib.hid (RI.of_own f4.1).2
      have b4 := f4.2
      have s4 := b4.size
      clear f4
      go_wp2_with fail
      refine ⟨trivial, ?_⟩
      repeat (go_big_quiet_step (fail))
      refine wpQuiet_nil ?_
      go_wp2_with fail
      refine (SameBytes.same w4.heap.size A4 P _ _ c4 c (enc n) (xs.take kk) w4 (by simpa using HV.out) ((((HX2.out.drew (Drew.step1 (Drew.refl _))).below b4).take kk).more s4) (by have := HKK.out; omega) HF.out.symm rfl (by simp; omega)).mono ?_
      rintro e w5 ⟨rfl, q, rfl⟩
      go_wp2_with fail
      refine ⟨trivial, ?_⟩
      repeat (go_big_quiet_step (fail))
      refine wpQuiet_nil ?_
      go_wp2
      go_meet
      case rel => exact ⟨rfl, below_drewN (below_then' (below_then' bc b2).drew b4) _⟩
  case rest =>
  obtain ⟨rfl, be⟩ := hcut
  clear HX2 HT b2 s2 bc sc A2 c2
  have se := be.size
  have HXc := Lib.hid ((HX.out.below be).more se)
  go_wp2_with fail
  refine (twin_ok P c xs _ HXc.out (by omega)).mono ?_
  rintro e w2 ⟨v2, rfl, f2⟩
  have b2 := f2.2
  have s2 := b2.size
  obtain ⟨A2, c2, rfl⟩ := own_slice f2.1
  have hcap2 := own_cap f2.1
  have HT := Lib.hid (RI.of_own f2.1).2
  have HX2 := Lib.hid ((HXc.out.below b2).more s2)
  clear f2 HXc
  go_wp2_with fail
  refine (readbytes_ok A2 c2 xs 65536 _ HT.out (by omega) hcap2 HB.out).mono ?_
  rintro e w4 ⟨v4, rfl, f4⟩
  have b4 := f4.2
  have s4 := b4.size
  have HX4 := Lib.hid ((HX2.out.below b4).more s4)
  cases hd : dec xs with
  | none =>
    have e1 : rdB xs 65536 = ([], 0, 3) := by unfold rdB; rw [if_neg (by omega), hd]
    rw [e1]
    simp only []
    clear hd e1 f4
    go_wp2_with fail
    go_quiet (fail)
    go_wp2
    go_ret
    exact ⟨rfl, below_drewN (below_then' (below_then' be b2) b4) _⟩
  | some r =>
    obtain ⟨n, k⟩ := r
    obtain ⟨n0, n1, hk, r, hr⟩ := dec_some HB.out hd
    by_cases hn : n ≤ 65536 ∧ n ≤ xs.length - k
    · have e1 : rdB xs 65536 = ((xs.drop k).take n.toNat, (k : Int) + n, 0) := by unfold rdB; rw [if_neg (by omega), hd]; simp only []; rw [if_pos hn]
      rw [e1] at f4 ⊢
      simp only [] at f4 ⊢
      clear e1
      obtain ⟨m, rfl⟩ := Int.eq_ofNat_of_zero_le n0
      have hkl : k ≤ xs.length := by rw [hr, hk]; simp
      have hml : ((xs.drop k).take (m : Int).toNat).length = m := by simp; omega
      have hfr : [] ++ enc ((xs.drop k).take (m : Int).toNat).length ++ (xs.drop k).take (m : Int).toNat = xs.take (k + m) := by
        rw [hml, List.nil_append, List.take_add, Int.toNat_natCast]
        congr 1
        rw [hr, hk]
        simp
      obtain ⟨A4, c4, rfl⟩ := own_slice f4.1
      have HV := Lib.hid (RI.of_own f4.1).2
      generalize (xs.drop k).take (m : Int).toNat = ys at *
      have hg : decide ((k : Int) + m ≤ xs.length) = true := by simp; omega
      have hlc : k + m ≤ c := by omega
      have hkm : k + m ≤ xs.length := by omega
      have hml' : m ≤ 65536 := by omega
      have HM := Lib.hid hml
      have HF := Lib.hid hfr
      clear hml hfr hr hd hn f4 hk
      go_wp2_with fail
      refine wp_region_mix (C := fun _ => True) [([0, 1, 2, 3, 4, 5, 6, 7, 8, 10, 11, 12], some 9), ([], some 13), ([14, 15, 16], none)] (by kernel_rfl) (by kernel_rfl) trivial ?_
      simp only [List.map_cons, List.map_nil, Option.map_some, Option.map_none, opAt, List.getElem?_cons_succ, List.getElem?_cons_zero, Option.getD_some, wpSegs]
      repeat (go_big_quiet_step (fail))
      refine wpQuiet_nil ?_
      go_wp2_with fail
      have HW4 : RI w4.drew w4.drew.heap.size .u8 A4 ys := HV.out.drew (Drew.step1 (Drew.refl _))
      refine (bytes_ok none A4 0 c4 [] ys w4.drew RI.nil HW4 (by have := HM.out; simp; omega)).mono ?_
      rw [HF.out]
      rintro e w5 ⟨v5, rfl, f5⟩
      obtain ⟨A5, c5, rfl⟩ := own_slice f5.1
      have HV5 := Lib.hid (RI.of_own f5.1).2
      have b5 := f5.2
      have s5 := b5.size
      clear f5 HW4
      go_wp2_with fail
      refine ⟨trivial, ?_⟩
      repeat (go_big_quiet_step (fail))
      refine wpQuiet_nil ?_
      go_wp2_with fail
      refine (SameBytes.same w5.heap.size A5 P _ _ c5 c (xs.take (k + m)) (xs.take (k + m)) w5 HV5.out ((((HX4.out.drew (Drew.step1 (Drew.refl _))).below b5).take (k + m)).more s5) (by simp; omega) rfl (by simp; omega) (by simp; omega)).mono ?_
      rintro e w6 ⟨rfl, q, rfl⟩
      go_wp2_with fail
      refine ⟨trivial, ?_⟩
      repeat (go_big_quiet_step (fail))
      refine wpQuiet_nil ?_
      go_wp2
      go_ret
      exact ⟨rfl, below_drewN (below_then' (below_then' (below_then' be b2) b4).drew b5) _⟩
    · have e1 : rdB xs 65536 = ([], 0, 3) := by unfold rdB; rw [if_neg (by omega), hd]; simp only []; rw [if_neg hn]
      rw [e1]
      simp only []
      clear hd e1 f4 hn hr hk
      go_wp2_with fail
      go_quiet (fail)
      go_wp2
      go_ret
      exact ⟨rfl, below_drewN (below_then' (below_then' be b2) b4) _⟩
end Go.Proofs.Ytlgedggjpnmhmaa.PackOneW
