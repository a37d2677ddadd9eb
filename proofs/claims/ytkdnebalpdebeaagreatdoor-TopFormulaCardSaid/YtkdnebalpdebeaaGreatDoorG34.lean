/- Lemmas of a claim: RcA, RcB, RcC, RcD, RcE -/
import Derived.Test.YtkdnebalpdebeaaGreatDoorG21
set_option linter.unusedVariables false
set_option linter.unusedSimpArgs false
set_option maxHeartbeats 16000000
set_option maxRecDepth 100000
namespace Go.Proofs.YtkdnebalpdebeaaGreatDoor
namespace Rc
open Go.RowKit Go.Deep Cal
theorem rleap_ok (y : Int) (h : 1 <= y /\ y <= 100000) (W : World) : Calls Tryz.prog 82 #[.int .i64 y] W fun e w' => e = .returned (.bool (leapB y)) /\ w' = W := by
 obtain ⟨h1, h2⟩ := h
 have e1 : y.tmod 100 = y % 100 := Int.tmod_eq_emod_of_nonneg (by omega)
 have e2 : y.tmod 400 = y % 400 := Int.tmod_eq_emod_of_nonneg (by omega)
 have e3 : y.tmod 4 = y % 4 := Int.tmod_eq_emod_of_nonneg (by omega)
 by_cases hc : y % 100 = 0
 . have g1 : (y % 100 == 0) = true := beq_iff_eq.2 hc
   have hl : leapB y = (y % 400 == 0) := by
    unfold leapB
    rw [show (y % 100 != 0) = false by simp [hc], Bool.and_false, Bool.false_or]
   rw [hl]
   clear hl hc
   go_enter Tryz.func82, Tryz.ntmps82
   go_wp2_with fail
   exact bodyPost_ret (results_one rfl _ _ rfl) rfl ⟨by first | rfl | simp [e1, e2, e3], rfl⟩
 . have g1 : (y % 100 == 0) = false := beq_eq_false_iff_ne.2 hc
   have g4 : (y % 400 == 0) = false := beq_eq_false_iff_ne.2 (by omega)
   have hl : leapB y = (y % 4 == 0) := by
    unfold leapB
    rw [show (y % 100 != 0) = true by simp [hc], Bool.and_true, g4, Bool.or_false]
   rw [hl]
   clear hl hc g4
   go_enter Tryz.func82, Tryz.ntmps82
   go_wp2_with fail
   exact bodyPost_ret (results_one rfl _ _ rfl) rfl ⟨by first | rfl | simp [e1, e2, e3], rfl⟩
theorem ryear_ok (y : Int) (h : 1 <= y /\ y <= 100000) (W : World) : Calls Tryz.prog 126 #[.int .i64 y] W fun e w' => e = .returned (.int .i64 (if leapB y then 366 else 365)) /\ w' = W := by
 have CL := Hd (rleap_ok y h W)
 obtain ⟨l, hl⟩ : ∃ l, l = leapB y := ⟨_, rfl⟩
 rw [<- hl] at CL ⊢
 clear hl
 go_enter Tryz.func126, Tryz.ntmps126
 go_wp2_with fail
 refine CL.o.mono ?_
 rintro e w1 ⟨rfl, hw⟩
 obtain rfl := hw.symm
 cases l with
 | true =>
   go_wp2_with fail
   exact bodyPost_ret (results_one rfl _ _ rfl) rfl ⟨rfl, rfl⟩
 | false =>
   go_wp2_with fail
   exact bodyPost_ret (results_one rfl _ _ rfl) rfl ⟨rfl, rfl⟩
theorem rlen_ok (y m : Int) (h : 1 <= y /\ y <= 100000) (hm : 1 <= m /\ m <= 12) (W : World) : Calls Tryz.prog 127 #[.int .i64 y, .int .i64 m] W fun e w' => e = .returned (.int .i64 (lenI y m)) /\ w' = W := by
 have CL := Hd (rleap_ok y h W)
 have hmm : m = 1 ∨ m = 2 ∨ m = 3 ∨ m = 4 ∨ m = 5 ∨ m = 6 ∨ m = 7 ∨ m = 8 ∨ m = 9 ∨ m = 10 ∨ m = 11 ∨ m = 12 := by omega
 clear hm
 have two : lenI y 2 = if leapB y then 29 else 28 := rfl
 rcases hmm with rfl | rfl | rfl | rfl | rfl | rfl | rfl | rfl | rfl | rfl | rfl | rfl
 . rw [show lenI y 1 = 31 from rfl]
   clear two CL
   go_enter Tryz.func127, Tryz.ntmps127
   go_wp2_with fail
   exact bodyPost_ret (results_one rfl _ _ rfl) rfl ⟨rfl, rfl⟩
 . rw [two]
   clear two
   obtain ⟨l, hl⟩ : ∃ l, l = leapB y := ⟨_, rfl⟩
   rw [<- hl] at CL ⊢
   clear hl
   go_enter Tryz.func127, Tryz.ntmps127
   go_wp2_with fail
   refine CL.o.mono ?_
   rintro e w1 ⟨rfl, hw⟩
   obtain rfl := hw.symm
   cases l with
   | true =>
     go_wp2_with fail
     exact bodyPost_ret (results_one rfl _ _ rfl) rfl ⟨rfl, rfl⟩
   | false =>
     go_wp2_with fail
     exact bodyPost_ret (results_one rfl _ _ rfl) rfl ⟨rfl, rfl⟩
 . rw [show lenI y 3 = 31 from rfl]
   clear two CL
   go_enter Tryz.func127, Tryz.ntmps127
   go_wp2_with fail
   exact bodyPost_ret (results_one rfl _ _ rfl) rfl ⟨rfl, rfl⟩
 . rw [show lenI y 4 = 30 from rfl]
   clear two CL
   go_enter Tryz.func127, Tryz.ntmps127
   go_wp2_with fail
   exact bodyPost_ret (results_one rfl _ _ rfl) rfl ⟨rfl, rfl⟩
 . rw [show lenI y 5 = 31 from rfl]
   clear two CL
   go_enter Tryz.func127, Tryz.ntmps127
   go_wp2_with fail
   exact bodyPost_ret (results_one rfl _ _ rfl) rfl ⟨rfl, rfl⟩
 . rw [show lenI y 6 = 30 from rfl]
   clear two CL
   go_enter Tryz.func127, Tryz.ntmps127
   go_wp2_with fail
   exact bodyPost_ret (results_one rfl _ _ rfl) rfl ⟨rfl, rfl⟩
 . rw [show lenI y 7 = 31 from rfl]
   clear two CL
   go_enter Tryz.func127, Tryz.ntmps127
   go_wp2_with fail
   exact bodyPost_ret (results_one rfl _ _ rfl) rfl ⟨rfl, rfl⟩
 . rw [show lenI y 8 = 31 from rfl]
   clear two CL
   go_enter Tryz.func127, Tryz.ntmps127
   go_wp2_with fail
   exact bodyPost_ret (results_one rfl _ _ rfl) rfl ⟨rfl, rfl⟩
 . rw [show lenI y 9 = 30 from rfl]
   clear two CL
   go_enter Tryz.func127, Tryz.ntmps127
   go_wp2_with fail
   exact bodyPost_ret (results_one rfl _ _ rfl) rfl ⟨rfl, rfl⟩
 . rw [show lenI y 10 = 31 from rfl]
   clear two CL
   go_enter Tryz.func127, Tryz.ntmps127
   go_wp2_with fail
   exact bodyPost_ret (results_one rfl _ _ rfl) rfl ⟨rfl, rfl⟩
 . rw [show lenI y 11 = 30 from rfl]
   clear two CL
   go_enter Tryz.func127, Tryz.ntmps127
   go_wp2_with fail
   exact bodyPost_ret (results_one rfl _ _ rfl) rfl ⟨rfl, rfl⟩
 . rw [show lenI y 12 = 31 from rfl]
   clear two CL
   go_enter Tryz.func127, Tryz.ntmps127
   go_wp2_with fail
   exact bodyPost_ret (results_one rfl _ _ rfl) rfl ⟨rfl, rfl⟩
end Rc
namespace Rc
open Go.RowKit Go.Deep Cal
theorem civ_is {n y r : Int} {j : Nat} (h : 1 <= n /\ n <= 3652059) (hy : 1 <= y) (hj : j < 12) (hr : 0 <= r) (hn : ahd y + cumN y j + r + 1 = n) (hlt : r < lenI y (j + 1)) (hY : cumN y j + r < 365 + (if leapB y then 1 else 0)) (h0 : 0 <= cumN y j) : civY n = y /\ (civM n).1 = (j : Int) + 1 /\ (civM n).2 = r + 1 := by
 obtain ⟨c1, c2, c3, c4⟩ := civY_spec h
 have hx := ahd_next hy
 have e : civY n = y := year_one c1 hy c3 c4 (by omega) (by omega)
 obtain ⟨i, i1, i2, i3, i4, i5⟩ := civ_spec h
 rw [e] at i4 i5
 obtain ⟨m1, m2⟩ := month_one (y := y) (i := i) (j := j) (d := (civM n).2) (e := r + 1) i3 i4 (by omega) (by omega) (by omega)
 exact ⟨e, by rw [i2, m1], m2⟩
theorem rciv_ok (n : Int) (h : 1 <= n /\ n <= 3652059) (W : World) : Calls Tryz.prog 80 #[.int .i64 n] W fun e w' => e = .returned (.tuple #[.int .i64 (civY n), .int .i64 (civM n).1, .int .i64 (civM n).2]) /\ w' = W := by
 have H := Hd h
 obtain ⟨h1, h2⟩ := h
 have e1 : (n - 1).tdiv 146097 = (n - 1) / 146097 := Int.tdiv_eq_ediv_of_nonneg (by omega)
 have e2 : (n - 1).tmod 146097 = (n - 1) % 146097 := Int.tmod_eq_emod_of_nonneg (by omega)
 go_enter Tryz.func80, Tryz.ntmps80
 go_wp2_with fail
 go_loopw [0, 5] (fun rv yv wr => ∃ r y : Int, rv = .int .i64 r /\ yv = .int .i64 y /\ (1 <= y /\ y <= 20000) /\ (0 <= r /\ r <= 200000) /\ Hi (ahd y + r + 1 = n) /\ wr = W) (fun rv _ _ => (intOf rv).toNat)
 case atStart => exact ⟨(n - 1) % 146097, 1 + 400 * ((n - 1) / 146097), by first | rfl | simp [e2], by first | rfl | simp [e1], by omega, by omega, Hd (by unfold ahd; omega), rfl⟩
 case round =>
  obtain ⟨r, y, rfl, rfl, hy, hr, HN, hw⟩ := hrel
  obtain rfl := hw.symm
  have hx := ahd_next hy.1
  have CY := Hd (fun w => ryear_ok y (by omega) w)
  obtain ⟨Y, hY⟩ : ∃ Y : Int, Y = if leapB y then 366 else 365 := ⟨_, rfl⟩
  have hY1 : ahd (y + 1) = ahd y + Y := by rw [hx, hY]; split <;> omega
  have hY2 : 365 <= Y /\ Y <= 366 := by rw [hY]; split <;> omega
  rw [<- hY] at CY
  have HY1 := Hd hY1
  have HYY := Hd hY
  clear hx hY hY1 hw
  by_cases hge : Y <= r
  . have hy2 : y <= 19999 := by have := HN.o; unfold ahd at this; omega
    go_wp2_with fail
    refine (CY.o _).mono ?_
    rintro e w1 ⟨rfl, hw⟩
    obtain rfl := hw.symm
    go_wp2_with fail
    refine (CY.o _).mono ?_
    rintro e w2 ⟨rfl, hw2⟩
    obtain rfl := hw2.symm
    clear hw hw2
    go_wp2_with fail
    go_roundw
    case rel => exact ⟨r - Y, y + 1, by go_num, by go_num, by omega, by omega, Hd (by rw [HY1.o]; have := HN.o; omega), by first | rfl | trivial⟩
    case measure => simp [intOf]; omega
  . go_wp2_with fail
    refine (CY.o _).mono ?_
    rintro e w1 ⟨rfl, hw⟩
    obtain rfl := hw.symm
    clear hw
    go_wp2_with fail
    have HY2 := Hd hY2
    have HR := Hd (show r < Y by omega)
    go_loopw [0, 6] (fun rv mv wr => ∃ (r' : Int) (j : Nat), rv = .int .i64 r' /\ mv = .int .i64 ((j : Int) + 1) /\ j <= 11 /\ (0 <= r' /\ r' <= 400) /\ Hi (cumN y j + r' = r) /\ wr = W) (fun rv _ _ => (intOf rv).toNat)
    case atStart => exact ⟨r, 0, rfl, rfl, by omega, by omega, Hd (by show 0 + r = r; omega), rfl⟩
    case round =>
     obtain ⟨r', j, rfl, rfl, hj, hr', HC, hw⟩ := hrel
     obtain rfl := hw.symm
     have CL := Hd (fun w => rlen_ok y ((j : Int) + 1) (by omega) (by omega) w)
     obtain ⟨L, hL⟩ : ∃ L : Int, L = lenI y ((j : Int) + 1) := ⟨_, rfl⟩
     have hc1 : cumN y (j + 1) = cumN y j + L := by rw [hL]; rfl
     have hL1 : 28 <= L /\ L <= 31 := by
      rw [hL]; unfold lenI; split
      . split <;> omega
      . omega
     rw [<- hL] at CL
     have HL := Hd hL
     have HC1 := Hd hc1
     clear hL hc1 hw
     by_cases hge2 : L <= r'
     . have hj2 : j <= 10 := by
        rcases Nat.lt_or_ge j 11 with h | h
        . omega
        . obtain rfl : j = 11 := by omega
          have a1 := HC1.o
          have a2 := HC.o
          have a3 := HR.o
          have a4 := cum12 y
          have a5 := HYY.o
          rw [a4] at a1
          split at a1 <;> rename_i hlp <;> simp only [hlp] at a5 <;> simp at a5 <;> omega
       go_wp2_with fail
       refine (CL.o _).mono ?_
       rintro e w1 ⟨rfl, hw⟩
       obtain rfl := hw.symm
       go_wp2_with fail
       refine (CL.o _).mono ?_
       rintro e w2 ⟨rfl, hw2⟩
       obtain rfl := hw2.symm
       clear hw hw2
       go_wp2_with fail
       go_roundw
       case rel => exact ⟨r' - L, j + 1, by go_num, by go_num, by omega, by omega, Hd (by rw [HC1.o]; have := HC.o; omega), by first | rfl | trivial⟩
       case measure => simp [intOf]; omega
     . have hfin := civ_is (n := n) (y := y) (r := r') (j := j) H.o hy.1 (by omega) hr'.1 (by have := HC.o; have := HN.o; omega) (by rw [<- HL.o]; omega) (by
        have a3 := HR.o
        have a5 := HYY.o
        have a2 := HC.o
        split at a5 <;> rename_i hlp <;> simp only [hlp] <;> simp <;> omega) (cumN_mono y (Nat.zero_le j))
       have HF := Hd hfin
       clear hfin
       go_wp2_with fail
       refine (CL.o _).mono ?_
       rintro e w1 ⟨rfl, hw⟩
       obtain rfl := hw.symm
       clear hw
       go_wp2_with fail
       refine bodyPost_ret (results_three rfl _ _ rfl rfl rfl) rfl ⟨?_, by first | rfl | trivial⟩
       rw [HF.o.1, HF.o.2.1, HF.o.2.2]
       rfl
end Rc
namespace Rc
open Go.RowKit Go.Deep Cal
theorem rlast_ok (y : Int) (h : 1 <= y /\ y <= 9999) (W : World) : Calls Tryz.prog 81 #[.int .i64 y, .int .i64 12, .int .i64 31] W fun e w' => e = .returned (.int .i64 (ahd (y + 1))) /\ w' = W := by
 obtain ⟨h1, h2⟩ := h
 have e1 : (y - 1).tdiv 400 = (y - 1) / 400 := Int.tdiv_eq_ediv_of_nonneg (by omega)
 go_enter Tryz.func81, Tryz.ntmps81
 go_wp2_with fail
 go_loopw [7, 8] (fun nv kv wr => ∃ n k : Int, nv = .int .i64 n /\ kv = .int .i64 k /\ (1 <= k /\ k <= y) /\ (0 <= n /\ n <= 4000000) /\ Hi (n = ahd k) /\ wr = W) (fun _ kv _ => (y - intOf kv).toNat)
 case atStart => exact ⟨146097 * ((y - 1) / 400), 1 + 400 * ((y - 1) / 400), by first | rfl | simp [e1], by first | rfl | (simp [e1]; omega), by omega, by omega, Hd (by unfold ahd; omega), rfl⟩
 case round =>
  obtain ⟨n, k, rfl, rfl, hk, hn, HN, hw⟩ := hrel
  obtain rfl := hw.symm
  clear hw
  by_cases hlt : k < y
  . have CY := Hd (fun w => ryear_ok k (by omega) w)
    have hx := ahd_next hk.1
    obtain ⟨Y, hY⟩ : ∃ Y : Int, Y = if leapB k then 366 else 365 := ⟨_, rfl⟩
    have hY1 : ahd (k + 1) = ahd k + Y := by rw [hx, hY]; split <;> omega
    have hY2 : 365 <= Y /\ Y <= 366 := by rw [hY]; split <;> omega
    have hn2 : n <= 3652060 := by have := HN.o; unfold ahd at this; omega
    rw [<- hY] at CY
    have HY1 := Hd hY1
    clear hx hY hY1
    go_wp2_with fail
    refine (CY.o _).mono ?_
    rintro e w1 ⟨rfl, hw⟩
    obtain rfl := hw.symm
    clear hw
    go_wp2_with fail
    go_roundw
    case rel => exact ⟨n + Y, k + 1, by go_num, by go_num, by omega, by omega, Hd (by rw [HY1.o, <- HN.o]), by first | rfl | trivial⟩
    case measure => simp [intOf]; omega
  . obtain rfl : k = y := by omega
    have hn2 : n <= 3652060 := by have := HN.o; unfold ahd at this; omega
    go_wp2_with fail
    go_loopw [7, 9] (fun nv mv wr => ∃ (x : Int) (j : Nat), nv = .int .i64 x /\ mv = .int .i64 ((j : Int) + 1) /\ j <= 11 /\ (0 <= x /\ x <= 3652060 + 31 * j) /\ Hi (x = ahd k + cumN k j) /\ wr = W) (fun _ mv _ => (12 - intOf mv).toNat)
    case atStart => exact ⟨n, 0, rfl, rfl, by omega, by omega, Hd (by rw [HN.o]; show _ = ahd k + 0; omega), rfl⟩
    case round =>
     obtain ⟨x, j, rfl, rfl, hj, hx, HX, hw⟩ := hrel
     obtain rfl := hw.symm
     clear hw
     by_cases hj2 : j <= 10
     . have CL := Hd (fun w => rlen_ok k ((j : Int) + 1) (by omega) (by omega) w)
       obtain ⟨L, hL⟩ : ∃ L : Int, L = lenI k ((j : Int) + 1) := ⟨_, rfl⟩
       have hc1 : cumN k (j + 1) = cumN k j + L := by rw [hL]; rfl
       have hL1 : 28 <= L /\ L <= 31 := by
        rw [hL]; unfold lenI; split
        . split <;> omega
        . omega
       rw [<- hL] at CL
       have HC1 := Hd hc1
       have g : (j : Int) + 1 < 12 := by omega
       clear hL hc1
       go_wp2_with fail
       refine (CL.o _).mono ?_
       rintro e w1 ⟨rfl, hw⟩
       obtain rfl := hw.symm
       clear hw
       go_wp2_with fail
       go_roundw
       case rel => exact ⟨x + L, j + 1, by go_num, by go_num, by omega, by omega, Hd (by rw [HC1.o, HX.o]; omega), by first | rfl | trivial⟩
       case measure => simp [intOf]; omega
     . obtain rfl : j = 11 := by omega
       have hfin : x + 31 = ahd (k + 1) := by
        have a1 := HX.o
        have a2 := cum12 k
        have a3 := ahd_next hk.1
        have a4 : cumN k 12 = cumN k 11 + 31 := rfl
        rw [a3]
        omega
       have HF := Hd hfin
       clear hfin
       go_wp2_with fail
       refine bodyPost_ret (results_one rfl _ _ rfl) rfl ⟨?_, by first | rfl | trivial⟩
       rw [<- HF.o]; rfl
end Rc
namespace Rc
open Go.RowKit Go.Deep Cal Bas
theorem rthirty_ok (d : Int) (h : 1 <= d /\ d < 3652059) (W : World) : Calls Tryz.prog 79 #[.int .i64 d, .int .i64 (d + 1)] W fun e w' => e = .returned (.int .i64 (thirtyN d)) /\ w' = W := by
 have C1 := Hd (fun w => rciv_ok d (by omega) w)
 have C2 := Hd (fun w => rciv_ok (d + 1) (by omega) w)
 obtain ⟨y1, m1, d1⟩ := day_in (n := d) (by omega)
 obtain ⟨y2, m2, d2⟩ := day_in (n := d + 1) (by omega)
 unfold thirtyN
 obtain ⟨y, hy⟩ : ∃ y, y = civY d := ⟨_, rfl⟩
 obtain ⟨m, hm⟩ : ∃ y, y = (civM d).1 := ⟨_, rfl⟩
 obtain ⟨x, hx⟩ : ∃ y, y = (civM d).2 := ⟨_, rfl⟩
 obtain ⟨z, hz⟩ : ∃ y, y = civY (d + 1) := ⟨_, rfl⟩
 obtain ⟨k, hk⟩ : ∃ y, y = (civM (d + 1)).1 := ⟨_, rfl⟩
 obtain ⟨u, hu⟩ : ∃ y, y = (civM (d + 1)).2 := ⟨_, rfl⟩
 rw [<- hy] at y1 C1 ⊢
 rw [<- hm] at m1 C1 ⊢
 rw [<- hx] at d1 C1 ⊢
 rw [<- hz] at y2 C2 ⊢
 rw [<- hk] at m2 C2 ⊢
 rw [<- hu] at d2 C2 ⊢
 clear hy hm hx hz hk hu h
 by_cases hx31 : x = 31
 . have gx : (x == 31) = true := beq_iff_eq.2 hx31
   by_cases hu31 : u = 31
   . have gu : (u == 31) = true := beq_iff_eq.2 hu31
     have HF := Hd (show 360 * (z - y) + 30 * (k - m) + min u 30 - min x 30 = 360 * z + 30 * k + 30 - (360 * y + 30 * m + 30) by omega)
     go_enter Tryz.func79, Tryz.ntmps79
     go_wp2_with fail
     refine (C1.o _).mono ?_
     rintro e w1 ⟨rfl, hw⟩
     obtain rfl := hw.symm
     go_wp2_with fail
     refine (C2.o _).mono ?_
     rintro e w2 ⟨rfl, hw2⟩
     obtain rfl := hw2.symm
     clear hw hw2
     go_wp2_with fail
     refine bodyPost_ret (results_one rfl _ _ rfl) rfl ⟨?_, by first | rfl | trivial⟩
     rw [HF.o]; rfl
   . have gu : (u == 31) = false := beq_eq_false_iff_ne.2 hu31
     have HF := Hd (show 360 * (z - y) + 30 * (k - m) + min u 30 - min x 30 = 360 * z + 30 * k + u - (360 * y + 30 * m + 30) by omega)
     go_enter Tryz.func79, Tryz.ntmps79
     go_wp2_with fail
     refine (C1.o _).mono ?_
     rintro e w1 ⟨rfl, hw⟩
     obtain rfl := hw.symm
     go_wp2_with fail
     refine (C2.o _).mono ?_
     rintro e w2 ⟨rfl, hw2⟩
     obtain rfl := hw2.symm
     clear hw hw2
     go_wp2_with fail
     refine bodyPost_ret (results_one rfl _ _ rfl) rfl ⟨?_, by first | rfl | trivial⟩
     rw [HF.o]; rfl
 . have gx : (x == 31) = false := beq_eq_false_iff_ne.2 hx31
   by_cases hu31 : u = 31
   . have gu : (u == 31) = true := beq_iff_eq.2 hu31
     have HF := Hd (show 360 * (z - y) + 30 * (k - m) + min u 30 - min x 30 = 360 * z + 30 * k + 30 - (360 * y + 30 * m + x) by omega)
     go_enter Tryz.func79, Tryz.ntmps79
     go_wp2_with fail
     refine (C1.o _).mono ?_
     rintro e w1 ⟨rfl, hw⟩
     obtain rfl := hw.symm
     go_wp2_with fail
     refine (C2.o _).mono ?_
     rintro e w2 ⟨rfl, hw2⟩
     obtain rfl := hw2.symm
     clear hw hw2
     go_wp2_with fail
     refine bodyPost_ret (results_one rfl _ _ rfl) rfl ⟨?_, by first | rfl | trivial⟩
     rw [HF.o]; rfl
   . have gu : (u == 31) = false := beq_eq_false_iff_ne.2 hu31
     have HF := Hd (show 360 * (z - y) + 30 * (k - m) + min u 30 - min x 30 = 360 * z + 30 * k + u - (360 * y + 30 * m + x) by omega)
     go_enter Tryz.func79, Tryz.ntmps79
     go_wp2_with fail
     refine (C1.o _).mono ?_
     rintro e w1 ⟨rfl, hw⟩
     obtain rfl := hw.symm
     go_wp2_with fail
     refine (C2.o _).mono ?_
     rintro e w2 ⟨rfl, hw2⟩
     obtain rfl := hw2.symm
     clear hw hw2
     go_wp2_with fail
     refine bodyPost_ret (results_one rfl _ _ rfl) rfl ⟨?_, by first | rfl | trivial⟩
     rw [HF.o]; rfl
end Rc
namespace Rc
open Go.RowKit Go.Deep Cal Bas
theorem results_two {fn : Func} {u v : Tmp} (h : fn.results = #[.tmp u, .tmp v]) (tmps : Array Value) (w : World) {x y : Value} (hx : tmps.getD u undef = x) (hy : tmps.getD v undef = y) : (results fn tmps).run Tryz.prog w = .ok (.tuple #[x, y]) w := by
 subst hx hy
 simp [results, h, go_sem, Result.andThen]
theorem rpart_ok (h d : Int) (hh : h = 0 ∨ h = 1 ∨ h = 2 ∨ h = 3) (hd : 1 <= d /\ d < 3652059) (W : World) : Calls Tryz.prog 34 #[.int .i64 h, .int .i64 d, .int .i64 (d + 1)] W fun e w' => e = .returned (.tuple #[.int .i64 (partN h d), .int .i64 (partD h)]) /\ w' = W := by
 obtain ⟨d1, d2⟩ := hd
 have e1 : d + 1 - d = 1 := by omega
 rcases hh with rfl | rfl | rfl | rfl
 . rw [show partN 0 d = 1 from rfl, show partD 0 = 360 from rfl]
   go_enter Tryz.func34, Tryz.ntmps34
   go_wp2_with fail
   exact bodyPost_ret (Rc.results_two rfl _ _ rfl rfl) rfl ⟨rfl, rfl⟩
 . rw [show partN 1 d = 1 from rfl, show partD 1 = 365 from rfl]
   go_enter Tryz.func34, Tryz.ntmps34
   go_wp2_with fail
   exact bodyPost_ret (Rc.results_two rfl _ _ rfl rfl) rfl ⟨rfl, rfl⟩
 . rw [show partN 2 d = thirtyN d from rfl, show partD 2 = 360 from rfl]
   have CT := Hd (rthirty_ok d ⟨d1, d2⟩ W)
   obtain ⟨t, ht⟩ : ∃ t, t = thirtyN d := ⟨_, rfl⟩
   rw [<- ht] at CT ⊢
   clear ht
   go_enter Tryz.func34, Tryz.ntmps34
   go_wp2_with fail
   refine CT.o.mono ?_
   rintro e w1 ⟨rfl, hw⟩
   obtain rfl := hw.symm
   go_wp2_with fail
   exact bodyPost_ret (Rc.results_two rfl _ _ rfl rfl) rfl ⟨rfl, rfl⟩
 . have hp : partN 3 d = if leapB (civY d) then 365 else 366 := rfl
   rw [hp, show partD 3 = 133590 from rfl]
   obtain ⟨y1, y2, y3, y4⟩ := civY_spec (n := d) (by omega)
   have CC := Hd (fun w => rciv_ok d (by omega) w)
   have CN := Hd (fun w => rlast_ok (civY d) (by omega) w)
   have CL := Hd (fun w => rleap_ok (civY d) (by omega) w)
   have hub : ahd (civY d + 1) <= 4000000 := by unfold ahd; omega
   obtain ⟨y, hy⟩ : ∃ y, y = civY d := ⟨_, rfl⟩
   obtain ⟨m, hm⟩ : ∃ m, m = civM d := ⟨_, rfl⟩
   rw [<- hy] at CC CN CL y1 y2 y3 y4 hub ⊢
   rw [<- hm] at CC
   obtain ⟨l, hl⟩ : ∃ l, l = leapB y := ⟨_, rfl⟩
   rw [<- hl] at CL ⊢
   obtain ⟨z, hz⟩ : ∃ z, z = ahd (y + 1) := ⟨_, rfl⟩
   rw [<- hz] at CN y4 hub
   clear hp hy hm hl hz y3
   go_enter Tryz.func34, Tryz.ntmps34
   go_wp2_with fail
   go_loopw [8, 9] (fun nv av wr => (∃ n a : Int, nv = .int .i64 n /\ av = .int .i64 a /\ ((n = 0 /\ a = d) ∨ (n = (if l then 365 else 366) /\ a = d + 1))) /\ wr = W) (fun _ av _ => (d + 1 - intOf av).toNat)
   case atStart => exact ⟨⟨0, d, rfl, rfl, .inl ⟨rfl, rfl⟩⟩, rfl⟩
   case round =>
    obtain ⟨⟨n, a, rfl, rfl, hna⟩, hw⟩ := hrel
    obtain rfl := hw.symm
    clear hw
    rcases hna with ⟨rfl, rfl⟩ | ⟨hn, rfl⟩
    . have g : a < a + 1 := by omega
      go_wp2_with fail
      refine (CC.o _).mono ?_
      rintro e w1 ⟨rfl, hw⟩
      obtain rfl := hw.symm
      clear hw
      go_wp2_with fail
      refine (CN.o _).mono ?_
      rintro e w2 ⟨rfl, hw⟩
      obtain rfl := hw.symm
      clear hw
      by_cases hgt : a + 1 < z + 1
      . go_wp2_with fail
        refine (CL.o _).mono ?_
        rintro e w3 ⟨rfl, hw⟩
        obtain rfl := hw.symm
        clear hw
        cases l with
        | true =>
          go_wp2_with fail
          go_roundw
          case rel => exact ⟨⟨365, a + 1, by go_num, by go_num, .inr ⟨rfl, rfl⟩⟩, by first | rfl | trivial⟩
          case measure => simp [intOf] <;> omega
        | false =>
          go_wp2_with fail
          go_roundw
          case rel => exact ⟨⟨366, a + 1, by go_num, by go_num, .inr ⟨rfl, rfl⟩⟩, by first | rfl | trivial⟩
          case measure => simp [intOf] <;> omega
      . obtain rfl : z = a := by omega
        go_wp2_with fail
        refine (CL.o _).mono ?_
        rintro e w3 ⟨rfl, hw⟩
        obtain rfl := hw.symm
        clear hw
        cases l with
        | true =>
          go_wp2_with fail
          go_roundw
          case rel => exact ⟨⟨365, z + 1, by go_num, by go_num, .inr ⟨rfl, rfl⟩⟩, by first | rfl | trivial⟩
          case measure => simp [intOf] <;> omega
        | false =>
          go_wp2_with fail
          go_roundw
          case rel => exact ⟨⟨366, z + 1, by go_num, by go_num, .inr ⟨rfl, rfl⟩⟩, by first | rfl | trivial⟩
          case measure => simp [intOf] <;> omega
    . subst hn
      have g : ¬ d + 1 < d + 1 := by omega
      go_wp2_with fail
      all_goals exact bodyPost_ret (Rc.results_two rfl _ _ rfl rfl) rfl ⟨rfl, by first | rfl | trivial⟩
end Rc
end Go.Proofs.YtkdnebalpdebeaaGreatDoor
