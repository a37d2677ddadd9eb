/- Lemmas of a claim: CalP, Bas, AccD, RefP -/
import Derived.Test.YtkdnebalpdebeaaGreatDoorG20
set_option linter.unusedVariables false
set_option linter.unusedSimpArgs false
set_option maxHeartbeats 16000000
set_option maxRecDepth 100000
namespace Go.Proofs.YtkdnebalpdebeaaGreatDoor
namespace Cal
theorem ahd_mono {y z : Int} (hy : 1 <= y) (h : y <= z) : ahd y <= ahd z := by unfold ahd; omega
theorem ahd_next {y : Int} (hy : 1 <= y) : ahd (y + 1) = ahd y + 365 + (if leapB y then 1 else 0) := by
 unfold ahd leapB
 by_cases h4 : y % 4 = 0
 . by_cases h1 : y % 100 = 0
   . by_cases h0 : y % 400 = 0
     . simp [h4, h1, h0]; omega
     . simp [h4, h1, h0]; omega
   . have h0 : y % 400 ≠ 0 := by omega
     simp [h4, h1, h0]; omega
 . have h0 : y % 400 ≠ 0 := by omega
   have h1 : y % 100 ≠ 0 := by omega
   simp [h4, h0]; omega
theorem yr_spec {n : Int} (hn : n <= 3652059) : ∀ (k : Nat) (z : Int), 1 <= z -> ahd z < n -> 10100 <= z + k -> 1 <= yr n k z /\ ahd (yr n k z) < n /\ n <= ahd (yr n k z + 1)
 | 0, z, h1, h2, h3 => by
   have := ahd_ge h1
   omega
 | k + 1, z, h1, h2, h3 => by
   rw [yr]
   split
   . exact yr_spec hn k (z + 1) (by omega) ‹_› (by omega)
   . exact ⟨h1, h2, by omega⟩
theorem civY_spec {n : Int} (h : 1 <= n /\ n <= 3652059) : 1 <= civY n /\ civY n <= 9999 /\ ahd (civY n) < n /\ n <= ahd (civY n + 1) := by
 have := yr_spec h.2 20000 (n / 366 + 1) (by omega) (by unfold ahd; omega) (by omega)
 refine ⟨this.1, ?_, this.2.1, this.2.2⟩
 rcases Int.lt_or_le (civY n) 10000 with hc | hc
 . omega
 . have h1 := ahd_mono (y := 10000) (by omega) hc
   have h2 : ahd 10000 = 3652059 := by decide
   have h3 : ahd (civY n) < n := this.2.1
   omega
theorem year_one {n y z : Int} (hy : 1 <= y) (hz : 1 <= z) (h1 : ahd y < n) (h2 : n <= ahd (y + 1)) (h3 : ahd z < n) (h4 : n <= ahd (z + 1)) : y = z := by
 rcases Int.lt_trichotomy y z with h | h | h
 . have := ahd_mono (y := y + 1) (z := z) (by omega) (by omega); omega
 . exact h
 . have := ahd_mono (y := z + 1) (z := y) (by omega) (by omega); omega
def cumN (y : Int) : Nat -> Int
 | 0 => 0
 | k + 1 => cumN y k + lenI y (k + 1)
theorem cum12 (y : Int) : cumN y 12 = 365 + (if leapB y then 1 else 0) := by
 unfold cumN cumN cumN cumN cumN cumN cumN cumN cumN cumN cumN cumN cumN lenI
 cases leapB y <;> rfl
theorem cumN_mono (y : Int) {i j : Nat} (h : i <= j) : cumN y i <= cumN y j := by
 induction j with
 | zero => obtain rfl : i = 0 := by omega
           exact Int.le_refl _
 | succ j ih =>
   rcases Nat.lt_or_ge j i with h1 | h1
   . obtain rfl : i = j + 1 := by omega
     exact Int.le_refl _
   . have := ih h1
     have := (lenI_in y ((j : Int) + 1)).1
     rw [cumN]
     omega
theorem mo_spec (y : Int) : ∀ (k j : Nat) (x : Int), j < 12 -> 11 - j <= k -> 1 <= x -> cumN y j + x <= cumN y 12 ->
 ∃ i : Nat, i < 12 /\ (mo y k ((j : Int) + 1) x).1 = i + 1 /\ 1 <= (mo y k ((j : Int) + 1) x).2 /\ (mo y k ((j : Int) + 1) x).2 <= lenI y (i + 1) /\ cumN y i + (mo y k ((j : Int) + 1) x).2 = cumN y j + x
 | 0, j, x, h1, h2, h3, h4 => by
   obtain rfl : j = 11 := by omega
   have e : cumN y 12 = cumN y 11 + lenI y (11 + 1) := rfl
   exact ⟨11, by omega, rfl, h3, by show x <= lenI y _; rw [e] at h4; have : ((11 : Nat) : Int) = 11 := rfl; rw [this]; omega, rfl⟩
 | k + 1, j, x, h1, h2, h3, h4 => by
   rw [mo]
   have e : cumN y (j + 1) = cumN y j + lenI y (j + 1) := rfl
   split
   . rename_i hlt
     have hj : j + 1 < 12 := by
      rcases Nat.lt_or_ge (j + 1) 12 with h | h
      . exact h
      . obtain rfl : j = 11 := by omega
        have e2 : cumN y 12 = cumN y 11 + lenI y ((11 : Nat) + 1) := rfl
        omega
     obtain ⟨i, g1, g2, g3, g4, g5⟩ := mo_spec y k (j + 1) (x - lenI y (j + 1)) hj (by omega) (by omega) (by omega)
     have ec : ((j + 1 : Nat) : Int) = (j : Int) + 1 := by omega
     rw [ec] at g2 g3 g4 g5
     exact ⟨i, g1, g2, g3, g4, by rw [g5]; omega⟩
   . rename_i hge
     exact ⟨j, h1, rfl, h3, by show x <= _; omega, rfl⟩
theorem civ_spec {n : Int} (h : 1 <= n /\ n <= 3652059) : ∃ i : Nat, i < 12 /\ (civM n).1 = i + 1 /\ 1 <= (civM n).2 /\ (civM n).2 <= lenI (civY n) (i + 1) /\ n = ahd (civY n) + cumN (civY n) i + (civM n).2 := by
 obtain ⟨y1, y2, a1, a2⟩ := civY_spec h
 have hx := ahd_next y1
 have hc := cum12 (civY n)
 obtain ⟨i, g1, g2, g3, g4, g5⟩ := mo_spec (civY n) 200000 0 (n - ahd (civY n)) (by omega) (by omega) (by omega) (by show 0 + _ <= _; omega)
 have e : (((0 : Nat) : Int) + 1) = 1 := rfl
 rw [e] at g2 g3 g4 g5
 refine ⟨i, g1, g2, g3, g4, ?_⟩
 have g6 : cumN (civY n) i + (civM n).2 = 0 + (n - ahd (civY n)) := g5
 omega
theorem month_one {y : Int} {i j : Nat} {d e : Int} (hd : 1 <= d) (hd' : d <= lenI y (i + 1)) (he : 1 <= e) (he' : e <= lenI y (j + 1)) (h : cumN y i + d = cumN y j + e) : i = j /\ d = e := by
 have key : ∀ {i j : Nat} {d e : Int}, i < j -> d <= lenI y (i + 1) -> 1 <= e -> cumN y i + d = cumN y j + e -> False := by
  intro i j d e hij hd he h
  have h1 := cumN_mono y (i := i + 1) (j := j) hij
  have h2 : cumN y (i + 1) = cumN y i + lenI y (i + 1) := rfl
  omega
 rcases Nat.lt_trichotomy i j with hij | hij | hij
 . exact (key hij hd' he h).elim
 . subst hij; exact ⟨rfl, by omega⟩
 . exact (key hij he' hd h.symm).elim
theorem month_ends {n : Int} (h : 1 <= n /\ n <= 3652000) : ∃ k : Nat, k <= 30 /\ endB (n + k) = true := by
 obtain ⟨i, g1, g2, g3, g4, g5⟩ := civ_spec (n := n) (by omega)
 obtain ⟨y1, y2, a1, a2⟩ := civY_spec (n := n) (by omega)
 have hl := lenI_in (civY n) (i + 1)
 refine ⟨(lenI (civY n) (i + 1) - (civM n).2).toNat, by omega, ?_⟩
 obtain ⟨m, hm⟩ : ∃ m, m = n + ((lenI (civY n) (i + 1) - (civM n).2).toNat : Int) := ⟨_, rfl⟩
 have hm' : m = ahd (civY n) + cumN (civY n) i + lenI (civY n) (i + 1) := by omega
 rw [<- hm]
 have hin : 1 <= m /\ m <= 3652059 := by omega
 obtain ⟨j, q1, q2, q3, q4, q5⟩ := civ_spec hin
 obtain ⟨z1, z2, b1, b2⟩ := civY_spec hin
 have hx := ahd_next y1
 have hc := cum12 (civY n)
 have h1 := cumN_mono (civY n) (i := i + 1) (j := 12) (by omega)
 have h2 : cumN (civY n) (i + 1) = cumN (civY n) i + lenI (civY n) (i + 1) := rfl
 have hy : civY m = civY n := by
  refine year_one z1 y1 b1 b2 (by omega) (by omega)
 rw [hy] at q4 q5
 obtain ⟨e1, e2⟩ := month_one (y := civY n) (i := i) (j := j) (d := lenI (civY n) (i + 1)) (e := (civM m).2) (by omega) (Int.le_refl _) q3 q4 (by omega)
 unfold endB
 rw [q2, hy, <- e2, <- e1]
 simp
def lpdY (y n : Int) : Int := 366 * ((y - 1) / 4 - (y - 1) / 100 + (y - 1) / 400) + (if leapB y then n - (ahd y + 1) else 0)
theorem lpd_same (y n : Int) : lpdY y (n + 1) - lpdY y n = (if leapB y then 1 else 0) := by
 unfold lpdY
 cases leapB y
 . simp
 . simp; omega
theorem lpd_year {y n : Int} (hy : 1 <= y) (hn : n = ahd (y + 1)) : lpdY (y + 1) (n + 1) - lpdY y n = (if leapB y then 1 else 0) := by
 have hx := ahd_next hy
 have e1 : y + 1 - 1 = y := by omega
 have ey : n + 1 - (ahd (y + 1) + 1) = 0 := by omega
 obtain ⟨q, hq⟩ : ∃ q, q = y / 4 - y / 100 + y / 400 := ⟨_, rfl⟩
 obtain ⟨p, hp⟩ : ∃ p, p = (y - 1) / 4 - (y - 1) / 100 + (y - 1) / 400 := ⟨_, rfl⟩
 have h1 : ahd (y + 1) = 365 * y + q := by rw [hq]; unfold ahd; rw [e1]; omega
 have h2 : ahd y = 365 * (y - 1) + p := by rw [hp]; unfold ahd; omega
 unfold lpdY
 rw [e1, ey, <- hq, <- hp]
 clear hq hp
 have ez : (if leapB (y + 1) = true then (0 : Int) else 0) = 0 := by split <;> rfl
 rw [ez]
 generalize ahd (y + 1) = A at *
 generalize ahd y = B at *
 generalize leapB y = b at *
 cases b
 . simp only [Bool.false_eq_true, if_false] at hx ⊢; omega
 . simp only [if_true] at hx ⊢; omega
theorem lpd_two {n y z : Int} (y1 : 1 <= y) (z1 : 1 <= z) (a1 : ahd y < n) (a2 : n <= ahd (y + 1)) (b1 : ahd z < n + 1) (b2 : n + 1 <= ahd (z + 1)) : lpdY z (n + 1) - lpdY y n = (if leapB y then 1 else 0) := by
 have hx := ahd_next y1
 rcases Int.lt_or_le n (ahd (y + 1)) with hlt | hge
 . obtain rfl : z = y := year_one z1 y1 b1 b2 (by omega) (by omega)
   exact lpd_same z n
 . have hxx := ahd_next (y := y + 1) (by omega)
   obtain rfl : z = y + 1 := year_one z1 (by omega) b1 b2 (by omega) (by split at hxx <;> omega)
   exact lpd_year y1 (by omega)
theorem lpd_next {n : Int} (h : 1 <= n /\ n < 3652059) : lpdY (civY (n + 1)) (n + 1) - lpdY (civY n) n = (if leapB (civY n) then 1 else 0) := by
 obtain ⟨y1, _, a1, a2⟩ := civY_spec (n := n) ⟨h.1, Int.le_of_lt h.2⟩
 obtain ⟨z1, _, b1, b2⟩ := civY_spec (n := n + 1) ⟨by omega, by omega⟩
 exact lpd_two y1 z1 a1 a2 b1 b2
theorem civ_next {n : Int} (h : 1 <= n /\ n < 3652059) :
 (civY (n + 1) = civY n /\ (civM (n + 1)).1 = (civM n).1 /\ (civM (n + 1)).2 = (civM n).2 + 1 /\ (civM n).2 < lenI (civY n) (civM n).1) ∨
 (civY (n + 1) = civY n /\ (civM (n + 1)).1 = (civM n).1 + 1 /\ (civM (n + 1)).2 = 1 /\ (civM n).2 = lenI (civY n) (civM n).1 /\ (civM n).1 < 12) ∨
 (civY (n + 1) = civY n + 1 /\ (civM (n + 1)).1 = 1 /\ (civM (n + 1)).2 = 1 /\ (civM n).2 = lenI (civY n) (civM n).1 /\ (civM n).1 = 12) := by
 obtain ⟨i, g1, g2, g3, g4, g5⟩ := civ_spec (n := n) ⟨h.1, Int.le_of_lt h.2⟩
 obtain ⟨y1, y2, a1, a2⟩ := civY_spec (n := n) ⟨h.1, Int.le_of_lt h.2⟩
 obtain ⟨j, q1, q2, q3, q4, q5⟩ := civ_spec (n := n + 1) ⟨by omega, by omega⟩
 obtain ⟨z1, z2, b1, b2⟩ := civY_spec (n := n + 1) ⟨by omega, by omega⟩
 generalize civY n = Y at *
 generalize civY (n + 1) = Z at *
 generalize civM n = MD at *
 generalize civM (n + 1) = ND at *
 obtain ⟨M, D⟩ := MD
 obtain ⟨N, E⟩ := ND
 simp only at g2 g3 g4 g5 q2 q3 q4 q5
 subst g2 q2
 simp only
 have hx := ahd_next y1
 have hc := cum12 Y
 have hl := lenI_in Y ((i : Int) + 1)
 have hs : cumN Y (i + 1) = cumN Y i + lenI Y (i + 1) := rfl
 have hm := cumN_mono Y (i := i + 1) (j := 12) (by omega)
 rcases Int.lt_or_le n (ahd (Y + 1)) with hlt | hge
 . obtain rfl : Z = Y := year_one z1 y1 b1 b2 (by omega) (by omega)
   rcases Int.lt_or_le D (lenI Z ((i : Int) + 1)) with hd | hd
   . obtain ⟨e1, e2⟩ := month_one (y := Z) (i := i) (j := j) (d := D + 1) (e := E) (by omega) (by omega) q3 q4 (by omega)
     subst e1
     exact .inl ⟨rfl, rfl, e2.symm, hd⟩
   . have hD : D = lenI Z ((i : Int) + 1) := by omega
     have hi : i < 11 := by
      rcases Nat.lt_or_ge i 11 with hi | hi
      . exact hi
      . obtain rfl : i = 11 := by omega
        have e12 : cumN Z (11 + 1) = cumN Z 12 := rfl
        omega
     have hl2 := lenI_in Z (((i + 1 : Nat) : Int) + 1)
     obtain ⟨e1, e2⟩ := month_one (y := Z) (i := i + 1) (j := j) (d := 1) (e := E) (by omega) (by omega) q3 q4 (by omega)
     subst e1
     exact .inr (.inl ⟨rfl, by simp, e2.symm, hD, by omega⟩)
 . have hyy := ahd_next (y := Y + 1) (by omega)
   obtain rfl : Z = Y + 1 := year_one z1 (by omega) b1 b2 (by omega) (by split at hyy <;> omega)
   have hi : i = 11 := by
    rcases Nat.lt_or_ge i 11 with hi | hi
    . have h1 := cumN_mono Y (i := i + 1 + 1) (j := 12) (by omega)
      have h2 : cumN Y (i + 1 + 1) = cumN Y (i + 1) + lenI Y ((i + 1 : Nat) + 1) := rfl
      have h3 := lenI_in Y (((i + 1 : Nat) : Int) + 1)
      omega
    . omega
   subst hi
   have e12 : cumN Y (11 + 1) = cumN Y 12 := rfl
   have hl2 := lenI_in (Y + 1) (((0 : Nat) : Int) + 1)
   have h0 : cumN (Y + 1) 0 = 0 := rfl
   obtain ⟨e1, e2⟩ := month_one (y := Y + 1) (i := 0) (j := j) (d := 1) (e := E) (by omega) (by omega) q3 q4 (by omega)
   subst e1
   exact .inr (.inr ⟨rfl, rfl, e2.symm, by omega, rfl⟩)
end Cal
namespace Bas
open Go.RowKit Go.Deep Cal
theorem results_four {fn : Func} {u v t s : Tmp} (h : fn.results = #[.tmp u, .tmp v, .tmp t, .tmp s]) (tmps : Array Value) (w : World) {x y z q : Value} (hx : tmps.getD u undef = x) (hy : tmps.getD v undef = y) (hz : tmps.getD t undef = z) (hq : tmps.getD s undef = q) : (results fn tmps).run Tryz.prog w = .ok (.tuple #[x, y, z, q]) w := by
 subst hx hy hz hq
 simp [results, h, go_sem, Result.andThen]
theorem day_in {n : Int} (h : 1 <= n /\ n <= 3652059) : (1 <= civY n /\ civY n <= 9999) /\ (1 <= (civM n).1 /\ (civM n).1 <= 12) /\ (1 <= (civM n).2 /\ (civM n).2 <= 31) := by
 obtain ⟨i, g1, g2, g3, g4, g5⟩ := civ_spec h
 obtain ⟨y1, y2, _⟩ := civY_spec h
 have := lenI_in (civY n) (i + 1)
 exact ⟨⟨y1, y2⟩, by omega, by omega⟩
theorem Civil_ok (n : Int) (h : 1 <= n /\ n <= 3652059) (W : World) : Calls Tryz.prog 217 #[.int .i64 n] W fun e w' => e = .returned (.tuple #[.int .i64 (civY n), .int .i64 (civM n).1, .int .i64 (civM n).2, .int .i64 0]) /\ w' = W := by
 have CI := Hd (fun W' => is_ok n h W')
 have CC := Hd (fun W' => civil_ok n h W')
 obtain ⟨Y, hY⟩ : ∃ Y, Y = civY n := ⟨_, rfl⟩
 obtain ⟨M, hM⟩ : ∃ M, M = (civM n).1 := ⟨_, rfl⟩
 obtain ⟨D, hD⟩ : ∃ D, D = (civM n).2 := ⟨_, rfl⟩
 rw [<- hY, <- hM, <- hD] at CC ⊢
 clear hY hM hD
 go_enter Tryz.func217, Tryz.ntmps217
 go_wp2_with fail
 refine (CI.o _).mono ?_
 rintro e w1 ⟨rfl, rfl⟩
 go_wp2_with fail
 refine (CC.o _).mono ?_
 rintro e w1 ⟨rfl, rfl, y1, y2, m1, m2⟩
 go_wp2_with fail
 exact bodyPost_ret (results_four rfl _ _ rfl rfl rfl rfl) rfl ⟨rfl, rfl⟩
theorem first_ok (y : Int) (h : 1 <= y /\ y <= 9999) (W : World) : Calls Tryz.prog 218 #[.int .i64 y, .int .i64 1, .int .i64 1] W fun e w' => e = .returned (.tuple #[.int .i64 (ahd y + 1), .int .i64 0]) /\ w' = W := by
 have CL := Hd (fun W' => length_ok y 1 (by omega) (by omega) W')
 have CA := Hd (fun W' => ahead_ok y (by omega) W')
 have h1 := ahd_ge (y := y) h.1
 have h2 := ahd_le (y := y) h.1
 obtain ⟨A, hA⟩ : ∃ A, A = ahd y := ⟨_, rfl⟩
 rw [show lenI y 1 = 31 from rfl] at CL
 rw [<- hA] at CA h1 h2 ⊢
 obtain ⟨y1, y2⟩ := h
 have d1 : decide (y < 1) = false := by simp; omega
 have d2 : decide (9999 < y) = false := by simp; omega
 have hA0 : 0 <= A /\ A <= 4000000 := by omega
 clear hA h1 h2
 go_enter Tryz.func218, Tryz.ntmps218
 go_wp2_with fail
 refine (CL.o _).mono ?_
 rintro e w1 ⟨rfl, rfl⟩
 go_wp2_with fail
 refine (CA.o _).mono ?_
 rintro e w1 ⟨rfl, rfl⟩
 go_wp2_with fail
 go_loop [8, 9] (fun n k => n = .int .i64 (A + 1) /\ k = .int .i64 1) (fun _ _ => 0)
 case atStart => exact ⟨rfl, rfl⟩
 case round =>
  obtain ⟨rfl, rfl⟩ := hrel
  go_wp2_with fail
  exact bodyPost_ret (results_two rfl _ _ rfl rfl) rfl ⟨rfl, rfl⟩
theorem feb_ok (y : Int) (h : 1 <= y /\ y <= 9999) (W : World) : Calls Tryz.prog 219 #[.int .i64 y, .int .i64 2] W fun e w' => e = .returned (.tuple #[.int .i64 (if leapB y then 29 else 28), .int .i64 0]) /\ w' = W := by
 have CL := Hd (fun W' => length_ok y 2 (by omega) (by omega) W')
 rw [show lenI y 2 = (if leapB y then 29 else 28) from rfl] at CL
 obtain ⟨L, hL⟩ : ∃ L : Int, L = (if leapB y then 29 else 28) := ⟨_, rfl⟩
 rw [<- hL] at CL ⊢
 obtain ⟨y1, y2⟩ := h
 have d1 : decide (y < 1) = false := by simp; omega
 have d2 : decide (9999 < y) = false := by simp; omega
 clear hL
 go_enter Tryz.func219, Tryz.ntmps219
 go_wp2_with fail
 refine (CL.o _).mono ?_
 rintro e w1 ⟨rfl, rfl⟩
 go_wp2_with fail
 exact bodyPost_ret (results_two rfl _ _ rfl rfl) rfl ⟨rfl, rfl⟩
theorem leaps_ok (n : Int) (h : 1 <= n /\ n <= 3652059) (W : World) : Calls Tryz.prog 182 #[.int .i64 n] W fun e w' => e = .returned (.tuple #[.int .i64 (lpdY (civY n) n), .int .i64 (civY n)]) /\ w' = W := by
 obtain ⟨⟨y1, y2⟩, _, _⟩ := day_in h
 have CC := Hd (fun W' => Civil_ok n h W')
 obtain ⟨Y, hY⟩ : ∃ Y, Y = civY n := ⟨_, rfl⟩
 obtain ⟨M, hM⟩ : ∃ M, M = (civM n).1 := ⟨_, rfl⟩
 obtain ⟨D, hD⟩ : ∃ D, D = (civM n).2 := ⟨_, rfl⟩
 rw [<- hY] at y1 y2
 rw [<- hY, <- hM, <- hD] at CC
 rw [<- hY]
 have CN := Hd (fun W' => first_ok Y ⟨y1, y2⟩ W')
 have CF := Hd (fun W' => feb_ok Y ⟨y1, y2⟩ W')
 have h1 := ahd_ge (y := Y) y1
 have h2 := ahd_le (y := Y) y1
 obtain ⟨A, hA⟩ : ∃ A, A = ahd Y := ⟨_, rfl⟩
 have HA := Hd hA
 rw [<- hA] at CN h1 h2
 obtain ⟨n1, n2⟩ := h
 clear hY hM hD hA
 have e1 : 366 * ((Y - 1) / 4 - (Y - 1) / 100 + (Y - 1) / 400) + n - (A + 1) = 366 * ((Y - 1) / 4 - (Y - 1) / 100 + (Y - 1) / 400) + (n - (A + 1)) := by omega
 have HE := Hd e1
 clear e1
 unfold lpdY
 rw [<- HA.o]
 cases hb : leapB Y with
 | true =>
   simp only [hb, if_true] at CF ⊢
   clear hb
   go_enter Tryz.func182, Tryz.ntmps182
   go_wp2_with fail
   refine (CC.o _).mono ?_
   rintro e w1 ⟨rfl, rfl⟩
   go_wp2_with fail
   refine (CN.o _).mono ?_
   rintro e w1 ⟨rfl, rfl⟩
   go_wp2_with fail
   refine (CF.o _).mono ?_
   rintro e w1 ⟨rfl, rfl⟩
   go_wp2_with fail
   exact bodyPost_ret (results_two rfl _ _ rfl rfl) rfl ⟨by rw [<- HE.o]; try simp, rfl⟩
 | false =>
   simp only [hb, Bool.false_eq_true, if_false] at CF ⊢
   clear hb
   go_enter Tryz.func182, Tryz.ntmps182
   go_wp2_with fail
   refine (CC.o _).mono ?_
   rintro e w1 ⟨rfl, rfl⟩
   go_wp2_with fail
   refine (CN.o _).mono ?_
   rintro e w1 ⟨rfl, rfl⟩
   go_wp2_with fail
   refine (CF.o _).mono ?_
   rintro e w1 ⟨rfl, rfl⟩
   go_wp2_with fail
   exact bodyPost_ret (results_two rfl _ _ rfl rfl) rfl ⟨by simp, rfl⟩
theorem lpd_in {n : Int} (h : 1 <= n /\ n <= 3652059) : 0 <= lpdY (civY n) n /\ lpdY (civY n) n <= 5000000 := by
 obtain ⟨y1, y2, a1, a2⟩ := civY_spec h
 have h0 := ahd_ge y1
 unfold lpdY
 generalize civY n = Y at *
 generalize ahd (Y + 1) = B at *
 generalize ahd Y = A at *
 split <;> omega
def thirtyN (d : Int) : Int := 360 * (civY (d + 1) - civY d) + 30 * ((civM (d + 1)).1 - (civM d).1) + min (civM (d + 1)).2 30 - min (civM d).2 30
theorem thirty_ok (d : Int) (h : 1 <= d /\ d < 3652059) (W : World) : Calls Tryz.prog 181 #[.int .i64 d, .int .i64 (d + 1)] W fun e w' => e = .returned (.int .i64 (thirtyN d)) /\ w' = W := by
 obtain ⟨⟨y1, y2⟩, ⟨m1, m2⟩, e1, e2⟩ := day_in (n := d) ⟨h.1, Int.le_of_lt h.2⟩
 obtain ⟨⟨z1, z2⟩, ⟨n1, n2⟩, f1, f2⟩ := day_in (n := d + 1) ⟨by omega, by omega⟩
 have CC := Hd (fun W' => Civil_ok d ⟨h.1, Int.le_of_lt h.2⟩ W')
 have CD := Hd (fun W' => Civil_ok (d + 1) ⟨by omega, by omega⟩ W')
 unfold thirtyN
 generalize civY d = Y at *
 generalize civY (d + 1) = Z at *
 generalize civM d = MD at *
 generalize civM (d + 1) = ND at *
 obtain ⟨M, D⟩ := MD
 obtain ⟨N, E⟩ := ND
 go_enter Tryz.func181, Tryz.ntmps181
 go_wp2_with fail
 refine (CC.o _).mono ?_
 rintro e w1 ⟨rfl, rfl⟩
 go_wp2_with fail
 refine (CD.o _).mono ?_
 rintro e w1 ⟨rfl, rfl⟩
 go_wp2_with fail
 exact bodyPost_ret (results_one rfl _ _ rfl) rfl ⟨rfl, rfl⟩
theorem thirty_in {d : Int} (h : 1 <= d /\ d < 3652059) : 0 <= thirtyN d /\ thirtyN d <= 3 := by
 have hn := civ_next h
 obtain ⟨_, _, e1, e2⟩ := day_in (n := d) ⟨h.1, Int.le_of_lt h.2⟩
 have hl := lenI_in (civY d) (civM d).1
 unfold thirtyN
 generalize civY d = Y at *
 generalize civY (d + 1) = Z at *
 generalize civM d = MD at *
 generalize civM (d + 1) = ND at *
 rcases hn with ⟨h1, h2, h3, h4⟩ | ⟨h1, h2, h3, h4, h5⟩ | ⟨h1, h2, h3, h4, h5⟩
 . rw [h1, h2, h3]; omega
 . rw [h1, h2, h3]; omega
 . rw [h1, h2, h3, h5]; omega
def partN (h d : Int) : Int := if h = 2 then thirtyN d else if h = 3 then (if leapB (civY d) then 365 else 366) else 1
def partD (h : Int) : Int := if h = 0 then 360 else if h = 1 then 365 else if h = 2 then 360 else 133590
theorem part_in {h d : Int} (hd : 1 <= d /\ d < 3652059) : 0 <= partN h d /\ partN h d <= 366 := by
 have := thirty_in hd
 unfold partN
 split
 . omega
 . split
   . split <;> omega
   . omega
theorem partD_in (h : Int) : 360 <= partD h /\ partD h <= 133590 := by
 unfold partD
 split
 . omega
 . split
   . omega
   . split <;> omega
theorem part_ok (h d : Int) (hh : h = 0 ∨ h = 1 ∨ h = 2 ∨ h = 3) (hd : 1 <= d /\ d < 3652059) (W : World) : Calls Tryz.prog 130 #[.int .i64 h, .int .i64 d, .int .i64 (d + 1)] W fun e w' => e = .returned (.tuple #[.int .i64 (partN h d), .int .i64 (partD h), .int .i64 0]) /\ w' = W := by
 have CB := Hd (fun W' => Acc.bcheck_ok h d (d + 1) (by omega) (by omega) (by omega) W')
 have e1 : d + 1 - d = 1 := by omega
 have CT := Hd (fun W' => thirty_ok d hd W')
 have C1 := Hd (fun W' => leaps_ok d ⟨hd.1, Int.le_of_lt hd.2⟩ W')
 have C2 := Hd (fun W' => leaps_ok (d + 1) ⟨by omega, by omega⟩ W')
 have ht := thirty_in hd
 have hp := lpd_next hd
 have hq := lpd_in (n := d) ⟨hd.1, Int.le_of_lt hd.2⟩
 have hr := lpd_in (n := d + 1) ⟨by omega, by omega⟩
 obtain ⟨d1, d2⟩ := hd
 obtain ⟨P, hP⟩ : ∃ P : Int, P = (if leapB (civY d) then 365 else 366) := ⟨_, rfl⟩
 unfold partN
 rw [<- hP]
 generalize thirtyN d = T at *
 generalize lpdY (civY d) d = A at *
 generalize lpdY (civY (d + 1)) (d + 1) = B at *
 generalize civY d = Y at *
 generalize civY (d + 1) = Z at *
 rcases hh with rfl | rfl | rfl | rfl
 . go_enter Tryz.func130, Tryz.ntmps130
   go_wp2_with fail
   refine (CB.o _).mono ?_
   rintro e w1 ⟨rfl, rfl⟩
   go_wp2_with fail
   exact bodyPost_ret (results_three rfl _ _ rfl rfl rfl) rfl ⟨by simp [e1, partD], rfl⟩
 . go_enter Tryz.func130, Tryz.ntmps130
   go_wp2_with fail
   refine (CB.o _).mono ?_
   rintro e w1 ⟨rfl, rfl⟩
   go_wp2_with fail
   exact bodyPost_ret (results_three rfl _ _ rfl rfl rfl) rfl ⟨by simp [e1, partD], rfl⟩
 . go_enter Tryz.func130, Tryz.ntmps130
   go_wp2_with fail
   refine (CB.o _).mono ?_
   rintro e w1 ⟨rfl, rfl⟩
   go_wp2_with fail
   refine (CT.o _).mono ?_
   rintro e w1 ⟨rfl, rfl⟩
   go_wp2_with fail
   exact bodyPost_ret (results_three rfl _ _ rfl rfl rfl) rfl ⟨by simp [partD], rfl⟩
 . obtain ⟨q1, q2⟩ := hq
   obtain ⟨r1, r2⟩ := hr
   have hv : 365 * (B - A) + 366 * (1 - (B - A)) = P := by
    rw [hp, hP]; split <;> rfl
   have HV := Hd hv
   have hba : -1 <= B - A /\ B - A <= 1 := by rw [hp]; split <;> omega
   obtain ⟨b1, b2⟩ := hba
   clear hv hp ht hP
   go_enter Tryz.func130, Tryz.ntmps130
   go_wp2_with fail
   refine (CB.o _).mono ?_
   rintro e w1 ⟨rfl, rfl⟩
   go_wp2_with fail
   refine (C1.o _).mono ?_
   rintro e w1 ⟨rfl, rfl⟩
   go_wp2_with fail
   refine (C2.o _).mono ?_
   rintro e w1 ⟨rfl, rfl⟩
   go_wp2_with fail
   exact bodyPost_ret (results_three rfl _ _ rfl rfl rfl) rfl ⟨by rw [HV.o]; simp [partD], rfl⟩
end Bas
namespace Bas
theorem part_ratio {h d : Int} (hd : 1 <= d /\ d < 3652059) : 100 * partN h d <= partD h := by
 have := thirty_in hd
 have hp := partD_in h
 unfold partN partD at *
 split
 . rename_i h2
   subst h2
   simp; omega
 . split
   . rename_i h3
     subst h3
     simp; split <;> omega
   . omega
end Bas
namespace Acc
open Go.RowKit Go.Deep Wide Dec
open Cal hiding results_one results_two
def dayG (b r n D mode : Int) : Int := ((roundN mode false (b * r * n).natAbs (1000 * D).natAbs : Nat) : Int)
theorem dayP_in {b r n : Int} (hb : 0 <= b /\ b <= 10000000000000) (hr : 0 <= r /\ r <= 1000000000) (n0 : 0 <= n) (n1 : n <= 366) : 0 <= b * r * n /\ b * r * n <= 10000000000000000000000 * 366 := by
 obtain ⟨p0, p1⟩ := day_prod hb hr
 exact ⟨Int.mul_nonneg p0 n0, Int.mul_le_mul p1 n1 n0 (by omega)⟩
theorem dayG_in {b r n D mode : Int} (hb : 0 <= b /\ b <= 10000000000000) (hr : 0 <= r /\ r <= 1000000000) (n0 : 0 <= n) (n1 : n <= 366) (hD : 360 <= D) (h : 100 * n <= D) : 0 <= dayG b r n D mode /\ dayG b r n D mode <= 100000000000000001 := by
 obtain ⟨p0, p1⟩ := day_prod hb hr
 have h1 : b * r * n <= 10000000000000000000000 * n := Int.mul_le_mul_of_nonneg_right p1 n0
 have h0 : 0 <= b * r * n := Int.mul_nonneg p0 n0
 have h2 : (b * r * n).natAbs <= 100000000000000000 * (1000 * D).natAbs := by omega
 have h3 : (b * r * n).natAbs / (1000 * D).natAbs <= 100000000000000000 := Nat.div_le_of_le_mul (by rw [Nat.mul_comm]; exact h2)
 unfold dayG roundN
 generalize (b * r * n).natAbs / (1000 * D).natAbs = q at *
 split <;> omega
theorem dquoG_ok (b r n D mode : Int) (hmode : 0 <= mode /\ mode <= 6) (hb : 0 <= b /\ b <= 10000000000000) (hr : 0 <= r /\ r <= 1000000000) (n0 : 0 <= n) (n1 : n <= 366) (hD : 360 <= D) (hD1 : D <= 133590) (W : World) :
 Calls Tryz.prog 137 #[.agg (decE (b * r * n) 0), .agg (decE (1000 * D) 0), .int .i64 0, .int .i64 mode] W fun e w' => e = .returned (.tuple #[.agg (decE (dayG b r n D mode) 0), .int .i64 0]) /\ Below W.heap.size W w' := by
 obtain ⟨p0, p1⟩ := dayP_in hb hr n0 n1
 have := quo0_ok (b * r * n) (1000 * D) mode hmode (by unfold InT; omega) (by unfold InT; omega) (by omega) (by omega) (by omega) W
 have hm : mulM (b * r * n) (1000 * D) = false := by
  unfold mulM
  have h1 : decide (b * r * n < 0) = false := by simpa using p0
  have h2 : decide (1000 * D < 0) = false := by simp; omega
  rw [h1, h2]; rfl
 rw [hm] at this
 have hle : roundN mode false (b * r * n).natAbs (1000 * D).natAbs < T := by
  have hd : (b * r * n).natAbs / (1000 * D).natAbs <= (b * r * n).natAbs := Nat.div_le_self _ _
  unfold roundN T
  generalize (b * r * n).natAbs / (1000 * D).natAbs = q at *
  split <;> omega
 have e1 : rndC mode false (b * r * n).natAbs (1000 * D).natAbs = dayG b r n D mode := by
  unfold rndC togC dayG; rw [if_pos hle]; unfold coef; simp
 have e2 : togE (roundN mode false (b * r * n).natAbs (1000 * D).natAbs) = 0 := by unfold togE; rw [if_pos hle]
 rwa [e1, e2] at this
theorem dailyG_ok (h b r mode d : Int) (hh : h = 0 ∨ h = 1 ∨ h = 2 ∨ h = 3) (g c : Nat) (hmode : 0 <= mode /\ mode <= 6) (hb : 0 <= b /\ b <= 10000000000000) (hr : 0 <= r /\ r <= 1000000000) (hd : 1 <= d /\ d < 3652059) (W : World) (hT : Tier1 g r W) :
 Calls Tryz.prog 85 #[.int .i64 b, .slice (some ⟨g, 0, none⟩) 1 c, .int .i64 h, .int .i64 mode, .int .i64 d, .int .i64 (d + 1)] W fun e w' => e = .returned (.tuple #[.int .i64 (dayG b r (Bas.partN h d) (Bas.partD h) mode), .int .i64 0]) /\ Below W.heap.size W w' := by
 obtain ⟨p0, p1⟩ := day_prod hb hr
 have CP := Hd (fun W' => Bas.part_ok h d hh hd W')
 obtain ⟨n0, n1⟩ := Bas.part_in (h := h) hd
 obtain ⟨D0, D1⟩ := Bas.partD_in h
 have hrat := Bas.part_ratio (h := h) hd
 obtain ⟨n, hn⟩ : ∃ n, n = Bas.partN h d := ⟨_, rfl⟩
 obtain ⟨D, hDD⟩ : ∃ D, D = Bas.partD h := ⟨_, rfl⟩
 rw [<- hn, <- hDD] at CP hrat
 rw [<- hn] at n0 n1
 rw [<- hDD] at D0 D1
 rw [<- hn, <- hDD]
 clear hn hDD
 obtain ⟨q0, q1⟩ := dayG_in (mode := mode) hb hr n0 n1 D0 hrat
 have CA := Hd (fun W' => amount_ok b W')
 rw [show amtB b = true by simpa [amtB] using hb] at CA
 have CT := Hd (fun (c : Nat) W' h => tiers_ok g r c hr W' h)
 have C0 := Hd (fun W' => of_ok 0 (by omega) W')
 have CPP := Hd (fun (c : Nat) W' h => parts_ok b hb.2 g r c W' h)
 rw [show part1 b = b by unfold part1; split <;> omega] at CPP
 have CB := Hd (fun W' => of_ok b (by omega) W')
 have CR := Hd (fun W' => of_ok r (by omega) W')
 have C1 := Hd (fun W' => of_ok n (by omega) W')
 have CY := Hd (fun W' => of_ok (1000 * D) (by omega) W')
 have CM := Hd (fun W' => of_ok 4000000000000000000 (by omega) W')
 have hbr : b.natAbs * r.natAbs < T := by
  have : b.natAbs * r.natAbs = (b * r).natAbs := (Int.natAbs_mul b r).symm
  rw [this]; unfold T; omega
 have CX := Hd (fun W' => times_ok b r (by unfold InT; omega) (by unfold InT; omega) (by omega) (by omega) hbr W')
 have CS := Hd (fun W' => add0_ok 0 (b * r) (by unfold InT; omega) (by unfold InT; omega) (by omega) (by omega) W')
 rw [Int.zero_add] at CS
 obtain ⟨u0, u1⟩ := dayP_in hb hr n0 n1
 have hbn : (b * r).natAbs * n.natAbs < T := by
  rw [<- Int.natAbs_mul]; unfold T; omega
 have CX1 := Hd (fun W' => times_ok (b * r) n (by unfold InT; omega) (by unfold InT; omega) (by omega) (by omega) hbn W')
 have CQ := Hd (fun W' => dquoG_ok b r n D mode hmode hb hr n0 n1 D0 D1 W')
 obtain ⟨x, hx⟩ : ∃ x, x = b * r := ⟨_, rfl⟩
 obtain ⟨x2, hx2⟩ : ∃ x2, x2 = b * r * n := ⟨_, rfl⟩
 obtain ⟨y, hy⟩ : ∃ y, y = dayG b r n D mode := ⟨_, rfl⟩
 rw [<- hx2, <- hy] at CQ
 rw [<- hx2] at CX1 u0 u1
 rw [<- hx] at CX CS CX1 p0 p1
 rw [<- hy] at q0 q1 ⊢
 have CC := Hd (fun W' => dcmp_ok y 0 4000000000000000000 0 (by unfold InT; omega) (by unfold InT; omega) (chk0 (by omega)) (chk0 (by omega)) W')
 have hcm := cmp0_le (a := y) (b := 4000000000000000000) (by omega)
 obtain ⟨k, hk⟩ : ∃ k, k = cmpD y 0 4000000000000000000 0 := ⟨_, rfl⟩
 rw [<- hk] at CC hcm
 have CI := Hd (fun W' => int0_ok y (by omega) W')
 have HT := Hd hT
 have hlt := hT.lt
 obtain ⟨m1, m2⟩ := hmode
 have d1 : decide (mode < 0) = false := by simpa using m1
 have d2 : decide (6 < mode) = false := by simpa using m2
 clear hx hx2 hy hk hbr hbn hT m1 m2 hr hrat
 go_enter Tryz.func85, Tryz.ntmps85
 go_wp2_with fail
 refine (CP.o _).mono ?_
 rintro e w1 ⟨rfl, hw⟩
 obtain rfl : W = w1 := hw.symm
 go_wp2_with fail
 refine (CA.o _).mono ?_
 rintro e w1 ⟨rfl, hw⟩
 obtain rfl : W = w1 := hw.symm
 go_wp2_with fail
 refine (CT.o c _ HT.o).mono ?_
 rintro e w1 ⟨rfl, hb1⟩
 have HT1 := Hd (HT.o.step hb1)
 have HB1 := Hd hb1
 clear hb1
 go_wp2_with fail
 refine (C0.o _).mono ?_
 rintro e w2 ⟨rfl, hb2⟩
 have HT2 := Hd (HT1.o.step hb2)
 have HB2 := Hd ((Has.nil HB1.o).step hb2)
 clear hb2 HB1 HT1
 go_wp2_with (refine wpList_put rfl 56 (.tmp 18) (.tmp 60) rfl w2.heap.size (decE 0 0) rfl rfl 56 _ (Blk.new w2 _ _) (by kernel_rfl) (by first | rfl | (rw [enc_size]; rfl)) (decE_all _ _) ?_
              intro W3 HB3 hfar3 hbel3 hsz3 hcell3
              have H3 := Hd ((HB2.o.new rfl 56 #[.int .i64 0, .int .u64 0, .int .i64 0]).upd 0 rfl HB2.o.size (by simp) HB3 hfar3 hbel3)
              have HT3 := Hd (HT2.o.step (hbel3 _ _ (Nat.le_refl _) ((Below.refl _ _).alloc (Nat.le_refl _) _)))
              have hq := Hd (show w2.heap.size < W3.heap.size by rw [hsz3]; simp)
              clear HB3 hfar3 hbel3 hsz3 hcell3)
 refine (CPP.o c _ HT3.o).mono ?_
 rintro e w4 ⟨rfl, H4⟩
 obtain ⟨q, hqe⟩ : ∃ q, q = w2.heap.size := ⟨_, rfl⟩
 have hqW : Hi (W.heap.size <= q) := Hd (by rw [hqe]; exact HB2.o.size)
 obtain ⟨p, hpe⟩ : ∃ p, p = W3.heap.size := ⟨_, rfl⟩
 rw [<- hqe] at H3 hq ⊢
 rw [<- hpe] at hq ⊢
 have H5 : Has W [(p, 2, #[.int .i64 b]), (q, 56, decE 0 0)] w4 := by
  rw [hpe]; exact Has.cons (H4.get 0 rfl) (H3.o.step H4.below)
 have HT5 := Hd (HT3.o.step H4.below)
 have HH5 := Hd H5
 clear H4 H3 HT3 H5 hqe hpe HT2 HB2
 go_wp2_with fail
 go_loopw [65] (fun i wr => ∃ k : Nat, k <= 1 /\ i = .int .i64 k /\ Hi (Has W [(p, 2, #[.int .i64 b]), (q, 56, decE (if k = 0 then 0 else x) 0)] wr)) (fun i _ => 1 - (intOf i).toNat)
 case atStart => exact ⟨0, by omega, rfl, HH5⟩
 case round =>
  clear HH5 HT5
  obtain ⟨j, hj, rfl, HH⟩ := hrel
  by_cases hj0 : j = 0
  . subst hj0
    have HH0 : Hi (Has W [(p, 2, #[.int .i64 b]), (q, 56, decE 0 0)] wr) := HH
    have cp : wr.cell? ⟨p, 0, none⟩ = some (.int .i64 b) := (HH0.o.get 0 rfl).cell 0
    clear HH
    go_wp2_with fail
    clear cp
    refine wp_region_regF (fun w' => Has W [(p, 2, #[.int .i64 b]), (q, 56, decE 0 0)] w') (fun w' => Has W [] w') (fun _ => (0, #[])) [0, 1, 2, 3, 4, 5, 6, 7, 8, 9, 10, 11, 12, 13] [] [14] [13] (by kernel_rfl) (by kernel_rfl) ?_ (fun w w' h hb => h.step hb) ?_ (fun k hk => by cases hk) ?_
    . exact fun w h => h.of_mem (by simp)
    . exact HH0.o.drew
    clear HH0
    simp only [List.map_cons, List.map_nil, opAt, List.getElem?_cons_succ, List.getElem?_cons_zero, Option.getD_some, List.contains_cons, List.contains_nil, Nat.reduceBEq, Bool.or_false, Bool.or_true, Bool.true_or, Bool.false_or]
    refine wpX_pure rfl ?_
    refine wpQuiet_row 56 (.tmp 18) rfl rfl q rfl 56 (decE 0 0) _ (fun w hw => hw.get 1 rfl) Tryz.underlying56 rfl (by kernel_rfl) (fun K1 k1 => ?_)
    go_simp
    refine k1 _ ?_
    clear k1 K1
    refine wpQuiet_nil ?_
    repeat (refine wpX_pure rfl ?_; go_big_quiet_step ((intro _; rfl)); refine wpQuiet_nil ?_)
    refine wpX_call (.agg (decE b 0)) 133 #[.int .i64 b] rfl (fun w => by go_simp) (fun w hw => CB.o _) (fun K1 k1 => ?_)
    go_simp
    refine k1 _ ?_
    clear k1 K1
    repeat (refine wpX_pure rfl ?_; go_big_quiet_step ((intro _; rfl)); refine wpQuiet_nil ?_)
    refine wpX_pure rfl ?_
    refine wpQuiet_cell 2 (.tmp 77) rfl rfl ⟨g, 1, none⟩ rfl (.int .i64 r) _ (fun w hw => (hw.below.cell (p := ⟨g, 1, none⟩) hlt).trans HT.o.rate) Tryz.underlying2 rfl (fun K1 k1 => ?_)
    go_simp
    refine k1 _ ?_
    clear k1 K1
    refine wpQuiet_nil ?_
    refine wpX_call (.agg (decE r 0)) 133 #[.int .i64 r] rfl (fun w => by go_simp) (fun w hw => CR.o _) (fun K1 k1 => ?_)
    go_simp
    refine k1 _ ?_
    clear k1 K1
    refine wpX_call (.agg (decE x 0)) 136 #[.agg (decE b 0), .agg (decE r 0)] rfl (fun w => by go_simp) (fun w hw => CX.o _) (fun K1 k1 => ?_)
    go_simp
    refine k1 _ ?_
    clear k1 K1
    refine wpX_call (.tuple #[.agg (decE x 0), .int .i64 0]) 135 #[.agg (decE 0 0), .agg (decE x 0)] rfl (fun w => by go_simp) (fun w hw => CS.o _) (fun K1 k1 => ?_)
    go_simp
    refine k1 _ ?_
    clear k1 K1
    repeat (refine wpX_pure rfl ?_; go_big_quiet_step ((intro _; rfl)); refine wpQuiet_nil ?_)
    repeat (refine wpX_float rfl ?_; go_big_quiet_step ((intro _; rfl)); refine wpQuiet_nil ?_)
    refine wpX_nil ?_
    intro gs w6 H6
    intro hmade
    simp only [putAll, wpTail, opAt, List.getElem?_cons_succ, List.getElem?_cons_zero, Option.getD_some, Act.put]
    clear hmade
    refine wpList_put rfl 56 (.tmp 18) (.tmp 82) rfl q (decE x 0) rfl rfl 56 _ (H6.get 1 rfl) (by kernel_rfl) (by first | rfl | (rw [enc_size]; rfl)) (decE_all _ _) ?_
    intro W7 HB7 hfar7 hbel7 hsz7 hcell7
    have H7 := Hd (H6.upd 1 rfl hqW.o (by simp; have := hq.o; omega) HB7 hfar7 hbel7)
    clear HB7 hfar7 hbel7 hsz7 hcell7 H6
    go_wp2_with fail
    refine ⟨H7.o.of_mem (by simp), ?_⟩
    go_wp2_with fail
    go_roundw
    case rel => exact ⟨1, by omega, by go_num, H7⟩
    case measure => simp [intOf]
  . obtain rfl : j = 1 := by omega
    have HH1 : Hi (Has W [(p, 2, #[.int .i64 b]), (q, 56, decE x 0)] wr) := HH
    clear HH
    go_wp2_with fail
    refine wp_region_regF (fun w' => Has W [(p, 2, #[.int .i64 b]), (q, 56, decE x 0)] w') (fun w' => Has W [] w') (fun _ => (56, decE 0 0)) [0, 1, 2, 3, 4, 5, 6, 7, 8, 9, 10, 11] [12] [13, 14] [11] (by kernel_rfl) (by kernel_rfl) ?_ (fun w w' h hb => h.step hb) ?_ (fun k hk => (by simp only [List.mem_cons, List.not_mem_nil, or_false] at hk; first | (subst hk; exact ⟨rfl, fun a w => by simp only [opAt, List.getElem?_cons_succ, List.getElem?_cons_zero, Option.getD_some]; go_simp <;> rfl⟩) | (rcases hk with rfl | rfl <;> exact ⟨rfl, fun a w => by simp only [opAt, List.getElem?_cons_succ, List.getElem?_cons_zero, Option.getD_some]; go_simp <;> rfl⟩))) ?_
    . exact fun w h => h.of_mem (by simp)
    . exact HH1.o.drew
    have hN := Hd HH1.o.size
    clear HH1
    simp only [List.map_cons, List.map_nil, opAt, List.getElem?_cons_succ, List.getElem?_cons_zero, Option.getD_some, List.contains_cons, List.contains_nil, Nat.reduceBEq, Bool.or_false, Bool.or_true, Bool.true_or, Bool.false_or]
    refine wpX_pure rfl ?_
    refine wpQuiet_row 56 (.tmp 18) rfl rfl q rfl 56 (decE x 0) _ (fun w hw => hw.get 1 rfl) Tryz.underlying56 rfl (by kernel_rfl) (fun K1 k1 => ?_)
    go_simp
    refine k1 _ ?_
    clear k1 K1
    refine wpQuiet_nil ?_
    repeat (refine wpX_pure rfl ?_; go_big_quiet_step ((intro _; rfl)); refine wpQuiet_nil ?_)
    refine wpX_call (.agg (decE n 0)) 133 #[.int .i64 n] rfl (fun w => by go_simp) (fun w hw => C1.o _) (fun K1 k1 => ?_)
    go_simp
    refine k1 _ ?_
    clear k1 K1
    refine wpX_call (.agg (decE x2 0)) 136 #[.agg (decE x 0), .agg (decE n 0)] rfl (fun w => by go_simp) (fun w hw => CX1.o _) (fun K1 k1 => ?_)
    go_simp
    refine k1 _ ?_
    clear k1 K1
    repeat (refine wpX_pure rfl ?_; go_big_quiet_step ((intro _; rfl)); refine wpQuiet_nil ?_)
    refine wpX_call (.agg (decE (1000 * D) 0)) 133 #[.int .i64 (1000 * D)] rfl (fun w => by go_simp) (fun w hw => CY.o _) (fun K1 k1 => ?_)
    go_simp
    refine k1 _ ?_
    clear k1 K1
    repeat (refine wpX_pure rfl ?_; go_big_quiet_step ((intro _; rfl)); refine wpQuiet_nil ?_)
    refine wpX_call (.tuple #[.agg (decE y 0), .int .i64 0]) 137 #[.agg (decE x2 0), .agg (decE (1000 * D) 0), .int .i64 0, .int .i64 mode] rfl (fun w => by go_simp) (fun w hw => CQ.o _) (fun K1 k1 => ?_)
    go_simp
    refine k1 _ ?_
    clear k1 K1
    repeat (refine wpX_pure rfl ?_; go_big_quiet_step ((intro _; rfl)); refine wpQuiet_nil ?_)
    repeat (refine wpX_float rfl ?_; go_big_quiet_step ((intro _; rfl)); refine wpQuiet_nil ?_)
    refine wpX_nil ?_
    intro gs w6 H6
    intro hmade
    simp only [putAll, wpTail, opAt, List.getElem?_cons_succ, List.getElem?_cons_zero, Option.getD_some, Act.put]
    obtain ⟨f, hf⟩ : ∃ f, f = gs 12 := ⟨_, rfl⟩
    obtain ⟨f1, f2⟩ := hmade.1 12 (by simp)
    rw [<- hf] at f1 f2 ⊢
    have hfW : Hi (W.heap.size <= f) := Hd (Nat.le_trans hN.o f1)
    have H7 := Hd (Has.cons f2 (Has.nil H6.below))
    clear hmade hf f1 f2 H6 hN
    refine wpList_put rfl 56 (.tmp 21) (.tmp 95) rfl f (decE y 0) rfl rfl 56 _ (H7.o.get 0 rfl) (by kernel_rfl) (by first | rfl | (rw [enc_size]; rfl)) (decE_all _ _) ?_
    intro W8 HB8 hfar8 hbel8 hsz8 hcell8
    have H8 := Hd (H7.o.upd 0 rfl hfW.o (by simp) HB8 hfar8 hbel8)
    clear HB8 hfar8 hbel8 hsz8 hcell8 H7
    go_wp2_with fail
    refine ⟨H8.o.of_mem (by simp), ?_⟩
    go_wp2_with fail
    refine ⟨H8.o.of_mem (by simp), ?_⟩
    go_wp2_with fail
    refine wp_region_regF (fun w' => Has W [(f, 56, decE y 0)] w') (fun w' => Has W [] w') (fun _ => (0, #[])) [0, 1, 2, 3, 4, 5] [] [6, 7] [5] (by kernel_rfl) (by kernel_rfl) ?_ (fun w w' h hb => h.step hb) ?_ (fun k hk => by cases hk) ?_
    . exact fun w h => h.of_mem (by simp)
    . exact H8.o.drew
    clear H8
    simp only [List.map_cons, List.map_nil, opAt, List.getElem?_cons_succ, List.getElem?_cons_zero, Option.getD_some, List.contains_cons, List.contains_nil, Nat.reduceBEq, Bool.or_false, Bool.or_true, Bool.true_or, Bool.false_or]
    refine wpX_pure rfl ?_
    refine wpQuiet_row 56 (.tmp 21) rfl rfl f rfl 56 (decE y 0) _ (fun w hw => hw.get 0 rfl) Tryz.underlying56 rfl (by kernel_rfl) (fun K1 k1 => ?_)
    go_simp
    refine k1 _ ?_
    clear k1 K1
    refine wpQuiet_nil ?_
    refine wpX_call (.agg (decE 4000000000000000000 0)) 133 #[.int .i64 4000000000000000000] rfl (fun w => by go_simp) (fun w hw => CM.o _) (fun K1 k1 => ?_)
    go_simp
    refine k1 _ ?_
    clear k1 K1
    refine wpX_call (.tuple #[.int .i64 k, .int .i64 0]) 138 #[.agg (decE y 0), .agg (decE 4000000000000000000 0)] rfl (fun w => by go_simp) (fun w hw => CC.o _) (fun K1 k1 => ?_)
    go_simp
    refine k1 _ ?_
    clear k1 K1
    repeat (refine wpX_pure rfl ?_; go_big_quiet_step ((intro _; rfl)); refine wpQuiet_nil ?_)
    repeat (refine wpX_float rfl ?_; go_big_quiet_step ((intro _; rfl)); refine wpQuiet_nil ?_)
    refine wpX_nil ?_
    intro gs2 w9 H9
    intro hmade
    simp only [putAll, wpTail, opAt, List.getElem?_cons_succ, List.getElem?_cons_zero, Option.getD_some, Act.put]
    have H10 := Hd H9
    clear hmade H9
    go_wp2_with fail
    refine ⟨H10.o.of_mem (by simp), ?_⟩
    go_wp2_with fail
    refine ⟨H10.o.of_mem (by simp), ?_⟩
    go_wp2_with (refine wpList_load_row rfl 56 (.tmp 21) rfl f rfl 56 (decE y 0) (0, 0) _ (H10.o.get 0 rfl) Tryz.underlying56 rfl (by kernel_rfl) ?_)
    refine (CI.o _).mono ?_
    rintro e w10 ⟨rfl, hb10⟩
    have H11 := (H10.o.step hb10).below
    clear hb10 H10
    go_wp2_with fail
    exact bodyPost_ret (results_two rfl _ _ rfl rfl) rfl ⟨rfl, H11⟩
end Acc
namespace Dec
theorem roundN_scale (mode : Int) (m : Bool) (a b k : Nat) (hk : 0 < k) : roundN mode m (a * k) (b * k) = roundN mode m a b := by
 unfold roundN
 rw [Nat.mul_div_mul_right _ _ hk, Nat.mul_mod_mul_right]
 have e : moreB mode m (a / b) (a % b * k) (b * k) = moreB mode m (a / b) (a % b) b := by
  unfold moreB
  generalize a % b = r
  generalize a / b = q
  have h0 : (r * k = 0) = (r = 0) := by
   apply propext; constructor
   . intro h; rcases Nat.mul_eq_zero.1 h with h | h
     . exact h
     . omega
   . rintro rfl; simp
  have h1 : (b * k <= 2 * (r * k)) = (b <= 2 * r) := by
   rw [<- Nat.mul_assoc]; exact propext (Nat.mul_le_mul_right_iff hk)
  have h2 : (b * k < 2 * (r * k)) = (b < 2 * r) := by
   rw [<- Nat.mul_assoc]; exact propext (Nat.mul_lt_mul_right hk)
  have h3 : (b * k = 2 * (r * k)) = (b = 2 * r) := by
   rw [<- Nat.mul_assoc]; exact propext (Nat.mul_right_cancel_iff hk)
  simp only [h0, h1, h2, h3]
 rw [e]
end Dec
end Go.Proofs.YtkdnebalpdebeaaGreatDoor
