import Derived.Test.YtipbnjcgololpaaRoots
/-! the numbers k, as the document has them: the root by halving, and all of them -/
namespace Go.Proofs.Ytipbnjcgololpaa.Roots
open Go.RowKit Go.Deep Go.Proofs.Ytipbnjcgololpaa.Sha Go.Proofs.Ytipbnjcgololpaa.Big
set_option linter.unusedVariables false
set_option linter.unusedSimpArgs false
theorem digits_len {n k : Nat} (h : n < 4294967296 ^ k) : (digits n).length ≤ k := by
  by_cases h0 : n = 0
  · subst h0; simp [digits_zero]
  · have h1 := digits_ge h0
    rcases Nat.lt_or_ge k (digits n).length with h2 | h2
    · have := Nat.pow_le_pow_right (n := 4294967296) (by omega) (show k ≤ (digits n).length - 1 by omega)
      omega
    · exact h2
theorem cube_mono {a b : Nat} (h : a ≤ b) : a * a * a ≤ b * b * b := Nat.mul_le_mul (Nat.mul_le_mul h h) h
set_option maxRecDepth 100000 in
set_option maxHeartbeats 4000000 in
theorem root_ok (n X : Nat) (hn : n < 4294967296) (hX : X ≤ 68719476736) (h1 : X * X * X ≤ n * 2 ^ 96) (h2 : n * 2 ^ 96 < (X + 1) * (X + 1) * (X + 1)) (w : World) :
    Calls Try.prog 20 #[.int .u64 (n : Int)] w fun e w' => e = .returned (.int .u64 ((X % 4294967296 : Nat) : Int)) ∧ Below w.heap.size w w' := by
  have hlN : (digits (n * 2 ^ 96)).length ≤ 4 := digits_len (by have : n * 2 ^ 96 < 4294967296 * 2 ^ 96 := Nat.mul_lt_mul_of_pos_right hn (by decide); rw [show (4294967296 : Nat) ^ 4 = 4294967296 * 2 ^ 96 from by decide]; exact this)
  have hln : (digits n).length ≤ 1 := digits_len (by simpa using hn)
  obtain ⟨N, hN⟩ : ∃ N, N = n * 2 ^ 96 := ⟨_, rfl⟩
  rw [← hN] at h1 h2 hlN
  have HN := Lib.hid hN
  have H1 := Lib.hid h1
  have H2 := Lib.hid h2
  clear hN h1 h2
  go_enter Try.func20, Try.ntmps20
  go_wp2_with fail
  refine (word_ok n (by omega) _).mono ?_
  rintro e w1 ⟨v1, rfl, A1, c1, rfl, hc1, m1, b1⟩
  have HM1 := Lib.hid m1
  go_wp2_with fail
  refine (left_ok A1 c1 n 96 _ HM1.out (by omega) (by omega)).mono ?_
  rintro e w2 ⟨v2, rfl, A2, c2, rfl, hc2, m2, b2⟩
  rw [← HN.out] at m2 hc2 ⊢
  have HM2 := Lib.hid m2
  have b12 := below_then' b1 b2
  have s12 := b12.size
  clear m1 m2 HM1 b1 b2
  go_wp2_with fail
  go_loopw [3, 4] (fun lo hi wr => ∃ a b : Nat, lo = .int .u64 a ∧ hi = .int .u64 b ∧ a ≤ X ∧ X ≤ b ∧ b ≤ 68719476736 ∧ Below w2.heap.size w2 wr) (fun lo hi _ => (intOf hi - intOf lo).toNat)
  case atStart => exact ⟨0, 68719476736, rfl, rfl, by omega, hX, by omega, Below.refl _ _⟩
  case round =>
    obtain ⟨a, b, rfl, rfl, ha, hb, hb2, hbl⟩ := hrel
    have sbl := hbl.size
    by_cases hlt : a < b
    · obtain ⟨x, hx⟩ : ∃ x, x = b - (b - a) / 2 := ⟨_, rfl⟩
      have hxI : (b : Int) - ((b : Int) - a) / 2 = (x : Int) := by omega
      have hxa : a < x := by omega
      have hxb : x ≤ b := by omega
      have hx2 : x ≤ 68719476736 := by omega
      have l1 : (digits x).length ≤ 2 := digits_len (by rw [show (4294967296 : Nat) ^ 2 = 18446744073709551616 from by decide]; omega)
      have q1 : x * x ≤ 68719476736 * 68719476736 := Nat.mul_le_mul hx2 hx2
      have l2 : (digits (x * x)).length ≤ 3 := digits_len (by rw [show (4294967296 : Nat) ^ 3 = 79228162514264337593543950336 from by decide]; omega)
      have q2 : x * x * x ≤ 68719476736 * 68719476736 * 68719476736 := Nat.mul_le_mul q1 hx2
      have l3 : (digits (x * x * x)).length ≤ 4 := digits_len (by rw [show (4294967296 : Nat) ^ 4 = 340282366920938463463374607431768211456 from by decide]; omega)
      have hle : x * x * x ≤ N ↔ x ≤ X := by
        constructor
        · intro h
          rcases Nat.lt_or_ge X x with h' | h'
          · have h3 := cube_mono (show X + 1 ≤ x by omega)
            have := H2.out
            omega
          · exact h'
        · intro h
          have := cube_mono h
          have := H1.out
          omega
      have HLE := Lib.hid hle
      clear hx q1 q2 hle
      go_wp2_with fail
      refine (word_ok x (by omega) _).mono ?_
      rintro e w3 ⟨v3, rfl, A3, c3, rfl, hc3, m3, b3⟩
      have s3 := b3.size
      have HM3 := Lib.hid m3
      clear m3
      go_wp2_with fail
      refine (times_ok A3 A3 c3 c3 x x _ HM3.out HM3.out (by omega) (by omega)).mono ?_
      rintro e w4 ⟨v4, rfl, A4, c4, rfl, hc4, m4, b4⟩
      have s4 := b4.size
      have HM4 := Lib.hid m4
      have HM34 := Lib.hid ((HM3.out.below b4).more s4)
      clear m4 HM3
      obtain ⟨xx, hxx⟩ : ∃ xx, xx = x * x := ⟨_, rfl⟩
      rw [← hxx] at l2 hc4 HM4 ⊢
      have HXX := Lib.hid hxx
      rw [← hxx] at l3 HLE
      clear hxx
      go_wp2_with fail
      refine (times_ok A4 A3 c4 c3 xx x _ HM4.out HM34.out (by omega) (by omega)).mono ?_
      rintro e w5 ⟨v5, rfl, A5, c5, rfl, hc5, m5, b5⟩
      have s5 := b5.size
      have HM5 := Lib.hid m5
      obtain ⟨xxx, hxxx⟩ : ∃ xxx, xxx = xx * x := ⟨_, rfl⟩
      rw [← hxxx] at l3 hc5 HM5 HLE ⊢
      clear m5 HM34 HM4 hxxx
      have bl5 : Below w2.heap.size w2 w5 := hbl.trans ((below_then' (below_then' b3 b4) b5).mono sbl)
      have HT := Lib.hid ((HM2.out.below bl5).more bl5.size)
      go_wp2_with fail
      refine (compare_ok A5 A2 c5 c2 w5.heap.size xxx N _ HM5.out HT.out (by omega) (by omega)).mono ?_
      rintro e w6 ⟨rfl, nq, rfl⟩
      have bl6 := below_drewN bl5 nq
      clear HT HM5 b3 b4 b5 s3 s4 s5 bl5
      by_cases hc : xxx ≤ N
      · have hxX := HLE.out.1 hc
        have ht : cmp xxx N ≤ 0 := by unfold cmp; split <;> (try split) <;> omega
        generalize cmp xxx N = t at *
        go_wp2
        go_roundw
        case rel => exact ⟨x, b, by first | rfl | go_num, rfl, hxX, hb, hb2, bl6⟩
        case measure => simp [intOf]; omega
      · have hxX : ¬ x ≤ X := fun h => hc (HLE.out.2 h)
        have ht : 0 < cmp xxx N := by unfold cmp; split <;> (try split) <;> omega
        generalize cmp xxx N = t at *
        have hx1 : (1 : Int) ≤ x := by omega
        go_wp2
        go_roundw
        case rel => exact ⟨a, x - 1, rfl, by go_num, ha, by omega, by omega, bl6⟩
        case measure => simp [intOf]; omega
    · have hX' : X = a := by omega
      go_wp2
      go_ret
      exact ⟨by rw [hX']; rfl, b12.trans (hbl.mono s12)⟩
theorem K_length : K.length = 64 := rfl
theorem K_take (i : Nat) (h : i < 64) : K.take i ++ [K.getD i 0] = K.take (i + 1) := by
  rw [List.take_succ_eq_append_getElem (by rw [K_length]; exact h)]
  simp [List.getD, show i < K.length from h]
theorem K_take_length (i : Nat) (h : i ≤ 64) : (K.take i).length = i := by rw [List.length_take, K_length]; omega
set_option maxRecDepth 100000 in
set_option maxHeartbeats 4000000 in
theorem refroots_ok (w : World) : Calls Try.prog 8 #[] w fun e w' => e = .returned (.agg (row K 64)) ∧ Below w.heap.size w w' := by
  go_enter Try.func8, Try.ntmps8
  go_wp2_with fail
  go_loopw [2, 4] (fun v i wr => ∃ q : Nat, q ≤ 64 ∧ v = .int .u64 (prev q : Nat) ∧ i = .int .i64 q ∧ Hid (Blk wr (w.heap.size + 1) 23 (row (K.take q) 64)) ∧ Hid (Blk wr w.heap.size 23 (row [] 64)) ∧ Below w.heap.size w wr) (fun _ i _ => 64 - (intOf i).toNat)
  case atStart => exact ⟨0, by omega, rfl, rfl, Lib.hid (Blk.new' (by simp)), Lib.hid ((Blk.new _ _ _).alloc _), ((Below.refl _ _).alloc (Nat.le_refl _) _).alloc (by simp) _⟩
  case round =>
    obtain ⟨q, hq, rfl, rfl, hK, hR, hbl⟩ := hrel
    by_cases hlt : q < 64
    · have hdec : decide ((q : Int) < 64) = true := by simp; omega
      obtain ⟨p1, p2, p3, p4⟩ := primes_ok q hlt
      obtain ⟨c1, c2, c3, c4⟩ := cubes_ok q hlt
      have hprev : prev (q + 1) = primes.getD q 0 := by simp [prev]
      obtain ⟨a, ha⟩ : ∃ a, a = prev q := ⟨_, rfl⟩
      obtain ⟨P, hP⟩ : ∃ P, P = primes.getD q 0 := ⟨_, rfl⟩
      obtain ⟨X, hX⟩ : ∃ X, X = cubes.getD q 0 := ⟨_, rfl⟩
      rw [← ha] at p1 p4 ⊢
      rw [← hP] at p1 p2 p3 p4 c1 c2 hprev
      rw [← hX] at c1 c2 c3 c4
      have H3 := Lib.hid p3
      have H4 := Lib.hid p4
      have HC1 := Lib.hid c1
      have HC2 := Lib.hid c2
      have HC4 := Lib.hid c4
      have HPV := Lib.hid hprev
      have hapos : 1 ≤ a := by
        rw [ha]; unfold prev
        split
        · omega
        · rename_i h
          have := (primes_ok (q - 1) (by omega)).1
          omega
      clear ha hP hX p3 p4 c1 c2 c4 hprev
      go_wp2_with fail
      go_loop [2] (fun v => ∃ n : Nat, v = .int .u64 n ∧ a < n ∧ n ≤ P) (fun v => P - (intOf v).toNat)
      case atStart => exact ⟨a + 1, by go_num, by omega, by omega⟩
      case round =>
        obtain ⟨n, rfl, hn1, hn2⟩ := hrel
        by_cases hnP : n < P
        · have hf := H4.out n (by omega) hn1 hnP
          have C := prime_ok n (by omega) (by omega) wr
          rw [hf] at C
          have HCC := Lib.hid C
          clear hf C
          go_wp2_with fail
          refine HCC.out.mono ?_
          rintro e w1 ⟨rfl, rfl⟩
          clear HCC
          go_wp2
          go_round
          case rel =>
            first
              | exact ⟨n + 1, by go_num, by omega, by omega⟩
              | (refine ⟨trivial, ?_⟩; (repeat apply Exists.intro); exact ⟨⟨n + 1, by go_num, by omega, by omega⟩, rfl⟩)
          case measure => simp [intOf]; omega
        · obtain rfl : n = P := by omega
          have C := prime_ok n (by omega) (by omega) wr
          rw [H3.out] at C
          have HCC := Lib.hid C
          have R := root_ok n X (by omega) c3 HC1.out HC2.out wr
          rw [HC4.out] at R
          have HRR := Lib.hid R
          clear C R
          go_wp2_with fail
          refine HCC.out.mono ?_
          rintro e w1 ⟨rfl, rfl⟩
          clear HCC
          go_wp2_with fail
          refine HRR.out.mono ?_
          rintro e w2 ⟨rfl, b2⟩
          clear HRR
          have hK2 := Lib.hid (hK.out.below b2 hK.out.lt)
          have hR2 := Lib.hid (hR.out.below b2 hR.out.lt)
          have hb2 := hbl.trans (b2.mono hbl.size)
          have hlen := K_take_length q hq
          obtain ⟨x0, hx0⟩ : ∃ x0, (row (K.take q) 64)[q]? = some x0 := ⟨_, Array.getElem?_eq_getElem (by rw [row_size (by omega)]; omega)⟩
          have hcl := (hK2.out.cell q).trans hx0
          have hfr := hK2.out.frozen q
          have hkl : K.getD q 0 < 4294967296 := get_lt K_lt (by omega) q
          have hset := row_set (ws := K.take q) (n := 64) (K.getD q 0) (by omega)
          rw [hlen, K_take q hlt] at hset
          have HSET := Lib.hid hset
          obtain ⟨kq, hkq⟩ : ∃ kq, kq = K.getD q 0 := ⟨_, rfl⟩
          rw [← hkq] at hkl HSET ⊢
          clear hx0 hset hlen hkq hK hR hbl b2
          go_wp2
          go_roundw
          case rel =>
            refine ⟨q + 1, by omega, by rw [HPV.out], by go_num, Lib.hid ?_, Lib.hid (hR2.out.far (by simp) _), hb2.setCell (by simp) _⟩
            rw [← HSET.out]
            exact hK2.out.set_ _ _
          case measure => simp [intOf]; omega
    · have hq64 : q = 64 := by omega
      have hK8 : Blk wr (w.heap.size + 1) 23 (row K 64) := by have := hK.out; rw [hq64] at this; exact this
      have hR8 := hR.out
      clear hq64 hK hR
      go_wp2_with (first
        | (refine wpList_load_row rfl 23 (.tmp 1) rfl (w.heap.size + 1) rfl 23 (row K 64) (0, 0) _ hK8 Try.underlying23 rfl (by kernel_rfl) ?_)
        | (refine wpList_put rfl 23 (.tmp 0) (.tmp 20) rfl w.heap.size (row K 64) rfl rfl 23 _ hR8 (by kernel_rfl) rfl (row_one _ _) ?_
           intro W9 hB9 hfar9 hbel9 hsz9 hcl9))
      have e9 := hbel9 w.heap.size w (Nat.le_refl _) hbl
      exact bodyPost_ret (results_cell_row rfl _ W9 w.heap.size 23 (row K 64) (0, 0) _ rfl hB9 Try.underlying23 rfl (by kernel_rfl)) rfl ⟨rfl, e9⟩
end Go.Proofs.Ytipbnjcgololpaa.Roots
