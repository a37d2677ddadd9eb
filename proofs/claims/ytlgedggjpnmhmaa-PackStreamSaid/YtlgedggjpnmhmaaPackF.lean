import Derived.Test.YtlgedggjpnmhmaaPackE
/-! signed numbers and bytes read -/
namespace Go.Proofs.Ytlgedggjpnmhmaa.Pack
open Go.RowKit Go.Deep
set_option linter.unusedVariables false
theorem rdU_range (xs : List Int) (hb : Byt xs) : 0 ≤ (rdU xs).1 ∧ (rdU xs).1 < 18446744073709551616 ∧ 0 ≤ (rdU xs).2.1 ∧ (rdU xs).2.1 ≤ 10 ∧ (rdU xs).2.1 ≤ xs.length ∧ ((rdU xs).2.2 = 0 ∨ (rdU xs).2.2 = 3) := by
  cases h : dec xs with
  | none => rw [rdU_none h]; simp
  | some r =>
    obtain ⟨n, k⟩ := r
    obtain ⟨h0, h1, rfl, r, hr⟩ := dec_some hb h
    rw [rdU_some h]
    have := enc_len n
    refine ⟨h0, h1, by simp, by simp; omega, ?_, .inl rfl⟩
    rw [hr]; simp; omega
theorem xor_neg1 : ∀ n : Int, 0 ≤ n → n < 9223372036854775808 → bits .xor .i64 n (-1) = -n - 1 := by
  intro n h0 h1
  obtain ⟨m, rfl⟩ := Int.eq_ofNat_of_zero_le h0
  show IntKind.i64.wrap ((BitVec.ofInt 64 (m : Int) ^^^ BitVec.ofInt 64 (-1)).toNat : Int) = _
  have e1 : BitVec.ofInt 64 (-1) = BitVec.allOnes 64 := by decide
  rw [e1, BitVec.xor_allOnes, BitVec.toNat_not, ofInt_i64 m (by omega), IntKind.wrap_i64]
  omega
theorem zag_bits (n : Int) (h0 : 0 ≤ n) (h1 : n < 18446744073709551616) : bits .xor .i64 (n / 2) (wrap64 (-wrap64 (bits .and .u64 n 1))) = zag n := by
  have e : bits .and .u64 n 1 = n % 2 := by
    rw [u64_and n 1 h0 h1 (by omega) (by omega)]
    simp only [show (1 : Int).toNat = 1 from rfl, Nat.and_one_is_mod]
    omega
  rw [e]
  unfold zag
  split
  · rename_i h
    rw [h, show wrap64 (-wrap64 1) = -1 from by unfold wrap64; omega, xor_neg1 (n / 2) (by omega) (by omega)]
  · rename_i h
    have h2 : n % 2 = 0 := by omega
    rw [h2, show wrap64 (-wrap64 0) = ((0 : Nat) : Int) from by unfold wrap64; omega]
    obtain ⟨m, hm⟩ := Int.eq_ofNat_of_zero_le (show 0 ≤ n / 2 by omega)
    rw [hm, i64_xor_nat m 0 (by omega) (by omega), Nat.xor_zero]
set_option maxRecDepth 100000 in
set_option maxHeartbeats 2000000 in
theorem readint_ok (P : Option Addr) (c B : Nat) (xs : List Int) (w : World) (hx : RI w B .u8 P xs) (hl : xs.length ≤ 9223372036854775807) (hb : Byt xs) :
    Calls Try.prog 21 #[.slice P xs.length c] w fun e w' => e = .returned (.tuple #[.int .i64 (zag (rdU xs).1), .int .i64 (rdU xs).2.1, .int .i64 (rdU xs).2.2]) ∧ w' = w := by
  obtain ⟨r0, r1, _⟩ := rdU_range xs hb
  have HU := Lib.hid (readuint_ok P c B xs)
  have HX := Lib.hid hx
  have HB := Lib.hid hb
  clear hx hb
  generalize (rdU xs).1 = n at *
  generalize (rdU xs).2.1 = k at *
  generalize (rdU xs).2.2 = f at *
  go_enter Try.func21, Try.ntmps21
  go_wp2_with fail
  refine (HU.out _ HX.out hl HB.out).mono ?_
  rintro e w1 ⟨rfl, rfl⟩
  go_wp2
  rw [zag_bits n r0 r1]
  go_ret3
  exact ⟨rfl, rfl⟩
/-- what ReadBytes answers -/
def rdB (xs : List Int) (most : Int) : List Int × Int × Int :=
  if most < 0 ∨ 65536 < most then ([], 0, 1) else
  match dec xs with
  | some (n, k) => if n ≤ most ∧ n ≤ xs.length - k then ((xs.drop k).take n.toNat, k + n, 0) else ([], 0, 3)
  | none => ([], 0, 3)
set_option maxRecDepth 100000 in
set_option maxHeartbeats 2000000 in
theorem readbytes_yes (P : Option Addr) (c : Nat) (xs : List Int) (most : Int) (w : World) (hx : RI w w.heap.size .u8 P xs) (hl : xs.length ≤ 140737488355328) (hc : xs.length ≤ c) (hb : Byt xs) (h0 : 0 ≤ most) (h1 : most ≤ 65536) (n k : Nat) (hd : dec xs = some ((n : Int), k)) (hn : (n : Int) ≤ most) (hnk : n + k ≤ xs.length) :
    Calls Try.prog 23 #[.slice P xs.length c, .int .i64 most] w fun e w' => ∃ v, e = .returned (.tuple #[v, .int .i64 ((k : Int) + n), .int .i64 0]) ∧ Fresh w w' v ((xs.drop k).take n) := by
  have HU := readuint_ok P c w.heap.size xs
  obtain ⟨_, _, _, q1, q2, _⟩ := rdU_range xs hb
  rw [rdU_some hd] at HU q1 q2
  simp only [] at HU q1 q2
  have HU := Lib.hid HU
  have HX := Lib.hid hx
  have HB := Lib.hid hb
  have hlen : ((xs.drop k).take n).length = n := by simp; omega
  have HL := Lib.hid hlen
  clear hx hb hd hlen
  go_enter Try.func23, Try.ntmps23
  go_wp2_with fail
  refine (HU.out _ HX.out (by omega) HB.out).mono ?_
  rintro e w1 ⟨rfl, rfl⟩
  go_wp2_with fail
  · have H := clone_ok P 0 ((xs.drop k).take n) w1 (RI.none (by have := HL.out; omega)) (by have := HL.out; omega)
    rw [HL.out] at H
    refine H.mono ?_
    rintro e w2 ⟨v2, rfl, hf⟩
    have HF := Lib.hid hf
    clear hf H
    go_wp2
    go_ret3
    exact ⟨_, rfl, HF.out⟩
  · have H := clone_ok (P.map (·.add k)) (c - k) ((xs.drop k).take n) w1 (HX.out.cut k n) (by have := HL.out; omega)
    rw [HL.out] at H
    refine H.mono ?_
    rintro e w2 ⟨v2, rfl, hf⟩
    have HF := Lib.hid hf
    clear hf H
    go_wp2
    go_ret3
    exact ⟨_, rfl, HF.out⟩
set_option maxRecDepth 100000 in
set_option maxHeartbeats 2000000 in
theorem readbytes_arg (P : Option Addr) (c : Nat) (xs : List Int) (most : Int) (w : World) (h : most < 0 ∨ 65536 < most) :
    Calls Try.prog 23 #[.slice P xs.length c, .int .i64 most] w fun e w' => ∃ v, e = .returned (.tuple #[v, .int .i64 0, .int .i64 1]) ∧ Fresh w w' v [] := by
  rcases h with h | h
  all_goals
    go_enter Try.func23, Try.ntmps23
    go_wp2
    go_ret3
    exact ⟨_, rfl, own_nil _ _ _ _, Below.refl _ _⟩
set_option maxRecDepth 100000 in
set_option maxHeartbeats 2000000 in
theorem readbytes_no (P : Option Addr) (c : Nat) (xs : List Int) (most : Int) (w : World) (hx : RI w w.heap.size .u8 P xs) (hl : xs.length ≤ 140737488355328) (hb : Byt xs) (h0 : 0 ≤ most) (h1 : most ≤ 65536) (hno : (rdU xs).2.2 = 3 ∨ (rdU xs).2.2 = 0 ∧ (most < (rdU xs).1 ∨ (xs.length : Int) - (rdU xs).2.1 < (rdU xs).1)) :
    Calls Try.prog 23 #[.slice P xs.length c, .int .i64 most] w fun e w' => ∃ v, e = .returned (.tuple #[v, .int .i64 0, .int .i64 3]) ∧ Fresh w w' v [] := by
  have HU := readuint_ok P c w.heap.size xs
  obtain ⟨r0, r1, q0, q1, q2, _⟩ := rdU_range xs hb
  have HU := Lib.hid HU
  have HX := Lib.hid hx
  have HB := Lib.hid hb
  clear hx hb
  generalize (rdU xs).1 = n at *
  generalize (rdU xs).2.1 = k at *
  generalize (rdU xs).2.2 = f at *
  rcases hno with rfl | ⟨rfl, hno⟩
  · go_enter Try.func23, Try.ntmps23
    go_wp2_with fail
    refine (HU.out _ HX.out (by omega) HB.out).mono ?_
    rintro e w1 ⟨rfl, rfl⟩
    go_wp2
    go_ret3
    exact ⟨_, rfl, own_nil _ _ _ _, Below.refl _ _⟩
  · by_cases hm : most < n
    · go_enter Try.func23, Try.ntmps23
      go_wp2_with fail
      refine (HU.out _ HX.out (by omega) HB.out).mono ?_
      rintro e w1 ⟨rfl, rfl⟩
      go_wp2
      go_ret3
      exact ⟨_, rfl, own_nil _ _ _ _, Below.refl _ _⟩
    · have hk : (xs.length : Int) - k < n := by omega
      clear hno
      go_enter Try.func23, Try.ntmps23
      go_wp2_with fail
      refine (HU.out _ HX.out (by omega) HB.out).mono ?_
      rintro e w1 ⟨rfl, rfl⟩
      go_wp2
      go_ret3
      exact ⟨_, rfl, own_nil _ _ _ _, Below.refl _ _⟩
theorem readbytes_ok (P : Option Addr) (c : Nat) (xs : List Int) (most : Int) (w : World) (hx : RI w w.heap.size .u8 P xs) (hl : xs.length ≤ 140737488355328) (hc : xs.length ≤ c) (hb : Byt xs) :
    Calls Try.prog 23 #[.slice P xs.length c, .int .i64 most] w fun e w' => ∃ v, e = .returned (.tuple #[v, .int .i64 (rdB xs most).2.1, .int .i64 (rdB xs most).2.2]) ∧ Fresh w w' v (rdB xs most).1 := by
  by_cases h : most < 0 ∨ 65536 < most
  · have e : rdB xs most = ([], 0, 1) := by unfold rdB; rw [if_pos h]
    rw [e]
    exact readbytes_arg P c xs most w h
  · cases hd : dec xs with
    | none =>
      have e : rdB xs most = ([], 0, 3) := by unfold rdB; rw [if_neg h, hd]
      rw [e]
      exact readbytes_no P c xs most w hx hl hb (by omega) (by omega) (.inl (by rw [rdU_none hd]))
    | some r =>
      obtain ⟨n, k⟩ := r
      obtain ⟨n0, n1, hk, r, hr⟩ := dec_some hb hd
      have hkl : k ≤ xs.length := by rw [hr, hk]; simp
      by_cases hn : n ≤ most ∧ n ≤ xs.length - k
      · have e : rdB xs most = ((xs.drop k).take n.toNat, (k : Int) + n, 0) := by unfold rdB; rw [if_neg h, hd]; simp only []; rw [if_pos hn]
        rw [e]
        obtain ⟨m, rfl⟩ := Int.eq_ofNat_of_zero_le n0
        exact readbytes_yes P c xs most w hx hl hc hb (by omega) (by omega) m k hd hn.1 (by omega)
      · have e : rdB xs most = ([], 0, 3) := by unfold rdB; rw [if_neg h, hd]; simp only []; rw [if_neg hn]
        rw [e]
        exact readbytes_no P c xs most w hx hl hb (by omega) (by omega) (.inr (by rw [rdU_some hd]; refine ⟨rfl, ?_⟩; show most < n ∨ (xs.length : Int) - k < n; omega))
end Go.Proofs.Ytlgedggjpnmhmaa.Pack
