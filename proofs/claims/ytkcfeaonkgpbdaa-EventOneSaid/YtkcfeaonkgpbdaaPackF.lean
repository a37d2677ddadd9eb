import Derived.Test.YtkcfeaonkgpbdaaPackE
/-! signed numbers and bytes read -/
namespace Go.Proofs.Ytkcfeaonkgpbdaa.Pack
open Go.RowKit Go.Deep
set_option linter.unusedVariables false
theorem rdU_range (xs : List Int) (hb : Byt xs) : 0 ≤ (rdU xs).1 ∧ (rdU xs).1 < 18446744073709551616 ∧ 0 ≤ (rdU xs).2.1 ∧ (rdU xs).2.1 ≤ 10 ∧ (rdU xs).2.1 ≤ xs.length ∧ ((rdU xs).2.2 = 0 ∨ (rdU xs).2.2 = 3) := by
  cases h : dec xs with
  | none => rw [rdU_none h]; simp
  | some r =>
    obtain ⟨n, k⟩ := r
    obtain ⟨h0, h1, rfl, r, hr⟩ := dec_some hb h
    rw [rdU_some h]
    have := enc_len n
    refine ⟨h0, h1, by simp, by simp; omega, ?_, .inl rfl⟩
    rw [hr]; simp; omega
theorem xor_neg1 : ∀ n : Int, 0 ≤ n → n < 9223372036854775808 → bits .xor .i64 n (-1) = -n - 1 := by
  intro n h0 h1
  obtain ⟨m, rfl⟩ := Int.eq_ofNat_of_zero_le h0
  show IntKind.i64.wrap ((BitVec.ofInt 64 (m : Int) ^^^ BitVec.ofInt 64 (-1)).toNat : Int) = _
  have e1 : BitVec.ofInt 64 (-1) = BitVec.allOnes 64 := by decide
  rw [e1, BitVec.xor_allOnes, BitVec.toNat_not, ofInt_i64 m (by omega), IntKind.wrap_i64]
  omega
theorem zag_bits (n : Int) (h0 : 0 ≤ n) (h1 : n < 18446744073709551616) : bits .xor .i64 (n / 2) (wrap64 (-wrap64 (bits .and .u64 n 1))) = zag n := by
  have e : bits .and .u64 n 1 = n % 2 := by
    rw [u64_and n 1 h0 h1 (by omega) (by omega)]
    simp only [show (1 : Int).toNat = 1 from rfl, Nat.and_one_is_mod]
    omega
  rw [e]
  unfold zag
  split
  · rename_i h
    rw [h, show wrap64 (-wrap64 1) = -1 from by unfold wrap64; omega, xor_neg1 (n / 2) (by omega) (by omega)]
  · rename_i h
    have h2 : n % 2 = 0 := by omega
    rw [h2, show wrap64 (-wrap64 0) = ((0 : Nat) : Int) from by unfold wrap64; omega]
    obtain ⟨m, hm⟩ := Int.eq_ofNat_of_zero_le (show 0 ≤ n / 2 by omega)
    rw [hm, i64_xor_nat m 0 (by omega) (by omega), Nat.xor_zero]
set_option maxRecDepth 100000 in
set_option maxHeartbeats 2000000 in
theorem readint_ok (P : Option Addr) (c B : Nat) (xs : List Int) (w : World) (hx : RI w B .u8 P xs) (hl : xs.length ≤ 9223372036854775807) (hb : Byt xs) :
    Calls Try.prog 36 #[.slice P xs.length c] w fun e w' => e = .returned (.tuple #[.int .i64 (zag (rdU xs).1), .int .i64 (rdU xs).2.1, .int .i64 (rdU xs).2.2]) ∧ w' = w := by
  obtain ⟨r0, r1, _⟩ := rdU_range xs hb
  have HU := Lib.hid (readuint_ok P c B xs)
  have HX := Lib.hid hx
  have HB := Lib.hid hb
  clear hx hb
  generalize (rdU xs).1 = n at *
  generalize (rdU xs).2.1 = k at *
  generalize (rdU xs).2.2 = f at *
  go_enter Try.func36, Try.ntmps36
  go_wp2_with fail
  refine (HU.out _ HX.out hl HB.out).mono ?_
  rintro e w1 ⟨rfl, rfl⟩
  go_wp2
  rw [zag_bits n r0 r1]
  go_ret3
  exact ⟨rfl, rfl⟩
/-- what ReadBytes answers -/
def rdB (xs : List Int) (most : Int) : List Int × Int × Int :=
  if most < 0 ∨ 65536 < most then ([], 0, 1) else
  match dec xs with
  | some (n, k) => if n ≤ most ∧ n ≤ xs.length - k then ((xs.drop k).take n.toNat, k + n, 0) else ([], 0, 3)
  | none => ([], 0, 3)
end Go.Proofs.Ytkcfeaonkgpbdaa.Pack
