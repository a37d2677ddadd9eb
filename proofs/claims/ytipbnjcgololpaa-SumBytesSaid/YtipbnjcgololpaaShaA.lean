import Derived.Test.YtipbnjcgololpaaCrcW
import Derived.Test.YtipbnjcgololpaaSha
/-! SHA-256: turning a word, reading a word -/
namespace Go.Proofs.Ytipbnjcgololpaa.Sha
open Go.RowKit Go.Deep Go.Proofs.Ytipbnjcgololpaa.Pack Go.Proofs.Ytipbnjcgololpaa.Crc
set_option linter.unusedVariables false
theorem rot_and (k : Int) (n : Nat) (hk : k = -(n : Int)) (h1 : 1 ≤ n) (h2 : n ≤ 31) : bits .and .u64 (IntKind.u64.wrap k) 31 = ((32 - n : Nat) : Int) := by
  have := u64_and_nat (18446744073709551616 - n) 31 (by omega) (by omega)
  rw [show (31 : Nat) = 2 ^ 5 - 1 from rfl, Nat.and_two_pow_sub_one_eq_mod] at this
  rw [IntKind.wrap_u64, show k % 18446744073709551616 = ((18446744073709551616 - n : Nat) : Int) from by omega]
  refine this.trans ?_
  omega
theorem rot_nat (x s : Nat) (hx : x < 4294967296) (hs : s ≤ 31) : (x * 2 ^ s % 4294967296) ||| (x / 2 ^ (32 - s)) = x / 2 ^ (32 - s) + x * 2 ^ s % 4294967296 := by
  have e : x * 2 ^ s % 4294967296 = 2 ^ s * (x % 2 ^ (32 - s)) := by
    rw [show (4294967296 : Nat) = 2 ^ s * 2 ^ (32 - s) from by rw [← Nat.pow_add, show s + (32 - s) = 32 from by omega], Nat.mul_comm x, Nat.mul_mod_mul_left]
  have h : x / 2 ^ (32 - s) < 2 ^ s := by
    rw [Nat.div_lt_iff_lt_mul (Nat.two_pow_pos _), ← Nat.pow_add, show s + (32 - s) = 32 from by omega]; exact hx
  rw [e, ← Nat.two_pow_add_eq_or_of_lt h]; omega
theorem ror_lt (x n : Nat) (hx : x < 4294967296) (h : n ≤ 32) : ror x n < 4294967296 := by
  rcases Nat.eq_zero_or_pos n with rfl | h1
  · show x / 2 ^ 0 + x * 2 ^ (32 - 0) % 4294967296 < _
    omega
  unfold ror
  have := rot_nat x (32 - n) hx (by omega)
  rw [show 32 - (32 - n) = n from by omega] at this
  rw [← this]
  exact Nat.or_lt_two_pow (n := 32) (Nat.mod_lt _ (by omega)) (Nat.lt_of_le_of_lt (Nat.div_le_self _ _) hx)
theorem rot_or (x s : Nat) (hx : x < 4294967296) (hs : s ≤ 31) : bits .or .u32 ((x : Int) * 2 ^ s % 4294967296) ((x : Int) / 2 ^ (32 - s)) = ((ror x (32 - s) : Nat) : Int) := by
  have h1 : x / 2 ^ (32 - s) < 4294967296 := Nat.lt_of_le_of_lt (Nat.div_le_self _ _) hx
  have := u32_or_nat (x * 2 ^ s % 4294967296) (x / 2 ^ (32 - s)) (Nat.mod_lt _ (by omega)) h1
  rw [rot_nat x s hx hs] at this
  rw [ror, show 32 - (32 - s) = s from by omega, ← this]
  congr 1
set_option maxHeartbeats 1000000 in
theorem rot_ok (x n : Nat) (k : Int) (hx : x < 4294967296) (hk : k = -(n : Int)) (h1 : 1 ≤ n) (h2 : n ≤ 31) (w : World) :
    Calls Try.prog 31 #[.int .u32 x, .int .i64 k] w fun e w' => e = .returned (.int .u32 (ror x n : Nat)) ∧ w = w' := by
  have ha := rot_and k n hk h1 h2
  have HK := Lib.hid hk
  clear hk
  obtain ⟨s, hs⟩ : ∃ s, s = 32 - n := ⟨_, rfl⟩
  rw [← hs] at ha
  have s1 : s ≤ 31 := by omega
  have s2 : 1 ≤ s := by omega
  have HS := Lib.hid hs
  clear hs h1 h2
  go_enter Try.func31, Try.ntmps31
  go_wp2
  go_ret
  refine ⟨ret_u32 ?_, rfl⟩
  have hn : 32 - s = n := by have := HS.out; omega
  rw [rot_or x s hx s1, hn]
theorem rot_still (x n : Nat) (k : Int) (hx : x < 4294967296) (hk : k = -(n : Int)) (h1 : 1 ≤ n) (h2 : n ≤ 31) (w : World) :
    Calls Try.prog 31 #[.int .u32 x, .int .i64 k] w fun e w' => e = .returned (.int .u32 (ror x n : Nat)) ∧ w' = w := (rot_ok x n k hx hk h1 h2 w).mono fun _ _ h => ⟨h.1, h.2.symm⟩
theorem word_or (a b c d : Nat) (ha : a < 256) (hb : b < 256) (hc : c < 256) (hd : d < 256) :
    bits .or .u32 (bits .or .u32 (bits .or .u32 ((a : Int) * 16777216) ((b : Int) * 65536)) ((c : Int) * 256)) (d : Int) = ((a * 16777216 + b * 65536 + c * 256 + d : Nat) : Int) := by
  have h1 : a * 16777216 ||| b * 65536 = a * 16777216 + b * 65536 := by
    have := Nat.two_pow_add_eq_or_of_lt (i := 24) (b := b * 65536) (by omega) a
    rw [show 2 ^ 24 * a = a * 16777216 from by omega] at this
    exact this.symm
  have h2 : (a * 16777216 + b * 65536) ||| c * 256 = a * 16777216 + b * 65536 + c * 256 := by
    have := Nat.two_pow_add_eq_or_of_lt (i := 16) (b := c * 256) (by omega) (a * 256 + b)
    rw [show 2 ^ 16 * (a * 256 + b) = a * 16777216 + b * 65536 from by omega] at this
    exact this.symm
  have h3 : (a * 16777216 + b * 65536 + c * 256) ||| d = a * 16777216 + b * 65536 + c * 256 + d := by
    have := Nat.two_pow_add_eq_or_of_lt (i := 8) (b := d) (by omega) (a * 65536 + b * 256 + c)
    rw [show 2 ^ 8 * (a * 65536 + b * 256 + c) = a * 16777216 + b * 65536 + c * 256 from by omega] at this
    exact this.symm
  have e1 := u32_or_nat (a * 16777216) (b * 65536) (by omega) (by omega)
  have e2 := u32_or_nat (a * 16777216 + b * 65536) (c * 256) (by omega) (by omega)
  have e3 := u32_or_nat (a * 16777216 + b * 65536 + c * 256) d (by omega) (by omega)
  rw [h1] at e1
  rw [h2] at e2
  rw [h3] at e3
  rw [← e3, ← e2, ← e1, show ((a * 16777216 : Nat) : Int) = (a : Int) * 16777216 from by omega, show ((b * 65536 : Nat) : Int) = (b : Int) * 65536 from by omega, show ((c * 256 : Nat) : Int) = (c : Int) * 256 from by omega]
set_option maxRecDepth 100000 in
set_option maxHeartbeats 1000000 in
theorem word_ok (P : Option Addr) (L c B : Nat) (xs : List Int) (w : World) (hx : RI w B .u8 P xs) (hl : L ≤ 9223372036854775807) (hL : 4 ≤ L) (hb : Byt xs) (h4 : 4 ≤ xs.length) :
    Calls Try.prog 30 #[.slice P L c] w fun e w' => e = .returned (.int .u32 (word (nat xs) 0 : Nat)) ∧ Drew w w' := by
  obtain ⟨ad, rfl, _, c0⟩ := hx.one (j := 0) (by omega)
  obtain ⟨ad', h', _, c1⟩ := hx.one (j := 1) (by omega)
  injection h' with h'; subst h'
  obtain ⟨ad', h', _, c2⟩ := hx.one (j := 2) (by omega)
  injection h' with h'; subst h'
  obtain ⟨ad', h', _, c3⟩ := hx.one (j := 3) (by omega)
  injection h' with h'; subst h'
  have g : ∀ j, j < 4 → ∃ n : Nat, rd xs j = n ∧ n < 256 ∧ (nat xs).getD j 0 = n := fun j hj => by
    have h := hb _ (List.getElem_mem (show j < xs.length by omega))
    rw [← rd_get (show j < xs.length by omega)] at h
    refine ⟨(rd xs j).toNat, by omega, by omega, ?_⟩
    rw [rd_get (show j < xs.length by omega)]
    simp [nat, List.getD, show j < xs.length by omega]
  obtain ⟨n0, e0, l0, v0⟩ := g 0 (by omega)
  obtain ⟨n1, e1, l1, v1⟩ := g 1 (by omega)
  obtain ⟨n2, e2, l2, v2⟩ := g 2 (by omega)
  obtain ⟨n3, e3, l3, v3⟩ := g 3 (by omega)
  rw [e0] at c0
  rw [e1] at c1
  rw [e2] at c2
  rw [e3] at c3
  have hv : word (nat xs) 0 = n0 * 16777216 + n1 * 65536 + n2 * 256 + n3 := by simp only [word, v0, v1, v2, v3]
  have HV := Lib.hid hv
  have k1 : (0 : Int) < L := by omega
  have k2 : (1 : Int) < L := by omega
  have k3 : (2 : Int) < L := by omega
  have k4 : (3 : Int) < L := by omega
  have c0' : w.cell? ad = some (.int .u8 n0) := by rwa [Addr.add_zero'] at c0
  have c1' : w.cell? ⟨ad.block, ad.off + 1, none⟩ = some (.int .u8 n1) := by simpa [Addr.add] using c1
  have c2' : w.cell? ⟨ad.block, ad.off + 2, none⟩ = some (.int .u8 n2) := by simpa [Addr.add] using c2
  have c3' : w.cell? ⟨ad.block, ad.off + 3, none⟩ = some (.int .u8 n3) := by simpa [Addr.add] using c3
  have k0 : 0 < L := by omega
  clear hv g e0 e1 e2 e3 v0 v1 v2 v3 hx hb
  go_enter Try.func30, Try.ntmps30
  go_wp2
  go_quiet (fail)
  go_wp2
  go_ret
  refine ⟨ret_u32 ?_, by repeat (first | exact Drew.refl _ | apply Drew.step)⟩
  rw [HV.out, ← word_or n0 n1 n2 n3 l0 l1 l2 l3]
end Go.Proofs.Ytipbnjcgololpaa.Sha
