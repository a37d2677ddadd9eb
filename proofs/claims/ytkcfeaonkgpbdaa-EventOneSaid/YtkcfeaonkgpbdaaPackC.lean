import Derived.Test.YtkcfeaonkgpbdaaPackB
import Derived.Test.YtkcfeaonkgpbdaaSameBytes
/-! numbers read -/
namespace Go.Proofs.Ytkcfeaonkgpbdaa.Pack
open Go.RowKit Go.Deep
set_option linter.unusedVariables false
/-- what ReadUint answers -/
def rdU (xs : List Int) : Int × Int × Int := match dec xs with | some (n, k) => (n, k, 0) | none => (0, 0, 3)
theorem and127_nat : ∀ a : Fin 256, (a.1 &&& 127) = a.1 % 128 := by decide +kernel
theorem and127 (a : Int) (h0 : 0 ≤ a) (h1 : a < 256) : bits .and .u8 a 127 = a % 128 := by
  rw [u8_and a 127 h0 h1 (by omega) (by omega)]
  have := and127_nat ⟨a.toNat, by omega⟩
  simp only [] at this
  simp only [show (127 : Int).toNat = 127 from rfl]
  rw [this]; omega
theorem orsh (m c : Int) (j : Nat) (h0 : 0 ≤ m) (h1 : m < 2 ^ j) (h2 : 0 ≤ c) (h3 : m + c * 2 ^ j < 18446744073709551616) : bits .or .u64 m (IntKind.u64.wrap (c * 2 ^ j)) = m + c * 2 ^ j := by
  have hp : (0 : Int) < 2 ^ j := Int.pow_pos (by omega)
  have hc : 0 ≤ c * 2 ^ j := Int.mul_nonneg h2 (by omega)
  have hw : IntKind.u64.wrap (c * 2 ^ j) = c * 2 ^ j := by rw [IntKind.wrap_u64]; omega
  rw [hw, u64_or _ _ h0 (by omega) hc (by omega)]
  obtain ⟨c', rfl⟩ := Int.eq_ofNat_of_zero_le h2
  obtain ⟨m', rfl⟩ := Int.eq_ofNat_of_zero_le h0
  have e : ((c' : Int) * 2 ^ j).toNat = 2 ^ j * c' := by
    have : (c' : Int) * 2 ^ j = ((2 ^ j * c' : Nat) : Int) := by push_cast; exact Int.mul_comm _ _
    rw [this, Int.toNat_natCast]
  have hm : m' < 2 ^ j := by exact_mod_cast h1
  rw [e, Int.toNat_natCast, Nat.or_comm, ← Nat.two_pow_add_eq_or_of_lt hm]
  push_cast
  rw [Int.mul_comm (c' : Int)]; omega
theorem orsh' (m c : Int) (j : Nat) (h0 : 0 ≤ m) (h1 : m < 2 ^ j) (h2 : 0 ≤ c) (h3 : m + c * 2 ^ j < 18446744073709551616) : bits .or .u64 m (c * 2 ^ j) = m + c * 2 ^ j := by
  have hp : (0 : Int) < 2 ^ j := Int.pow_pos (by omega)
  have hc : 0 ≤ c * 2 ^ j := Int.mul_nonneg h2 (by omega)
  have hw : IntKind.u64.wrap (c * 2 ^ j) = c * 2 ^ j := by rw [IntKind.wrap_u64]; omega
  have := orsh m c j h0 h1 h2 h3
  rwa [hw] at this
/-- the next number is as small as its bytes allow -/
theorem next_lt (m c : Int) (k : Nat) (hm : m < 2 ^ (7 * k)) (hc : c ≤ 127) : m + c * 2 ^ (7 * k) < 2 ^ (7 * (k + 1)) := by
  rw [show 7 * (k + 1) = 7 * k + 7 from by omega, Int.pow_add]
  have hp : (0 : Int) < 2 ^ (7 * k) := Int.pow_pos (by omega)
  generalize (2 : Int) ^ (7 * k) = z at *
  have : c * z ≤ 127 * z := Int.mul_le_mul_of_nonneg_right hc (by omega)
  omega
theorem pow_le (k : Nat) (h : k < 9) : (2 : Int) ^ (7 * (k + 1)) ≤ 9223372036854775808 := by
  have h9 : k = 0 ∨ k = 1 ∨ k = 2 ∨ k = 3 ∨ k = 4 ∨ k = 5 ∨ k = 6 ∨ k = 7 ∨ k = 8 := by omega
  rcases h9 with rfl | rfl | rfl | rfl | rfl | rfl | rfl | rfl | rfl <;> decide
theorem dec_step (xs : List Int) (k : Nat) (m pl : Int) (hk : k < 10) (hl : k < xs.length) : decF (10 - k) (xs.drop k) m pl k =
    if 9 - k = 0 ∧ 1 < rd xs k then none else if rd xs k < 128 then (if rd xs k = 0 ∧ 0 < k then none else some (m + rd xs k * pl, k + 1))
    else decF (10 - (k + 1)) (xs.drop (k + 1)) (m + (rd xs k % 128) * pl) (pl * 128) (k + 1) := by
  rw [List.drop_eq_getElem_cons hl, show 10 - k = (9 - k) + 1 from by omega, rd_get hl]
  simp only [decF]
  rw [show 10 - (k + 1) = 9 - k from by omega]
theorem rdU_none {xs : List Int} (h : dec xs = none) : rdU xs = (0, 0, 3) := by simp [rdU, h]
theorem rdU_some {xs : List Int} {n : Int} {k : Nat} (h : dec xs = some (n, k)) : rdU xs = (n, (k : Int), 0) := by simp [rdU, h]
theorem ret3 {a b c a' b' c' : Int} (h : (a, b, c) = (a', b', c')) : Ending.returned (.tuple #[.int .u64 a', .int .i64 b', .int .i64 c']) = .returned (.tuple #[.int .u64 a, .int .i64 b, .int .i64 c]) := by
  simp only [Prod.mk.injEq] at h
  rw [h.1, h.2.1, h.2.2]
set_option maxRecDepth 100000 in
set_option maxHeartbeats 1000000 in
theorem readuint_ok (P : Option Addr) (c B : Nat) (xs : List Int) (w : World) (hx : RI w B .u8 P xs) (hl : xs.length ≤ 9223372036854775807) (hb : Byt xs) :
    Calls Try.prog 35 #[.slice P xs.length c] w fun e w' => e = .returned (.tuple #[.int .u64 (rdU xs).1, .int .i64 (rdU xs).2.1, .int .i64 (rdU xs).2.2]) ∧ w' = w := by
  have HX := Lib.hid hx
  have HB := Lib.hid hb
  clear hx hb
  go_enter Try.func35, Try.ntmps35
  go_wp2
  go_loop [5, 6] (fun n i => ∃ (k : Nat) (m : Int), i = .int .i64 k ∧ n = .int .u64 m ∧ k ≤ 10 ∧ k ≤ xs.length ∧ 0 ≤ m ∧ Hid (m < 2 ^ (7 * k)) ∧ Hid (decF (10 - k) (xs.drop k) m (2 ^ (7 * k)) k = dec xs)) (fun _ i => 10 - (intOf i).toNat)
  case atStart => exact ⟨0, 0, rfl, rfl, by omega, by omega, by omega, Lib.hid (by simp), Lib.hid (by simp [dec])⟩
  case round =>
    obtain ⟨k, m, rfl, rfl, hk, hkl, hm0, HM, HD⟩ := hrel
    by_cases hlt : k < xs.length
    · by_cases hk10 : k < 10
      · obtain ⟨ad, rfl, _, hca⟩ := HX.out.one hlt
        have hby : 0 ≤ rd xs k ∧ rd xs k ≤ 255 := by rw [rd_get hlt]; exact HB.out _ (List.getElem_mem hlt)
        obtain ⟨hb0, hb1⟩ := hby
        generalize hb : rd xs k = b at *
        have hand := and127 b hb0 (by omega)
        have hst := dec_step xs k m (2 ^ (7 * k)) hk10 hlt
        rw [hb, HD.out] at hst
        have HST := Lib.hid hst
        clear hst hb
        go_wp2
        · -- the tenth byte is too great
          go_ret3
          refine ⟨ret3 ?_, rfl⟩
          rw [rdU_none]
          rw [HST.out, if_pos (by omega)]
        · go_ret3
          refine ⟨ret3 ?_, rfl⟩
          rw [rdU_none]
          rw [HST.out, if_neg (by omega), if_pos (by omega), if_pos (by omega)]
        · go_ret3
          refine ⟨ret3 ?_, rfl⟩
          have hk9 : k = 9 := by omega
          subst hk9
          have hm := HM.out
          rw [rdU_some (by rw [HST.out, if_neg (by omega), if_pos (by omega), if_neg (by omega)])]
          have e : bits .or .u64 m (b % 128 * 9223372036854775808) = m + b * 9223372036854775808 := by
            have := orsh' m (b % 128) 63 hm0 (by simpa using hm) (by omega) (by simp at hm; omega)
            rw [show b % 128 = b from by omega] at this ⊢
            exact this
          rw [e]; rfl
        · go_ret3
          refine ⟨ret3 ?_, rfl⟩
          rw [rdU_none]
          rw [HST.out, if_neg (by omega), if_pos (by omega), if_pos (by omega)]
        · go_ret3
          refine ⟨ret3 ?_, rfl⟩
          have hk0 : k = 0 := by omega
          have hb00 : b = 0 := by omega
          subst hk0
          subst hb00
          have hm := HM.out
          have hm00 : m = 0 := by simp at hm; omega
          subst hm00
          rw [rdU_some (by rw [HST.out, if_neg (by omega), if_pos (by omega), if_neg (by omega)])]
          decide +kernel
        · go_ret3
          refine ⟨ret3 ?_, rfl⟩
          rw [rdU_some (by rw [HST.out, if_neg (by omega), if_pos (by omega), if_neg (by omega)])]
          have h1 := next_lt m (b % 128) k HM.out (by omega)
          have h2 := pow_le k (by omega)
          have e := orsh m (b % 128) (7 * k) hm0 HM.out (by omega) (by omega)
          have e2 : b % 128 = b := by omega
          rw [e2] at e
          rw [e2, e]
          simp
        · go_round
          case rel =>
            have h1 := next_lt m (b % 128) k HM.out (by omega)
            have h2 := pow_le k (by omega)
            have e := orsh m (b % 128) (7 * k) hm0 HM.out (by omega) (by omega)
            have hp : (0 : Int) < 2 ^ (7 * k) := Int.pow_pos (by omega)
            have hc : 0 ≤ b % 128 * 2 ^ (7 * k) := Int.mul_nonneg (by omega) (by omega)
            refine ⟨k + 1, m + b % 128 * 2 ^ (7 * k), by go_num, by rw [e], by omega, by omega, by omega, Lib.hid h1, Lib.hid ?_⟩
            rw [HST.out, if_neg (by omega), if_neg (by omega)]
            rw [show (2 : Int) ^ (7 * (k + 1)) = 2 ^ (7 * k) * 128 from by rw [show 7 * (k + 1) = 7 * k + 7 from by omega, Int.pow_add]; rfl]
          case measure => simp [intOf]; omega
      · go_wp2
        go_ret3
        refine ⟨ret3 ?_, rfl⟩
        rw [rdU_none]
        have : k = 10 := by omega
        subst this
        rw [← HD.out]; rfl
    · go_wp2
      go_ret3
      refine ⟨ret3 ?_, rfl⟩
      rw [rdU_none]
      rw [← HD.out, List.drop_eq_nil_of_le (by omega)]
      cases h : 10 - k with
      | zero => rfl
      | succ n => rfl
end Go.Proofs.Ytkcfeaonkgpbdaa.Pack
