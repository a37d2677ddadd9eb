import Derived.Test.YtipbnjcgololpaaBytes
import Derived.Test.YtipbnjcgololpaaCrc
/-! the sums Crc, the program's and the document's -/
namespace Go.Proofs.Ytipbnjcgololpaa.Crc
open Go.RowKit Go.Deep Go.Proofs.Ytipbnjcgololpaa.Pack
set_option linter.unusedVariables false
/-- the bytes as plain numbers -/
def nat (xs : List Int) : List Nat := xs.map Int.toNat
theorem nat_length (xs : List Int) : (nat xs).length = xs.length := by simp [nat]
theorem nat_lt {xs : List Int} (h : Byt xs) : ∀ b ∈ nat xs, b < 256 := by
  intro b hb
  obtain ⟨n, hn, rfl⟩ := List.mem_map.1 hb
  have := h n hn; omega
theorem nat_drop {xs : List Int} {k : Nat} (h : k < xs.length) : (nat xs).drop k = (rd xs k).toNat :: (nat xs).drop (k + 1) := by
  rw [List.drop_eq_getElem_cons (by simpa [nat] using h), rd_get h]; simp [nat]
theorem and1 (m : Nat) (h : m < 4294967296) : bits .and .u32 (m : Int) 1 = ((m % 2 : Nat) : Int) := by
  have := u32_and_nat m 1 h (by omega)
  rw [Nat.and_one_is_mod] at this
  exact this
theorem crc_bits (m : Nat) (h : m < 4294967296) : bits .xor .u32 ((m : Int) / 2) (bits .and .u32 3988292384 (-(bits .and .u32 (m : Int) 1) % 4294967296)) = ((cstep m : Nat) : Int) := by
  rw [and1 m h]
  have e : bits .and .u32 3988292384 (-((m % 2 : Nat) : Int) % 4294967296) = ((if m % 2 = 1 then poly else 0 : Nat) : Int) := by
    rcases Nat.mod_two_eq_zero_or_one m with h1 | h1
    · rw [h1]; decide +kernel
    · rw [h1]; decide +kernel
  rw [e]
  have := u32_xor_nat (m / 2) (if m % 2 = 1 then poly else 0) (by omega) (by split <;> simp [poly])
  rw [← show (((m / 2 : Nat)) : Int) = (m : Int) / 2 from by simp, this]
  rfl
theorem not32 (m : Nat) (h : m < 4294967296) : bits .xor .u32 IntKind.u32.max (m : Int) = ((4294967295 - m : Nat) : Int) := by
  have := u32_xor_nat 4294967295 m (by omega) h
  rw [show IntKind.u32.max = ((4294967295 : Nat) : Int) from by decide, this, ones_sub h, Nat.xor_comm]
theorem ret_u32 {a b : Int} (h : a = b) : Ending.returned (.int .u32 a) = .returned (.int .u32 b) := by rw [h]
set_option maxRecDepth 100000 in
set_option maxHeartbeats 1000000 in
theorem crc_ok (P : Option Addr) (c B : Nat) (xs : List Int) (w : World) (hx : RI w B .u8 P xs) (hl : xs.length ≤ 9223372036854775807) (hb : Byt xs) :
    Calls Try.prog 10 #[.slice P xs.length c] w fun e w' => e = .returned (.int .u32 (crc (nat xs) : Nat)) ∧ w = w' := by
  have HX := Lib.hid hx
  have HB := Lib.hid hb
  clear hx hb
  go_enter Try.func10, Try.ntmps10
  go_wp2
  go_loop [3, 8] (fun s i => ∃ (k m : Nat), i = .int .i64 k ∧ s = .int .u32 m ∧ k ≤ xs.length ∧ m < 4294967296 ∧ Hid (crcF m ((nat xs).drop k) = crcF 4294967295 (nat xs))) (fun _ i => xs.length - (intOf i).toNat)
  case atStart => exact ⟨0, 4294967295, rfl, rfl, by omega, by omega, Lib.hid rfl⟩
  case round =>
    obtain ⟨k, m, rfl, rfl, hk, hm, HM⟩ := hrel
    by_cases hlt : k < xs.length
    · obtain ⟨ad, rfl, _, hca⟩ := HX.out.one hlt
      have hby : 0 ≤ rd xs k ∧ rd xs k ≤ 255 := by rw [rd_get hlt]; exact HB.out _ (List.getElem_mem hlt)
      have hd := nat_drop hlt
      obtain ⟨b, hbb⟩ : ∃ b : Nat, rd xs k = b := ⟨(rd xs k).toNat, by omega⟩
      rw [hbb] at hca hby hd
      rw [Int.toNat_natCast] at hd
      have hx0 := u32_xor_nat m b hm (by omega)
      have hlt0 : m ^^^ b < 4294967296 := Nat.xor_lt_two_pow (n := 32) hm (by omega)
      have HD := Lib.hid hd
      clear hd hbb
      obtain ⟨m0, hm0⟩ : ∃ m0, m0 = m ^^^ b := ⟨_, rfl⟩
      rw [← hm0] at hx0 hlt0
      have HM0 := Lib.hid hm0
      clear hm0
      go_wp2_with fail
      go_loop [3, 16] (fun s i => ∃ (j m1 : Nat), i = .int .i64 j ∧ s = .int .u32 m1 ∧ j ≤ 8 ∧ m1 < 4294967296 ∧ Hid (iter (8 - j) m1 = iter 8 m0)) (fun _ i => 8 - (intOf i).toNat)
      case atStart => exact ⟨0, m0, rfl, rfl, by omega, hlt0, Lib.hid rfl⟩
      case round =>
        obtain ⟨j, m1, rfl, rfl, hj, hm1, HJ⟩ := hrel
        by_cases hj8 : j < 8
        · have hcb := crc_bits m1 hm1
          go_wp2
          go_round
          case rel =>
            refine ⟨j + 1, cstep m1, by go_num, rfl, by omega, cstep_lt hm1, Lib.hid ?_⟩
            rw [← HJ.out, show 8 - j = (8 - (j + 1)) + 1 from by omega]
            rfl
          case measure => simp [intOf]; omega
        · go_wp2
          go_round
          case rel =>
            refine ⟨k + 1, m1, by go_num, rfl, by omega, hm1, Lib.hid ?_⟩
            have h8 := HJ.out
            rw [show 8 - j = 0 from by omega] at h8
            rw [← HM.out, HD.out, show m1 = crcB m b from by rw [crcB, ← HM0.out]; exact h8]
            rfl
          case measure => simp [intOf]; omega
    · have hn : (nat xs).drop k = [] := List.drop_eq_nil_of_le (by rw [nat_length]; omega)
      have HN := Lib.hid hn
      clear hn
      go_wp2
      go_ret
      refine ⟨ret_u32 ?_, rfl⟩
      rw [not32 m hm, crc, ← HM.out, HN.out]
      rfl
end Go.Proofs.Ytipbnjcgololpaa.Crc
