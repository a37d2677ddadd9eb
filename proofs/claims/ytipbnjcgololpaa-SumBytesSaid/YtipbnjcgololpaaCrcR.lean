import Derived.Test.YtipbnjcgololpaaCrcW
/-! the document's Crc -/
namespace Go.Proofs.Ytipbnjcgololpaa.Crc
open Go.RowKit Go.Deep Go.Proofs.Ytipbnjcgololpaa.Pack
set_option linter.unusedVariables false
theorem bit_val (b m1 j : Nat) (hb : b ≤ 255) : IntKind.u64.wrap ((IntKind.u64.wrap ((b : Int) / 2 ^ j)).tmod 2 + (m1 : Int) % 2) = ((b / 2 ^ j % 2 + m1 % 2 : Nat) : Int) := by
  have e : (b : Int) / 2 ^ j = ((b / 2 ^ j : Nat) : Int) := by push_cast; rfl
  have h : b / 2 ^ j ≤ 255 := Nat.le_trans (Nat.div_le_self _ _) hb
  rw [e]
  generalize b / 2 ^ j = y at *
  rw [IntKind.wrap_u64, IntKind.wrap_u64, show ((y : Int) % 18446744073709551616) = y from by omega, Int.tmod_eq_emod_of_nonneg (by omega)]
  omega
theorem bit_step (b m1 j : Nat) : cstep (m1 ^^^ b / 2 ^ j) = (m1 / 2 ^^^ (if (b / 2 ^ j % 2 + m1 % 2) = 1 then poly else 0)) ^^^ b / 2 ^ (j + 1) := by
  unfold cstep
  rw [xor_div2, xor_mod2, Nat.div_div_eq_div_mul, ← Nat.pow_succ, Nat.xor_assoc, Nat.xor_comm (b / 2 ^ (j + 1)), ← Nat.xor_assoc]
  congr 2
  generalize b / 2 ^ j = y
  by_cases h : (m1 + y) % 2 = 1
  · rw [if_pos h, if_pos (by omega)]
  · rw [if_neg h, if_neg (by omega)]
theorem xor_poly (m : Nat) (h : m < 4294967296) : bits .xor .u64 ((m : Int) / 2) 3988292384 = ((m / 2 ^^^ poly : Nat) : Int) := by
  have := u64_xor_nat (m / 2) 3988292384 (by omega) (by omega)
  rw [← show (((m / 2 : Nat)) : Int) = (m : Int) / 2 from by simp]
  exact this
set_option maxRecDepth 100000 in
set_option maxHeartbeats 1000000 in
theorem refcrc_ok (P : Option Addr) (c B : Nat) (xs : List Int) (w : World) (hx : RI w B .u8 P xs) (hl : xs.length ≤ 9223372036854775807) (hb : Byt xs) :
    Calls Try.prog 13 #[.slice P xs.length c] w fun e w' => e = .returned (.int .u32 (crc (nat xs) : Nat)) ∧ w = w' := by
  have HX := Lib.hid hx
  have HB := Lib.hid hb
  clear hx hb
  go_enter Try.func13, Try.ntmps13
  go_wp2
  go_loop [3, 10] (fun s i => ∃ (k m : Nat), i = .int .i64 k ∧ s = .int .u64 m ∧ k ≤ xs.length ∧ m < 4294967296 ∧ Hid (crcF m ((nat xs).drop k) = crcF 4294967295 (nat xs))) (fun _ i => xs.length - (intOf i).toNat)
  case atStart => exact ⟨0, 4294967295, rfl, rfl, by omega, by omega, Lib.hid rfl⟩
  case round =>
    obtain ⟨k, m, rfl, rfl, hk, hm, HM⟩ := hrel
    by_cases hlt : k < xs.length
    · obtain ⟨ad, rfl, _, hca⟩ := HX.out.one hlt
      have hby : 0 ≤ rd xs k ∧ rd xs k ≤ 255 := by rw [rd_get hlt]; exact HB.out _ (List.getElem_mem hlt)
      have hd := nat_drop hlt
      obtain ⟨b, hbb⟩ : ∃ b : Nat, rd xs k = b := ⟨(rd xs k).toNat, by omega⟩
      rw [hbb] at hca hby hd
      rw [Int.toNat_natCast] at hd
      have HD := Lib.hid hd
      clear hd hbb
      go_wp2_with fail
      go_loop [3, 14] (fun s i => ∃ (j m1 : Nat), i = .int .i64 j ∧ s = .int .u64 m1 ∧ j ≤ 8 ∧ m1 < 4294967296 ∧ Hid (iter (8 - j) (m1 ^^^ b / 2 ^ j) = crcB m b)) (fun _ i => 8 - (intOf i).toNat)
      case atStart => exact ⟨0, m, rfl, rfl, by omega, hm, Lib.hid (by simp [crcB])⟩
      case round =>
        obtain ⟨j, m1, rfl, rfl, hj, hm1, HJ⟩ := hrel
        by_cases hj8 : j < 8
        · go_wp2
          · have hT : (IntKind.u64.wrap ((IntKind.u64.wrap (↑b / 2 ^ j)).tmod 2 + ↑m1 % 2) == 1) = true := by assumption
            rw [bit_val b m1 j (by omega)] at hT
            have hT' : b / 2 ^ j % 2 + m1 % 2 = 1 := by exact_mod_cast beq_iff_eq.1 hT
            go_round
            case rel =>
              refine ⟨j + 1, m1 / 2 ^^^ poly, by go_num, by rw [xor_poly m1 hm1], by omega, Nat.xor_lt_two_pow (n := 32) (by omega) (by simp [poly]), Lib.hid ?_⟩
              rw [← HJ.out, show 8 - j = (8 - (j + 1)) + 1 from by omega]
              simp only [iter]
              rw [bit_step, if_pos hT']
            case measure => simp [intOf]; omega
          · have hT : (IntKind.u64.wrap ((IntKind.u64.wrap (↑b / 2 ^ j)).tmod 2 + ↑m1 % 2) == 1) = false := by assumption
            rw [bit_val b m1 j (by omega)] at hT
            have hT' : ¬ b / 2 ^ j % 2 + m1 % 2 = 1 := by
              intro h; rw [h] at hT; simp at hT
            go_round
            case rel =>
              refine ⟨j + 1, m1 / 2, by go_num, by simp, by omega, by omega, Lib.hid ?_⟩
              rw [← HJ.out, show 8 - j = (8 - (j + 1)) + 1 from by omega]
              simp only [iter]
              rw [bit_step, if_neg hT', Nat.xor_zero]
            case measure => simp [intOf]; omega
        · go_wp2
          go_round
          case rel =>
            refine ⟨k + 1, m1, by go_num, rfl, by omega, hm1, Lib.hid ?_⟩
            have h8 := HJ.out
            rw [show j = 8 from by omega, show b / 2 ^ 8 = 0 from Nat.div_eq_of_lt (by omega)] at h8
            rw [← HM.out, HD.out, show m1 = crcB m b from by rw [← h8]; simp [iter]]
            rfl
          case measure => simp [intOf]; omega
    · have hn : (nat xs).drop k = [] := List.drop_eq_nil_of_le (by rw [nat_length]; omega)
      have HN := Lib.hid hn
      clear hn
      go_wp2
      go_ret
      refine ⟨ret_u32 ?_, rfl⟩
      rw [crc, ← HM.out, HN.out]
      simp [crcF]
      omega
end Go.Proofs.Ytipbnjcgololpaa.Crc
