import Derived.Below
import Derived.WalkArith
/-! numbers as bytes: plain, no program in sight -/
namespace Go.Proofs.Ytkcfeaonkgpbdaa
open Go.RowKit
set_option linter.unusedVariables false
def Byt (xs : List Int) : Prop := ∀ n ∈ xs, 0 ≤ n ∧ n ≤ 255
/-- a number's bytes, at most f of them -/
def encF : Nat → Int → List Int
  | 0, _ => []
  | f + 1, n => if n < 128 then [n] else (128 + n % 128) :: encF f (n / 128)
def enc (n : Int) : List Int := encF 10 n
/-- a signed number as one without a sign -/
def zig (n : Int) : Int := if n < 0 then -2 * n - 1 else 2 * n
def zag (n : Int) : Int := if n % 2 = 1 then - (n / 2) - 1 else n / 2
theorem zag_zig (n : Int) : zag (zig n) = n := by
  unfold zag zig
  split <;> split <;> omega
theorem zig_zag (n : Int) (h : 0 ≤ n) : zig (zag n) = n := by
  unfold zag zig
  split <;> split <;> omega
theorem zig_range (n : Int) (h0 : -9223372036854775808 ≤ n) (h1 : n ≤ 9223372036854775807) : 0 ≤ zig n ∧ zig n < 18446744073709551616 := by
  unfold zig; split <;> omega
theorem zag_range (n : Int) (h0 : 0 ≤ n) (h1 : n < 18446744073709551616) : -9223372036854775808 ≤ zag n ∧ zag n ≤ 9223372036854775807 := by
  unfold zag; split <;> omega
theorem encF_len : ∀ (f : Nat) (n : Int), (encF f n).length ≤ f
  | 0, _ => by simp [encF]
  | f + 1, n => by
    unfold encF
    split
    · simp
    · simp only [List.length_cons]
      have := encF_len f (n / 128)
      omega
theorem enc_len (n : Int) : (enc n).length ≤ 10 := encF_len 10 n
theorem enc_pos (n : Int) : 1 ≤ (enc n).length := by unfold enc encF; split <;> simp
theorem encF_byt : ∀ (f : Nat) (n : Int), 0 ≤ n → Byt (encF f n)
  | 0, _, _ => by simp [encF, Byt]
  | f + 1, n, h => by
    unfold encF
    split
    · intro m hm; simp at hm; omega
    · intro m hm
      rcases List.mem_cons.1 hm with rfl | hm
      · omega
      · exact encF_byt f (n / 128) (by omega) m hm
theorem enc_byt (n : Int) (h : 0 ≤ n) : Byt (enc n) := encF_byt 10 n h
/-- reading: what stands at the front of xs, the number so far acc, the place's weight pl, f bytes at most to come, k bytes read; the last of ten may be 0 or 1 -/
def decF : Nat → List Int → Int → Int → Nat → Option (Int × Nat)
  | 0, _, _, _, _ => none
  | _ + 1, [], _, _, _ => none
  | f + 1, b :: r, acc, pl, k =>
    if f = 0 ∧ 1 < b then none
    else if b < 128 then (if b = 0 ∧ 0 < k then none else some (acc + b * pl, k + 1))
    else decF f r (acc + (b % 128) * pl) (pl * 128) (k + 1)
def dec (xs : List Int) : Option (Int × Nat) := decF 10 xs 0 1 0
/-- the weight of the byte with f bytes at most to come -/
theorem decF_enc : ∀ (f : Nat) (n acc pl : Int) (k : Nat) (r : List Int), 0 ≤ n → (f = 0 → False) → n * 1 < 2 ^ (7 * (f - 1) + 1) → (k = 0 ∨ 0 < n) →
    decF f (encF f n ++ r) acc pl k = some (acc + n * pl, k + (encF f n).length)
  | 0, _, _, _, _, _, _, hf, _, _ => absurd rfl hf
  | f + 1, n, acc, pl, k, r, h0, _, hn, hk => by
    unfold encF
    by_cases h : n < 128
    · rw [if_pos h]
      simp only [List.cons_append, List.nil_append, decF, List.length_cons, List.length_nil]
      rw [if_neg, if_pos h, if_neg]
      · rintro ⟨rfl, hk'⟩; omega
      · rintro ⟨rfl, h1⟩
        simp at hn; omega
    · rw [if_neg h]
      simp only [List.cons_append, decF, List.length_cons]
      have hf : f ≠ 0 := by
        rintro rfl
        simp at hn; omega
      rw [if_neg (fun hh => hf hh.1), if_neg (by omega)]
      have hm : (128 + n % 128) % 128 = n % 128 := by omega
      rw [hm, decF_enc f (n / 128) _ _ _ r (by omega) (fun e => hf e) ?_ (.inr (by omega))]
      · have e : acc + n % 128 * pl + n / 128 * (pl * 128) = acc + n * pl := by
          have : n * pl = (n % 128 + 128 * (n / 128)) * pl := by rw [Int.emod_add_mul_ediv]
          rw [this, Int.add_mul, Int.mul_comm pl 128, ← Int.mul_assoc, Int.mul_comm (n / 128) 128]
          omega
        rw [e, show k + 1 + (encF f (n / 128)).length = k + ((encF f (n / 128)).length + 1) from by omega]
      · obtain ⟨g, rfl⟩ : ∃ g, f = g + 1 := ⟨f - 1, by omega⟩
        have e : (2 : Int) ^ (7 * (g + 1 + 1 - 1) + 1) = 2 ^ (7 * (g + 1 - 1) + 1) * 128 := by
          rw [show 7 * (g + 1 + 1 - 1) + 1 = 7 * (g + 1 - 1) + 1 + 7 from by omega, Int.pow_add]
          rfl
        rw [e] at hn
        generalize (2 : Int) ^ (7 * (g + 1 - 1) + 1) = z at *
        omega
theorem dec_enc (n : Int) (r : List Int) (h0 : 0 ≤ n) (h1 : n < 18446744073709551616) : dec (enc n ++ r) = some (n, (enc n).length) := by
  have := decF_enc 10 n 0 1 0 r h0 (by omega) (by simpa using h1) (.inl rfl)
  simpa [dec, enc] using this
/-- whatever is read is the number's bytes -/
theorem decF_some : ∀ (f : Nat) (xs : List Int) (acc pl : Int) (k : Nat) (m : Int) (j : Nat), Byt xs → decF f xs acc pl k = some (m, j) →
    ∃ n : Int, 0 ≤ n ∧ n < 2 ^ (7 * (f - 1) + 1) ∧ (k = 0 ∨ 0 < n) ∧ m = acc + n * pl ∧ j = k + (encF f n).length ∧ ∃ r, xs = encF f n ++ r
  | 0, _, _, _, _, _, _, _, h => by simp [decF] at h
  | f + 1, [], _, _, _, _, _, _, h => by simp [decF] at h
  | f + 1, b :: xs, acc, pl, k, m, j, hb, h => by
    simp only [decF] at h
    have hb0 := hb b (by simp)
    have hb' : Byt xs := fun x hx => hb x (by simp [hx])
    split at h
    · cases h
    · rename_i hf
      split at h
      · rename_i hlt
        split at h
        · cases h
        · rename_i hz
          simp only [Option.some.injEq, Prod.mk.injEq] at h
          refine ⟨b, hb0.1, ?_, by omega, h.1.symm, ?_, xs, ?_⟩
          · rcases Nat.eq_zero_or_pos f with rfl | hp
            · simp; omega
            · have : (2 : Int) ^ 7 ≤ 2 ^ (7 * (f + 1 - 1) + 1) := by
                have := Nat.pow_le_pow_right (show 1 ≤ 2 by omega) (show 7 ≤ 7 * (f + 1 - 1) + 1 by omega)
                exact_mod_cast this
              simp at this ⊢
              omega
          · unfold encF; rw [if_pos hlt]; simp; omega
          · unfold encF; rw [if_pos hlt]; simp
      · rename_i hge
        obtain ⟨n, n0, n1, n2, e1, e2, r, e3⟩ := decF_some f xs _ _ _ m j hb' h
        have np : 0 < n := by omega
        refine ⟨128 * n + b % 128, by omega, ?_, by omega, ?_, ?_, r, ?_⟩
        · have hf1 : f ≠ 0 := by
            rintro rfl
            simp [decF] at h
          obtain ⟨g, rfl⟩ : ∃ g, f = g + 1 := ⟨f - 1, by omega⟩
          have e : (2 : Int) ^ (7 * (g + 1 + 1 - 1) + 1) = 2 ^ (7 * (g + 1 - 1) + 1) * 128 := by
            rw [show 7 * (g + 1 + 1 - 1) + 1 = 7 * (g + 1 - 1) + 1 + 7 from by omega, Int.pow_add]
            rfl
          rw [e]
          generalize (2 : Int) ^ (7 * (g + 1 - 1) + 1) = z at *
          omega
        · rw [e1, Int.add_mul, Int.mul_comm pl 128, ← Int.mul_assoc, Int.mul_comm n 128]
          omega
        · have hq : (128 * n + b % 128) / 128 = n := by omega
          rw [e2]
          conv => rhs; unfold encF
          rw [if_neg (by omega), hq]
          simp only [List.length_cons]
          omega
        · have hq : (128 * n + b % 128) / 128 = n := by omega
          have hr : (128 * n + b % 128) % 128 = b % 128 := by omega
          unfold encF
          rw [if_neg (by omega), hq, hr, e3, List.cons_append]
          congr 1
          omega
theorem dec_some {xs : List Int} {m : Int} {j : Nat} (hb : Byt xs) (h : dec xs = some (m, j)) : 0 ≤ m ∧ m < 18446744073709551616 ∧ j = (enc m).length ∧ ∃ r, xs = enc m ++ r := by
  obtain ⟨n, h0, h1, _, rfl, rfl, r, h2⟩ := decF_some 10 xs 0 1 0 m j hb h
  simp only [Int.mul_one, Int.zero_add, Nat.zero_add]
  exact ⟨h0, by simpa using h1, rfl, r, h2⟩
end Go.Proofs.Ytkcfeaonkgpbdaa
