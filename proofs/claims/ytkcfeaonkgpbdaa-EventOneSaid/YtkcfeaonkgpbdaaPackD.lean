import Derived.Test.YtkcfeaonkgpbdaaPackC
/-! the document's own reading -/
namespace Go.Proofs.Ytkcfeaonkgpbdaa.Pack
open Go.RowKit Go.Deep
set_option linter.unusedVariables false
set_option maxHeartbeats 1000000 in
theorem front_ok (P S : Option Addr) (c d B : Nat) (xs ys : List Int) (w : World) (hx : RI w B .u8 P xs) (hy : RI w B .u8 S ys) (hc : xs.length ≤ c) (hl : xs.length ≤ 9223372036854775807) (hl' : ys.length ≤ 9223372036854775807) :
    Calls Try.prog 37 #[.slice P xs.length c, .slice S ys.length d] w fun e w' => e = .returned (.bool (decide (xs.take ys.length = ys))) ∧ Drew w w' := by
  by_cases hlen : ys.length ≤ xs.length
  · have hyc : ys.length ≤ c := by omega
    have e : (xs.take ys.length).length = ys.length := by simp; omega
    have H := fun W (h1 : RI W B .u8 P xs) (h2 : RI W B .u8 S ys) => SameBytes.any B P S c d (xs.take ys.length) ys W (h1.take _) h2 (by omega) hl'
    rw [e] at H
    have HH := Lib.hid H
    have HX := Lib.hid hx
    have HY := Lib.hid hy
    clear hx hy e H
    go_enter Try.func37, Try.ntmps37
    go_wp2_with fail
    refine (HH.out _ HX.out HY.out).mono ?_
    rintro e w1 ⟨rfl, q, rfl⟩
    go_wp2
    go_ret
    exact ⟨rfl, by repeat (first | exact Drew.refl _ | apply Drew.step)⟩
  · have hne : decide (xs.take ys.length = ys) = false := decide_eq_false fun h => by
      have := congrArg List.length h
      simp at this; omega
    rw [hne]
    clear hne hx hy
    go_enter Try.func37, Try.ntmps37
    go_wp2
    go_ret
    exact ⟨rfl, Drew.refl _⟩

/-- the number of some digits, the lowest first -/
def val : List Int → Int
  | [] => 0
  | b :: r => b % 128 + 128 * val r
theorem val_snoc : ∀ (l : List Int) (b : Int), val (l ++ [b]) = val l + b % 128 * 128 ^ l.length
  | [], b => by simp [val]
  | a :: l, b => by
    simp only [List.cons_append, val, val_snoc l b, List.length_cons, Int.pow_succ]
    rw [Int.mul_add, ← Int.mul_assoc 128, Int.mul_comm 128 (b % 128), Int.mul_assoc (b % 128), Int.mul_comm 128 (128 ^ l.length)]
    omega
theorem val_encF : ∀ (f : Nat) (n : Int), 0 ≤ n → n < 128 ^ f → val (encF f n) = n
  | 0, n, h0, h1 => by simp at h1; simp [encF, val]; omega
  | f + 1, n, h0, h1 => by
    unfold encF
    rw [Int.pow_succ] at h1
    generalize hz : (128 : Int) ^ f = z at *
    split
    · simp only [val]; omega
    · simp only [val]
      rw [val_encF f (n / 128) (by omega) (by rw [hz]; omega)]
      omega
theorem val_enc (n : Int) (h0 : 0 ≤ n) (h1 : n < 18446744073709551616) : val (enc n) = n := val_encF 10 n h0 (by omega)
/-- all but the last of a number's bytes are from 128 on, the last is below -/
theorem encF_shape : ∀ (f : Nat) (n : Int), 0 ≤ n → n < 128 ^ f → 1 ≤ f → (∀ j, j + 1 < (encF f n).length → 128 ≤ rd (encF f n) j) ∧ rd (encF f n) ((encF f n).length - 1) < 128
  | 0, _, _, _, h => absurd h (by omega)
  | f + 1, n, h0, h1, _ => by
    unfold encF
    rw [Int.pow_succ] at h1
    split
    · rename_i h
      exact ⟨fun j hj => by simp at hj, by simpa [rd] using h⟩
    · rename_i h
      have hf : 1 ≤ f := by
        rcases Nat.eq_zero_or_pos f with rfl | hp
        · simp at h1; omega
        · exact hp
      generalize hz : (128 : Int) ^ f = z at *
      obtain ⟨h2, h3⟩ := encF_shape f (n / 128) (by omega) (by rw [hz]; omega) hf
      have hpos : 1 ≤ (encF f (n / 128)).length := by
        obtain ⟨g, rfl⟩ : ∃ g, f = g + 1 := ⟨f - 1, by omega⟩
        unfold encF; split <;> simp
      refine ⟨fun j hj => ?_, ?_⟩
      · cases j with
        | zero => simp [rd]; omega
        | succ j => exact h2 j (by simpa using hj)
      · obtain ⟨m, hm⟩ : ∃ m, (encF f (n / 128)).length = m + 1 := ⟨_, (Nat.sub_add_cancel hpos).symm⟩
        rw [hm] at h3
        simp only [List.length_cons, hm]
        simpa [rd] using h3
theorem enc_shape (n : Int) (h0 : 0 ≤ n) (h1 : n < 18446744073709551616) : (∀ j, j + 1 < (enc n).length → 128 ≤ rd (enc n) j) ∧ rd (enc n) ((enc n).length - 1) < 128 :=
  encF_shape 10 n h0 (by omega) (by omega)
theorem rd_append_left {xs ys : List Int} {j : Nat} (h : j < xs.length) : rd (xs ++ ys) j = rd xs j := by
  rw [rd_get h, rd_get (by simp; omega), List.getElem_append_left h]
/-- where the first byte below 128 stands at k, what is read is the digits' number, if that has just these bytes -/
theorem doc_hit {xs : List Int} {k : Nat} (hb : Byt xs) (hk : k < xs.length) (hpre : ∀ j, j < k → 128 ≤ rd xs j) (hlast : rd xs k < 128) (hk10 : k < 10) :
    dec xs = if xs.take (enc (val (xs.take (k + 1)) % 18446744073709551616)).length = enc (val (xs.take (k + 1)) % 18446744073709551616) ∧ (enc (val (xs.take (k + 1)) % 18446744073709551616)).length = k + 1
      then some (val (xs.take (k + 1)) % 18446744073709551616, k + 1) else none := by
  generalize hn : val (xs.take (k + 1)) % 18446744073709551616 = n
  have hn0 : 0 ≤ n ∧ n < 18446744073709551616 := by omega
  split
  · rename_i h
    have e : xs = enc n ++ xs.drop (k + 1) := by
      rw [← h.1, h.2, List.take_append_drop]
    rw [e, dec_enc n _ hn0.1 hn0.2, h.2]
  · rename_i h
    cases hd : dec xs with
    | none => rfl
    | some r =>
      obtain ⟨m, j⟩ := r
      obtain ⟨m0, m1, rfl, r, hr⟩ := dec_some hb hd
      exfalso
      apply h
      obtain ⟨s1, s2⟩ := enc_shape m m0 m1
      have hp := enc_pos m
      have hlen : (enc m).length = k + 1 := by
        rcases Nat.lt_trichotomy ((enc m).length - 1) k with hlt | heq | hgt
        · have := hpre _ hlt
          rw [hr, rd_append_left (by omega)] at this
          omega
        · omega
        · have := s1 k (by omega)
          rw [hr, rd_append_left (by omega)] at hlast
          omega
      have ht : xs.take (k + 1) = enc m := by rw [hr, ← hlen, List.take_left']; rfl
      have hm : n = m := by
        rw [← hn, ht, val_enc m m0 m1]; omega
      subst hm
      exact ⟨by rw [hlen, ht], hlen⟩
/-- no byte below 128 among the first ten -/
theorem doc_miss {xs : List Int} {k : Nat} (hb : Byt xs) (hk : k = xs.length ∨ k = 10) (hpre : ∀ j, j < k → 128 ≤ rd xs j) : dec xs = none := by
  cases hd : dec xs with
  | none => rfl
  | some r =>
    obtain ⟨m, j⟩ := r
    obtain ⟨m0, m1, rfl, r, hr⟩ := dec_some hb hd
    exfalso
    obtain ⟨s1, s2⟩ := enc_shape m m0 m1
    have hp := enc_pos m
    have hle := enc_len m
    have hxl : (enc m).length ≤ xs.length := by rw [hr]; simp
    have := hpre ((enc m).length - 1) (by omega)
    rw [hr, rd_append_left (by omega)] at this
    omega
theorem doc_wrap (a c p : Int) : IntKind.u64.wrap (a % 18446744073709551616 + IntKind.u64.wrap (c * (p % 18446744073709551616))) = (a + c * p) % 18446744073709551616 := by
  simp only [IntKind.wrap_u64]
  rw [Int.mul_emod, Int.emod_emod_of_dvd _ (Int.dvd_refl _), ← Int.mul_emod, ← Int.add_emod]
theorem doc_place (p : Int) : IntKind.u64.wrap (p % 18446744073709551616 * 128) = (p * 128) % 18446744073709551616 := by
  simp only [IntKind.wrap_u64]
  rw [Int.mul_emod, Int.emod_emod_of_dvd _ (Int.dvd_refl _), ← Int.mul_emod]
end Go.Proofs.Ytkcfeaonkgpbdaa.Pack
