import Derived.Test.YtipbnjcgololpaaShaE
import Derived.Test.YtipbnjcgololpaaBigC
/-! the numbers k, as the document has them: cube roots of primes -/
namespace Go.Proofs.Ytipbnjcgololpaa.Roots
open Go.RowKit Go.Deep Go.Proofs.Ytipbnjcgololpaa.Sha Go.Proofs.Ytipbnjcgololpaa.Big
set_option linter.unusedVariables false
set_option linter.unusedSimpArgs false
def primes : List Nat := [2, 3, 5, 7, 11, 13, 17, 19, 23, 29, 31, 37, 41, 43, 47, 53, 59, 61, 67, 71, 73, 79, 83, 89, 97, 101, 103, 107, 109, 113, 127, 131, 137, 139, 149, 151, 157, 163, 167, 173, 179, 181, 191, 193, 197, 199, 211, 223, 227, 229, 233, 239, 241, 251, 257, 263, 269, 271, 277, 281, 283, 293, 307, 311]
def cubes : List Nat := [5411319704, 6194414737, 7344290767, 8215976869, 9551921755, 10098905585, 11043570340, 11460697813, 12214315672, 13195500289, 13492127166, 14311783875, 14809980276, 15046980094, 15499789991, 16133124468, 16720292289, 16907126662, 17444216262, 17784676812, 17950125167, 18429019306, 18734950876, 19175934170, 19734090066, 20001703533, 20132865992, 20390182855, 20516441075, 20764397895, 21588763473, 21813078375, 22141143685, 22248366392, 22769593852, 22871018771, 23170020180, 23461497531, 23651862830, 23931792517, 24205322401, 24295138891, 24734567280, 24820601251, 24990902297, 25075189284, 25569408389, 26045227120, 26200031510, 26276752392, 26428864332, 26653801653, 26727943347, 27092625994, 27306805839, 27517677555, 27725365998, 27793908591, 27997534228, 28131656200, 28198240250, 28526537963, 28973835255, 29099129074]
def isP (n : Nat) : Bool := decide (1 < n) && (List.range 20).all (fun e => decide (e < 2) || decide (n < e * e) || decide (n % e ≠ 0))
def prev (i : Nat) : Nat := if i = 0 then 1 else primes.getD (i - 1) 0
set_option maxRecDepth 100000 in
theorem primes_ok : ∀ i, i < 64 → prev i < primes.getD i 0 ∧ primes.getD i 0 < 400 ∧ isP (primes.getD i 0) = true ∧ (∀ n, n < 400 → prev i < n → n < primes.getD i 0 → isP n = false) := by decide +kernel
set_option maxRecDepth 100000 in
theorem cubes_ok : ∀ i, i < 64 → cubes.getD i 0 * cubes.getD i 0 * cubes.getD i 0 ≤ primes.getD i 0 * 2 ^ 96 ∧ primes.getD i 0 * 2 ^ 96 < (cubes.getD i 0 + 1) * (cubes.getD i 0 + 1) * (cubes.getD i 0 + 1) ∧ cubes.getD i 0 ≤ 68719476736 ∧ cubes.getD i 0 % 4294967296 = K.getD i 0 := by decide +kernel
theorem isP_false {n d : Nat} (hn : n < 400) (hd : 2 ≤ d) (hdd : d * d ≤ n) (h : n % d = 0) : isP n = false := by
  have hd20 : d < 20 := by
    rcases Nat.lt_or_ge d 20 with h | h
    · exact h
    · have := Nat.mul_le_mul h h; omega
  have : (List.range 20).all (fun e => decide (e < 2) || decide (n < e * e) || decide (n % e ≠ 0)) = false := by
    rw [List.all_eq_false]
    refine ⟨d, by simpa using hd20, ?_⟩
    simp [h]; omega
  unfold isP; rw [this]; simp
theorem isP_true {n : Nat} (h1 : 1 < n) (h : ∀ e, 2 ≤ e → e * e ≤ n → n % e ≠ 0) : isP n = true := by
  unfold isP
  rw [Bool.and_eq_true]
  refine ⟨by simpa using h1, ?_⟩
  rw [List.all_eq_true]
  intro e _
  by_cases h2 : e < 2
  · simp [h2]
  · by_cases h3 : n < e * e
    · simp [h3]
    · have := h e (by omega) (by omega)
      simp [this]
set_option maxRecDepth 100000 in
set_option maxHeartbeats 1000000 in
theorem prime_ok (n : Nat) (hn : n < 400) (h1 : 1 < n) (w : World) : Calls Try.prog 19 #[.int .u64 (n : Int)] w fun e w' => e = .returned (.bool (isP n)) ∧ w = w' := by
  have H1 := Lib.hid h1
  have h1' : (1 : Int) < n := by omega
  go_enter Try.func19, Try.ntmps19
  go_wp2
  go_loop [3] (fun v => ∃ d : Nat, v = .int .u64 d ∧ 2 ≤ d ∧ d ≤ 400 ∧ Hid (∀ e, 2 ≤ e → e < d → n % e ≠ 0)) (fun v => 400 - (intOf v).toNat)
  case atStart => exact ⟨2, rfl, by omega, by omega, Lib.hid (fun e h1 h2 => by omega)⟩
  case round =>
    obtain ⟨d, rfl, hd, hd4, HD⟩ := hrel
    obtain ⟨p, hp⟩ : ∃ p, p = d * d := ⟨_, rfl⟩
    have hpI : (d : Int) * (d : Int) = (p : Int) := by rw [hp]; push_cast; rfl
    have hpb : p ≤ 400 * 400 := by rw [hp]; exact Nat.mul_le_mul hd4 hd4
    have HP := Lib.hid hp
    obtain ⟨r, hr⟩ : ∃ r, r = n % d := ⟨_, rfl⟩
    have hrI : (n : Int) % (d : Int) = (r : Int) := by rw [hr]; push_cast; rfl
    have HR := Lib.hid hr
    have hd1 : (2 : Int) ≤ d := by omega
    have hdd : d ≤ p := by rw [hp]; exact Nat.le_mul_of_pos_left _ (by omega)
    clear hp hr
    by_cases hlt : p ≤ n
    · have hlt' : (p : Int) ≤ n := by omega
      by_cases hr0 : r = 0
      · have hb := isP_false hn hd (by rw [← HP.out]; exact hlt) (by rw [← HR.out]; exact hr0)
        have HB := Lib.hid hb
        clear hb
        subst hr0
        go_wp2
        go_ret
        exact ⟨by rw [HB.out]; rfl, rfl⟩
      · have hr1 : ((r : Int) == 0) = false := beq_eq_false_iff_ne.2 (by omega)
        have hdn : d < 400 := by omega
        go_wp2
        go_round
        case rel =>
          refine ⟨d + 1, by go_num, by omega, by omega, Lib.hid (fun e h1 h2 => ?_)⟩
          by_cases he : e = d
          · subst he; rw [← HR.out]; exact hr0
          · exact HD.out e h1 (by omega)
        case measure => simp [intOf]; omega
    · have hb := isP_true (n := n) (H1.out) (fun e h1 h2 => HD.out e h1 (by
        rcases Nat.lt_or_ge e d with h | h
        · exact h
        · have := Nat.mul_le_mul h h; rw [← HP.out] at this; omega))
      have HB := Lib.hid hb
      have hlt' : (n : Int) < p := by omega
      clear hb
      go_wp2
      go_ret
      exact ⟨by rw [HB.out]; rfl, rfl⟩
end Go.Proofs.Ytipbnjcgololpaa.Roots
