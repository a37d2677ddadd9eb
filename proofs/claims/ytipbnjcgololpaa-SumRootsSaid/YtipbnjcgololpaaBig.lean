/-! natural numbers as lists of digits below 2^32, plainly -/
namespace Go.Proofs.Ytipbnjcgololpaa.Big
def base : Nat := 4294967296
/-- the number that digits are -/
def val : List Nat → Nat
  | [] => 0
  | d :: l => d + 4294967296 * val l
/-- without noughts at the end -/
def norm : List Nat → List Nat
  | [] => []
  | d :: l => match norm l with
    | [] => if d = 0 then [] else [d]
    | l' => d :: l'
def digits (n : Nat) : List Nat := if n = 0 then [] else n % 4294967296 :: digits (n / 4294967296)
termination_by n
decreasing_by omega
theorem digits_zero : digits 0 = [] := by rw [digits]; simp
theorem digits_pos {n : Nat} (h : n ≠ 0) : digits n = n % 4294967296 :: digits (n / 4294967296) := by rw [digits, if_neg h]
theorem val_digits (n : Nat) : val (digits n) = n := by
  induction n using Nat.strongRecOn with
  | ind n ih =>
    by_cases h : n = 0
    · subst h; rw [digits_zero]; rfl
    · rw [digits_pos h, val, ih _ (by omega)]; omega
theorem digits_lt (n : Nat) : ∀ d ∈ digits n, d < 4294967296 := by
  induction n using Nat.strongRecOn with
  | ind n ih =>
    by_cases h : n = 0
    · subst h; rw [digits_zero]; simp
    · rw [digits_pos h]
      intro d hd
      rcases List.mem_cons.1 hd with rfl | hd
      · omega
      · exact ih _ (by omega) d hd
theorem norm_val {l : List Nat} (h : ∀ d ∈ l, d < 4294967296) : norm l = digits (val l) := by
  induction l with
  | nil => rw [val, digits_zero]; rfl
  | cons d l ih =>
    have hd := h d (by simp)
    have ih' := ih (fun x hx => h x (by simp [hx]))
    simp only [norm, val]
    rw [ih']
    by_cases hv : val l = 0
    · rw [hv, digits_zero]
      by_cases h0 : d = 0
      · subst h0; simp [digits_zero]
      · simp only [if_neg h0]
        rw [digits_pos (by omega)]
        simp [show d % 4294967296 = d by omega, show d / 4294967296 = 0 by omega, digits_zero]
    · have hne : digits (val l) ≠ [] := by rw [digits_pos hv]; simp
      rw [digits_pos (n := d + 4294967296 * val l) (by omega)]
      have e1 : (d + 4294967296 * val l) % 4294967296 = d := by omega
      have e2 : (d + 4294967296 * val l) / 4294967296 = val l := by omega
      rw [e1, e2]
      cases hc : digits (val l) with
      | nil => exact absurd hc hne
      | cons a b => rfl
theorem val_app (l m : List Nat) : val (l ++ m) = val l + 4294967296 ^ l.length * val m := by
  induction l with
  | nil => simp [val]
  | cons d l ih => simp only [List.cons_append, val, ih, List.length_cons, Nat.pow_succ, Nat.mul_add]; rw [← Nat.mul_assoc, Nat.mul_comm 4294967296 (4294967296 ^ l.length)]; omega
theorem val_lt {l : List Nat} (h : ∀ d ∈ l, d < 4294967296) : val l < 4294967296 ^ l.length := by
  induction l with
  | nil => simp [val]
  | cons d l ih =>
    have hd := h d (by simp)
    have ih' := ih (fun x hx => h x (by simp [hx]))
    simp only [val, List.length_cons, Nat.pow_succ]
    omega
theorem val_zeros (n : Nat) : val (List.replicate n 0) = 0 := by
  induction n with
  | zero => rfl
  | succ n ih => simp [List.replicate_succ, val, ih]
/-- norm by cutting the last nought -/
theorem norm_snoc_zero (l : List Nat) : norm (l ++ [0]) = norm l := by
  induction l with
  | nil => rfl
  | cons d l ih => simp only [List.cons_append, norm, ih]
theorem norm_last {l : List Nat} (h : ∀ (hl : l ≠ []), l.getLast hl ≠ 0) : norm l = l := by
  induction l with
  | nil => rfl
  | cons d l ih =>
    cases l with
    | nil => have := h (by simp); simp at this; simp [norm, this]
    | cons a b =>
      have ih' := ih (fun hl => by have := h (by simp); simpa using this)
      rw [norm, ih']
theorem digits_ge {b : Nat} (h : b ≠ 0) : 4294967296 ^ ((digits b).length - 1) ≤ b := by
  induction b using Nat.strongRecOn with
  | ind n ih =>
    rw [digits_pos h]
    by_cases h0 : n / 4294967296 = 0
    · rw [h0, digits_zero]; simp; omega
    · have := ih _ (by omega) h0
      have hl : 1 ≤ (digits (n / 4294967296)).length := by rw [digits_pos h0]; simp
      have e : (n % 4294967296 :: digits (n / 4294967296)).length - 1 = ((digits (n / 4294967296)).length - 1) + 1 := by simp; omega
      rw [e, Nat.pow_succ]
      omega
theorem digits_length_lt {a b : Nat} (h : (digits a).length < (digits b).length) : a < b := by
  have h1 := val_lt (digits_lt a)
  rw [val_digits] at h1
  have hb : b ≠ 0 := by intro e; subst e; rw [digits_zero] at h; simp at h
  have h2 := digits_ge hb
  have h3 : 4294967296 ^ (digits a).length ≤ 4294967296 ^ ((digits b).length - 1) := Nat.pow_le_pow_right (by omega) (by omega)
  omega
theorem digits_inj {a b : Nat} (h : digits a = digits b) : a = b := by rw [← val_digits a, h, val_digits]
/-- a digit from above decides -/
theorem val_lt_of {l m : List Nat} (hl : l.length = m.length) (hd : ∀ d ∈ l, d < 4294967296) {i : Nat} (hi : i < l.length) (ht : l.drop (i + 1) = m.drop (i + 1)) (hlt : l.getD i 0 < m.getD i 0) : val l < val m := by
  have e1 : l = l.take i ++ (l.getD i 0 :: l.drop (i + 1)) := by
    rw [show l.getD i 0 = l[i] from by simp [List.getD, hi], ← List.drop_eq_getElem_cons hi, List.take_append_drop]
  have e2 : m = m.take i ++ (m.getD i 0 :: m.drop (i + 1)) := by
    rw [show m.getD i 0 = m[i]'(by omega) from by simp [List.getD, show i < m.length by omega], ← List.drop_eq_getElem_cons (by omega), List.take_append_drop]
  have v1 : val l = val (l.take i) + 4294967296 ^ i * (l.getD i 0 + 4294967296 * val (l.drop (i + 1))) := by
    conv => lhs; rw [e1]
    rw [val_app, val, List.length_take, show min i l.length = i by omega]
  have v2 : val m = val (m.take i) + 4294967296 ^ i * (m.getD i 0 + 4294967296 * val (m.drop (i + 1))) := by
    conv => lhs; rw [e2]
    rw [val_app, val, List.length_take, show min i m.length = i by omega]
  have h1 : val (l.take i) < 4294967296 ^ i := by
    have := val_lt (l := l.take i) (fun d hd' => hd d (List.mem_of_mem_take hd'))
    rwa [List.length_take, show min i l.length = i by omega] at this
  rw [v1, v2, ht]
  generalize val (m.drop (i + 1)) = z
  generalize l.getD i 0 = x at *
  generalize m.getD i 0 = y at *
  have h2 : 4294967296 ^ i * (x + 4294967296 * z) + 4294967296 ^ i ≤ 4294967296 ^ i * (y + 4294967296 * z) := by
    rw [← Nat.mul_succ]
    exact Nat.mul_le_mul_left _ (by omega)
  omega
/-- what Compare answers -/
def cmp (a b : Nat) : Int := if a < b then -1 else if a = b then 0 else 1
theorem cmp_lt {a b : Nat} (h : a < b) : cmp a b = -1 := by simp [cmp, h]
theorem cmp_gt {a b : Nat} (h : b < a) : cmp a b = 1 := by simp [cmp, show ¬ a < b by omega, show ¬ a = b by omega]
theorem cmp_eq {a b : Nat} (h : a = b) : cmp a b = 0 := by subst h; simp [cmp]
theorem val_set {l : List Nat} {i : Nat} (h : i < l.length) (v : Nat) : val (l.set i v) + 4294967296 ^ i * l.getD i 0 = val l + 4294967296 ^ i * v := by
  induction l generalizing i with
  | nil => simp at h
  | cons d l ih =>
    cases i with
    | zero => simp [val]; omega
    | succ i =>
      have := ih (i := i) (by simpa using h)
      simp only [List.set_cons_succ, val, List.getD_cons_succ, Nat.pow_succ]
      have e1 : 4294967296 ^ i * 4294967296 * l.getD i 0 = 4294967296 * (4294967296 ^ i * l.getD i 0) := by rw [Nat.mul_comm (4294967296 ^ i) 4294967296, Nat.mul_assoc]
      have e2 : 4294967296 ^ i * 4294967296 * v = 4294967296 * (4294967296 ^ i * v) := by rw [Nat.mul_comm (4294967296 ^ i) 4294967296, Nat.mul_assoc]
      rw [e1, e2]
      omega
theorem val_take_succ {l : List Nat} {i : Nat} (h : i < l.length) : val (l.take (i + 1)) = val (l.take i) + 4294967296 ^ i * l.getD i 0 := by
  rw [List.take_succ_eq_append_getElem h, val_app, List.length_take, show min i l.length = i by omega]
  simp [val, List.getD, h]
theorem norm_take (l : List Nat) : norm l = l.take (norm l).length := by
  induction l with
  | nil => rfl
  | cons d l ih =>
    simp only [norm]
    split
    · split <;> simp
    · rename_i h; rw [List.length_cons, List.take_succ_cons, ← ih]
theorem norm_length_le (l : List Nat) : (norm l).length ≤ l.length := by
  conv => lhs; rw [norm_take]
  rw [List.length_take]; omega
end Go.Proofs.Ytipbnjcgololpaa.Big
