/-! CRC-32, plainly -/
namespace Go.Proofs.Ytipbnjcgololpaa.Crc
def poly : Nat := 3988292384
def cstep (c : Nat) : Nat := (c / 2) ^^^ (if c % 2 = 1 then poly else 0)
def iter : Nat → Nat → Nat
  | 0, c => c
  | n + 1, c => iter n (cstep c)
def crcB (c b : Nat) : Nat := iter 8 (c ^^^ b)
def crcF (c : Nat) (l : List Nat) : Nat := l.foldl crcB c
def crc (l : List Nat) : Nat := 4294967295 - crcF 4294967295 l
theorem cstep_lt {c : Nat} (h : c < 4294967296) : cstep c < 4294967296 := by
  unfold cstep
  refine Nat.xor_lt_two_pow (n := 32) (by omega) ?_
  split <;> simp [poly]
theorem iter_lt : ∀ (n : Nat) {c : Nat}, c < 4294967296 → iter n c < 4294967296
  | 0, _, h => h
  | n + 1, _, h => iter_lt n (cstep_lt h)
theorem crcB_lt {c b : Nat} (hc : c < 4294967296) (hb : b < 256) : crcB c b < 4294967296 := iter_lt 8 (Nat.xor_lt_two_pow (n := 32) hc (by omega))
theorem crcF_lt : ∀ (l : List Nat) {c : Nat}, c < 4294967296 → (∀ b ∈ l, b < 256) → crcF c l < 4294967296
  | [], _, h, _ => h
  | b :: l, c, h, hb => crcF_lt l (crcB_lt h (hb b (by simp))) (fun x hx => hb x (by simp [hx]))
theorem xor_div2 (a b : Nat) : (a ^^^ b) / 2 = a / 2 ^^^ b / 2 := by
  apply Nat.eq_of_testBit_eq
  intro i
  simp [Nat.testBit_div_two]
theorem xor_mod2 (a b : Nat) : (a ^^^ b) % 2 = (a + b) % 2 := by
  have h : (a ^^^ b).testBit 0 = (a.testBit 0 ^^ b.testBit 0) := Nat.testBit_xor ..
  simp only [Nat.testBit_zero] at h
  rcases Nat.mod_two_eq_zero_or_one a with h1 | h1 <;> rcases Nat.mod_two_eq_zero_or_one b with h2 | h2 <;> rcases Nat.mod_two_eq_zero_or_one (a ^^^ b) with h3 | h3 <;> simp [h1, h2, h3] at h ⊢ <;> omega
theorem cstep_xor (a b : Nat) : cstep (a ^^^ b) = cstep a ^^^ cstep b := by
  unfold cstep
  rw [xor_div2, xor_mod2]
  rcases Nat.mod_two_eq_zero_or_one a with h1 | h1 <;> rcases Nat.mod_two_eq_zero_or_one b with h2 | h2
  · rw [if_neg (by omega), if_neg (by omega), if_neg (by omega)]; simp
  · rw [if_pos (by omega), if_neg (by omega), if_pos (by omega)]; simp [Nat.xor_assoc]
  · rw [if_pos (by omega), if_pos (by omega), if_neg (by omega)]; simp only [Nat.xor_zero]; rw [Nat.xor_assoc, Nat.xor_assoc, Nat.xor_comm poly]
  · rw [if_neg (by omega), if_pos (by omega), if_pos (by omega)]
    rw [show a / 2 ^^^ poly ^^^ (b / 2 ^^^ poly) = a / 2 ^^^ b / 2 ^^^ (poly ^^^ poly) from by ac_rfl]
    simp
theorem iter_xor : ∀ (n a b : Nat), iter n (a ^^^ b) = iter n a ^^^ iter n b
  | 0, _, _ => rfl
  | n + 1, a, b => by simp only [iter, cstep_xor, iter_xor n]
theorem cstep_zero {c : Nat} (h : c < 4294967296) (h0 : cstep c = 0) : c = 0 := by
  unfold cstep at h0
  rcases Nat.mod_two_eq_zero_or_one c with h1 | h1
  · rw [if_neg (by omega)] at h0
    simp at h0; omega
  · rw [if_pos h1] at h0
    have h2 : c / 2 = poly := by
      have := congrArg (· ^^^ poly) h0
      simpa [Nat.xor_assoc] using this
    unfold poly at h2; omega
theorem iter_zero : ∀ (n : Nat) {c : Nat}, c < 4294967296 → iter n c = 0 → c = 0
  | 0, _, _, h => h
  | n + 1, _, h, h0 => cstep_zero h (iter_zero n (cstep_lt h) h0)
theorem xor_eq_zero {a b : Nat} (h : a ^^^ b = 0) : a = b := by
  have := congrArg (· ^^^ b) h
  simpa [Nat.xor_assoc] using this
theorem crcB_inj {c d a b : Nat} (hc : c < 4294967296) (hd : d < 4294967296) (ha : a < 256) (hb : b < 256) (h : crcB c a = crcB d b) : c ^^^ a = d ^^^ b := by
  apply xor_eq_zero
  apply iter_zero 8
  · exact Nat.xor_lt_two_pow (n := 32) (Nat.xor_lt_two_pow (n := 32) hc (by omega)) (Nat.xor_lt_two_pow (n := 32) hd (by omega))
  · rw [iter_xor]; unfold crcB at h; rw [h]; simp
theorem xor_cancel {c a b : Nat} (h : c ^^^ a = c ^^^ b) : a = b := by
  have := congrArg (c ^^^ ·) h
  simpa [← Nat.xor_assoc] using this
theorem xor_cancel' {c d a : Nat} (h : c ^^^ a = d ^^^ a) : c = d := by
  have := congrArg (· ^^^ a) h
  simpa [Nat.xor_assoc] using this
theorem crcF_inj : ∀ (l : List Nat) {c d : Nat}, c < 4294967296 → d < 4294967296 → (∀ b ∈ l, b < 256) → crcF c l = crcF d l → c = d
  | [], _, _, _, _, _, h => h
  | b :: l, c, d, hc, hd, hb, h => by
    have hb0 := hb b (by simp)
    have := crcF_inj l (crcB_lt hc hb0) (crcB_lt hd hb0) (fun x hx => hb x (by simp [hx])) h
    exact xor_cancel' (crcB_inj hc hd hb0 hb0 this)
/-- one byte that is turned is seen -/
theorem crcF_turned : ∀ (l : List Nat) (j v : Nat) {c : Nat}, c < 4294967296 → (∀ b ∈ l, b < 256) → (hj : j < l.length) → v < 256 → l[j] ≠ v → crcF c (l.set j v) ≠ crcF c l
  | b :: l, 0, v, c, hc, hb, _, hv, hne, h => by
    have hb0 := hb b (by simp)
    have := crcF_inj l (crcB_lt hc hv) (crcB_lt hc hb0) (fun x hx => hb x (by simp [hx])) h
    exact hne (xor_cancel (crcB_inj hc hc hv hb0 this)).symm
  | b :: l, j + 1, v, c, hc, hb, hj, hv, hne, h => by
    have hb0 := hb b (by simp)
    exact crcF_turned l j v (crcB_lt hc hb0) (fun x hx => hb x (by simp [hx])) (by simpa using hj) hv (by simpa using hne) h
theorem crc_turned (l : List Nat) (j v : Nat) (hb : ∀ b ∈ l, b < 256) (hj : j < l.length) (hv : v < 256) (hne : l[j] ≠ v) : crc (l.set j v) ≠ crc l := by
  have h1 := crcF_turned l j v (c := 4294967295) (by omega) hb hj hv hne
  have h2 := crcF_lt l (c := 4294967295) (by omega) hb
  have h3 := crcF_lt (l.set j v) (c := 4294967295) (by omega) (fun b h => by
    rcases List.mem_or_eq_of_mem_set h with h | h
    · exact hb b h
    · omega)
  unfold crc; omega
/-- three lists, bit by bit -/
def xor3 : List Nat → List Nat → List Nat → List Nat
  | a :: l, b :: m, c :: n => (a ^^^ b ^^^ c) :: xor3 l m n
  | _, _, _ => []
theorem crcF_xor3 : ∀ (l m n : List Nat) (c d e : Nat), l.length = m.length → l.length = n.length → crcF (c ^^^ d ^^^ e) (xor3 l m n) = crcF c l ^^^ crcF d m ^^^ crcF e n
  | [], [], [], _, _, _, _, _ => rfl
  | a :: l, b :: m, f :: n, c, d, e, h, h' => by
    show crcF (crcB (c ^^^ d ^^^ e) (a ^^^ b ^^^ f)) (xor3 l m n) = crcF (crcB c a) l ^^^ crcF (crcB d b) m ^^^ crcF (crcB e f) n
    rw [← crcF_xor3 l m n _ _ _ (by simpa using h) (by simpa using h')]
    congr 1
    unfold crcB
    rw [show c ^^^ d ^^^ e ^^^ (a ^^^ b ^^^ f) = (c ^^^ a) ^^^ (d ^^^ b) ^^^ (e ^^^ f) from by ac_rfl]
    rw [iter_xor, iter_xor]
theorem ones_sub {c : Nat} (h : c < 4294967296) : 4294967295 - c = c ^^^ 4294967295 := by
  have h1 : (BitVec.ofNat 32 c ^^^ BitVec.allOnes 32).toNat = (~~~ BitVec.ofNat 32 c).toNat := by rw [BitVec.xor_allOnes]
  rw [BitVec.toNat_xor, BitVec.toNat_not, BitVec.toNat_ofNat, Nat.mod_eq_of_lt (by omega)] at h1
  simpa using h1.symm
theorem xor3_lt : ∀ (l m n : List Nat), (∀ b ∈ l, b < 256) → (∀ b ∈ m, b < 256) → (∀ b ∈ n, b < 256) → ∀ b ∈ xor3 l m n, b < 256
  | a :: l, b :: m, c :: n, h1, h2, h3, x, hx => by
    rcases List.mem_cons.1 hx with rfl | hx
    · exact Nat.xor_lt_two_pow (n := 8) (Nat.xor_lt_two_pow (n := 8) (h1 a (by simp)) (h2 b (by simp))) (h3 c (by simp))
    · exact xor3_lt l m n (fun y hy => h1 y (by simp [hy])) (fun y hy => h2 y (by simp [hy])) (fun y hy => h3 y (by simp [hy])) x hx
  | [], _, _, _, _, _, _, hx => by simp [xor3] at hx
  | _ :: _, [], _, _, _, _, _, hx => by simp [xor3] at hx
  | _ :: _, _ :: _, [], _, _, _, _, hx => by simp [xor3] at hx
theorem crc_xor3 (l m n : List Nat) (h : l.length = m.length) (h' : l.length = n.length) (h1 : ∀ b ∈ l, b < 256) (h2 : ∀ b ∈ m, b < 256) (h3 : ∀ b ∈ n, b < 256) : crc (xor3 l m n) = crc l ^^^ crc m ^^^ crc n := by
  have e := crcF_xor3 l m n 4294967295 4294967295 4294967295 h h'
  rw [show 4294967295 ^^^ 4294967295 ^^^ 4294967295 = 4294967295 from by decide] at e
  unfold crc
  rw [ones_sub (crcF_lt _ (by omega) (xor3_lt l m n h1 h2 h3)), ones_sub (crcF_lt _ (by omega) h1), ones_sub (crcF_lt _ (by omega) h2), ones_sub (crcF_lt _ (by omega) h3), e]
  generalize crcF 4294967295 l = a
  generalize crcF 4294967295 m = b
  generalize crcF 4294967295 n = c
  rw [show a ^^^ 4294967295 ^^^ (b ^^^ 4294967295) ^^^ (c ^^^ 4294967295) = a ^^^ b ^^^ c ^^^ 4294967295 ^^^ (4294967295 ^^^ 4294967295) from by ac_rfl]
  simp
theorem crc_example : crc [49, 50, 51, 52, 53, 54, 55, 56, 57] = 3421780262 := by decide +kernel
theorem crc_nil : crc [] = 0 := by decide +kernel
end Go.Proofs.Ytipbnjcgololpaa.Crc
