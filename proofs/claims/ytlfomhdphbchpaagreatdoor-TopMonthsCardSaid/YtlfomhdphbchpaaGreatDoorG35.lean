/- Lemmas of a claim, several texts in one: Bytes, Crc, CrcW, Sha, ShaA -/
import Derived.Test.YtlfomhdphbchpaaGreatDoorG18
import Derived.Laws.BitsAllLaws
/-! bytes: what the packing's texts say of them -/

/-! CRC-32, plainly -/
namespace Go.Proofs.YtlfomhdphbchpaaGreatDoor.Crc
def poly : Nat := 3988292384
def cstep (c : Nat) : Nat := (c / 2) ^^^ (if c % 2 = 1 then poly else 0)
def iter : Nat → Nat → Nat
  | 0, c => c
  | n + 1, c => iter n (cstep c)
def crcB (c b : Nat) : Nat := iter 8 (c ^^^ b)
def crcF (c : Nat) (l : List Nat) : Nat := l.foldl crcB c
def crc (l : List Nat) : Nat := 4294967295 - crcF 4294967295 l
theorem cstep_lt {c : Nat} (h : c < 4294967296) : cstep c < 4294967296 := by
  unfold cstep
  refine Nat.xor_lt_two_pow (n := 32) (by omega) ?_
  split <;> simp [poly]
theorem iter_lt : ∀ (n : Nat) {c : Nat}, c < 4294967296 → iter n c < 4294967296
  | 0, _, h => h
  | n + 1, _, h => iter_lt n (cstep_lt h)
theorem crcB_lt {c b : Nat} (hc : c < 4294967296) (hb : b < 256) : crcB c b < 4294967296 := iter_lt 8 (Nat.xor_lt_two_pow (n := 32) hc (by omega))
theorem crcF_lt : ∀ (l : List Nat) {c : Nat}, c < 4294967296 → (∀ b ∈ l, b < 256) → crcF c l < 4294967296
  | [], _, h, _ => h
  | b :: l, c, h, hb => crcF_lt l (crcB_lt h (hb b (by simp))) (fun x hx => hb x (by simp [hx]))
theorem xor_div2 (a b : Nat) : (a ^^^ b) / 2 = a / 2 ^^^ b / 2 := by
  apply Nat.eq_of_testBit_eq
  intro i
  simp [Nat.testBit_div_two]
theorem xor_mod2 (a b : Nat) : (a ^^^ b) % 2 = (a + b) % 2 := by
  have h : (a ^^^ b).testBit 0 = (a.testBit 0 ^^ b.testBit 0) := Nat.testBit_xor ..
  simp only [Nat.testBit_zero] at h
  rcases Nat.mod_two_eq_zero_or_one a with h1 | h1 <;> rcases Nat.mod_two_eq_zero_or_one b with h2 | h2 <;> rcases Nat.mod_two_eq_zero_or_one (a ^^^ b) with h3 | h3 <;> simp [h1, h2, h3] at h ⊢ <;> omega
theorem cstep_xor (a b : Nat) : cstep (a ^^^ b) = cstep a ^^^ cstep b := by
  unfold cstep
  rw [xor_div2, xor_mod2]
  rcases Nat.mod_two_eq_zero_or_one a with h1 | h1 <;> rcases Nat.mod_two_eq_zero_or_one b with h2 | h2
  · rw [if_neg (by omega), if_neg (by omega), if_neg (by omega)]; simp
  · rw [if_pos (by omega), if_neg (by omega), if_pos (by omega)]; simp [Nat.xor_assoc]
  · rw [if_pos (by omega), if_pos (by omega), if_neg (by omega)]; simp only [Nat.xor_zero]; rw [Nat.xor_assoc, Nat.xor_assoc, Nat.xor_comm poly]
  · rw [if_neg (by omega), if_pos (by omega), if_pos (by omega)]
    rw [show a / 2 ^^^ poly ^^^ (b / 2 ^^^ poly) = a / 2 ^^^ b / 2 ^^^ (poly ^^^ poly) from by ac_rfl]
    simp
theorem iter_xor : ∀ (n a b : Nat), iter n (a ^^^ b) = iter n a ^^^ iter n b
  | 0, _, _ => rfl
  | n + 1, a, b => by simp only [iter, cstep_xor, iter_xor n]
theorem cstep_zero {c : Nat} (h : c < 4294967296) (h0 : cstep c = 0) : c = 0 := by
  unfold cstep at h0
  rcases Nat.mod_two_eq_zero_or_one c with h1 | h1
  · rw [if_neg (by omega)] at h0
    simp at h0; omega
  · rw [if_pos h1] at h0
    have h2 : c / 2 = poly := by
      have := congrArg (· ^^^ poly) h0
      simpa [Nat.xor_assoc] using this
    unfold poly at h2; omega
theorem iter_zero : ∀ (n : Nat) {c : Nat}, c < 4294967296 → iter n c = 0 → c = 0
  | 0, _, _, h => h
  | n + 1, _, h, h0 => cstep_zero h (iter_zero n (cstep_lt h) h0)
theorem xor_eq_zero {a b : Nat} (h : a ^^^ b = 0) : a = b := by
  have := congrArg (· ^^^ b) h
  simpa [Nat.xor_assoc] using this
theorem crcB_inj {c d a b : Nat} (hc : c < 4294967296) (hd : d < 4294967296) (ha : a < 256) (hb : b < 256) (h : crcB c a = crcB d b) : c ^^^ a = d ^^^ b := by
  apply xor_eq_zero
  apply iter_zero 8
  · exact Nat.xor_lt_two_pow (n := 32) (Nat.xor_lt_two_pow (n := 32) hc (by omega)) (Nat.xor_lt_two_pow (n := 32) hd (by omega))
  · rw [iter_xor]; unfold crcB at h; rw [h]; simp
theorem xor_cancel {c a b : Nat} (h : c ^^^ a = c ^^^ b) : a = b := by
  have := congrArg (c ^^^ ·) h
  simpa [← Nat.xor_assoc] using this
theorem xor_cancel' {c d a : Nat} (h : c ^^^ a = d ^^^ a) : c = d := by
  have := congrArg (· ^^^ a) h
  simpa [Nat.xor_assoc] using this
theorem crcF_inj : ∀ (l : List Nat) {c d : Nat}, c < 4294967296 → d < 4294967296 → (∀ b ∈ l, b < 256) → crcF c l = crcF d l → c = d
  | [], _, _, _, _, _, h => h
  | b :: l, c, d, hc, hd, hb, h => by
    have hb0 := hb b (by simp)
    have := crcF_inj l (crcB_lt hc hb0) (crcB_lt hd hb0) (fun x hx => hb x (by simp [hx])) h
    exact xor_cancel' (crcB_inj hc hd hb0 hb0 this)
/-- one byte that is turned is seen -/
theorem crcF_turned : ∀ (l : List Nat) (j v : Nat) {c : Nat}, c < 4294967296 → (∀ b ∈ l, b < 256) → (hj : j < l.length) → v < 256 → l[j] ≠ v → crcF c (l.set j v) ≠ crcF c l
  | b :: l, 0, v, c, hc, hb, _, hv, hne, h => by
    have hb0 := hb b (by simp)
    have := crcF_inj l (crcB_lt hc hv) (crcB_lt hc hb0) (fun x hx => hb x (by simp [hx])) h
    exact hne (xor_cancel (crcB_inj hc hc hv hb0 this)).symm
  | b :: l, j + 1, v, c, hc, hb, hj, hv, hne, h => by
    have hb0 := hb b (by simp)
    exact crcF_turned l j v (crcB_lt hc hb0) (fun x hx => hb x (by simp [hx])) (by simpa using hj) hv (by simpa using hne) h
theorem crc_turned (l : List Nat) (j v : Nat) (hb : ∀ b ∈ l, b < 256) (hj : j < l.length) (hv : v < 256) (hne : l[j] ≠ v) : crc (l.set j v) ≠ crc l := by
  have h1 := crcF_turned l j v (c := 4294967295) (by omega) hb hj hv hne
  have h2 := crcF_lt l (c := 4294967295) (by omega) hb
  have h3 := crcF_lt (l.set j v) (c := 4294967295) (by omega) (fun b h => by
    rcases List.mem_or_eq_of_mem_set h with h | h
    · exact hb b h
    · omega)
  unfold crc; omega
/-- three lists, bit by bit -/
def xor3 : List Nat → List Nat → List Nat → List Nat
  | a :: l, b :: m, c :: n => (a ^^^ b ^^^ c) :: xor3 l m n
  | _, _, _ => []
theorem crcF_xor3 : ∀ (l m n : List Nat) (c d e : Nat), l.length = m.length → l.length = n.length → crcF (c ^^^ d ^^^ e) (xor3 l m n) = crcF c l ^^^ crcF d m ^^^ crcF e n
  | [], [], [], _, _, _, _, _ => rfl
  | a :: l, b :: m, f :: n, c, d, e, h, h' => by
    show crcF (crcB (c ^^^ d ^^^ e) (a ^^^ b ^^^ f)) (xor3 l m n) = crcF (crcB c a) l ^^^ crcF (crcB d b) m ^^^ crcF (crcB e f) n
    rw [← crcF_xor3 l m n _ _ _ (by simpa using h) (by simpa using h')]
    congr 1
    unfold crcB
    rw [show c ^^^ d ^^^ e ^^^ (a ^^^ b ^^^ f) = (c ^^^ a) ^^^ (d ^^^ b) ^^^ (e ^^^ f) from by ac_rfl]
    rw [iter_xor, iter_xor]
theorem ones_sub {c : Nat} (h : c < 4294967296) : 4294967295 - c = c ^^^ 4294967295 := by
  have h1 : (BitVec.ofNat 32 c ^^^ BitVec.allOnes 32).toNat = (~~~ BitVec.ofNat 32 c).toNat := by rw [BitVec.xor_allOnes]
  rw [BitVec.toNat_xor, BitVec.toNat_not, BitVec.toNat_ofNat, Nat.mod_eq_of_lt (by omega)] at h1
  simpa using h1.symm
theorem xor3_lt : ∀ (l m n : List Nat), (∀ b ∈ l, b < 256) → (∀ b ∈ m, b < 256) → (∀ b ∈ n, b < 256) → ∀ b ∈ xor3 l m n, b < 256
  | a :: l, b :: m, c :: n, h1, h2, h3, x, hx => by
    rcases List.mem_cons.1 hx with rfl | hx
    · exact Nat.xor_lt_two_pow (n := 8) (Nat.xor_lt_two_pow (n := 8) (h1 a (by simp)) (h2 b (by simp))) (h3 c (by simp))
    · exact xor3_lt l m n (fun y hy => h1 y (by simp [hy])) (fun y hy => h2 y (by simp [hy])) (fun y hy => h3 y (by simp [hy])) x hx
  | [], _, _, _, _, _, _, hx => by simp [xor3] at hx
  | _ :: _, [], _, _, _, _, _, hx => by simp [xor3] at hx
  | _ :: _, _ :: _, [], _, _, _, _, hx => by simp [xor3] at hx
theorem crc_xor3 (l m n : List Nat) (h : l.length = m.length) (h' : l.length = n.length) (h1 : ∀ b ∈ l, b < 256) (h2 : ∀ b ∈ m, b < 256) (h3 : ∀ b ∈ n, b < 256) : crc (xor3 l m n) = crc l ^^^ crc m ^^^ crc n := by
  have e := crcF_xor3 l m n 4294967295 4294967295 4294967295 h h'
  rw [show 4294967295 ^^^ 4294967295 ^^^ 4294967295 = 4294967295 from by decide] at e
  unfold crc
  rw [ones_sub (crcF_lt _ (by omega) (xor3_lt l m n h1 h2 h3)), ones_sub (crcF_lt _ (by omega) h1), ones_sub (crcF_lt _ (by omega) h2), ones_sub (crcF_lt _ (by omega) h3), e]
  generalize crcF 4294967295 l = a
  generalize crcF 4294967295 m = b
  generalize crcF 4294967295 n = c
  rw [show a ^^^ 4294967295 ^^^ (b ^^^ 4294967295) ^^^ (c ^^^ 4294967295) = a ^^^ b ^^^ c ^^^ 4294967295 ^^^ (4294967295 ^^^ 4294967295) from by ac_rfl]
  simp
theorem crc_example : crc [49, 50, 51, 52, 53, 54, 55, 56, 57] = 3421780262 := by decide +kernel
theorem crc_nil : crc [] = 0 := by decide +kernel
end Go.Proofs.YtlfomhdphbchpaaGreatDoor.Crc

/-! the sums Crc, the program's and the document's -/
namespace Go.Proofs.YtlfomhdphbchpaaGreatDoor.Crc
open Go.RowKit Go.Deep Go.Proofs.YtlfomhdphbchpaaGreatDoor.Pack
set_option linter.unusedVariables false
/-- the bytes as plain numbers -/
def nat (xs : List Int) : List Nat := xs.map Int.toNat
theorem nat_length (xs : List Int) : (nat xs).length = xs.length := by simp [nat]
theorem nat_lt {xs : List Int} (h : Byt xs) : ∀ b ∈ nat xs, b < 256 := by
  intro b hb
  obtain ⟨n, hn, rfl⟩ := List.mem_map.1 hb
  have := h n hn; omega
theorem nat_drop {xs : List Int} {k : Nat} (h : k < xs.length) : (nat xs).drop k = (rd xs k).toNat :: (nat xs).drop (k + 1) := by
  rw [List.drop_eq_getElem_cons (by simpa [nat] using h), rd_get h]; simp [nat]
theorem and1 (m : Nat) (h : m < 4294967296) : bits .and .u32 (m : Int) 1 = ((m % 2 : Nat) : Int) := by
  have := u32_and_nat m 1 h (by omega)
  rw [Nat.and_one_is_mod] at this
  exact this
theorem crc_bits (m : Nat) (h : m < 4294967296) : bits .xor .u32 ((m : Int) / 2) (bits .and .u32 3988292384 (-(bits .and .u32 (m : Int) 1) % 4294967296)) = ((cstep m : Nat) : Int) := by
  rw [and1 m h]
  have e : bits .and .u32 3988292384 (-((m % 2 : Nat) : Int) % 4294967296) = ((if m % 2 = 1 then poly else 0 : Nat) : Int) := by
    rcases Nat.mod_two_eq_zero_or_one m with h1 | h1
    · rw [h1]; decide +kernel
    · rw [h1]; decide +kernel
  rw [e]
  have := u32_xor_nat (m / 2) (if m % 2 = 1 then poly else 0) (by omega) (by split <;> simp [poly])
  rw [← show (((m / 2 : Nat)) : Int) = (m : Int) / 2 from by simp, this]
  rfl
theorem not32 (m : Nat) (h : m < 4294967296) : bits .xor .u32 IntKind.u32.max (m : Int) = ((4294967295 - m : Nat) : Int) := by
  have := u32_xor_nat 4294967295 m (by omega) h
  rw [show IntKind.u32.max = ((4294967295 : Nat) : Int) from by decide, this, ones_sub h, Nat.xor_comm]
theorem ret_u32 {a b : Int} (h : a = b) : Ending.returned (.int .u32 a) = .returned (.int .u32 b) := by rw [h]
set_option maxRecDepth 100000 in
set_option maxHeartbeats 1000000 in
theorem crc_ok (P : Option Addr) (c B : Nat) (xs : List Int) (w : World) (hx : RI w B .u8 P xs) (hl : xs.length ≤ 9223372036854775807) (hb : Byt xs) :
    Calls Tryz.prog 159 #[.slice P xs.length c] w fun e w' => e = .returned (.int .u32 (crc (nat xs) : Nat)) ∧ w = w' := by
  have HX := Lib.hid hx
  have HB := Lib.hid hb
  clear hx hb
  go_enter Tryz.func159, Tryz.ntmps159
  go_wp2
  go_loop [3, 8] (fun s i => ∃ (k m : Nat), i = .int .i64 k ∧ s = .int .u32 m ∧ k ≤ xs.length ∧ m < 4294967296 ∧ Hid (crcF m ((nat xs).drop k) = crcF 4294967295 (nat xs))) (fun _ i => xs.length - (intOf i).toNat)
  case atStart => exact ⟨0, 4294967295, rfl, rfl, by omega, by omega, Lib.hid rfl⟩
  case round =>
    obtain ⟨k, m, rfl, rfl, hk, hm, HM⟩ := hrel
    by_cases hlt : k < xs.length
    · obtain ⟨ad, rfl, _, hca⟩ := HX.out.one hlt
      have hby : 0 ≤ rd xs k ∧ rd xs k ≤ 255 := by rw [rd_get hlt]; exact HB.out _ (List.getElem_mem hlt)
      have hd := nat_drop hlt
      obtain ⟨b, hbb⟩ : ∃ b : Nat, rd xs k = b := ⟨(rd xs k).toNat, by omega⟩
      rw [hbb] at hca hby hd
      rw [Int.toNat_natCast] at hd
      have hx0 := u32_xor_nat m b hm (by omega)
      have hlt0 : m ^^^ b < 4294967296 := Nat.xor_lt_two_pow (n := 32) hm (by omega)
      have HD := Lib.hid hd
      clear hd hbb
      obtain ⟨m0, hm0⟩ : ∃ m0, m0 = m ^^^ b := ⟨_, rfl⟩
      rw [← hm0] at hx0 hlt0
      have HM0 := Lib.hid hm0
      clear hm0
      go_wp2_with fail
      go_loop [3, 16] (fun s i => ∃ (j m1 : Nat), i = .int .i64 j ∧ s = .int .u32 m1 ∧ j ≤ 8 ∧ m1 < 4294967296 ∧ Hid (iter (8 - j) m1 = iter 8 m0)) (fun _ i => 8 - (intOf i).toNat)
      case atStart => exact ⟨0, m0, rfl, rfl, by omega, hlt0, Lib.hid rfl⟩
      case round =>
        obtain ⟨j, m1, rfl, rfl, hj, hm1, HJ⟩ := hrel
        by_cases hj8 : j < 8
        · have hcb := crc_bits m1 hm1
          go_wp2
          go_round
          case rel =>
            refine ⟨j + 1, cstep m1, by go_num, rfl, by omega, cstep_lt hm1, Lib.hid ?_⟩
            rw [← HJ.out, show 8 - j = (8 - (j + 1)) + 1 from by omega]
            rfl
          case measure => simp [intOf]; omega
        · go_wp2
          go_round
          case rel =>
            refine ⟨k + 1, m1, by go_num, rfl, by omega, hm1, Lib.hid ?_⟩
            have h8 := HJ.out
            rw [show 8 - j = 0 from by omega] at h8
            rw [← HM.out, HD.out, show m1 = crcB m b from by rw [crcB, ← HM0.out]; exact h8]
            rfl
          case measure => simp [intOf]; omega
    · have hn : (nat xs).drop k = [] := List.drop_eq_nil_of_le (by rw [nat_length]; omega)
      have HN := Lib.hid hn
      clear hn
      go_wp2
      go_ret
      refine ⟨ret_u32 ?_, rfl⟩
      rw [not32 m hm, crc, ← HM.out, HN.out]
      rfl
end Go.Proofs.YtlfomhdphbchpaaGreatDoor.Crc

/-! SHA-256, plainly -/
namespace Go.Proofs.YtlfomhdphbchpaaGreatDoor.Sha
def ror (x n : Nat) : Nat := x / 2 ^ n + x * 2 ^ (32 - n) % 4294967296
def sg0 (x : Nat) : Nat := ror x 7 ^^^ ror x 18 ^^^ x / 8
def sg1 (x : Nat) : Nat := ror x 17 ^^^ ror x 19 ^^^ x / 1024
def Sg0 (a : Nat) : Nat := ror a 2 ^^^ ror a 13 ^^^ ror a 22
def Sg1 (e : Nat) : Nat := ror e 6 ^^^ ror e 11 ^^^ ror e 25
def ch (e f g : Nat) : Nat := (e &&& f) ^^^ ((4294967295 - e) &&& g)
def maj (a b c : Nat) : Nat := (a &&& b) ^^^ (a &&& c) ^^^ (b &&& c)
structure St where
  (a b c d e f g h : Nat)
def rnd (s : St) (k w : Nat) : St :=
  let t := (s.h + Sg1 s.e + ch s.e s.f s.g + k + w) % 4294967296
  let u := (Sg0 s.a + maj s.a s.b s.c) % 4294967296
  ⟨(t + u) % 4294967296, s.a, s.b, s.c, (s.d + t) % 4294967296, s.e, s.f, s.g⟩
def K : List Nat := [
  0x428a2f98, 0x71374491, 0xb5c0fbcf, 0xe9b5dba5, 0x3956c25b, 0x59f111f1, 0x923f82a4, 0xab1c5ed5,
  0xd807aa98, 0x12835b01, 0x243185be, 0x550c7dc3, 0x72be5d74, 0x80deb1fe, 0x9bdc06a7, 0xc19bf174,
  0xe49b69c1, 0xefbe4786, 0x0fc19dc6, 0x240ca1cc, 0x2de92c6f, 0x4a7484aa, 0x5cb0a9dc, 0x76f988da,
  0x983e5152, 0xa831c66d, 0xb00327c8, 0xbf597fc7, 0xc6e00bf3, 0xd5a79147, 0x06ca6351, 0x14292967,
  0x27b70a85, 0x2e1b2138, 0x4d2c6dfc, 0x53380d13, 0x650a7354, 0x766a0abb, 0x81c2c92e, 0x92722c85,
  0xa2bfe8a1, 0xa81a664b, 0xc24b8b70, 0xc76c51a3, 0xd192e819, 0xd6990624, 0xf40e3585, 0x106aa070,
  0x19a4c116, 0x1e376c08, 0x2748774c, 0x34b0bcb5, 0x391c0cb3, 0x4ed8aa4a, 0x5b9cca4f, 0x682e6ff3,
  0x748f82ee, 0x78a5636f, 0x84c87814, 0x8cc70208, 0x90befffa, 0xa4506ceb, 0xbef9a3f7, 0xc67178f2]
def word (l : List Nat) (i : Nat) : Nat := l.getD i 0 * 16777216 + l.getD (i + 1) 0 * 65536 + l.getD (i + 2) 0 * 256 + l.getD (i + 3) 0
def next (w : List Nat) (i : Nat) : Nat := (w.getD (i - 16) 0 + sg0 (w.getD (i - 15) 0) + w.getD (i - 7) 0 + sg1 (w.getD (i - 2) 0)) % 4294967296
/-- the first n words of a block -/
def sch (l : List Nat) : Nat → List Nat
  | 0 => []
  | i + 1 => let w := sch l i; w ++ [if i < 16 then word l (4 * i) else next w i]
def rn (w : List Nat) (s : St) : Nat → St
  | 0 => s
  | i + 1 => rnd (rn w s i) (K.getD i 0) (w.getD i 0)
def add (s t : St) : St := ⟨(s.a + t.a) % 4294967296, (s.b + t.b) % 4294967296, (s.c + t.c) % 4294967296, (s.d + t.d) % 4294967296, (s.e + t.e) % 4294967296, (s.f + t.f) % 4294967296, (s.g + t.g) % 4294967296, (s.h + t.h) % 4294967296⟩
def compress (s : St) (l : List Nat) : St := add s (rn (sch l 64) s 64)
def blocks : Nat → St → List Nat → St
  | 0, s, _ => s
  | n + 1, s, l => blocks n (compress s l) (l.drop 64)
def H0 : St := ⟨0x6a09e667, 0xbb67ae85, 0x3c6ef372, 0xa54ff53a, 0x510e527f, 0x9b05688c, 0x1f83d9ab, 0x5be0cd19⟩
def be4 (x : Nat) : List Nat := [x / 16777216 % 256, x / 65536 % 256, x / 256 % 256, x % 256]
def be8 (x : Nat) : List Nat := [x / 72057594037927936 % 256, x / 281474976710656 % 256, x / 1099511627776 % 256, x / 4294967296 % 256, x / 16777216 % 256, x / 65536 % 256, x / 256 % 256, x % 256]
def zeros (n : Nat) : Nat := (119 - n % 64) % 64
def pad (l : List Nat) : List Nat := l ++ [128] ++ List.replicate (zeros l.length) 0 ++ be8 (8 * l.length)
def out (s : St) : List Nat := be4 s.a ++ be4 s.b ++ be4 s.c ++ be4 s.d ++ be4 s.e ++ be4 s.f ++ be4 s.g ++ be4 s.h
def sha (l : List Nat) : List Nat := out (blocks ((pad l).length / 64) H0 (pad l))
end Go.Proofs.YtlfomhdphbchpaaGreatDoor.Sha

/-! SHA-256: turning a word, reading a word -/
namespace Go.Proofs.YtlfomhdphbchpaaGreatDoor.Sha
open Go.RowKit Go.Deep Go.Proofs.YtlfomhdphbchpaaGreatDoor.Pack Go.Proofs.YtlfomhdphbchpaaGreatDoor.Crc
set_option linter.unusedVariables false
theorem rot_and (k : Int) (n : Nat) (hk : k = -(n : Int)) (h1 : 1 ≤ n) (h2 : n ≤ 31) : bits .and .u64 (IntKind.u64.wrap k) 31 = ((32 - n : Nat) : Int) := by
  have := u64_and_nat (18446744073709551616 - n) 31 (by omega) (by omega)
  rw [show (31 : Nat) = 2 ^ 5 - 1 from rfl, Nat.and_two_pow_sub_one_eq_mod] at this
  rw [IntKind.wrap_u64, show k % 18446744073709551616 = ((18446744073709551616 - n : Nat) : Int) from by omega]
  refine this.trans ?_
  omega
theorem rot_nat (x s : Nat) (hx : x < 4294967296) (hs : s ≤ 31) : (x * 2 ^ s % 4294967296) ||| (x / 2 ^ (32 - s)) = x / 2 ^ (32 - s) + x * 2 ^ s % 4294967296 := by
  have e : x * 2 ^ s % 4294967296 = 2 ^ s * (x % 2 ^ (32 - s)) := by
    rw [show (4294967296 : Nat) = 2 ^ s * 2 ^ (32 - s) from by rw [← Nat.pow_add, show s + (32 - s) = 32 from by omega], Nat.mul_comm x, Nat.mul_mod_mul_left]
  have h : x / 2 ^ (32 - s) < 2 ^ s := by
    rw [Nat.div_lt_iff_lt_mul (Nat.two_pow_pos _), ← Nat.pow_add, show s + (32 - s) = 32 from by omega]; exact hx
  rw [e, ← Nat.two_pow_add_eq_or_of_lt h]; omega
theorem ror_lt (x n : Nat) (hx : x < 4294967296) (h : n ≤ 32) : ror x n < 4294967296 := by
  rcases Nat.eq_zero_or_pos n with rfl | h1
  · show x / 2 ^ 0 + x * 2 ^ (32 - 0) % 4294967296 < _
    omega
  unfold ror
  have := rot_nat x (32 - n) hx (by omega)
  rw [show 32 - (32 - n) = n from by omega] at this
  rw [← this]
  exact Nat.or_lt_two_pow (n := 32) (Nat.mod_lt _ (by omega)) (Nat.lt_of_le_of_lt (Nat.div_le_self _ _) hx)
theorem rot_or (x s : Nat) (hx : x < 4294967296) (hs : s ≤ 31) : bits .or .u32 ((x : Int) * 2 ^ s % 4294967296) ((x : Int) / 2 ^ (32 - s)) = ((ror x (32 - s) : Nat) : Int) := by
  have h1 : x / 2 ^ (32 - s) < 4294967296 := Nat.lt_of_le_of_lt (Nat.div_le_self _ _) hx
  have := u32_or_nat (x * 2 ^ s % 4294967296) (x / 2 ^ (32 - s)) (Nat.mod_lt _ (by omega)) h1
  rw [rot_nat x s hx hs] at this
  rw [ror, show 32 - (32 - s) = s from by omega, ← this]
  congr 1
set_option maxHeartbeats 1000000 in
theorem rot_ok (x n : Nat) (k : Int) (hx : x < 4294967296) (hk : k = -(n : Int)) (h1 : 1 ≤ n) (h2 : n ≤ 31) (w : World) :
    Calls Tryz.prog 248 #[.int .u32 x, .int .i64 k] w fun e w' => e = .returned (.int .u32 (ror x n : Nat)) ∧ w = w' := by
  have ha := rot_and k n hk h1 h2
  have HK := Lib.hid hk
  clear hk
  obtain ⟨s, hs⟩ : ∃ s, s = 32 - n := ⟨_, rfl⟩
  rw [← hs] at ha
  have s1 : s ≤ 31 := by omega
  have s2 : 1 ≤ s := by omega
  have HS := Lib.hid hs
  clear hs h1 h2
  go_enter Tryz.func248, Tryz.ntmps248
  go_wp2
  go_ret
  refine ⟨ret_u32 ?_, rfl⟩
  have hn : 32 - s = n := by have := HS.out; omega
  rw [rot_or x s hx s1, hn]
theorem rot_still (x n : Nat) (k : Int) (hx : x < 4294967296) (hk : k = -(n : Int)) (h1 : 1 ≤ n) (h2 : n ≤ 31) (w : World) :
    Calls Tryz.prog 248 #[.int .u32 x, .int .i64 k] w fun e w' => e = .returned (.int .u32 (ror x n : Nat)) ∧ w' = w := (rot_ok x n k hx hk h1 h2 w).mono fun _ _ h => ⟨h.1, h.2.symm⟩
theorem word_or (a b c d : Nat) (ha : a < 256) (hb : b < 256) (hc : c < 256) (hd : d < 256) :
    bits .or .u32 (bits .or .u32 (bits .or .u32 ((a : Int) * 16777216) ((b : Int) * 65536)) ((c : Int) * 256)) (d : Int) = ((a * 16777216 + b * 65536 + c * 256 + d : Nat) : Int) := by
  have h1 : a * 16777216 ||| b * 65536 = a * 16777216 + b * 65536 := by
    have := Nat.two_pow_add_eq_or_of_lt (i := 24) (b := b * 65536) (by omega) a
    rw [show 2 ^ 24 * a = a * 16777216 from by omega] at this
    exact this.symm
  have h2 : (a * 16777216 + b * 65536) ||| c * 256 = a * 16777216 + b * 65536 + c * 256 := by
    have := Nat.two_pow_add_eq_or_of_lt (i := 16) (b := c * 256) (by omega) (a * 256 + b)
    rw [show 2 ^ 16 * (a * 256 + b) = a * 16777216 + b * 65536 from by omega] at this
    exact this.symm
  have h3 : (a * 16777216 + b * 65536 + c * 256) ||| d = a * 16777216 + b * 65536 + c * 256 + d := by
    have := Nat.two_pow_add_eq_or_of_lt (i := 8) (b := d) (by omega) (a * 65536 + b * 256 + c)
    rw [show 2 ^ 8 * (a * 65536 + b * 256 + c) = a * 16777216 + b * 65536 + c * 256 from by omega] at this
    exact this.symm
  have e1 := u32_or_nat (a * 16777216) (b * 65536) (by omega) (by omega)
  have e2 := u32_or_nat (a * 16777216 + b * 65536) (c * 256) (by omega) (by omega)
  have e3 := u32_or_nat (a * 16777216 + b * 65536 + c * 256) d (by omega) (by omega)
  rw [h1] at e1
  rw [h2] at e2
  rw [h3] at e3
  rw [← e3, ← e2, ← e1, show ((a * 16777216 : Nat) : Int) = (a : Int) * 16777216 from by omega, show ((b * 65536 : Nat) : Int) = (b : Int) * 65536 from by omega, show ((c * 256 : Nat) : Int) = (c : Int) * 256 from by omega]
set_option maxRecDepth 100000 in
set_option maxHeartbeats 1000000 in
theorem word_ok (P : Option Addr) (L c B : Nat) (xs : List Int) (w : World) (hx : RI w B .u8 P xs) (hl : L ≤ 9223372036854775807) (hL : 4 ≤ L) (hb : Byt xs) (h4 : 4 ≤ xs.length) :
    Calls Tryz.prog 247 #[.slice P L c] w fun e w' => e = .returned (.int .u32 (word (nat xs) 0 : Nat)) ∧ Drew w w' := by
  obtain ⟨ad, rfl, _, c0⟩ := hx.one (j := 0) (by omega)
  obtain ⟨ad', h', _, c1⟩ := hx.one (j := 1) (by omega)
  injection h' with h'; subst h'
  obtain ⟨ad', h', _, c2⟩ := hx.one (j := 2) (by omega)
  injection h' with h'; subst h'
  obtain ⟨ad', h', _, c3⟩ := hx.one (j := 3) (by omega)
  injection h' with h'; subst h'
  have g : ∀ j, j < 4 → ∃ n : Nat, rd xs j = n ∧ n < 256 ∧ (nat xs).getD j 0 = n := fun j hj => by
    have h := hb _ (List.getElem_mem (show j < xs.length by omega))
    rw [← rd_get (show j < xs.length by omega)] at h
    refine ⟨(rd xs j).toNat, by omega, by omega, ?_⟩
    rw [rd_get (show j < xs.length by omega)]
    simp [nat, List.getD, show j < xs.length by omega]
  obtain ⟨n0, e0, l0, v0⟩ := g 0 (by omega)
  obtain ⟨n1, e1, l1, v1⟩ := g 1 (by omega)
  obtain ⟨n2, e2, l2, v2⟩ := g 2 (by omega)
  obtain ⟨n3, e3, l3, v3⟩ := g 3 (by omega)
  rw [e0] at c0
  rw [e1] at c1
  rw [e2] at c2
  rw [e3] at c3
  have hv : word (nat xs) 0 = n0 * 16777216 + n1 * 65536 + n2 * 256 + n3 := by simp only [word, v0, v1, v2, v3]
  have HV := Lib.hid hv
  have k1 : (0 : Int) < L := by omega
  have k2 : (1 : Int) < L := by omega
  have k3 : (2 : Int) < L := by omega
  have k4 : (3 : Int) < L := by omega
  have c0' : w.cell? ad = some (.int .u8 n0) := by rwa [Addr.add_zero'] at c0
  have c1' : w.cell? ⟨ad.block, ad.off + 1, none⟩ = some (.int .u8 n1) := by simpa [Addr.add] using c1
  have c2' : w.cell? ⟨ad.block, ad.off + 2, none⟩ = some (.int .u8 n2) := by simpa [Addr.add] using c2
  have c3' : w.cell? ⟨ad.block, ad.off + 3, none⟩ = some (.int .u8 n3) := by simpa [Addr.add] using c3
  have k0 : 0 < L := by omega
  clear hv g e0 e1 e2 e3 v0 v1 v2 v3 hx hb
  go_enter Tryz.func247, Tryz.ntmps247
  go_wp2
  go_quiet (fail)
  go_wp2
  go_ret
  refine ⟨ret_u32 ?_, by repeat (first | exact Drew.refl _ | apply Drew.step)⟩
  rw [HV.out, ← word_or n0 n1 n2 n3 l0 l1 l2 l3]
end Go.Proofs.YtlfomhdphbchpaaGreatDoor.Sha
