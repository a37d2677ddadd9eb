/- Lemmas of a claim: Wide, Shelf, WideB, WideC, WideD -/
import Derived.Laws.MathBits
import Derived.Shelf.Small.Bits
import Derived.Shelf.LaysM
import Derived.Shelf.Bits.Mul64
import Derived.Ground.SlbNamesProg
import Derived.Ground.SlbCloneProg
import Derived.Shelf.Bytes.SlClone
import Derived.Shelf.Spec.BitsCarry
import Derived.Laws.CopyOwn
import Derived.Test.YtkdnebalpdebeaaGreatDoorG02
import Derived.Lib.BitFns
set_option linter.unusedVariables false
set_option linter.unusedSimpArgs false
set_option maxHeartbeats 16000000
set_option maxRecDepth 100000
namespace Go.Proofs.YtkdnebalpdebeaaGreatDoor
namespace Wide
def B : Nat := 18446744073709551616
def P (k : Nat) : Nat := B ^ k
def w (n k : Nat) : Nat := n / P k % B
theorem B_pos : 0 < B := by decide
theorem P_pos (k : Nat) : 0 < P k := Nat.pow_pos B_pos
theorem P_zero : P 0 = 1 := rfl
theorem P_succ (k : Nat) : P (k + 1) = P k * B := Nat.pow_succ ..
theorem P_add (i j : Nat) : P (i + j) = P i * P j := Nat.pow_add ..
theorem w_lt (n k : Nat) : w n k < B := Nat.mod_lt _ B_pos
def carry (a b i : Nat) : Nat := (a % P i + b % P i) / P i
theorem carry_zero (a b : Nat) : carry a b 0 = 0 := by simp [carry, P_zero, Nat.mod_one]
theorem mod_next (a i : Nat) : a % P (i + 1) = a % P i + P i * w a i := by
 rw [P_succ, Nat.mod_mul]; rfl
theorem carry_succ (a b i : Nat) : carry a b (i + 1) = (w a i + w b i + carry a b i) / B := by
 unfold carry
 rw [mod_next, mod_next, P_succ, <- Nat.div_div_eq_div_mul]
 have : a % P i + P i * w a i + (b % P i + P i * w b i) = a % P i + b % P i + P i * (w a i + w b i) := by rw [Nat.mul_add]; omega
 rw [this, Nat.add_mul_div_left _ _ (P_pos i)]
 congr 1; omega
theorem carry_le (a b i : Nat) : carry a b i <= 1 := by
 unfold carry
 have h1 := Nat.mod_lt a (P_pos i); have h2 := Nat.mod_lt b (P_pos i)
 have : (a % P i + b % P i) / P i < 2 := by rw [Nat.div_lt_iff_lt_mul (P_pos i)]; omega
 omega
theorem div_add (a b i : Nat) : (a + b) / P i = a / P i + b / P i + carry a b i := by
 have ha := Nat.div_add_mod a (P i); have hb := Nat.div_add_mod b (P i)
 have : a + b = a % P i + b % P i + P i * (a / P i + b / P i) := by rw [Nat.mul_add]; omega
 rw [this, Nat.add_mul_div_left _ _ (P_pos i), Nat.add_comm]; rfl
theorem w_add (a b i : Nat) : w (a + b) i = (w a i + w b i + carry a b i) % B := by
 unfold w
 rw [div_add]
 simp only [Nat.add_mod, Nat.mod_mod]
theorem sub_step {a b i : Nat} (h : b <= a) :
 w (a - b) i + w b i + carry (a - b) b i = w a i + B * carry (a - b) b (i + 1) := by
 have h1 := w_add (a - b) b i
 rw [Nat.sub_add_cancel h] at h1
 rw [carry_succ, h1]
 exact (Nat.mod_add_div _ _).symm
def row (c x b i j : Nat) : Nat := (c / P i % P j + x * (b % P j)) / P j
theorem row_zero (c x b i : Nat) : row c x b i 0 = 0 := by simp [row, P_zero, Nat.mod_one]
theorem w_div (c i j : Nat) : w (c / P i) j = w c (i + j) := by
 unfold w; rw [Nat.div_div_eq_div_mul, <- P_add]
theorem row_succ (c x b i j : Nat) : row c x b i (j + 1) = (x * w b j + w c (i + j) + row c x b i j) / B := by
 unfold row
 rw [mod_next, mod_next, P_succ, <- Nat.div_div_eq_div_mul, w_div]
 have : c / P i % P j + P j * w c (i + j) + x * (b % P j + P j * w b j) = c / P i % P j + x * (b % P j) + P j * (x * w b j + w c (i + j)) := by
  rw [Nat.mul_add x, Nat.mul_add (P j), Nat.mul_left_comm x]; omega
 rw [this, Nat.add_mul_div_left _ _ (P_pos j)]
 congr 1; omega
theorem w_row (c x b i j : Nat) : w (c + x * b * P i) (i + j) = (x * w b j + w c (i + j) + row c x b i j) % B := by
 rw [<- w_div, Nat.mul_comm (x * b), Nat.add_mul_div_left _ _ (P_pos i)]
 unfold w row
 have h1 := Nat.div_add_mod (c / P i) (P j); have h2 := Nat.div_add_mod b (P j)
 have h3 : c / P i + x * b = c / P i % P j + x * (b % P j) + P j * (c / P i / P j + x * (b / P j)) := by
  have h4 : x * b = P j * (x * (b / P j)) + x * (b % P j) := by rw [Nat.mul_left_comm, <- Nat.mul_add, h2]
  rw [Nat.mul_add (P j), h4]; omega
 rw [h3, Nat.add_mul_div_left _ _ (P_pos j), Nat.div_div_eq_div_mul, <- P_add]
 generalize (c / P i % P j + x * (b % P j)) / P j = q
 have h5 : x * (b / P j % B) % B = x * (b / P j) % B := by simp only [Nat.mul_mod, Nat.mod_mod]
 show (q + (c / P (i + j) + x * (b / P j))) % B = (x * (b / P j % B) + c / P (i + j) % B + q) % B
 have := B_pos
 simp only [Nat.add_mod _ _ B, h5, Nat.mod_mod]
 generalize x * (b / P j) % B = u
 generalize c / P (i + j) % B = v
 generalize q % B = r
 unfold B; omega
theorem div_split (a i : Nat) : a / P i = a / P (i + 1) * B + w a i := by
 unfold w; rw [P_succ, <- Nat.div_div_eq_div_mul, Nat.mul_comm]; exact (Nat.div_add_mod _ _).symm
theorem lt_of_div {a b i : Nat} (h : a / P i < b / P i) : a < b := by
 rcases Nat.lt_or_ge a b with h' | h'
 . exact h'
 . exact absurd (Nat.div_le_div_right (c := P i) h') (by omega)
theorem cmp_lt {a b i : Nat} (h : a / P (i + 1) = b / P (i + 1)) (hw : w a i < w b i) : a < b := by
 refine lt_of_div (i := i) ?_; rw [div_split a, div_split b, h]; omega
theorem cmp_eq {a b i : Nat} (h : a / P (i + 1) = b / P (i + 1)) (hw : w a i = w b i) : a / P i = b / P i := by
 rw [div_split a, div_split b, h, hw]
theorem eq_of_zero {a b : Nat} (h : a / P 0 = b / P 0) : a = b := by simpa [P_zero] using h
theorem P_two (k : Nat) : P k = 2 ^ (64 * k) := by
 unfold P B; rw [show (18446744073709551616 : Nat) = 2 ^ 64 by decide, <- Nat.pow_mul]
theorem top_zero {a : Nat} (h : a < P 6) : a / P 6 = 0 := Nat.div_eq_of_lt h
theorem len_hit {a i : Nat} (h : a / P (i + 1) = 0) (hw : w a i ≠ 0) : Go.bitLen a = 64 * i + Go.bitLen (w a i) := by
 have h1 : a / P i = w a i := by rw [div_split, h]; omega
 rw [<- h1, P_two]; exact Go.bitLen_shift _ _ (by rw [<- P_two, h1]; exact hw)
theorem len_miss {a i : Nat} (h : a / P (i + 1) = 0) (hw : w a i = 0) : a / P i = 0 := by rw [div_split, h, hw]; omega
theorem w_left_low {a n i : Nat} (h : i < n) (s : Nat) : w (a * (P n * s)) i = 0 := by
 obtain ⟨d, rfl⟩ : ∃ d, n = i + 1 + d := ⟨n - i - 1, by omega⟩
 unfold w
 rw [P_add (i + 1), P_succ]
 rw [show a * (P i * B * P d * s) = P i * (B * (P d * s * a)) by simp only [Nat.mul_comm, Nat.mul_left_comm, Nat.mul_assoc], Nat.mul_div_cancel_left _ (P_pos i), Nat.mul_mod_right]
theorem w_shift (a n i s : Nat) : w (a * (P n * s)) (n + i) = w (a * s) i := by
 unfold w
 rw [P_add, <- Nat.div_div_eq_div_mul, show a * (P n * s) = P n * (a * s) by simp only [Nat.mul_left_comm], Nat.mul_div_cancel_left _ (P_pos n)]
theorem w_bits {a i t : Nat} (ht : t <= 64) : w (a * 2 ^ t) (i + 1) = (w a (i + 1) * 2 ^ t) % B + w a i / 2 ^ (64 - t) := by
 have hB : B = 2 ^ t * 2 ^ (64 - t) := by rw [<- Nat.pow_add]; unfold B; rw [show t + (64 - t) = 64 by omega]
 have h2 : 0 < 2 ^ t := Nat.pow_pos (by decide)
 have h3 : 0 < 2 ^ (64 - t) := Nat.pow_pos (by decide)
 have e : a * 2 ^ t / P (i + 1) = a / P i / 2 ^ (64 - t) := by
  rw [P_succ, hB, Nat.mul_left_comm (P i), Nat.mul_comm a, Nat.mul_div_mul_left _ _ h2, Nat.div_div_eq_div_mul]
 unfold w
 rw [e]
 have h4 := div_split a i
 generalize ha : a / P i = q at *
 have h5 : a / P (i + 1) = q / B := by rw [P_succ, <- Nat.div_div_eq_div_mul, ha]
 rw [h5]
 have e1 : q / B % B * 2 ^ t % B = q / B % 2 ^ (64 - t) * 2 ^ t := by
  rw [Nat.mod_mul_mod, hB, Nat.mul_comm _ (2 ^ t), Nat.mul_mod_mul_left, Nat.mul_comm]
 have e2 : q % B / 2 ^ (64 - t) = q / 2 ^ (64 - t) % 2 ^ t := by
  rw [hB, Nat.mul_comm (2 ^ t), Nat.mod_mul_right_div_self]
 have e3 : q / B = q / 2 ^ (64 - t) / 2 ^ t := by rw [Nat.div_div_eq_div_mul, hB, Nat.mul_comm]
 rw [e1, e2, e3, hB]
 rw [Nat.mod_mul]
 rw [Nat.add_comm, Nat.mul_comm]
theorem bitLen_lt {n k : Nat} (h : n < 2 ^ k) : Go.bitLen n <= k := by
 have h1 := (Go.bitLen_spec n).2
 rcases Nat.eq_zero_or_pos n with h0 | h0
 . subst h0; simp [Go.bitLen]
 . rcases Nat.lt_or_ge k (Go.bitLen n) with h2 | h2
   . have h3 := h1 (by omega)
     have h4 : 2 ^ k <= 2 ^ (Go.bitLen n - 1) := Nat.pow_le_pow_right (by decide) (by omega)
     omega
   . exact h2
theorem bitLen_le6 {n : Nat} (h : n < P 6) : Go.bitLen n <= 384 := by
 have h1 : ∀ k, n < P k -> Go.bitLen n <= 64 * k := fun k h => bitLen_lt (by rw [P_two] at h; exact h)
 exact h1 6 h
theorem bitLen_pos {n : Nat} (h : 0 < n) : 1 <= Go.bitLen n := by
 unfold Go.bitLen; rw [if_neg (by omega)]; omega
theorem left_fits {a b n : Nat} (ha : a < P 6) (hn : n + Go.bitLen b <= 384) : b * 2 ^ n < P 6 := by
 rw [P_two]
 have h1 := (Go.bitLen_spec b).1
 have h5 : Go.bitLen b + n <= 64 * 6 := by omega
 calc b * 2 ^ n < 2 ^ Go.bitLen b * 2 ^ n := (Nat.mul_lt_mul_right (Nat.pow_pos (by decide))).2 h1
  _ = 2 ^ (Go.bitLen b + n) := (Nat.pow_add ..).symm
  _ <= 2 ^ (64 * 6) := Nat.pow_le_pow_right (by decide) h5
theorem quo_start {a b n : Nat} (hb : 0 < b) (hn : Go.bitLen a < n + Go.bitLen b) : a < b * 2 ^ n := by
 have h1 := (Go.bitLen_spec a).1
 have h2 := (Go.bitLen_spec b).2 (by omega)
 have h3 := bitLen_pos hb
 calc a < 2 ^ Go.bitLen a := h1
  _ <= 2 ^ (Go.bitLen b - 1 + n) := Nat.pow_le_pow_right (by decide) (by omega)
  _ = 2 ^ (Go.bitLen b - 1) * 2 ^ n := Nat.pow_add ..
  _ <= b * 2 ^ n := Nat.mul_le_mul_right _ h2
theorem bit_put {x t : Nat} (ht : t < 64) (hx : x % 2 ^ (t + 1) = 0) : x ||| 2 ^ t = x + 2 ^ t := by
 obtain ⟨y, rfl⟩ : ∃ y, x = 2 ^ (t + 1) * y := ⟨x / 2 ^ (t + 1), by have := Nat.div_add_mod x (2 ^ (t + 1)); omega⟩
 rw [<- Nat.two_pow_add_eq_or_of_lt (i := t + 1) (Nat.pow_lt_pow_right (by decide) (by omega))]
theorem w_put {q n : Nat} (hq : q % 2 ^ (n + 1) = 0) (i : Nat) : w (q + 2 ^ n) i = if i = n / 64 then w q i + 2 ^ (n % 64) else w q i := by
 obtain ⟨y, rfl⟩ : ∃ y, q = 2 ^ (n + 1) * y := ⟨q / 2 ^ (n + 1), by have := Nat.div_add_mod q (2 ^ (n + 1)); omega⟩
 have e : 2 ^ n = P (n / 64) * 2 ^ (n % 64) := by rw [P_two, <- Nat.pow_add, Nat.div_add_mod]
 have hB : B = 2 ^ (n % 64 + 1) * 2 ^ (63 - n % 64) := by
  rw [<- Nat.pow_add, show n % 64 + 1 + (63 - n % 64) = 64 by omega]; rfl
 have e' : 2 ^ (n + 1) * y = P (n / 64) * (2 ^ (n % 64 + 1) * y) := by
  rw [Nat.pow_succ, e, Nat.pow_succ]; simp only [Nat.mul_assoc]
 rw [e', e]
 rcases Nat.lt_trichotomy i (n / 64) with h | h | h
 . rw [if_neg (by omega), <- Nat.mul_add]
   obtain ⟨d, hd⟩ : ∃ d, n / 64 = i + 1 + d := ⟨n / 64 - i - 1, by omega⟩
   unfold w; rw [hd, P_add (i + 1), P_succ]
   have z : ∀ c, P i * B * P d * c / P i % B = 0 := fun c => by
    rw [show P i * B * P d * c = P i * (B * (P d * c)) by simp only [Nat.mul_assoc], Nat.mul_div_cancel_left _ (P_pos i), Nat.mul_mod_right]
   rw [z, z]
 . rw [if_pos h, h]; unfold w
   rw [<- Nat.mul_add, Nat.mul_div_cancel_left _ (P_pos _), Nat.mul_div_cancel_left _ (P_pos _), hB, Nat.mul_mod_mul_left]
   have h2 : 2 ^ (n % 64) < 2 ^ (n % 64 + 1) := Nat.pow_lt_pow_right (by decide) (by omega)
   have h3 : 0 < 2 ^ (n % 64 + 1) := Nat.pow_pos (by decide)
   rw [Nat.mod_mul, Nat.mul_add_mod, Nat.mod_eq_of_lt h2, Nat.mul_add_div h3, Nat.div_eq_of_lt h2]; simp only [Nat.add_zero]; omega
 . rw [if_neg (by omega)]
   obtain ⟨d, rfl⟩ : ∃ d, i = n / 64 + 1 + d := ⟨i - n / 64 - 1, by omega⟩
   have z : ∀ c, w (P (n / 64) * c) (n / 64 + 1 + d) = c / B / P d % B := fun c => by
    unfold w; rw [P_add (n / 64 + 1), P_succ, <- Nat.div_div_eq_div_mul, <- Nat.div_div_eq_div_mul, Nat.mul_div_cancel_left _ (P_pos _)]
   rw [<- Nat.mul_add, z, z]
   have h2 : 2 ^ (n % 64) < 2 ^ (n % 64 + 1) := Nat.pow_lt_pow_right (by decide) (by omega)
   have h3 : 0 < 2 ^ (n % 64 + 1) := Nat.pow_pos (by decide)
   rw [hB, <- Nat.div_div_eq_div_mul, <- Nat.div_div_eq_div_mul, Nat.mul_add_div h3, Nat.div_eq_of_lt h2, Nat.mul_div_cancel_left _ h3, Nat.add_zero]
end Wide
end Go.Proofs.YtkdnebalpdebeaaGreatDoor
namespace Go.Proofs
open Go.Shelf
def Tryz.lays129_ren : Go.Shelf.Ren := ⟨fun | 129 => 94 | n => n, fun | 53 => 24 | 3 => 3 | 4 => 4 | 46 => 124 | 5 => 5 | 9 => 9 | n => n, fun | n => n⟩
theorem Tryz.lays129 : Go.Proofs.Lays.n129 Tryz.prog Tryz.lays129_ren := {
 mixed := by kernel_rfl
 f129 := Tryz.func94.trans (congrArg some (by kernel_rfl))
 t3 := Tryz.underlying3
 a3 := Tryz.isAgg3
 z3 := Tryz.sizeOf3
 v3 := Tryz.zeroValue3
 t4 := Tryz.underlying4
 a4 := Tryz.isAgg4
 z4 := Tryz.sizeOf4
 v4 := Tryz.zeroValue4
 t5 := Tryz.underlying5
 a5 := Tryz.isAgg5
 z5 := Tryz.sizeOf5
 v5 := Tryz.zeroValue5
 t9 := Tryz.underlying9
 a9 := Tryz.isAgg9
 z9 := Tryz.sizeOf9
 v9 := Tryz.zeroValue9
 t46 := Tryz.underlying124
 a46 := Tryz.isAgg124
 z46 := Tryz.sizeOf124
 v46 := Tryz.zeroValue124
 t53 := Tryz.underlying24
 a53 := Tryz.isAgg24
 z53 := Tryz.sizeOf24
 v53 := Tryz.zeroValue24 }
theorem Tryz.bits_Len64 (x : Int) (w : World) (h0 : 0 <= x) (h1 : x <= 18446744073709551615) :
 Calls Tryz.prog 94 #[.int .u64 x] w fun e w' => e = .returned (.int .i64 (Lib.bitLen x.toNat)) /\ w' = w := Any.bits_Len64 Tryz.lays129 x w h0 h1
def Tryz.lays264_ren : Go.Shelf.Ren := ⟨fun | 264 => 140 | n => n, fun | 53 => 24 | 46 => 124 | n => n, fun | n => n⟩
theorem Tryz.lays264 : Go.Proofs.Lays.n264 Tryz.prog Tryz.lays264_ren := {
 mixed := by kernel_rfl
 f264 := Tryz.func140.trans (congrArg some (by kernel_rfl))
 t46 := Tryz.underlying124
 a46 := Tryz.isAgg124
 z46 := Tryz.sizeOf124
 v46 := Tryz.zeroValue124
 t53 := Tryz.underlying24
 a53 := Tryz.isAgg24
 z53 := Tryz.sizeOf24
 v53 := Tryz.zeroValue24 }
open Go.RowKit Go.Lib in
theorem Tryz.bits_Mul64 (x y : Nat) (hx : x < 18446744073709551616) (hy : y < 18446744073709551616) (w : World) :
 Calls Tryz.prog 140 #[.int .u64 x, .int .u64 y] w fun e w' => e = .returned (.tuple #[.int .u64 ((x * y / 18446744073709551616 : Nat) : Int), .int .u64 ((x * y % 18446744073709551616 : Nat) : Int)]) /\ w' = w := Any.bits_Mul64 Tryz.lays264 x y hx hy w
end Go.Proofs
namespace Go.Proofs.YtkdnebalpdebeaaGreatDoor
namespace Wide
open Go.RowKit Go.Deep
def six (f : Nat -> Nat) : Array Value := ((List.range 6).map fun k => Value.int .u64 (f k : Nat)).toArray
theorem six_lit (f : Nat -> Nat) : six f = #[.int .u64 (f 0 : Nat), .int .u64 (f 1 : Nat), .int .u64 (f 2 : Nat), .int .u64 (f 3 : Nat), .int .u64 (f 4 : Nat), .int .u64 (f 5 : Nat)] := rfl
theorem six_size (f : Nat -> Nat) : (six f).size = 6 := by simp [six]
theorem six_get (f : Nat -> Nat) {k : Nat} (h : k < 6) : (six f)[k]? = some (.int .u64 (f k : Nat)) := by
 have : k = 0 ∨ k = 1 ∨ k = 2 ∨ k = 3 ∨ k = 4 ∨ k = 5 := by omega
 rcases this with rfl | rfl | rfl | rfl | rfl | rfl <;> rfl
theorem six_ext {f g : Nat -> Nat} (h : ∀ k, k < 6 -> f k = g k) : six f = six g := by
 simp only [six_lit]; rw [h 0 (by omega), h 1 (by omega), h 2 (by omega), h 3 (by omega), h 4 (by omega), h 5 (by omega)]
theorem six_set (f : Nat -> Nat) {k : Nat} (v : Nat) (h : k < 6) : (six f).setIfInBounds k (.int .u64 (v : Nat)) = six (fun j => if j = k then v else f j) := by
 have : k = 0 ∨ k = 1 ∨ k = 2 ∨ k = 3 ∨ k = 4 ∨ k = 5 := by omega
 rcases this with rfl | rfl | rfl | rfl | rfl | rfl <;> rfl
def enc (n : Nat) : Array Value := six (w n)
theorem add64_run (x y c : Nat) (hc : c <= 1) (w : World) : (callFunc 141 #[.int .u64 x, .int .u64 y, .int .u64 c]).run Tryz.prog w =
 .ok (.value (.tuple #[.int .u64 (((x + y + c) % 18446744073709551616 : Nat) : Int), .int .u64 (((x + y + c) / 18446744073709551616 : Nat) : Int)])) w := by
 rw [run_callFunc_extern Tryz.func141 (by kernel_rfl) (by kernel_rfl) (by kernel_rfl) (e := add64Entry) (by kernel_rfl), run_add64 x y c (by omega) (by omega) (by omega) (by omega)]
 simp only [Result.andThen]
 congr 5 <;> omega
theorem sub64_run (x y b : Nat) (hb : b <= 1) (w : World) : (callFunc 139 #[.int .u64 x, .int .u64 y, .int .u64 b]).run Tryz.prog w =
 .ok (.value (.tuple #[.int .u64 (((x + 18446744073709551616 - y - b) % 18446744073709551616 : Nat) : Int), .int .u64 ((if x < y + b then 1 else 0 : Nat) : Int)])) w := by
 rw [run_callFunc_extern Tryz.func139 (by kernel_rfl) (by kernel_rfl) (by kernel_rfl) (e := sub64Entry) (by kernel_rfl), run_sub64 x y b hb]
 rfl
theorem wp_region_tail {P : Program} {id : Nat} {Q : Exit -> Act -> World -> Prop} {a : Act} {w : World} {l : List Oper} (n : Nat) (hm : P.follows .mixedOrders = true) (hB : Region.lexTailB .any l.toArray n = true)
 (h : wpStill P l.toArray w.drew (fun a' => wpList P l.toArray Q (l.drop n) a' w.drew) (l.take n) a) : (Code.region id l.toArray true).wp P Q a w := wp_region_still_tail n hm hB h
theorem wp_region_same {P : Program} {id : Nat} {Q : Exit -> Act -> World -> Prop} {a : Act} {w : World} {l : List Oper} (hm : P.follows .mixedOrders = true) (hB : Region.lexB .any l.toArray = true)
 (h : wpStill P l.toArray w.drew (fun a' => Q .normal a' w.drew) l a) : (Code.region id l.toArray true).wp P Q a w := wp_region_still_lit hm hB h
theorem wpList_put {P : Program} {ops : Array Oper} {rest : List Oper} {o : Oper} {a : Act} {w : World} {Q : Exit -> Act -> World -> Prop} (hgd : o.guard = none) (ty : TypeId) (x y : Operand) (ho : o.op = .store ty x y)
 (g : Nat) (cells : Array Value) (hx : a.eval x = .pointer (some ⟨g, 0, none⟩)) (hy : a.eval y = .agg cells) (t : TypeId) (old : Array Value) (hg : Blk w g t old) (hi : (P.info? ty).map (·.size) = some cells.size)
 (hold : old.size = cells.size) (h1 : cells.all (·.oneCell') = true)
 (h : ∀ W2, Blk W2 g t cells -> (∀ g' t' cs, g' ≠ g -> Blk w g' t' cs -> Blk W2 g' t' cs) -> (∀ B w0, B <= g -> Below B w0 w -> Below B w0 W2) -> W2.heap.size = w.heap.size -> (∀ p : Addr, p.block ≠ g -> W2.cell? p = w.cell? p) -> wpList P ops Q rest (a.put o.dst undef) W2) : wpList P ops Q (o :: rest) a w :=
 wpList_store_row hgd ty x y ho g cells hx hy t old hg hi hold h1 (h _ (setRow_heap w g old cells t (0, 0) hg) (fun g' t' cs hne hb => (setRow_other w g g' _ hne).trans hb) (fun B w0 hB hb => below_setRow hb hB _) (by simp) (fun p hp => cell_setRow_other w g cells p hp))
theorem six_all (f : Nat -> Nat) : (six f).all (·.oneCell') = true := by rw [six_lit, Array.all_eq_true']; simp [Value.oneCell']
theorem Blk.new' {w : World} {g : Nat} {t : TypeId} {cs : Array Value} (h : g = w.heap.size) : Blk (w.alloc (.cells cs t)) g t cs := by subst h; exact Blk.new w t cs
theorem add_ok (a b : Nat) (W : World) :
 Calls Tryz.prog 220 #[.agg (enc a), .agg (enc b)] W fun e w' => e = .returned (.agg (enc (a + b))) /\ Below W.heap.size W w' := by
 go_enter Tryz.func220, Tryz.ntmps220
 go_wp2_with fail
 go_loopw [5, 7] (fun c i wr => ∃ k : Nat, k <= 6 /\ c = .int .u64 (carry a b k : Nat) /\ i = .int .i64 k /\ Below W.heap.size W wr /\ Hi (Blk wr W.heap.size 115 (six fun j => if j < k then w (a + b) j else w a j)) /\ Hi (Blk wr (W.heap.size + 1) 115 (enc b)) /\ Hi (Blk wr (W.heap.size + 2) 115 (six fun _ => 0))) (fun _ i _ => 6 - (intOf i).toNat)
 case atStart =>
  exact ⟨0, by omega, by rw [carry_zero]; rfl, rfl, (((Below.refl _ _).alloc (Nat.le_refl _) _).alloc (by simp) _).alloc (by simp; omega) _, Hd (((Blk.new _ _ _).alloc _).alloc _), Hd ((Blk.new' (by simp)).alloc _), Hd (Blk.new' (by simp))⟩
 case round =>
  obtain ⟨k, hk, rfl, rfl, hbl, HA, HB, HR⟩ := hrel
  by_cases hlt : k < 6
  . have ca := HA.o.cell k
    rw [six_get _ hlt] at ca
    simp only [Nat.lt_irrefl, if_false] at ca
    have cb := HB.o.cell k
    rw [enc, six_get _ hlt] at cb
    have fa := HA.o.frozen k
    have fb := HB.o.frozen k
    have hc := carry_le a b k
    go_wp2_with fail
    refine wp_region_store [0, 1, 2, 3, 4, 5, 6, 7, 8, 9, 10, 11, 12] 13 [14] (by kernel_rfl) (by kernel_rfl) ?_
    simp only [List.map_cons, List.map_nil, opAt, List.getElem?_cons_succ, List.getElem?_cons_zero, Option.getD_some]
    iterate 8 still_step
    refine wpStill_step (fun K hK => ?_)
    go_simp
    rw [add64_run _ _ _ hc]
    go_simp
    refine hK _ ?_
    clear hK K
    repeat still_step
    refine wpStill_nil ?_
    have hs := HA.o.set_ k (.int .u64 ((w a k + w b k + carry a b k) % 18446744073709551616 : Nat))
    rw [six_set _ _ hlt] at hs
    have ec : carry a b (k + 1) = (w a k + w b k + carry a b k) / 18446744073709551616 := carry_succ a b k
    have ew : w (a + b) k = (w a k + w b k + carry a b k) % 18446744073709551616 := w_add a b k
    have EC := Hd ec
    have EW := Hd ew
    clear ec ew
    go_wp2_with fail
    rw [onlyNormal_normal]
    go_wp2_with fail
    go_roundw
    case rel =>
     refine ⟨k + 1, by omega, by rw [EC.o]; congr 1, by go_num, hbl.drew.setCell (by simp) _, Hd ?_, Hd (HB.o.drew.far (by simp) _), Hd (HR.o.drew.far (by simp) _)⟩
     have e : (six fun j => if j < k + 1 then w (a + b) j else w a j) = six (fun j => if j = k then (w a k + w b k + carry a b k) % 18446744073709551616 else if j < k then w (a + b) j else w a j) := by
      refine six_ext fun j hj => ?_
      rcases Nat.lt_trichotomy j k with h | h | h
      . rw [if_pos (by omega), if_neg (by omega), if_pos h]
      . subst h; rw [if_pos (by omega), if_pos rfl, EW.o]
      . rw [if_neg (by omega), if_neg (by omega), if_neg (by omega)]
     rw [e]
     exact hs
    case measure => simp [intOf]; omega
  . have hk6 : k = 6 := by omega
    subst hk6
    have HS : Hi (Blk wr W.heap.size 115 (enc (a + b))) := Hd (by rw [enc, six_ext (g := fun j => if j < 6 then w (a + b) j else w a j) (fun j hj => by rw [if_pos hj])]; exact HA.o)
    clear HA
    go_wp2_with (first
     | (refine wpList_load_row rfl 115 (.tmp 2) rfl W.heap.size rfl 115 (enc (a + b)) (0, 0) _ HS.o Tryz.underlying115 rfl (by kernel_rfl) ?_)
     | (refine wpList_put rfl 115 (.tmp 4) (.tmp 24) rfl (W.heap.size + 2) (enc (a + b)) rfl rfl 115 _ HR.o (by kernel_rfl) (by rw [enc, six_size, six_size]) (six_all _) ?_
        intro W2 HB2 hfar2 hbel2 hsz2 hcell2))
    exact bodyPost_ret (results_cell_row rfl _ W2 (W.heap.size + 2) 115 (enc (a + b)) (0, 0) _ rfl HB2 Tryz.underlying115 rfl (by kernel_rfl)) rfl ⟨rfl, hbel2 _ _ (by omega) hbl⟩
theorem sub64_at {a b : Nat} (hab : b <= a) (k : Nat) (W : World) : (callFunc 139 #[.int .u64 (w a k : Nat), .int .u64 (w b k : Nat), .int .u64 (carry (a - b) b k : Nat)]).run Tryz.prog W =
 .ok (.value (.tuple #[.int .u64 (w (a - b) k : Nat), .int .u64 (carry (a - b) b (k + 1) : Nat)])) W := by
 have st := sub_step (i := k) hab
 have l1 := w_lt (a - b) k
 have l2 := w_lt b k
 have l3 := w_lt a k
 have l4 := carry_le (a - b) b (k + 1)
 have l5 := carry_le (a - b) b k
 have ec : (if w a k < w b k + carry (a - b) b k then 1 else 0) = carry (a - b) b (k + 1) := by
  unfold B at st l1 l2 l3; split <;> omega
 have ew : (w a k + 18446744073709551616 - w b k - carry (a - b) b k) % 18446744073709551616 = w (a - b) k := by
  unfold B at st l1 l2 l3; omega
 rw [sub64_run _ _ _ l5, ec, ew]
theorem sub_ok (a b : Nat) (hab : b <= a) (W : World) :
 Calls Tryz.prog 92 #[.agg (enc a), .agg (enc b)] W fun e w' => e = .returned (.agg (enc (a - b))) /\ Below W.heap.size W w' := by
 go_enter Tryz.func92, Tryz.ntmps92
 go_wp2_with fail
 go_loopw [5, 7] (fun c i wr => ∃ k : Nat, k <= 6 /\ c = .int .u64 (carry (a - b) b k : Nat) /\ i = .int .i64 k /\ Below W.heap.size W wr /\ Hi (Blk wr W.heap.size 115 (six fun j => if j < k then w (a - b) j else w a j)) /\ Hi (Blk wr (W.heap.size + 1) 115 (enc b)) /\ Hi (Blk wr (W.heap.size + 2) 115 (six fun _ => 0))) (fun _ i _ => 6 - (intOf i).toNat)
 case atStart =>
  exact ⟨0, by omega, by rw [carry_zero]; rfl, rfl, (((Below.refl _ _).alloc (Nat.le_refl _) _).alloc (by simp) _).alloc (by simp; omega) _, Hd (((Blk.new _ _ _).alloc _).alloc _), Hd ((Blk.new' (by simp)).alloc _), Hd (Blk.new' (by simp))⟩
 case round =>
  obtain ⟨k, hk, rfl, rfl, hbl, HA, HB, HR⟩ := hrel
  by_cases hlt : k < 6
  . have ca := HA.o.cell k
    rw [six_get _ hlt] at ca
    simp only [Nat.lt_irrefl, if_false] at ca
    have cb := HB.o.cell k
    rw [enc, six_get _ hlt] at cb
    have fa := HA.o.frozen k
    have fb := HB.o.frozen k
    have hc := carry_le (a - b) b k
    go_wp2_with fail
    refine wp_region_store [0, 1, 2, 3, 4, 5, 6, 7, 8, 9, 10, 11, 12] 13 [14] (by kernel_rfl) (by kernel_rfl) ?_
    simp only [List.map_cons, List.map_nil, opAt, List.getElem?_cons_succ, List.getElem?_cons_zero, Option.getD_some]
    iterate 8 still_step
    refine wpStill_step (fun K hK => ?_)
    go_simp
    rw [sub64_at hab]
    go_simp
    refine hK _ ?_
    clear hK K
    repeat still_step
    refine wpStill_nil ?_
    have hs := HA.o.set_ k (.int .u64 (w (a - b) k : Nat))
    rw [six_set _ _ hlt] at hs
    go_wp2_with fail
    rw [onlyNormal_normal]
    go_wp2_with fail
    go_roundw
    case rel =>
     refine ⟨k + 1, by omega, rfl, by go_num, hbl.drew.setCell (by simp) _, Hd ?_, Hd (HB.o.drew.far (by simp) _), Hd (HR.o.drew.far (by simp) _)⟩
     have e : (six fun j => if j < k + 1 then w (a - b) j else w a j) = six (fun j => if j = k then w (a - b) k else if j < k then w (a - b) j else w a j) := by
      refine six_ext fun j hj => ?_
      rcases Nat.lt_trichotomy j k with h | h | h
      . rw [if_pos (by omega), if_neg (by omega), if_pos h]
      . subst h; rw [if_pos (by omega), if_pos rfl]
      . rw [if_neg (by omega), if_neg (by omega), if_neg (by omega)]
     rw [e]
     exact hs
    case measure => simp [intOf]; omega
  . have hk6 : k = 6 := by omega
    subst hk6
    have HS : Hi (Blk wr W.heap.size 115 (enc (a - b))) := Hd (by rw [enc, six_ext (g := fun j => if j < 6 then w (a - b) j else w a j) (fun j hj => by rw [if_pos hj])]; exact HA.o)
    clear HA
    go_wp2_with (first
     | (refine wpList_load_row rfl 115 (.tmp 2) rfl W.heap.size rfl 115 (enc (a - b)) (0, 0) _ HS.o Tryz.underlying115 rfl (by kernel_rfl) ?_)
     | (refine wpList_put rfl 115 (.tmp 4) (.tmp 24) rfl (W.heap.size + 2) (enc (a - b)) rfl rfl 115 _ HR.o (by kernel_rfl) (by rw [enc, six_size, six_size]) (six_all _) ?_
        intro W2 HB2 hfar2 hbel2 hsz2 hcell2))
    exact bodyPost_ret (results_cell_row rfl _ W2 (W.heap.size + 2) 115 (enc (a - b)) (0, 0) _ rfl HB2 Tryz.underlying115 rfl (by kernel_rfl)) rfl ⟨rfl, hbel2 _ _ (by omega) hbl⟩
end Wide
namespace Wide
open Go.RowKit Go.Deep
def cmpv (a b : Nat) : Int := if a < b then -1 else if b < a then 1 else 0
theorem enc_cell {W : World} {g : Nat} {t : TypeId} {n : Nat} (h : Blk W g t (enc n)) {k : Nat} (hk : k < 6) : W.cell? ⟨g, k, none⟩ = some (.int .u64 (w n k : Nat)) := by
 rw [h.cell k, enc, six_get _ hk]
theorem cmp_ok (a b : Nat) (ha : a < P 6) (hb : b < P 6) (W : World) :
 Calls Tryz.prog 91 #[.agg (enc a), .agg (enc b)] W fun e w' => e = .returned (.int .i64 (cmpv a b)) /\ Below W.heap.size W w' := by
 go_enter Tryz.func91, Tryz.ntmps91
 go_wp2_with fail
 go_loopw [5] (fun i wr => ∃ k : Nat, k <= 6 /\ i = .int .i64 ((k : Int) - 1) /\ Hi (a / P k = b / P k) /\ Below W.heap.size W wr /\ Hi (Blk wr W.heap.size 115 (enc a)) /\ Hi (Blk wr (W.heap.size + 1) 115 (enc b))) (fun i _ => (intOf i + 1).toNat)
 case atStart =>
  exact ⟨6, by omega, rfl, Hd (by rw [top_zero ha, top_zero hb]), ((Below.refl _ _).alloc (Nat.le_refl _) _).alloc (by simp) _, Hd ((Blk.new _ _ _).alloc _), Hd (Blk.new' (by simp))⟩
 case round =>
  obtain ⟨k, hk, rfl, HE, hbl, HA, HB⟩ := hrel
  cases k with
  | zero =>
    go_wp2_with fail
    have e := eq_of_zero HE.o
    refine bodyPost_ret (results_tmp rfl _ _ _) rfl ⟨?_, hbl⟩
    subst e
    simp [cmpv]
  | succ k =>
    have hlt : k < 6 := by omega
    have hi : ((k + 1 : Nat) : Int) - 1 = (k : Int) := by omega
    rw [hi]
    clear hi
    have hki : (k : Int) < 6 := by omega
    have ca := enc_cell HA.o hlt
    have cb := enc_cell HB.o hlt
    have l1 := w_lt a k
    have l2 := w_lt b k
    unfold B at l1 l2
    go_wp2_with fail
    rcases Nat.lt_trichotomy (w a k) (w b k) with h | h | h
    . refine wp_region_same (by kernel_rfl) (by kernel_rfl) ?_
      repeat still_step
      refine wpStill_nil ?_
      go_wp2_with fail
      rw [show cmpv a b = -1 from by rw [cmpv, if_pos (cmp_lt HE.o h)]]
      exact bodyPost_ret (results_tmp rfl _ _ _) rfl ⟨rfl, hbl.drew⟩
    . refine wp_region_same (by kernel_rfl) (by kernel_rfl) ?_
      repeat still_step
      refine wpStill_nil ?_
      go_wp2_with fail
      refine wp_region_same (by kernel_rfl) (by kernel_rfl) ?_
      repeat still_step
      refine wpStill_nil ?_
      go_wp2_with fail
      go_roundw
      case rel => exact ⟨k, by omega, by go_num, Hd (cmp_eq HE.o h), hbl.drew.drew, Hd HA.o.drew.drew, Hd HB.o.drew.drew⟩
      case measure => simp [intOf]
    . have h' : ¬ w a k < w b k := by omega
      refine wp_region_same (by kernel_rfl) (by kernel_rfl) ?_
      repeat still_step
      refine wpStill_nil ?_
      go_wp2_with fail
      refine wp_region_same (by kernel_rfl) (by kernel_rfl) ?_
      repeat still_step
      refine wpStill_nil ?_
      go_wp2_with fail
      have h2 := cmp_lt HE.o.symm h
      rw [show cmpv a b = 1 from by rw [cmpv, if_neg (by omega), if_pos h2]]
      exact bodyPost_ret (results_tmp rfl _ _ _) rfl ⟨rfl, hbl.drew.drew⟩
end Wide
namespace Wide
open Go.RowKit Go.Deep
theorem bits_same : ∀ (k n : Nat), k <= 64 -> n < 2 ^ k -> Lib.bitLen n = Go.bitLen n := by
 intro k
 induction k with
 | zero => intro n _ h; have : n = 0 := by simpa using h
           subst this; rfl
 | succ k ih =>
   intro n hk h
   by_cases h0 : n = 0
   . subst h0; rfl
   . have h64 : n < 2 ^ 64 := Nat.lt_of_lt_of_le h (Nat.pow_le_pow_right (by decide) hk)
     have h2 : n / 2 < 2 ^ k := by rw [Nat.pow_succ] at h; omega
     rw [Lib.bitLen_half n h0 h64, ih (n / 2) (by omega) h2]
     unfold Go.bitLen
     rw [if_neg h0]
     by_cases h1 : n / 2 = 0
     . rw [if_pos h1]
       have : n = 1 := by omega
       subst this; rfl
     . rw [if_neg h1, Nat.log2_def n, if_pos (by omega)]; omega
theorem len64_still (n : Nat) (h : n < 18446744073709551616) (W : World) : Calls Tryz.prog 94 #[.int .u64 (n : Nat)] W fun e w' => e = .returned (.int .i64 (Go.bitLen n : Nat)) /\ w' = W := by
 have := Tryz.bits_Len64 (n : Nat) W (by omega) (by omega)
 rwa [Int.toNat_natCast, bits_same 64 n (by omega) h] at this
theorem len_ok (a : Nat) (ha : a < P 6) (W : World) :
 Calls Tryz.prog 46 #[.agg (enc a)] W fun e w' => e = .returned (.int .i64 (Go.bitLen a : Nat)) /\ Below W.heap.size W w' := by
 go_enter Tryz.func46, Tryz.ntmps46
 go_wp2_with fail
 go_loopw [3] (fun i wr => ∃ k : Nat, k <= 6 /\ i = .int .i64 ((k : Int) - 1) /\ Hi (a / P k = 0) /\ Below W.heap.size W wr /\ Hi (Blk wr W.heap.size 115 (enc a))) (fun i _ => (intOf i + 1).toNat)
 case atStart =>
  exact ⟨6, by omega, rfl, Hd (top_zero ha), (Below.refl _ _).alloc (Nat.le_refl _) _, Hd (Blk.new _ _ _)⟩
 case round =>
  obtain ⟨k, hk, rfl, HE, hbl, HA⟩ := hrel
  cases k with
  | zero =>
    go_wp2_with fail
    have e : a = 0 := by have := HE.o; rwa [P_zero, Nat.div_one] at this
    refine bodyPost_ret (results_tmp rfl _ _ _) rfl ⟨?_, hbl⟩
    subst e
    rfl
  | succ k =>
    have hlt : k < 6 := by omega
    have hi : ((k + 1 : Nat) : Int) - 1 = (k : Int) := by omega
    rw [hi]
    clear hi
    have hki : (k : Int) < 6 := by omega
    have ca := enc_cell HA.o hlt
    have l1 := w_lt a k
    unfold B at l1
    by_cases h0 : w a k = 0
    . have hz : ¬ (0 : Int) < (w a k : Nat) := by omega
      go_wp2_with fail
      go_roundw
      case rel => exact ⟨k, by omega, by go_num, Hd (len_miss HE.o h0), hbl, HA⟩
      case measure => simp [intOf]
    . have hz : (0 : Int) < (w a k : Nat) := by omega
      have hl := len_hit HE.o h0
      have HL := Hd hl
      clear hl
      go_wp2_with fail
      refine (len64_still _ l1 _).mono ?_
      rintro e w1 ⟨rfl, rfl⟩
      have l2 : Go.bitLen (w a k) <= 64 := bitLen_lt (by rw [<- show (18446744073709551616 : Nat) = 2 ^ 64 from by decide]; exact l1)
      have hw2 : IntKind.i64.wrap (64 * (k : Int) + (Go.bitLen (w a k) : Nat)) = ((64 * k + Go.bitLen (w a k) : Nat) : Int) := by rw [IntWalk.i64_in _ (by omega)]; omega
      go_wp2_with fail
      rw [HL.o]
      exact bodyPost_ret (results_tmp rfl _ _ _) rfl ⟨by first | rfl | (simp; done) | (go_simp; done), hbl⟩
end Wide
end Go.Proofs.YtkdnebalpdebeaaGreatDoor
