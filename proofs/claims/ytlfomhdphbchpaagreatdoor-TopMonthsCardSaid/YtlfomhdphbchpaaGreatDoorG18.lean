/- Lemmas of a claim, several texts in one: Varint, PackA, PackB, SameBytes, PackC, PackD -/
import Derived.Below
import Derived.WalkArith
import Derived.Test.YtlfomhdphbchpaaGreatDoorG01
import Derived.Laws.BitsAllLaws
import Derived.Lib.Builder
/-! numbers as bytes: plain, no program in sight -/
namespace Go.Proofs.YtlfomhdphbchpaaGreatDoor
open Go.RowKit
set_option linter.unusedVariables false
def Byt (xs : List Int) : Prop := ∀ n ∈ xs, 0 ≤ n ∧ n ≤ 255
/-- a number's bytes, at most f of them -/
def encF : Nat → Int → List Int
  | 0, _ => []
  | f + 1, n => if n < 128 then [n] else (128 + n % 128) :: encF f (n / 128)
def enc (n : Int) : List Int := encF 10 n
/-- a signed number as one without a sign -/
def zig (n : Int) : Int := if n < 0 then -2 * n - 1 else 2 * n
def zag (n : Int) : Int := if n % 2 = 1 then - (n / 2) - 1 else n / 2
theorem zag_zig (n : Int) : zag (zig n) = n := by
  unfold zag zig
  split <;> split <;> omega
theorem zig_zag (n : Int) (h : 0 ≤ n) : zig (zag n) = n := by
  unfold zag zig
  split <;> split <;> omega
theorem zig_range (n : Int) (h0 : -9223372036854775808 ≤ n) (h1 : n ≤ 9223372036854775807) : 0 ≤ zig n ∧ zig n < 18446744073709551616 := by
  unfold zig; split <;> omega
theorem zag_range (n : Int) (h0 : 0 ≤ n) (h1 : n < 18446744073709551616) : -9223372036854775808 ≤ zag n ∧ zag n ≤ 9223372036854775807 := by
  unfold zag; split <;> omega
theorem encF_len : ∀ (f : Nat) (n : Int), (encF f n).length ≤ f
  | 0, _ => by simp [encF]
  | f + 1, n => by
    unfold encF
    split
    · simp
    · simp only [List.length_cons]
      have := encF_len f (n / 128)
      omega
theorem enc_len (n : Int) : (enc n).length ≤ 10 := encF_len 10 n
theorem enc_pos (n : Int) : 1 ≤ (enc n).length := by unfold enc encF; split <;> simp
theorem encF_byt : ∀ (f : Nat) (n : Int), 0 ≤ n → Byt (encF f n)
  | 0, _, _ => by simp [encF, Byt]
  | f + 1, n, h => by
    unfold encF
    split
    · intro m hm; simp at hm; omega
    · intro m hm
      rcases List.mem_cons.1 hm with rfl | hm
      · omega
      · exact encF_byt f (n / 128) (by omega) m hm
theorem enc_byt (n : Int) (h : 0 ≤ n) : Byt (enc n) := encF_byt 10 n h
/-- reading: what stands at the front of xs, the number so far acc, the place's weight pl, f bytes at most to come, k bytes read; the last of ten may be 0 or 1 -/
def decF : Nat → List Int → Int → Int → Nat → Option (Int × Nat)
  | 0, _, _, _, _ => none
  | _ + 1, [], _, _, _ => none
  | f + 1, b :: r, acc, pl, k =>
    if f = 0 ∧ 1 < b then none
    else if b < 128 then (if b = 0 ∧ 0 < k then none else some (acc + b * pl, k + 1))
    else decF f r (acc + (b % 128) * pl) (pl * 128) (k + 1)
def dec (xs : List Int) : Option (Int × Nat) := decF 10 xs 0 1 0
/-- the weight of the byte with f bytes at most to come -/
theorem decF_enc : ∀ (f : Nat) (n acc pl : Int) (k : Nat) (r : List Int), 0 ≤ n → (f = 0 → False) → n * 1 < 2 ^ (7 * (f - 1) + 1) → (k = 0 ∨ 0 < n) →
    decF f (encF f n ++ r) acc pl k = some (acc + n * pl, k + (encF f n).length)
  | 0, _, _, _, _, _, _, hf, _, _ => absurd rfl hf
  | f + 1, n, acc, pl, k, r, h0, _, hn, hk => by
    unfold encF
    by_cases h : n < 128
    · rw [if_pos h]
      simp only [List.cons_append, List.nil_append, decF, List.length_cons, List.length_nil]
      rw [if_neg, if_pos h, if_neg]
      · rintro ⟨rfl, hk'⟩; omega
      · rintro ⟨rfl, h1⟩
        simp at hn; omega
    · rw [if_neg h]
      simp only [List.cons_append, decF, List.length_cons]
      have hf : f ≠ 0 := by
        rintro rfl
        simp at hn; omega
      rw [if_neg (fun hh => hf hh.1), if_neg (by omega)]
      have hm : (128 + n % 128) % 128 = n % 128 := by omega
      rw [hm, decF_enc f (n / 128) _ _ _ r (by omega) (fun e => hf e) ?_ (.inr (by omega))]
      · have e : acc + n % 128 * pl + n / 128 * (pl * 128) = acc + n * pl := by
          have : n * pl = (n % 128 + 128 * (n / 128)) * pl := by rw [Int.emod_add_mul_ediv]
          rw [this, Int.add_mul, Int.mul_comm pl 128, ← Int.mul_assoc, Int.mul_comm (n / 128) 128]
          omega
        rw [e, show k + 1 + (encF f (n / 128)).length = k + ((encF f (n / 128)).length + 1) from by omega]
      · obtain ⟨g, rfl⟩ : ∃ g, f = g + 1 := ⟨f - 1, by omega⟩
        have e : (2 : Int) ^ (7 * (g + 1 + 1 - 1) + 1) = 2 ^ (7 * (g + 1 - 1) + 1) * 128 := by
          rw [show 7 * (g + 1 + 1 - 1) + 1 = 7 * (g + 1 - 1) + 1 + 7 from by omega, Int.pow_add]
          rfl
        rw [e] at hn
        generalize (2 : Int) ^ (7 * (g + 1 - 1) + 1) = z at *
        omega
theorem dec_enc (n : Int) (r : List Int) (h0 : 0 ≤ n) (h1 : n < 18446744073709551616) : dec (enc n ++ r) = some (n, (enc n).length) := by
  have := decF_enc 10 n 0 1 0 r h0 (by omega) (by simpa using h1) (.inl rfl)
  simpa [dec, enc] using this
/-- whatever is read is the number's bytes -/
theorem decF_some : ∀ (f : Nat) (xs : List Int) (acc pl : Int) (k : Nat) (m : Int) (j : Nat), Byt xs → decF f xs acc pl k = some (m, j) →
    ∃ n : Int, 0 ≤ n ∧ n < 2 ^ (7 * (f - 1) + 1) ∧ (k = 0 ∨ 0 < n) ∧ m = acc + n * pl ∧ j = k + (encF f n).length ∧ ∃ r, xs = encF f n ++ r
  | 0, _, _, _, _, _, _, _, h => by simp [decF] at h
  | f + 1, [], _, _, _, _, _, _, h => by simp [decF] at h
  | f + 1, b :: xs, acc, pl, k, m, j, hb, h => by
    simp only [decF] at h
    have hb0 := hb b (by simp)
    have hb' : Byt xs := fun x hx => hb x (by simp [hx])
    split at h
    · cases h
    · rename_i hf
      split at h
      · rename_i hlt
        split at h
        · cases h
        · rename_i hz
          simp only [Option.some.injEq, Prod.mk.injEq] at h
          refine ⟨b, hb0.1, ?_, by omega, h.1.symm, ?_, xs, ?_⟩
          · rcases Nat.eq_zero_or_pos f with rfl | hp
            · simp; omega
            · have : (2 : Int) ^ 7 ≤ 2 ^ (7 * (f + 1 - 1) + 1) := by
                have := Nat.pow_le_pow_right (show 1 ≤ 2 by omega) (show 7 ≤ 7 * (f + 1 - 1) + 1 by omega)
                exact_mod_cast this
              simp at this ⊢
              omega
          · unfold encF; rw [if_pos hlt]; simp; omega
          · unfold encF; rw [if_pos hlt]; simp
      · rename_i hge
        obtain ⟨n, n0, n1, n2, e1, e2, r, e3⟩ := decF_some f xs _ _ _ m j hb' h
        have np : 0 < n := by omega
        refine ⟨128 * n + b % 128, by omega, ?_, by omega, ?_, ?_, r, ?_⟩
        · have hf1 : f ≠ 0 := by
            rintro rfl
            simp [decF] at h
          obtain ⟨g, rfl⟩ : ∃ g, f = g + 1 := ⟨f - 1, by omega⟩
          have e : (2 : Int) ^ (7 * (g + 1 + 1 - 1) + 1) = 2 ^ (7 * (g + 1 - 1) + 1) * 128 := by
            rw [show 7 * (g + 1 + 1 - 1) + 1 = 7 * (g + 1 - 1) + 1 + 7 from by omega, Int.pow_add]
            rfl
          rw [e]
          generalize (2 : Int) ^ (7 * (g + 1 - 1) + 1) = z at *
          omega
        · rw [e1, Int.add_mul, Int.mul_comm pl 128, ← Int.mul_assoc, Int.mul_comm n 128]
          omega
        · have hq : (128 * n + b % 128) / 128 = n := by omega
          rw [e2]
          conv => rhs; unfold encF
          rw [if_neg (by omega), hq]
          simp only [List.length_cons]
          omega
        · have hq : (128 * n + b % 128) / 128 = n := by omega
          have hr : (128 * n + b % 128) % 128 = b % 128 := by omega
          unfold encF
          rw [if_neg (by omega), hq, hr, e3, List.cons_append]
          congr 1
          omega
theorem dec_some {xs : List Int} {m : Int} {j : Nat} (hb : Byt xs) (h : dec xs = some (m, j)) : 0 ≤ m ∧ m < 18446744073709551616 ∧ j = (enc m).length ∧ ∃ r, xs = enc m ++ r := by
  obtain ⟨n, h0, h1, _, rfl, rfl, r, h2⟩ := decF_some 10 xs 0 1 0 m j hb h
  simp only [Int.mul_one, Int.zero_add, Nat.zero_add]
  exact ⟨h0, by simpa using h1, rfl, r, h2⟩
end Go.Proofs.YtlfomhdphbchpaaGreatDoor

/-! copies, and numbers written -/
namespace Go.Proofs.YtlfomhdphbchpaaGreatDoor.Pack
open Go.RowKit Go.Deep
set_option linter.unusedVariables false
theorem info5 : (Tryz.prog.info? 5).map (fun i => (i.zero, i.size, i.bytes)) = some (some (.int .u8 0), 1, 1) := by kernel_rfl
theorem or128_nat : ∀ a : Fin 256, (a.1 ||| 128) = 128 + a.1 % 128 := by decide +kernel
theorem or128 (a : Int) (h0 : 0 ≤ a) (h1 : a < 256) : bits .or .u8 a 128 = 128 + a % 128 := by
  rw [u8_or a 128 h0 h1 (by omega) (by omega)]
  have := or128_nat ⟨a.toNat, by omega⟩
  simp only [] at this
  simp only [show (128 : Int).toNat = 128 from rfl]
  rw [this]; omega
theorem xor_all (x : Nat) (h : x < 18446744073709551616) : x ^^^ 18446744073709551615 = 18446744073709551615 - x := by
  have h1 : (BitVec.ofNat 64 x ^^^ BitVec.allOnes 64).toNat = (~~~ BitVec.ofNat 64 x).toNat := by rw [BitVec.xor_allOnes]
  rw [BitVec.toNat_xor, BitVec.toNat_not, BitVec.toNat_ofNat, Nat.mod_eq_of_lt (by omega)] at h1
  simpa using h1
/-- 'uint64(n)<<1 ^ uint64(n>>63)' -/
theorem zig_bits (n : Int) (h0 : -9223372036854775808 ≤ n) (h1 : n ≤ 9223372036854775807) :
    bits .xor .u64 (IntKind.u64.wrap (IntKind.u64.wrap n * 2)) (IntKind.u64.wrap (n / 9223372036854775808)) = zig n := by
  simp only [IntKind.wrap_u64]
  rw [u64_xor _ _ (by omega) (by omega) (by omega) (by omega)]
  unfold zig
  split
  · have e1 : (n / 9223372036854775808 % 18446744073709551616).toNat = 18446744073709551615 := by omega
    rw [e1, xor_all _ (by omega)]
    omega
  · have e1 : (n / 9223372036854775808 % 18446744073709551616).toNat = 0 := by omega
    rw [e1, Nat.xor_zero]
    omega
/-- what a copy is: new memory with the same bytes -/
def Fresh (w w' : World) (v : Value) (xs : List Int) : Prop := w'.ownsRow w.heap.size 5 1 v xs.length (nums .u8 xs) ∧ Below w.heap.size w w'
theorem nil_eql (w : World) (a : Option Addr) (n c n' c' : Nat) : (binOp .eql 94 (.slice a n c) (.slice none n' c')).run Tryz.prog w = .ok (.bool a.isNone) w := Lib.run_eql_slice_nil w _ _ a n c n' c' Tryz.underlying94
set_option maxHeartbeats 1000000 in
theorem clone_ok (P : Option Addr) (c : Nat) (xs : List Int) (w : World) (hx : RI w w.heap.size .u8 P xs) (hl : xs.length ≤ 140737488355328) :
    Calls Tryz.prog 118 #[.slice P xs.length c] w fun e w' => ∃ v, e = .returned v ∧ Fresh w w' v xs := by
  obtain ⟨i0, hi, hz0, hz1, hz2⟩ := info_parts info5
  have hq := nil_eql
  cases P with
  | none =>
    have hx0 : xs = [] := by
      rcases Nat.eq_zero_or_pos xs.length with h | h
      · exact List.eq_nil_of_length_eq_zero h
      · obtain ⟨ad, h1, _⟩ := hx.one h; cases h1
    subst hx0
    go_enter Tryz.func118, Tryz.ntmps118
    go_wp2
    go_ret
    exact ⟨_, rfl, own_nil _ _ _ _, Below.refl _ _⟩
  | some ad =>
    have HX := Lib.hid hx
    clear hx
    go_enter Tryz.func118, Tryz.ntmps118
    go_wp2_with (at_builtin; refine wpList_app _ rfl (.tmp 5) (.tmp 6) _ rfl w.heap.size 5 .u8 1 Tryz.underlying94 info5 (by omega) (.slice (some ⟨w.heap.size, 0, none⟩) 0 0) [] (World.ownsRow_made w #[] 0 (Nat.le_refl _) (by simp [maxLen]) rfl) rfl w.heap.size (some ad) c xs rfl (HX.out.alloc (Nat.le_refl _) _) (by simpa using hl) (by simp) ?_; intro v1 w1 hown1 hg1 hat1)
    go_ret
    exact ⟨_, rfl, by simpa using hown1, below_own ((Below.refl _ _).alloc (Nat.le_refl _) _) hg1 (World.ownsRow_made w #[] 0 (e := 5) (size := 1) (Nat.le_refl _) (by simp [maxLen]) rfl) (Nat.le_refl _) (by simp)⟩
set_option maxHeartbeats 1000000 in
theorem uint_ok (P : Option Addr) (c : Nat) (xs : List Int) (n : Int) (w : World) (hx : RI w w.heap.size .u8 P xs) (hl : xs.length + 10 ≤ 140737488355328) (h0 : 0 ≤ n) (h1 : n < 18446744073709551616) :
    Calls Tryz.prog 167 #[.slice P xs.length c, .int .u64 n] w fun e w' => ∃ v, e = .returned v ∧ Fresh w w' v (xs ++ enc n) := by
  have hbig : n < 2 ^ (7 * 10) := by omega
  have hn1 : n ≤ 18446744073709551615 := by omega
  clear h1
  go_enter Tryz.func167, Tryz.ntmps167
  go_wp2_with fail
  refine (clone_ok P c xs _ hx (by omega)).mono ?_
  rintro e w1 ⟨v1, rfl, hown, hb⟩
  have HN := Lib.hid hbig
  clear hbig hx
  go_wp2
  go_loopw [1, 5] (fun m v wr => ∃ (f : Nat) (m' : Int) (done : List Int), m = .int .u64 m' ∧ 0 ≤ m' ∧ m' ≤ 18446744073709551615 ∧ Hid (m' < 2 ^ (7 * f)) ∧ 1 ≤ f ∧ f ≤ 10 ∧ Hid (done ++ encF f m' = enc n) ∧ done.length + f ≤ 10 ∧
      wr.ownsRow w.heap.size 5 1 v (xs ++ done).length (nums .u8 (xs ++ done)) ∧ Below w.heap.size w wr) (fun m _ _ => (intOf m).toNat)
  case atStart => exact ⟨10, n, [], rfl, h0, hn1, HN, by omega, Nat.le_refl _, Lib.hid rfl, by simp, by simpa using hown, hb⟩
  case round =>
    obtain ⟨f, m', done, rfl, g0, g1, HB, hf1, hf, HE, hd, hown', hb'⟩ := hrel
    have s' := hb'.size
    have hlen : (xs ++ done).length + 1 ≤ 140737488355328 := by simp; omega
    by_cases hm : 128 ≤ m'
    · have hor : bits .or .u8 (m' % 256) 128 = 128 + m' % 128 := by rw [or128 (m' % 256) (by omega) (by omega)]; omega
      go_wp2_with (at_builtin; refine wpList_app1 wr rfl (.tmp 12) (.tmp 16) _ rfl w.heap.size 5 .u8 1 Tryz.underlying94 info5 (by omega) _ (xs ++ done) hown' rfl (128 + m' % 128) rfl (by simpa using hlen) s' ?_; intro v2 w2 hown2 hg2 hat2)
      go_roundw
      case rel =>
        obtain ⟨g, rfl⟩ : ∃ g, f = g + 2 := by
          refine ⟨f - 2, ?_⟩
          have : f ≠ 1 := by
            rintro rfl
            have := HB.out
            omega
          omega
        refine ⟨g + 1, m' / 128, done ++ [128 + m' % 128], rfl, by omega, by omega, Lib.hid ?_, by omega, by omega, Lib.hid ?_, by simp; omega, by simpa using hown2, below_own hb' hg2 hown' (Nat.le_refl _) s'⟩
        · have := HB.out
          rw [show 7 * (g + 2) = 7 * (g + 1) + 7 from by omega, Int.pow_add] at this
          generalize (2 : Int) ^ (7 * (g + 1)) = z at *
          omega
        · have h := HE.out
          rw [encF, if_neg (by omega)] at h
          simpa using h
      case measure => simp [intOf]; omega
    · go_wp2_with (at_builtin; refine wpList_app1 wr rfl (.tmp 18) (.tmp 21) _ rfl w.heap.size 5 .u8 1 Tryz.underlying94 info5 (by omega) _ (xs ++ done) hown' rfl m' rfl (by simpa using hlen) s' ?_; intro v2 w2 hown2 hg2 hat2)
      go_ret
      have he : xs ++ done ++ [m'] = xs ++ enc n := by
        obtain ⟨g, rfl⟩ : ∃ g, f = g + 1 := ⟨f - 1, by omega⟩
        have h := HE.out
        rw [encF, if_pos (by omega)] at h
        rw [← h, List.append_assoc]
      exact ⟨_, rfl, by rw [← he]; exact hown2, below_own hb' hg2 hown' (Nat.le_refl _) s'⟩
set_option maxHeartbeats 1000000 in
theorem int_ok (P : Option Addr) (c : Nat) (xs : List Int) (n : Int) (w : World) (hx : RI w w.heap.size .u8 P xs) (hl : xs.length + 10 ≤ 140737488355328) (h0 : -9223372036854775808 ≤ n) (h1 : n ≤ 9223372036854775807) :
    Calls Tryz.prog 168 #[.slice P xs.length c, .int .i64 n] w fun e w' => ∃ v, e = .returned v ∧ Fresh w w' v (xs ++ enc (zig n)) := by
  have hz := zig_range n h0 h1
  have HX := Lib.hid hx
  clear hx
  go_enter Tryz.func168, Tryz.ntmps168
  go_wp2_with fail
  rw [zig_bits n h0 h1]
  refine (uint_ok P c xs (zig n) _ HX.out hl hz.1 hz.2).mono ?_
  rintro e w1 ⟨v1, rfl, hf⟩
  have HF := Lib.hid hf
  clear hf
  go_wp2
  go_ret
  exact ⟨_, rfl, HF.out⟩
end Go.Proofs.YtlfomhdphbchpaaGreatDoor.Pack

/-! the document's own numbers written -/
namespace Go.Proofs.YtlfomhdphbchpaaGreatDoor.Pack
open Go.RowKit Go.Deep
set_option linter.unusedVariables false
end Go.Proofs.YtlfomhdphbchpaaGreatDoor.Pack

/-! passbook/passbookref01.SameBytes: are two lists alike? -/
namespace Go.Proofs.YtlfomhdphbchpaaGreatDoor.SameBytes
open Go.RowKit Go.Deep
set_option linter.unusedVariables false
end Go.Proofs.YtlfomhdphbchpaaGreatDoor.SameBytes

/-! numbers read -/
namespace Go.Proofs.YtlfomhdphbchpaaGreatDoor.Pack
open Go.RowKit Go.Deep
set_option linter.unusedVariables false
/-- what ReadUint answers -/
def rdU (xs : List Int) : Int × Int × Int := match dec xs with | some (n, k) => (n, k, 0) | none => (0, 0, 3)
theorem and127_nat : ∀ a : Fin 256, (a.1 &&& 127) = a.1 % 128 := by decide +kernel
theorem and127 (a : Int) (h0 : 0 ≤ a) (h1 : a < 256) : bits .and .u8 a 127 = a % 128 := by
  rw [u8_and a 127 h0 h1 (by omega) (by omega)]
  have := and127_nat ⟨a.toNat, by omega⟩
  simp only [] at this
  simp only [show (127 : Int).toNat = 127 from rfl]
  rw [this]; omega
theorem orsh (m c : Int) (j : Nat) (h0 : 0 ≤ m) (h1 : m < 2 ^ j) (h2 : 0 ≤ c) (h3 : m + c * 2 ^ j < 18446744073709551616) : bits .or .u64 m (IntKind.u64.wrap (c * 2 ^ j)) = m + c * 2 ^ j := by
  have hp : (0 : Int) < 2 ^ j := Int.pow_pos (by omega)
  have hc : 0 ≤ c * 2 ^ j := Int.mul_nonneg h2 (by omega)
  have hw : IntKind.u64.wrap (c * 2 ^ j) = c * 2 ^ j := by rw [IntKind.wrap_u64]; omega
  rw [hw, u64_or _ _ h0 (by omega) hc (by omega)]
  obtain ⟨c', rfl⟩ := Int.eq_ofNat_of_zero_le h2
  obtain ⟨m', rfl⟩ := Int.eq_ofNat_of_zero_le h0
  have e : ((c' : Int) * 2 ^ j).toNat = 2 ^ j * c' := by
    have : (c' : Int) * 2 ^ j = ((2 ^ j * c' : Nat) : Int) := by push_cast; exact Int.mul_comm _ _
    rw [this, Int.toNat_natCast]
  have hm : m' < 2 ^ j := by exact_mod_cast h1
  rw [e, Int.toNat_natCast, Nat.or_comm, ← Nat.two_pow_add_eq_or_of_lt hm]
  push_cast
  rw [Int.mul_comm (c' : Int)]; omega
theorem orsh' (m c : Int) (j : Nat) (h0 : 0 ≤ m) (h1 : m < 2 ^ j) (h2 : 0 ≤ c) (h3 : m + c * 2 ^ j < 18446744073709551616) : bits .or .u64 m (c * 2 ^ j) = m + c * 2 ^ j := by
  have hp : (0 : Int) < 2 ^ j := Int.pow_pos (by omega)
  have hc : 0 ≤ c * 2 ^ j := Int.mul_nonneg h2 (by omega)
  have hw : IntKind.u64.wrap (c * 2 ^ j) = c * 2 ^ j := by rw [IntKind.wrap_u64]; omega
  have := orsh m c j h0 h1 h2 h3
  rwa [hw] at this
/-- the next number is as small as its bytes allow -/
theorem next_lt (m c : Int) (k : Nat) (hm : m < 2 ^ (7 * k)) (hc : c ≤ 127) : m + c * 2 ^ (7 * k) < 2 ^ (7 * (k + 1)) := by
  rw [show 7 * (k + 1) = 7 * k + 7 from by omega, Int.pow_add]
  have hp : (0 : Int) < 2 ^ (7 * k) := Int.pow_pos (by omega)
  generalize (2 : Int) ^ (7 * k) = z at *
  have : c * z ≤ 127 * z := Int.mul_le_mul_of_nonneg_right hc (by omega)
  omega
theorem pow_le (k : Nat) (h : k < 9) : (2 : Int) ^ (7 * (k + 1)) ≤ 9223372036854775808 := by
  have h9 : k = 0 ∨ k = 1 ∨ k = 2 ∨ k = 3 ∨ k = 4 ∨ k = 5 ∨ k = 6 ∨ k = 7 ∨ k = 8 := by omega
  rcases h9 with rfl | rfl | rfl | rfl | rfl | rfl | rfl | rfl | rfl <;> decide
theorem dec_step (xs : List Int) (k : Nat) (m pl : Int) (hk : k < 10) (hl : k < xs.length) : decF (10 - k) (xs.drop k) m pl k =
    if 9 - k = 0 ∧ 1 < rd xs k then none else if rd xs k < 128 then (if rd xs k = 0 ∧ 0 < k then none else some (m + rd xs k * pl, k + 1))
    else decF (10 - (k + 1)) (xs.drop (k + 1)) (m + (rd xs k % 128) * pl) (pl * 128) (k + 1) := by
  rw [List.drop_eq_getElem_cons hl, show 10 - k = (9 - k) + 1 from by omega, rd_get hl]
  simp only [decF]
  rw [show 10 - (k + 1) = 9 - k from by omega]
theorem rdU_none {xs : List Int} (h : dec xs = none) : rdU xs = (0, 0, 3) := by simp [rdU, h]
theorem rdU_some {xs : List Int} {n : Int} {k : Nat} (h : dec xs = some (n, k)) : rdU xs = (n, (k : Int), 0) := by simp [rdU, h]
theorem ret3 {a b c a' b' c' : Int} (h : (a, b, c) = (a', b', c')) : Ending.returned (.tuple #[.int .u64 a', .int .i64 b', .int .i64 c']) = .returned (.tuple #[.int .u64 a, .int .i64 b, .int .i64 c]) := by
  simp only [Prod.mk.injEq] at h
  rw [h.1, h.2.1, h.2.2]
set_option maxRecDepth 100000 in
set_option maxHeartbeats 1000000 in
theorem readuint_ok (P : Option Addr) (c B : Nat) (xs : List Int) (w : World) (hx : RI w B .u8 P xs) (hl : xs.length ≤ 9223372036854775807) (hb : Byt xs) :
    Calls Tryz.prog 117 #[.slice P xs.length c] w fun e w' => e = .returned (.tuple #[.int .u64 (rdU xs).1, .int .i64 (rdU xs).2.1, .int .i64 (rdU xs).2.2]) ∧ w' = w := by
  have HX := Lib.hid hx
  have HB := Lib.hid hb
  clear hx hb
  go_enter Tryz.func117, Tryz.ntmps117
  go_wp2
  go_loop [5, 6] (fun n i => ∃ (k : Nat) (m : Int), i = .int .i64 k ∧ n = .int .u64 m ∧ k ≤ 10 ∧ k ≤ xs.length ∧ 0 ≤ m ∧ Hid (m < 2 ^ (7 * k)) ∧ Hid (decF (10 - k) (xs.drop k) m (2 ^ (7 * k)) k = dec xs)) (fun _ i => 10 - (intOf i).toNat)
  case atStart => exact ⟨0, 0, rfl, rfl, by omega, by omega, by omega, Lib.hid (by simp), Lib.hid (by simp [dec])⟩
  case round =>
    obtain ⟨k, m, rfl, rfl, hk, hkl, hm0, HM, HD⟩ := hrel
    by_cases hlt : k < xs.length
    · by_cases hk10 : k < 10
      · obtain ⟨ad, rfl, _, hca⟩ := HX.out.one hlt
        have hby : 0 ≤ rd xs k ∧ rd xs k ≤ 255 := by rw [rd_get hlt]; exact HB.out _ (List.getElem_mem hlt)
        obtain ⟨hb0, hb1⟩ := hby
        generalize hb : rd xs k = b at *
        have hand := and127 b hb0 (by omega)
        have hst := dec_step xs k m (2 ^ (7 * k)) hk10 hlt
        rw [hb, HD.out] at hst
        have HST := Lib.hid hst
        clear hst hb
        go_wp2
        · -- the tenth byte is too great
          go_ret3
          refine ⟨ret3 ?_, rfl⟩
          rw [rdU_none]
          rw [HST.out, if_pos (by omega)]
        · go_ret3
          refine ⟨ret3 ?_, rfl⟩
          rw [rdU_none]
          rw [HST.out, if_neg (by omega), if_pos (by omega), if_pos (by omega)]
        · go_ret3
          refine ⟨ret3 ?_, rfl⟩
          have hk9 : k = 9 := by omega
          subst hk9
          have hm := HM.out
          rw [rdU_some (by rw [HST.out, if_neg (by omega), if_pos (by omega), if_neg (by omega)])]
          have e : bits .or .u64 m (b % 128 * 9223372036854775808) = m + b * 9223372036854775808 := by
            have := orsh' m (b % 128) 63 hm0 (by simpa using hm) (by omega) (by simp at hm; omega)
            rw [show b % 128 = b from by omega] at this ⊢
            exact this
          rw [e]; rfl
        · go_ret3
          refine ⟨ret3 ?_, rfl⟩
          rw [rdU_none]
          rw [HST.out, if_neg (by omega), if_pos (by omega), if_pos (by omega)]
        · go_ret3
          refine ⟨ret3 ?_, rfl⟩
          have hk0 : k = 0 := by omega
          have hb00 : b = 0 := by omega
          subst hk0
          subst hb00
          have hm := HM.out
          have hm00 : m = 0 := by simp at hm; omega
          subst hm00
          rw [rdU_some (by rw [HST.out, if_neg (by omega), if_pos (by omega), if_neg (by omega)])]
          decide +kernel
        · go_ret3
          refine ⟨ret3 ?_, rfl⟩
          rw [rdU_some (by rw [HST.out, if_neg (by omega), if_pos (by omega), if_neg (by omega)])]
          have h1 := next_lt m (b % 128) k HM.out (by omega)
          have h2 := pow_le k (by omega)
          have e := orsh m (b % 128) (7 * k) hm0 HM.out (by omega) (by omega)
          have e2 : b % 128 = b := by omega
          rw [e2] at e
          rw [e2, e]
          simp
        · go_round
          case rel =>
            have h1 := next_lt m (b % 128) k HM.out (by omega)
            have h2 := pow_le k (by omega)
            have e := orsh m (b % 128) (7 * k) hm0 HM.out (by omega) (by omega)
            have hp : (0 : Int) < 2 ^ (7 * k) := Int.pow_pos (by omega)
            have hc : 0 ≤ b % 128 * 2 ^ (7 * k) := Int.mul_nonneg (by omega) (by omega)
            refine ⟨k + 1, m + b % 128 * 2 ^ (7 * k), by go_num, by rw [e], by omega, by omega, by omega, Lib.hid h1, Lib.hid ?_⟩
            rw [HST.out, if_neg (by omega), if_neg (by omega)]
            rw [show (2 : Int) ^ (7 * (k + 1)) = 2 ^ (7 * k) * 128 from by rw [show 7 * (k + 1) = 7 * k + 7 from by omega, Int.pow_add]; rfl]
          case measure => simp [intOf]; omega
      · go_wp2
        go_ret3
        refine ⟨ret3 ?_, rfl⟩
        rw [rdU_none]
        have : k = 10 := by omega
        subst this
        rw [← HD.out]; rfl
    · go_wp2
      go_ret3
      refine ⟨ret3 ?_, rfl⟩
      rw [rdU_none]
      rw [← HD.out, List.drop_eq_nil_of_le (by omega)]
      cases h : 10 - k with
      | zero => rfl
      | succ n => rfl
end Go.Proofs.YtlfomhdphbchpaaGreatDoor.Pack

/-! the document's own reading -/
namespace Go.Proofs.YtlfomhdphbchpaaGreatDoor.Pack
open Go.RowKit Go.Deep
set_option linter.unusedVariables false
/-- the number of some digits, the lowest first -/
def val : List Int → Int
  | [] => 0
  | b :: r => b % 128 + 128 * val r
theorem val_snoc : ∀ (l : List Int) (b : Int), val (l ++ [b]) = val l + b % 128 * 128 ^ l.length
  | [], b => by simp [val]
  | a :: l, b => by
    simp only [List.cons_append, val, val_snoc l b, List.length_cons, Int.pow_succ]
    rw [Int.mul_add, ← Int.mul_assoc 128, Int.mul_comm 128 (b % 128), Int.mul_assoc (b % 128), Int.mul_comm 128 (128 ^ l.length)]
    omega
theorem val_encF : ∀ (f : Nat) (n : Int), 0 ≤ n → n < 128 ^ f → val (encF f n) = n
  | 0, n, h0, h1 => by simp at h1; simp [encF, val]; omega
  | f + 1, n, h0, h1 => by
    unfold encF
    rw [Int.pow_succ] at h1
    generalize hz : (128 : Int) ^ f = z at *
    split
    · simp only [val]; omega
    · simp only [val]
      rw [val_encF f (n / 128) (by omega) (by rw [hz]; omega)]
      omega
theorem val_enc (n : Int) (h0 : 0 ≤ n) (h1 : n < 18446744073709551616) : val (enc n) = n := val_encF 10 n h0 (by omega)
/-- all but the last of a number's bytes are from 128 on, the last is below -/
theorem encF_shape : ∀ (f : Nat) (n : Int), 0 ≤ n → n < 128 ^ f → 1 ≤ f → (∀ j, j + 1 < (encF f n).length → 128 ≤ rd (encF f n) j) ∧ rd (encF f n) ((encF f n).length - 1) < 128
  | 0, _, _, _, h => absurd h (by omega)
  | f + 1, n, h0, h1, _ => by
    unfold encF
    rw [Int.pow_succ] at h1
    split
    · rename_i h
      exact ⟨fun j hj => by simp at hj, by simpa [rd] using h⟩
    · rename_i h
      have hf : 1 ≤ f := by
        rcases Nat.eq_zero_or_pos f with rfl | hp
        · simp at h1; omega
        · exact hp
      generalize hz : (128 : Int) ^ f = z at *
      obtain ⟨h2, h3⟩ := encF_shape f (n / 128) (by omega) (by rw [hz]; omega) hf
      have hpos : 1 ≤ (encF f (n / 128)).length := by
        obtain ⟨g, rfl⟩ : ∃ g, f = g + 1 := ⟨f - 1, by omega⟩
        unfold encF; split <;> simp
      refine ⟨fun j hj => ?_, ?_⟩
      · cases j with
        | zero => simp [rd]; omega
        | succ j => exact h2 j (by simpa using hj)
      · obtain ⟨m, hm⟩ : ∃ m, (encF f (n / 128)).length = m + 1 := ⟨_, (Nat.sub_add_cancel hpos).symm⟩
        rw [hm] at h3
        simp only [List.length_cons, hm]
        simpa [rd] using h3
theorem enc_shape (n : Int) (h0 : 0 ≤ n) (h1 : n < 18446744073709551616) : (∀ j, j + 1 < (enc n).length → 128 ≤ rd (enc n) j) ∧ rd (enc n) ((enc n).length - 1) < 128 :=
  encF_shape 10 n h0 (by omega) (by omega)
theorem rd_append_left {xs ys : List Int} {j : Nat} (h : j < xs.length) : rd (xs ++ ys) j = rd xs j := by
  rw [rd_get h, rd_get (by simp; omega), List.getElem_append_left h]
/-- where the first byte below 128 stands at k, what is read is the digits' number, if that has just these bytes -/
theorem doc_hit {xs : List Int} {k : Nat} (hb : Byt xs) (hk : k < xs.length) (hpre : ∀ j, j < k → 128 ≤ rd xs j) (hlast : rd xs k < 128) (hk10 : k < 10) :
    dec xs = if xs.take (enc (val (xs.take (k + 1)) % 18446744073709551616)).length = enc (val (xs.take (k + 1)) % 18446744073709551616) ∧ (enc (val (xs.take (k + 1)) % 18446744073709551616)).length = k + 1
      then some (val (xs.take (k + 1)) % 18446744073709551616, k + 1) else none := by
  generalize hn : val (xs.take (k + 1)) % 18446744073709551616 = n
  have hn0 : 0 ≤ n ∧ n < 18446744073709551616 := by omega
  split
  · rename_i h
    have e : xs = enc n ++ xs.drop (k + 1) := by
      rw [← h.1, h.2, List.take_append_drop]
    rw [e, dec_enc n _ hn0.1 hn0.2, h.2]
  · rename_i h
    cases hd : dec xs with
    | none => rfl
    | some r =>
      obtain ⟨m, j⟩ := r
      obtain ⟨m0, m1, rfl, r, hr⟩ := dec_some hb hd
      exfalso
      apply h
      obtain ⟨s1, s2⟩ := enc_shape m m0 m1
      have hp := enc_pos m
      have hlen : (enc m).length = k + 1 := by
        rcases Nat.lt_trichotomy ((enc m).length - 1) k with hlt | heq | hgt
        · have := hpre _ hlt
          rw [hr, rd_append_left (by omega)] at this
          omega
        · omega
        · have := s1 k (by omega)
          rw [hr, rd_append_left (by omega)] at hlast
          omega
      have ht : xs.take (k + 1) = enc m := by rw [hr, ← hlen, List.take_left']; rfl
      have hm : n = m := by
        rw [← hn, ht, val_enc m m0 m1]; omega
      subst hm
      exact ⟨by rw [hlen, ht], hlen⟩
/-- no byte below 128 among the first ten -/
theorem doc_miss {xs : List Int} {k : Nat} (hb : Byt xs) (hk : k = xs.length ∨ k = 10) (hpre : ∀ j, j < k → 128 ≤ rd xs j) : dec xs = none := by
  cases hd : dec xs with
  | none => rfl
  | some r =>
    obtain ⟨m, j⟩ := r
    obtain ⟨m0, m1, rfl, r, hr⟩ := dec_some hb hd
    exfalso
    obtain ⟨s1, s2⟩ := enc_shape m m0 m1
    have hp := enc_pos m
    have hle := enc_len m
    have hxl : (enc m).length ≤ xs.length := by rw [hr]; simp
    have := hpre ((enc m).length - 1) (by omega)
    rw [hr, rd_append_left (by omega)] at this
    omega
theorem doc_wrap (a c p : Int) : IntKind.u64.wrap (a % 18446744073709551616 + IntKind.u64.wrap (c * (p % 18446744073709551616))) = (a + c * p) % 18446744073709551616 := by
  simp only [IntKind.wrap_u64]
  rw [Int.mul_emod, Int.emod_emod_of_dvd _ (Int.dvd_refl _), ← Int.mul_emod, ← Int.add_emod]
theorem doc_place (p : Int) : IntKind.u64.wrap (p % 18446744073709551616 * 128) = (p * 128) % 18446744073709551616 := by
  simp only [IntKind.wrap_u64]
  rw [Int.mul_emod, Int.emod_emod_of_dvd _ (Int.dvd_refl _), ← Int.mul_emod]
end Go.Proofs.YtlfomhdphbchpaaGreatDoor.Pack
