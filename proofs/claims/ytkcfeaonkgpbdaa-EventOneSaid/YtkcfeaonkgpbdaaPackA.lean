import Derived.Test.YtkcfeaonkgpbdaaLib
import Derived.Test.YtkcfeaonkgpbdaaVarint
import Derived.Laws.BitsAllLaws
import Derived.Lib.Builder
/-! copies, and numbers written -/
namespace Go.Proofs.Ytkcfeaonkgpbdaa.Pack
open Go.RowKit Go.Deep
set_option linter.unusedVariables false
theorem info5 : (Try.prog.info? 5).map (fun i => (i.zero, i.size, i.bytes)) = some (some (.int .u8 0), 1, 1) := by kernel_rfl
theorem or128_nat : ∀ a : Fin 256, (a.1 ||| 128) = 128 + a.1 % 128 := by decide +kernel
theorem or128 (a : Int) (h0 : 0 ≤ a) (h1 : a < 256) : bits .or .u8 a 128 = 128 + a % 128 := by
  rw [u8_or a 128 h0 h1 (by omega) (by omega)]
  have := or128_nat ⟨a.toNat, by omega⟩
  simp only [] at this
  simp only [show (128 : Int).toNat = 128 from rfl]
  rw [this]; omega
theorem xor_all (x : Nat) (h : x < 18446744073709551616) : x ^^^ 18446744073709551615 = 18446744073709551615 - x := by
  have h1 : (BitVec.ofNat 64 x ^^^ BitVec.allOnes 64).toNat = (~~~ BitVec.ofNat 64 x).toNat := by rw [BitVec.xor_allOnes]
  rw [BitVec.toNat_xor, BitVec.toNat_not, BitVec.toNat_ofNat, Nat.mod_eq_of_lt (by omega)] at h1
  simpa using h1
/-- 'uint64(n)<<1 ^ uint64(n>>63)' -/
theorem zig_bits (n : Int) (h0 : -9223372036854775808 ≤ n) (h1 : n ≤ 9223372036854775807) :
    bits .xor .u64 (IntKind.u64.wrap (IntKind.u64.wrap n * 2)) (IntKind.u64.wrap (n / 9223372036854775808)) = zig n := by
  simp only [IntKind.wrap_u64]
  rw [u64_xor _ _ (by omega) (by omega) (by omega) (by omega)]
  unfold zig
  split
  · have e1 : (n / 9223372036854775808 % 18446744073709551616).toNat = 18446744073709551615 := by omega
    rw [e1, xor_all _ (by omega)]
    omega
  · have e1 : (n / 9223372036854775808 % 18446744073709551616).toNat = 0 := by omega
    rw [e1, Nat.xor_zero]
    omega
/-- what a copy is: new memory with the same bytes -/
def Fresh (w w' : World) (v : Value) (xs : List Int) : Prop := w'.ownsRow w.heap.size 5 1 v xs.length (nums .u8 xs) ∧ Below w.heap.size w w'
theorem nil_eql (w : World) (a : Option Addr) (n c n' c' : Nat) : (binOp .eql 29 (.slice a n c) (.slice none n' c')).run Try.prog w = .ok (.bool a.isNone) w := Lib.run_eql_slice_nil w _ _ a n c n' c' Try.underlying29
set_option maxHeartbeats 1000000 in
theorem clone_ok (P : Option Addr) (c : Nat) (xs : List Int) (w : World) (hx : RI w w.heap.size .u8 P xs) (hl : xs.length ≤ 140737488355328) :
    Calls Try.prog 32 #[.slice P xs.length c] w fun e w' => ∃ v, e = .returned v ∧ Fresh w w' v xs := by
  obtain ⟨i0, hi, hz0, hz1, hz2⟩ := info_parts info5
  have hq := nil_eql
  cases P with
  | none =>
    have hx0 : xs = [] := by
      rcases Nat.eq_zero_or_pos xs.length with h | h
      · exact List.eq_nil_of_length_eq_zero h
      · obtain ⟨ad, h1, _⟩ := hx.one h; cases h1
    subst hx0
    go_enter Try.func32, Try.ntmps32
    go_wp2
    go_ret
    exact ⟨_, rfl, own_nil _ _ _ _, Below.refl _ _⟩
  | some ad =>
    have HX := Lib.hid hx
    clear hx
    go_enter Try.func32, Try.ntmps32
    go_wp2_with (at_builtin; refine wpList_app _ rfl (.tmp 5) (.tmp 6) _ rfl w.heap.size 5 .u8 1 Try.underlying29 info5 (by omega) (.slice (some ⟨w.heap.size, 0, none⟩) 0 0) [] (World.ownsRow_made w #[] 0 (Nat.le_refl _) (by simp [maxLen]) rfl) rfl w.heap.size (some ad) c xs rfl (HX.out.alloc (Nat.le_refl _) _) (by simpa using hl) (by simp) ?_; intro v1 w1 hown1 hg1 hat1)
    go_ret
    exact ⟨_, rfl, by simpa using hown1, below_own ((Below.refl _ _).alloc (Nat.le_refl _) _) hg1 (World.ownsRow_made w #[] 0 (e := 5) (size := 1) (Nat.le_refl _) (by simp [maxLen]) rfl) (Nat.le_refl _) (by simp)⟩
set_option maxHeartbeats 1000000 in
theorem uint_ok (P : Option Addr) (c : Nat) (xs : List Int) (n : Int) (w : World) (hx : RI w w.heap.size .u8 P xs) (hl : xs.length + 10 ≤ 140737488355328) (h0 : 0 ≤ n) (h1 : n < 18446744073709551616) :
    Calls Try.prog 23 #[.slice P xs.length c, .int .u64 n] w fun e w' => ∃ v, e = .returned v ∧ Fresh w w' v (xs ++ enc n) := by
  have hbig : n < 2 ^ (7 * 10) := by omega
  have hn1 : n ≤ 18446744073709551615 := by omega
  clear h1
  go_enter Try.func23, Try.ntmps23
  go_wp2_with fail
  refine (clone_ok P c xs _ hx (by omega)).mono ?_
  rintro e w1 ⟨v1, rfl, hown, hb⟩
  have HN := Lib.hid hbig
  clear hbig hx
  go_wp2
  go_loopw [1, 5] (fun m v wr => ∃ (f : Nat) (m' : Int) (done : List Int), m = .int .u64 m' ∧ 0 ≤ m' ∧ m' ≤ 18446744073709551615 ∧ Hid (m' < 2 ^ (7 * f)) ∧ 1 ≤ f ∧ f ≤ 10 ∧ Hid (done ++ encF f m' = enc n) ∧ done.length + f ≤ 10 ∧
      wr.ownsRow w.heap.size 5 1 v (xs ++ done).length (nums .u8 (xs ++ done)) ∧ Below w.heap.size w wr) (fun m _ _ => (intOf m).toNat)
  case atStart => exact ⟨10, n, [], rfl, h0, hn1, HN, by omega, Nat.le_refl _, Lib.hid rfl, by simp, by simpa using hown, hb⟩
  case round =>
    obtain ⟨f, m', done, rfl, g0, g1, HB, hf1, hf, HE, hd, hown', hb'⟩ := hrel
    have s' := hb'.size
    have hlen : (xs ++ done).length + 1 ≤ 140737488355328 := by simp; omega
    by_cases hm : 128 ≤ m'
    · have hor : bits .or .u8 (m' % 256) 128 = 128 + m' % 128 := by rw [or128 (m' % 256) (by omega) (by omega)]; omega
      go_wp2_with (at_builtin; refine wpList_app1 wr rfl (.tmp 12) (.tmp 16) _ rfl w.heap.size 5 .u8 1 Try.underlying29 info5 (by omega) _ (xs ++ done) hown' rfl (128 + m' % 128) rfl (by simpa using hlen) s' ?_; intro v2 w2 hown2 hg2 hat2)
      go_roundw
      case rel =>
        obtain ⟨g, rfl⟩ : ∃ g, f = g + 2 := by
          refine ⟨f - 2, ?_⟩
          have : f ≠ 1 := by
            rintro rfl
            have := HB.out
            omega
          omega
        refine ⟨g + 1, m' / 128, done ++ [128 + m' % 128], rfl, by omega, by omega, Lib.hid ?_, by omega, by omega, Lib.hid ?_, by simp; omega, by simpa using hown2, below_own hb' hg2 hown' (Nat.le_refl _) s'⟩
        · have := HB.out
          rw [show 7 * (g + 2) = 7 * (g + 1) + 7 from by omega, Int.pow_add] at this
          generalize (2 : Int) ^ (7 * (g + 1)) = z at *
          omega
        · have h := HE.out
          rw [encF, if_neg (by omega)] at h
          simpa using h
      case measure => simp [intOf]; omega
    · go_wp2_with (at_builtin; refine wpList_app1 wr rfl (.tmp 18) (.tmp 21) _ rfl w.heap.size 5 .u8 1 Try.underlying29 info5 (by omega) _ (xs ++ done) hown' rfl m' rfl (by simpa using hlen) s' ?_; intro v2 w2 hown2 hg2 hat2)
      go_ret
      have he : xs ++ done ++ [m'] = xs ++ enc n := by
        obtain ⟨g, rfl⟩ : ∃ g, f = g + 1 := ⟨f - 1, by omega⟩
        have h := HE.out
        rw [encF, if_pos (by omega)] at h
        rw [← h, List.append_assoc]
      exact ⟨_, rfl, by rw [← he]; exact hown2, below_own hb' hg2 hown' (Nat.le_refl _) s'⟩
set_option maxHeartbeats 1000000 in
theorem int_ok (P : Option Addr) (c : Nat) (xs : List Int) (n : Int) (w : World) (hx : RI w w.heap.size .u8 P xs) (hl : xs.length + 10 ≤ 140737488355328) (h0 : -9223372036854775808 ≤ n) (h1 : n ≤ 9223372036854775807) :
    Calls Try.prog 24 #[.slice P xs.length c, .int .i64 n] w fun e w' => ∃ v, e = .returned v ∧ Fresh w w' v (xs ++ enc (zig n)) := by
  have hz := zig_range n h0 h1
  have HX := Lib.hid hx
  clear hx
  go_enter Try.func24, Try.ntmps24
  go_wp2_with fail
  rw [zig_bits n h0 h1]
  refine (uint_ok P c xs (zig n) _ HX.out hl hz.1 hz.2).mono ?_
  rintro e w1 ⟨v1, rfl, hf⟩
  have HF := Lib.hid hf
  clear hf
  go_wp2
  go_ret
  exact ⟨_, rfl, HF.out⟩
set_option maxHeartbeats 1000000 in
theorem twin_ok (P : Option Addr) (c : Nat) (xs : List Int) (w : World) (hx : RI w w.heap.size .u8 P xs) (hl : xs.length ≤ 140737488355328) :
    Calls Try.prog 22 #[.slice P xs.length c] w fun e w' => ∃ v, e = .returned v ∧ Fresh w w' v xs := by
  have HX := Lib.hid hx
  clear hx
  go_enter Try.func22, Try.ntmps22
  go_wp2_with (at_builtin; refine wpList_app _ rfl (.tmp 3) (.tmp 4) _ rfl w.heap.size 5 .u8 1 Try.underlying29 info5 (by omega) (.slice (some ⟨w.heap.size, 0, none⟩) 0 0) [] (World.ownsRow_made w #[] 0 (Nat.le_refl _) (by simp [maxLen]) rfl) rfl w.heap.size P c xs rfl (HX.out.alloc (Nat.le_refl _) _) (by simpa using hl) (by simp) ?_; intro v1 w1 hown1 hg1 hat1)
  go_ret
  exact ⟨_, rfl, by simpa using hown1, below_own ((Below.refl _ _).alloc (Nat.le_refl _) _) hg1 (World.ownsRow_made w #[] 0 (e := 5) (size := 1) (Nat.le_refl _) (by simp [maxLen]) rfl) (Nat.le_refl _) (by simp)⟩
end Go.Proofs.Ytkcfeaonkgpbdaa.Pack
