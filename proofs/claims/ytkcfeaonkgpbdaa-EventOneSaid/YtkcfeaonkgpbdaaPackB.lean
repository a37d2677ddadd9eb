import Derived.Test.YtkcfeaonkgpbdaaPackA
/-! the document's own numbers written -/
namespace Go.Proofs.Ytkcfeaonkgpbdaa.Pack
open Go.RowKit Go.Deep
set_option linter.unusedVariables false
set_option maxHeartbeats 1000000 in
theorem refuint_ok (n : Int) (w : World) (h0 : 0 ≤ n) (h1 : n < 18446744073709551616) :
    Calls Try.prog 33 #[.int .u64 n] w fun e w' => ∃ v, e = .returned v ∧ Fresh w w' v (enc n) := by
  have hbig : n < 2 ^ (7 * 10) := by omega
  have hn1 : n ≤ 18446744073709551615 := by omega
  clear h1
  have HN := Lib.hid hbig
  clear hbig
  go_enter Try.func33, Try.ntmps33
  go_wp2
  go_loopw [0, 3] (fun m v wr => ∃ (f : Nat) (m' : Int) (done : List Int), m = .int .u64 m' ∧ 0 ≤ m' ∧ m' ≤ 18446744073709551615 ∧ Hid (m' < 2 ^ (7 * f)) ∧ 1 ≤ f ∧ f ≤ 10 ∧ Hid (done ++ encF f m' = enc n) ∧ done.length + f ≤ 10 ∧
      wr.ownsRow w.heap.size 5 1 v done.length (nums .u8 done) ∧ Below w.heap.size w wr) (fun m _ _ => (intOf m).toNat)
  case atStart => exact ⟨10, n, [], rfl, h0, hn1, HN, by omega, Nat.le_refl _, Lib.hid rfl, by simp, own_nil _ _ _ _, Below.refl _ _⟩
  case round =>
    obtain ⟨f, m', done, rfl, g0, g1, HB, hf1, hf, HE, hd, hown', hb'⟩ := hrel
    have s' := hb'.size
    have hlen : done.length + 1 ≤ 140737488355328 := by omega
    by_cases hm : 128 ≤ m'
    · go_wp2_with (at_builtin; refine wpList_app1 wr rfl (.tmp 6) (.tmp 11) _ rfl w.heap.size 5 .u8 1 Try.underlying29 info5 (by omega) _ done hown' rfl (128 + m' % 128) rfl (by simpa using hlen) s' ?_; intro v2 w2 hown2 hg2 hat2)
      go_roundw
      case rel =>
        obtain ⟨g, rfl⟩ : ∃ g, f = g + 2 := by
          refine ⟨f - 2, ?_⟩
          have : f ≠ 1 := by
            rintro rfl
            have := HB.out
            omega
          omega
        refine ⟨g + 1, m' / 128, done ++ [128 + m' % 128], rfl, by omega, by omega, Lib.hid ?_, by omega, by omega, Lib.hid ?_, by simp; omega, by simpa using hown2, below_own hb' hg2 hown' (Nat.le_refl _) s'⟩
        · have := HB.out
          rw [show 7 * (g + 2) = 7 * (g + 1) + 7 from by omega, Int.pow_add] at this
          generalize (2 : Int) ^ (7 * (g + 1)) = z at *
          omega
        · have h := HE.out
          rw [encF, if_neg (by omega)] at h
          simpa using h
      case measure => simp [intOf]; omega
    · go_wp2_with (at_builtin; refine wpList_app1 wr rfl (.tmp 15) (.tmp 18) _ rfl w.heap.size 5 .u8 1 Try.underlying29 info5 (by omega) _ done hown' rfl m' rfl (by simpa using hlen) s' ?_; intro v2 w2 hown2 hg2 hat2)
      go_ret
      have he : done ++ [m'] = enc n := by
        obtain ⟨g, rfl⟩ : ∃ g, f = g + 1 := ⟨f - 1, by omega⟩
        have h := HE.out
        rw [encF, if_pos (by omega)] at h
        rw [← h]
      exact ⟨_, rfl, by rw [← he]; exact hown2, below_own hb' hg2 hown' (Nat.le_refl _) s'⟩
set_option maxHeartbeats 1000000 in
theorem refint_ok (n : Int) (w : World) (h0 : -9223372036854775808 ≤ n) (h1 : n ≤ 9223372036854775807) :
    Calls Try.prog 34 #[.int .i64 n] w fun e w' => ∃ v, e = .returned v ∧ Fresh w w' v (enc (zig n)) := by
  have hz := zig_range n h0 h1
  by_cases hn : n < 0
  · go_enter Try.func34, Try.ntmps34
    go_wp2_with fail
    rw [show 2 * -(n + 1) + 1 = zig n from by unfold zig; rw [if_pos hn]; omega]
    refine (refuint_ok (zig n) _ hz.1 hz.2).mono ?_
    rintro e w1 ⟨v1, rfl, hf⟩
    have HF := Lib.hid hf
    clear hf
    go_wp2
    go_ret
    exact ⟨_, rfl, HF.out⟩
  · go_enter Try.func34, Try.ntmps34
    go_wp2_with fail
    rw [show 2 * n = zig n from by unfold zig; rw [if_neg (by omega)]]
    refine (refuint_ok (zig n) _ hz.1 hz.2).mono ?_
    rintro e w1 ⟨v1, rfl, hf⟩
    have HF := Lib.hid hf
    clear hf
    go_wp2
    go_ret
    exact ⟨_, rfl, HF.out⟩
end Go.Proofs.Ytkcfeaonkgpbdaa.Pack
