import Derived.Test.YtlgedggjpnmhmaaPackG
import Derived.Test.YtlgedggjpnmhmaaSpare
/-! the document's examples of layer 7 -/
namespace Go.Proofs.Ytlgedggjpnmhmaa.Pack
open Go.RowKit Go.Deep
set_option linter.unusedVariables false
theorem e300 : enc 300 = [172, 2] := by decide +kernel
theorem em1 : enc (zig (-1)) = [1] := by decide +kernel
theorem d300 : rdU [172, 2, 9] = (300, 2, 0) := by decide +kernel
set_option maxRecDepth 100000 in
set_option maxHeartbeats 2000000 in
theorem awake_ok (w : World) : Calls Try.prog 8 #[] w fun e w' => e = .returned (.bool true) ∧ Below w.heap.size w w' := by
  go_enter Try.func8, Try.ntmps8
  go_wp2_with fail
  have H1 := readuint_ok (some ⟨w.heap.size, 0, none⟩) 3 (w.heap.size + 1) [172, 2, 9] (w.alloc (.cells #[.int .u8 172, .int .u8 2, .int .u8 9] 5)) ((RI.of_lit (t := 5) (cs := #[.int .u8 172, .int .u8 2, .int .u8 9]) (b := w.heap.size) (heap_alloc_new _ _) rfl).more (by simp)) (by simp) (by intro n hn; simp at hn; omega)
  rw [d300] at H1
  refine H1.mono ?_
  rintro e w1 ⟨rfl, rfl⟩
  clear H1
  go_wp2_with fail
  have H2 := uint_ok none 0 [] 300 (w.alloc (.cells #[.int .u8 172, .int .u8 2, .int .u8 9] 5)) RI.nil (by simp) (by omega) (by omega)
  rw [e300] at H2
  refine H2.mono ?_
  rintro e w1 ⟨v1, rfl, hown, hb1⟩
  obtain ⟨A1, c1, rfl⟩ := own_slice hown
  have hr1 := (RI.of_own hown).2
  have HR1 := Lib.hid hr1
  have s1 := hb1.size
  clear H2 hr1 hown
  go_wp2_with fail
  refine (SameBytes.any (w1.heap.size + 1) _ _ _ _ [172, 2] [172, 2] _ ((HR1.out.alloc (Nat.le_refl _) _).more (by omega)) ((RI.of_lit (t := 5) (cs := #[.int .u8 172, .int .u8 2]) (b := w1.heap.size) (heap_alloc_new _ _) rfl).more (by simp)) (by simp) (by simp)).mono ?_
  rintro e w2 ⟨rfl, q, rfl⟩
  go_wp2_with fail
  have hb0 : Below w.heap.size w (w.alloc (.cells #[.int .u8 172, .int .u8 2, .int .u8 9] 5)) := (Below.refl _ _).alloc (Nat.le_refl _) _
  have hb2 : Below w.heap.size w ((w1.alloc (.cells #[.int .u8 172, .int .u8 2] 5)).drewN q) := below_drewN ((below_then' hb0 hb1).alloc (by simp at s1; omega) _) q
  generalize ((w1.alloc (.cells #[.int .u8 172, .int .u8 2] 5)).drewN q) = W at *
  clear HR1 s1
  have H2 := int_ok none 0 [] (-1) W RI.nil (by simp) (by omega) (by omega)
  rw [em1] at H2
  refine H2.mono ?_
  rintro e w3 ⟨v3, rfl, hown, hb3⟩
  obtain ⟨A3, c3, rfl⟩ := own_slice hown
  have hr3 := (RI.of_own hown).2
  have HR3 := Lib.hid hr3
  have s3 := hb3.size
  clear H2 hr3 hown
  go_wp2_with fail
  refine (SameBytes.any (w3.heap.size + 1) _ _ _ _ [1] [1] _ ((HR3.out.alloc (Nat.le_refl _) _).more (by omega)) ((RI.of_lit (t := 5) (cs := #[.int .u8 1]) (b := w3.heap.size) (heap_alloc_new _ _) rfl).more (by simp)) (by simp) (by simp)).mono ?_
  rintro e w2 ⟨rfl, q, rfl⟩
  go_wp2
  go_ret
  exact ⟨rfl, below_drewN ((below_then' hb2 hb3).alloc (by have := hb2.size; omega) _) q⟩
end Go.Proofs.Ytlgedggjpnmhmaa.Pack
