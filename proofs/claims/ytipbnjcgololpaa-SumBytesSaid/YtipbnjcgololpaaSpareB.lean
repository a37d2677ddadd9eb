import Derived.Test.YtipbnjcgololpaaBytes
import Derived.Test.YtipbnjcgololpaaSameBytes
/-! a copy with marked room behind it -/
namespace Go.Proofs.Ytipbnjcgololpaa.Pack
open Go.RowKit Go.Deep
set_option linter.unusedVariables false
/-- what Spare makes: at block g, of the call's own, the bytes and the marks -/
def Spared (w w' : World) (g cap : Nat) (xs : List Int) : Prop :=
  w'.ownsRow w.heap.size 5 1 (.slice (some ⟨g, 0, none⟩) (xs.length + 3) cap) (xs.length + 3) (nums .u8 (xs ++ [165, 90, 165])) ∧ Below w.heap.size w w'
set_option maxHeartbeats 1000000 in
theorem spare_ok (P : Option Addr) (c : Nat) (xs : List Int) (w : World) (hx : RI w w.heap.size .u8 P xs) (hl : xs.length + 3 ≤ 140737488355328) :
    Calls Try.prog 12 #[.slice P xs.length c] w fun e w' => ∃ g cap, e = .returned (.tuple #[.slice (some ⟨g, 0, none⟩) xs.length cap, .slice (some ⟨g, 0, none⟩) (xs.length + 3) cap]) ∧ Spared w w' g cap xs := by
  have HX := Lib.hid hx
  clear hx
  go_enter Try.func12, Try.ntmps12
  go_wp2_with (first
    | (at_builtin
       refine wpList_app _ rfl (.tmp 5) (.tmp 6) _ rfl w.heap.size 5 .u8 1 Try.underlying27 info5 (by omega) (.slice (some ⟨w.heap.size, 0, none⟩) 0 0) [] (World.ownsRow_made w #[] 0 (Nat.le_refl _) (by simp [maxLen]) rfl) rfl w.heap.size P c xs rfl (HX.out.alloc (Nat.le_refl _) _) (by simp; omega) (by simp) ?_
       intro v1 w1 hown1 hg1 hat1
       have hb1 : Below w.heap.size w w1 := below_own ((Below.refl _ _).alloc (Nat.le_refl _) _) hg1 (World.ownsRow_made w #[] 0 (e := 5) (size := 1) (Nat.le_refl _) (by simp [maxLen]) rfl) (Nat.le_refl _) (by simp)
       have s1 := hb1.size
       simp only [List.nil_append] at hown1
       clear hat1 hg1)
    | (at_builtin
       refine wpList_app _ rfl (.tmp 7) (.tmp 8) _ rfl w.heap.size 5 .u8 1 Try.underlying27 info5 (by omega) v1 xs (hown1.alloc _) rfl (w1.heap.size + 1) (some ⟨w1.heap.size, 0, none⟩) 3 [165, 90, 165] rfl ((RI.of_lit (t := 5) (cs := #[.int .u8 165, .int .u8 90, .int .u8 165]) (b := w1.heap.size) (heap_alloc_new _ _) rfl).more (by simp)) (by simp; omega) (by simp; omega) ?_
       intro v2 w2 hown2 hg2 hat2
       have hb2 : Below w.heap.size w w2 := below_own (hb1.alloc s1 _) hg2 (hown1.alloc _) (Nat.le_refl _) (by simp; omega)
       obtain ⟨g, cap, rfl, hgw, hgl⟩ := hown2.form (by simp)
       have hcap : xs.length + 3 ≤ cap := by have := own_cap hown2; simpa using this
       clear hat2 hg2))
  go_ret2
  exact ⟨g, cap, rfl, by simpa using hown2, hb2⟩
/-- the bytes without the marks -/
theorem Spared.reads {w w' : World} {g cap : Nat} {xs : List Int} (h : Spared w w' g cap xs) : RI w' w'.heap.size .u8 (some ⟨g, 0, none⟩) xs := by
  have h1 := (RI.of_own h.1).2
  have := h1.take xs.length
  simpa using this
theorem Spared.all {w w' : World} {g cap : Nat} {xs : List Int} (h : Spared w w' g cap xs) : RI w' w'.heap.size .u8 (some ⟨g, 0, none⟩) (xs ++ [165, 90, 165]) := (RI.of_own h.1).2
theorem Spared.cap {w w' : World} {g cap : Nat} {xs : List Int} (h : Spared w w' g cap xs) : xs.length + 3 ≤ cap := own_cap h.1
set_option maxRecDepth 100000 in
set_option maxHeartbeats 2000000 in
theorem kept_ok (P S : Option Addr) (c d : Nat) (B : Nat) (xs : List Int) (w : World) (hx : RI w B .u8 P (xs ++ [165, 90, 165])) (hy : RI w B .u8 S xs) (hc : xs.length + 3 ≤ c) (hl : xs.length + 3 ≤ 140737488355328) :
    Calls Try.prog 18 #[.slice P (xs.length + 3) c, .slice S xs.length d] w fun e w' => e = .returned (.bool true) ∧ Drew w w' := by
  have e0 : rd (xs ++ [165, 90, 165]) xs.length = 165 := by simp [rd]
  have e1 : rd (xs ++ [165, 90, 165]) (xs.length + 1) = 90 := by simp [rd]
  have e2 : rd (xs ++ [165, 90, 165]) (xs.length + 2) = 165 := by simp [rd]
  obtain ⟨ad, rfl, _, c0⟩ := hx.one (j := xs.length) (by simp)
  obtain ⟨ad', h', _, c1⟩ := hx.one (j := xs.length + 1) (by simp)
  injection h' with h'; subst h'
  obtain ⟨ad', h', _, c2⟩ := hx.one (j := xs.length + 2) (by simp)
  injection h' with h'; subst h'
  rw [e0] at c0
  rw [e1] at c1
  rw [e2] at c2
  have c1' : w.cell? ⟨ad.block, ad.off + (xs.length + 1), none⟩ = some (.int .u8 90) := by simpa [Addr.add] using c1
  have c2' : w.cell? ⟨ad.block, ad.off + (xs.length + 2), none⟩ = some (.int .u8 165) := by simpa [Addr.add] using c2
  have hx' := hx.take xs.length
  have e3 : (xs ++ [165, 90, 165]).take xs.length = xs := by simp
  rw [e3] at hx'
  have hs := SameBytes.any B (some ad) S c d xs xs w hx' hy (by omega) (by omega)
  rw [decide_eq_true rfl] at hs
  have HS := Lib.hid hs
  clear hs hx hy hx' e0 e1 e2 e3
  go_enter Try.func18, Try.ntmps18
  go_wp2_with fail
  refine HS.out.mono ?_
  rintro e w1 ⟨rfl, q, rfl⟩
  go_wp2
  go_ret
  exact ⟨rfl, by repeat (first | exact Drew.refl _ | apply Drew.step)⟩
end Go.Proofs.Ytipbnjcgololpaa.Pack
