import Derived.Test.YtipbnjcgololpaaLib
import Derived.Laws.BitsAllLaws
/-! copies of bytes -/
namespace Go.Proofs.Ytipbnjcgololpaa.Pack
open Go.RowKit Go.Deep
set_option linter.unusedVariables false
/-- each is a byte -/
def Byt (xs : List Int) : Prop := ∀ n ∈ xs, 0 ≤ n ∧ n ≤ 255
set_option linter.unusedVariables false
theorem info5 : (Try.prog.info? 5).map (fun i => (i.zero, i.size, i.bytes)) = some (some (.int .u8 0), 1, 1) := by kernel_rfl
/-- what a copy is: new memory with the same bytes -/
def Fresh (w w' : World) (v : Value) (xs : List Int) : Prop := w'.ownsRow w.heap.size 5 1 v xs.length (nums .u8 xs) ∧ Below w.heap.size w w'
set_option maxHeartbeats 1000000 in
theorem twin_ok (P : Option Addr) (c : Nat) (xs : List Int) (w : World) (hx : RI w w.heap.size .u8 P xs) (hl : xs.length ≤ 140737488355328) :
    Calls Try.prog 11 #[.slice P xs.length c] w fun e w' => ∃ v, e = .returned v ∧ Fresh w w' v xs := by
  have HX := Lib.hid hx
  clear hx
  go_enter Try.func11, Try.ntmps11
  go_wp2_with (at_builtin; refine wpList_app _ rfl (.tmp 3) (.tmp 4) _ rfl w.heap.size 5 .u8 1 Try.underlying27 info5 (by omega) (.slice (some ⟨w.heap.size, 0, none⟩) 0 0) [] (World.ownsRow_made w #[] 0 (Nat.le_refl _) (by simp [maxLen]) rfl) rfl w.heap.size P c xs rfl (HX.out.alloc (Nat.le_refl _) _) (by simpa using hl) (by simp) ?_; intro v1 w1 hown1 hg1 hat1)
  go_ret
  exact ⟨_, rfl, by simpa using hown1, below_own ((Below.refl _ _).alloc (Nat.le_refl _) _) hg1 (World.ownsRow_made w #[] 0 (e := 5) (size := 1) (Nat.le_refl _) (by simp [maxLen]) rfl) (Nat.le_refl _) (by simp)⟩
end Go.Proofs.Ytipbnjcgololpaa.Pack
