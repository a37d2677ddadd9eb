import Derived.Test.YtkcfeaonkgpbdaaEvM
import Derived.Test.YtkcfeaonkgpbdaaEvH
/-! a list with marked room behind it -/
namespace Go.Proofs.Ytkcfeaonkgpbdaa.Event
open Go.RowKit Go.Deep Go.Proofs.Ytkcfeaonkgpbdaa Go.Proofs.Ytkcfeaonkgpbdaa.Pack
set_option linter.unusedVariables false
set_option linter.unusedSimpArgs false
theorem town_empty (w : World) : TOwn (w.alloc (.cells #[] 44)) w.heap.size (.slice (some ⟨w.heap.size, 0, none⟩) 0 0) [] :=
  ⟨rfl, World.ownsRow_made w #[] 0 (Nat.le_refl _) (by simp [maxLen]) rfl⟩
set_option maxRecDepth 100000 in
set_option maxHeartbeats 4000000 in
theorem tiers_ok (A : Option Addr) (c : Nat) (ts : List Int) (w : World) (hA : RI w w.heap.size .i64 A ts) (hev : ts.length % 2 = 0) (hl : ts.length * 8 ≤ 140737488351232) :
    Calls Try.prog 8 #[.slice A (ts.length / 2) c] w fun e w' => ∃ (A' : Option Addr) (n' c' : Nat), e = .returned (.slice A' n' c') ∧ TOwn w' w.heap.size (.slice A' n' c') (ts ++ [77, 0, 0, 78]) ∧ Below w.heap.size w w' := by
  have HA := Lib.hid hA
  obtain ⟨n, hn⟩ : ∃ n, n = ts.length / 2 := ⟨_, rfl⟩
  rw [← hn]
  have hn2 : ts.length = 2 * n := by omega
  have hnl : n * 16 ≤ 140737488351232 := by omega
  have HN := Lib.hid hn2
  clear hA hn hn2 hev
  go_enter Try.func8, Try.ntmps8
  have hO0 := town_empty w
  have d0 : Below w.heap.size w (w.alloc (.cells #[] 44)) := (Below.refl _ _).alloc (Nat.le_refl _) _
  go_wp2_with (first
    | (at_builtin
       refine wpList_appT (w.alloc (.cells #[] 44)) rfl (.tmp 3) (.tmp 4) rfl w.heap.size (.slice (some ⟨w.heap.size, 0, none⟩) 0 0) [] hO0 rfl w.heap.size A n c ts rfl HN.out (HA.out.below d0) (by simp; omega) (by simp) ?_
       intro A1 n1 c1 w1 hO1 hg1
       have d1 := below_grown d0 hg1 (fun k hk => hO0.base k hk) (by simp)
       have hs1 := d1.size
       simp only [List.nil_append] at hO1
       have hO1a := hO1.grown (World.grownBy_alloc w1 (.cells #[.int .i64 77, .int .i64 0, .int .i64 0, .int .i64 78] 44) none) (fun k hk => by simp)
       have d1a := d1.alloc hs1 (.cells #[.int .i64 77, .int .i64 0, .int .i64 0, .int .i64 78] 44)
       have hT1 : RI (w1.alloc (.cells #[.int .i64 77, .int .i64 0, .int .i64 0, .int .i64 78] 44)) (w1.alloc (.cells #[.int .i64 77, .int .i64 0, .int .i64 0, .int .i64 78] 44)).heap.size .i64 (some ⟨w1.heap.size, 0, none⟩) [77, 0, 0, 78] := RI.of_lit (Blk.new _ _ _) rfl)
    | (at_builtin
       refine wpList_appT (w1.alloc (.cells #[.int .i64 77, .int .i64 0, .int .i64 0, .int .i64 78] 44)) rfl (.tmp 5) (.tmp 8) rfl w.heap.size (.slice A1 n1 c1) ts hO1a rfl _ (some ⟨w1.heap.size, 0, none⟩) 2 2 [77, 0, 0, 78] rfl rfl hT1 (by simp; omega) (by simp; omega) ?_
       intro A2 n2 c2 w2 hO2 hg2
       have d2 := below_grown d1a hg2 (fun k hk => hO1a.base k hk) (by simp; omega)))
  go_ret
  exact ⟨_, _, _, rfl, hO2, d2⟩
end Go.Proofs.Ytkcfeaonkgpbdaa.Event
