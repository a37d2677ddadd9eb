import Derived.Test.YtkcfeaonkgpbdaaEvG
import Derived.DeepKeys
/-! '==' of eight numbers, and of two tiers -/
namespace Go.Proofs.Ytkcfeaonkgpbdaa.Event
open Go.RowKit Go.Deep Go.Proofs.Ytkcfeaonkgpbdaa Go.Proofs.Ytkcfeaonkgpbdaa.Pack
set_option linter.unusedVariables false
set_option linter.unusedSimpArgs false
theorem mapM_some' {α β : Type} {f : α → Option β} {g : α → β} : ∀ (l : List α), (∀ x ∈ l, f x = some (g x)) → l.mapM f = some (l.map g)
  | [], _ => rfl
  | x :: r, h => by
    rw [List.mapM_cons, h x (by simp), mapM_some' r fun y hy => h y (by simp [hy])]
    rfl
theorem i64_wf {x : Int} (h : -9223372036854775808 ≤ x ∧ x ≤ 9223372036854775807) : (Lit.int .i64 x).wf = true := by
  simp [Lit.wf, IntKind.min, IntKind.max, IntKind.signed, IntKind.bits]
  omega
theorem keyLits8 (xs : List Int) (h : xs.length = 8) (hb : I64 xs) : Try.prog.keyLits 2 23 (nums .i64 xs) = some ((List.range 8).map fun i => Lit.int .i64 (rd xs i)) := by
  have hu : Try.prog.underlying 23 = some (.array 8 2) := by kernel_rfl
  have hv : Try.prog.underlying 2 = some (.int .i64) := by kernel_rfl
  have hc1 : Try.prog.cellsOf 23 = 8 := by kernel_rfl
  have hc2 : Try.prog.cellsOf 2 = 1 := by kernel_rfl
  simp only [Program.keyLits, hu, hc1, hc2]
  rw [if_pos (by simp [nums, h])]
  rw [mapM_some' (g := fun i => [Lit.int .i64 (rd xs i)])]
  · rfl
  · intro i hi
    have hi' : i < 8 := by simpa using hi
    have e : ((nums .i64 xs).drop (i * 1)).take 1 = [.int .i64 (rd xs i)] := by
      have h1 := nums_get .i64 xs i (by rw [h]; exact hi')
      obtain ⟨h2, h3⟩ := List.getElem?_eq_some_iff.1 h1
      rw [Nat.mul_one, List.drop_eq_getElem_cons h2, h3]
      rfl
    have hw := i64_wf (hb.rd i)
    rw [e]
    simp [Program.keyLits, hv, hw]
theorem eq8 (xs ys : List Int) (h : xs.length = 8) (h' : ys.length = 8) (hb : I64 xs) (hb' : I64 ys) (w : World) :
    (Op.equalIn 10000 23 (.agg (nums .i64 xs).toArray) (.agg (nums .i64 ys).toArray)).run Try.prog w = .ok (decide (xs = ys)) w := by
  have hu : Try.prog.underlying 23 = some (.array 8 2) := by kernel_rfl
  have hc1 : Try.prog.cellsOf 23 = 8 := by kernel_rfl
  have hf : ∀ zs : List Int, zs.length = 8 → Value.formed Try.prog 23 (.agg (nums .i64 zs).toArray) = true := by
    intro zs hz
    simp [Value.formed, hu, hc1, nums, hz]
  obtain ⟨r, hr, hiff⟩ := run_equalIn_deep (P := Try.prog) 9998 2 23 (by kernel_rfl) w 2 2 _ _ _ _ (hf xs h) (hf ys h') (keyLits8 xs h hb) (keyLits8 ys h' hb')
  have : r = decide (xs = ys) := by
    by_cases hxy : xs = ys
    · rw [decide_eq_true hxy]; exact hiff.2 (by rw [hxy])
    · rw [decide_eq_false hxy]
      cases r with
      | false => rfl
      | true =>
        exfalso
        refine hxy (decide_lists (by rw [h, h']) fun j hj => ?_)
        have := List.map_inj_left.1 (hiff.1 rfl) j (by simp; omega)
        simpa using this
  rw [← this]
  exact hr
theorem keyLitsT (x y : Int) (hx : -9223372036854775808 ≤ x ∧ x ≤ 9223372036854775807) (hy : -9223372036854775808 ≤ y ∧ y ≤ 9223372036854775807) : Try.prog.keyLits 2 44 [.int .i64 x, .int .i64 y] = some [.int .i64 x, .int .i64 y] := by
  have hu := Try.underlying44
  have hv : Try.prog.underlying 2 = some (.int .i64) := by kernel_rfl
  have hc1 : Try.prog.cellsOf 44 = 2 := by kernel_rfl
  have hc2 : Try.prog.cellsOf 2 = 1 := by kernel_rfl
  have w1 := i64_wf hx
  have w2 := i64_wf hy
  simp [Program.keyLits, hu, hv, hc1, hc2, w1, w2]
theorem eqT (x y x' y' : Int) (hx : -9223372036854775808 ≤ x ∧ x ≤ 9223372036854775807) (hy : -9223372036854775808 ≤ y ∧ y ≤ 9223372036854775807) (hx' : -9223372036854775808 ≤ x' ∧ x' ≤ 9223372036854775807) (hy' : -9223372036854775808 ≤ y' ∧ y' ≤ 9223372036854775807) (w : World) :
    (Op.equalIn 10000 44 (.agg #[.int .i64 x, .int .i64 y]) (.agg #[.int .i64 x', .int .i64 y'])).run Try.prog w = .ok (decide (x = x' ∧ y = y')) w := by
  have hu := Try.underlying44
  have hc1 : Try.prog.cellsOf 44 = 2 := by kernel_rfl
  have hf : ∀ u v : Int, Value.formed Try.prog 44 (.agg #[.int .i64 u, .int .i64 v]) = true := by
    intro u v
    simp [Value.formed, hu, hc1]
  obtain ⟨r, hr, hiff⟩ := run_equalIn_deep (P := Try.prog) 9998 2 44 (by kernel_rfl) w 2 2 _ _ _ _ (hf x y) (hf x' y') (keyLitsT x y hx hy) (keyLitsT x' y' hx' hy')
  have : r = decide (x = x' ∧ y = y') := by
    by_cases hxy : x = x' ∧ y = y'
    · rw [decide_eq_true hxy]; exact hiff.2 (by rw [hxy.1, hxy.2])
    · rw [decide_eq_false hxy]
      cases r with
      | false => rfl
      | true =>
        exfalso
        have := hiff.1 rfl
        simp at this
        exact hxy this
  rw [← this]
  exact hr
end Go.Proofs.Ytkcfeaonkgpbdaa.Event
