import Derived.Test.YtipbnjcgololpaaLib
import Derived.OpenShut
import Derived.WalkKit
import Derived.ProofKit
/-! arguments that are arrays of numbers by value -/
namespace Go.Proofs.Ytipbnjcgololpaa
open Go.RowKit Go.Deep Go.ChangeShapes Go.WideShapes
set_option linter.unusedVariables false
set_option linter.unusedSimpArgs false
section
variable {H : Type} {enc : TypeId × Value → H} {P : Program} {w : World} {base : Nat} {spare : Nat → Bool} {held : Bool} {fuel : Nat} {t : TypeId}
theorem cells_arr_ints {n : Nat} {e : TypeId} {k : IntKind} {cs : List Value} {x : DataW H × List MemPlace} (ht : P.underlying t = some (.array n e)) (he : P.underlying e = some (.int k)) (h1 : P.cellsOf e = 1) (hn : P.cellsOf t = n)
    (h : DataW.trod enc P w base spare held fuel t cs = some x) : ∃ zs : List Int, cs = nums k zs ∧ zs.length = n ∧ x.2 = [] ∧ ∀ z ∈ zs, (Lit.int k z).wf = true := by
  obtain ⟨xs, m, rfl, hx, hc, hl, hg⟩ := DataW.trod_array ht h
  have key : ∀ i, i < n → ∃ z, cs[i]? = some (.int k z) ∧ (Lit.int k z).wf = true ∧ ∀ y, xs[i]? = some y → y.2 = [] := by
    intro i hi
    have hi' : i < xs.length := by omega
    have h2 := hg i hi
    rw [h1, Nat.mul_one, List.getElem?_eq_getElem hi'] at h2
    obtain ⟨z, hz, hy, hw⟩ := DataW.trod_int he h2
    refine ⟨z, ?_, hw, fun y hxy => ?_⟩
    · have : ((cs.drop i).take 1)[0]? = some (.int k z) := by rw [hz]; rfl
      simpa using this
    · rw [List.getElem?_eq_getElem hi'] at hxy
      rw [← Option.some.inj hxy, hy]
  refine ⟨(List.range n).map (fun i => match (cs[i]? : Option Value) with | some (Value.int _ z) => z | _ => 0), ?_, by simp, ?_, ?_⟩
  · apply List.ext_getElem?
    intro i
    by_cases hi : i < n
    · obtain ⟨z, hz, _⟩ := key i hi
      simp [nums, hi, hz]
    · rw [List.getElem?_eq_none (by omega), List.getElem?_eq_none (by simp [nums]; omega)]
  · rw [hx]
    simp only [List.flatMap_eq_nil_iff]
    intro y hy
    obtain ⟨i, hi, rfl⟩ := List.mem_iff_getElem.1 hy
    obtain ⟨z, _, _, h3⟩ := key i (by omega)
    exact h3 _ (List.getElem?_eq_getElem hi)
  · intro z hz
    obtain ⟨i, hi, rfl⟩ := List.mem_map.1 hz
    obtain ⟨z, h1, h2, _⟩ := key i (by simpa using hi)
    simp only [h1]
    exact h2
theorem open_arr_ints {n : Nat} {e : TypeId} {k : IntKind} {r : Reach} {b0 : Nat} {v : Value} {d : DataW H} {ps : List MemPlace} (ht : P.underlying t = some (.array n e)) (he : P.underlying e = some (.int k)) (h1 : P.cellsOf e = 1) (hn : P.cellsOf t = n)
    (hval : Value.okWide P w r b0 t v) (hd : DataW.Trod enc P w base spare held t v d ps) : ∃ zs : List Int, v = .agg (nums k zs).toArray ∧ zs.length = n ∧ ∀ z ∈ zs, (Lit.int k z).wf = true := by
  have hv : ∃ cs, v = .agg cs := by
    simp only [Value.okWide, ht] at hval
    obtain ⟨cs, h, _⟩ := hval
    exact ⟨cs, h⟩
  obtain ⟨cs, rfl⟩ := hv
  obtain ⟨fuel, hf⟩ := hd
  obtain ⟨zs, hcs, hl, _, hw⟩ := cells_arr_ints ht he h1 hn hf
  refine ⟨zs, ?_, hl, hw⟩
  simp [Value.cells] at hcs
  rw [← hcs]
end
end Go.Proofs.Ytipbnjcgololpaa
