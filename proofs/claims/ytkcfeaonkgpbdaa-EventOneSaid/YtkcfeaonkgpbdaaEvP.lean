import Derived.Test.YtkcfeaonkgpbdaaEvO
import Derived.Test.YtkcfeaonkgpbdaaArr
import Derived.Deep.SlicePairs
import Derived.SizedLaws
/-! an argument that is an event by value -/
namespace Go.Proofs.Ytkcfeaonkgpbdaa.Event
open Go.RowKit Go.Deep Go.ChangeShapes Go.WideShapes Go.Proofs.Ytkcfeaonkgpbdaa Go.Proofs.Ytkcfeaonkgpbdaa.Pack
set_option linter.unusedVariables false
set_option linter.unusedSimpArgs false
section
variable {H : Type} {enc : TypeId × Value → H} {W : World}
def numAt (w : World) (a : Addr) (j : Nat) : Int := match w.cell? (a.add j) with | some (Value.int _ z) => z | _ => 0
theorem open_tiers {fuel : Nat} {v : Value} {x : DataW H × List MemPlace} (h : DataW.trod enc Try.prog W 0 (fun _ => true) true fuel 24 [v] = some x) :
    ∃ (A : Option Addr) (c : Nat) (ts : List Int), v = .slice A (ts.length / 2) c ∧ ts.length % 2 = 0 ∧ I64 ts ∧ RI W W.heap.size .i64 A ts ∧ ts.length / 2 ≤ c ∧ (ts = [] ∨ ∃ elems spare, x.1 = .slice elems spare ∧ elems.length = ts.length / 2) := by
  rcases open_slice_pairs Try.underlying24 Try.underlying44 (by kernel_rfl) rfl rfl (by kernel_rfl) (by kernel_rfl) h with ⟨hcs, _⟩ | ⟨a, len, cap, m, n, V0, V1, D0, D1, P0, P1, hcs, _, hl, hm, hmm, hx, hc⟩
  · injection hcs with hcs
    exact ⟨none, 0, [], by rw [hcs]; rfl, rfl, (fun n hn => by simp at hn), RI.nil, by simp, .inl rfl⟩
  · injection hcs with hcs
    have hmm' : m = cap := by simpa using hmm
    subst hmm'
    have key : ∀ i, i < len → (∃ z, W.cell? (a.add (i * 2)) = some (.int .i64 z) ∧ (Lit.int .i64 z).wf = true) ∧ ∃ z, W.cell? (a.add (i * 2 + 1)) = some (.int .i64 z) ∧ (Lit.int .i64 z).wf = true := by
      intro i hi
      obtain ⟨c0, c1, t0, t1⟩ := hc i (by omega)
      obtain ⟨z0, hz0, _, w0⟩ := DataW.trod_int Try.underlying2 t0
      obtain ⟨z1, hz1, _, w1⟩ := DataW.trod_int Try.underlying2 t1
      injection hz0 with hz0
      injection hz1 with hz1
      rw [hz0] at c0
      rw [hz1] at c1
      exact ⟨⟨z0, c0, w0⟩, z1, c1, w1⟩
    have key2 : ∀ j, j < 2 * len → ∃ z, W.cell? (a.add j) = some (.int .i64 z) ∧ (Lit.int .i64 z).wf = true := by
      intro j hj
      obtain ⟨k0, k1⟩ := key (j / 2) (by omega)
      rcases (by omega : j = j / 2 * 2 ∨ j = j / 2 * 2 + 1) with h | h
      · rw [h]; exact k0
      · rw [h]; exact k1
    have hlen : ((List.range (2 * len)).map (numAt W a)).length = 2 * len := by simp
    refine ⟨some a, m, (List.range (2 * len)).map (numAt W a), by rw [hcs, hlen, show 2 * len / 2 = len from by omega], by rw [hlen]; omega, ?_, ⟨by simp [nums], fun hn => ⟨a, rfl, ?_, ?_⟩⟩, by rw [hlen]; omega, .inr ⟨_, _, congrArg Prod.fst hx, by rw [hlen]; simp⟩⟩
    · intro z hz
      obtain ⟨j, hj, rfl⟩ := List.mem_map.1 hz
      obtain ⟨z, h1, h2⟩ := key2 j (by simpa using hj)
      simp only [numAt, h1]
      exact bounds_i64 h2
    · obtain ⟨z, h1, _⟩ := key2 0 (by rw [hlen] at hn; omega)
      have := World.block_lt_of_cell? W _ h1
      rwa [block_of_add] at this
    · intro j u hu
      have hj : j < 2 * len := by
        have := (List.getElem?_eq_some_iff.1 hu).1
        simpa [nums] using this
      obtain ⟨z, h1, _⟩ := key2 j hj
      rw [h1, ← hu]
      simp [nums, hj, numAt, h1]
theorem open_event {r : Reach} {base : Nat} {v : Value} {d : DataW H} {ps : List MemPlace} (hval : Value.okWide Try.prog W r base 26 v) (hd : DataW.Trod enc Try.prog W 0 (fun _ => true) true 26 v d ps)
    (hw : ∀ n ∈ d.weights Try.prog 26, n ≤ reachBytes) : ∃ (e : Ev) (A : Option Addr) (c : Nat), v = .agg (row e A c) ∧ e.ok ∧ RI W W.heap.size .i64 A e.ts ∧ e.ts.length / 2 ≤ c ∧ e.ts.length * 8 ≤ 140737488351232 := by
  have hv : ∃ cs, v = .agg cs := by
    simp only [Value.okWide, Try.underlying26] at hval
    obtain ⟨cs, h, _⟩ := hval
    exact ⟨cs, h⟩
  obtain ⟨cs, rfl⟩ := hv
  obtain ⟨fuel, hf⟩ := hd
  obtain ⟨xs, n, rfl, hx, hlen, hxl, hg⟩ := DataW.trod_struct Try.underlying26 hf
  have hl11 : (Value.cells (.agg cs)).toList.length = 11 := by rw [hlen]; kernel_rfl
  have hcs : (Value.cells (.agg cs)).toList = cs.toList := by simp [Value.cells]
  rw [hcs] at hl11 hg
  have hxl4 : xs.length = 4 := hxl
  have k0 : Try.prog.cellsOf 5 = 1 := by kernel_rfl
  have k1 : Try.prog.cellsOf 22 = 1 := by kernel_rfl
  have k2 : Try.prog.cellsOf 23 = 8 := by kernel_rfl
  have k3 : Try.prog.cellsOf 24 = 1 := by kernel_rfl
  have k4 : Try.prog.cellsOf 2 = 1 := by kernel_rfl
  have g0 : DataW.trod enc Try.prog W 0 (fun _ => true) true n 5 ((cs.toList.drop 0).take (Try.prog.cellsOf 5)) = xs[0]? := hg 0 _ rfl
  have g1 : DataW.trod enc Try.prog W 0 (fun _ => true) true n 22 ((cs.toList.drop 1).take (Try.prog.cellsOf 22)) = xs[1]? := hg 1 _ rfl
  have g2 : DataW.trod enc Try.prog W 0 (fun _ => true) true n 23 ((cs.toList.drop 2).take (Try.prog.cellsOf 23)) = xs[2]? := hg 2 _ rfl
  have g3 : DataW.trod enc Try.prog W 0 (fun _ => true) true n 24 ((cs.toList.drop 10).take (Try.prog.cellsOf 24)) = xs[3]? := hg 3 _ rfl
  rw [k0] at g0
  rw [k1] at g1
  rw [k2] at g2
  rw [k3] at g3
  match xs, hxl4, hx with
  | [y0, y1, y2, y3], _, hx =>
    obtain ⟨c0, c1, c2, c3, c4, c5, c6, c7, c8, c9, c10, he⟩ : ∃ c0 c1 c2 c3 c4 c5 c6 c7 c8 c9 c10, cs.toList = [c0, c1, c2, c3, c4, c5, c6, c7, c8, c9, c10] := by
      match h : cs.toList, hl11 with
      | [c0, c1, c2, c3, c4, c5, c6, c7, c8, c9, c10], _ => exact ⟨c0, c1, c2, c3, c4, c5, c6, c7, c8, c9, c10, rfl⟩
    rw [he] at g0 g1 g2 g3
    obtain ⟨op, h0, _, w0⟩ := DataW.trod_int Try.underlying5 g0
    obtain ⟨key, h1, _, w1⟩ := DataW.trod_int Try.underlying22 g1
    obtain ⟨ns, h2, l2, _, w2⟩ := cells_arr_ints Try.underlying23 Try.underlying2 k4 k2 g2
    have h0' : c0 = .int .u8 op := by simpa using h0
    have h1' : c1 = .int .u64 key := by simpa using h1
    obtain ⟨A, c, ts, h3, e3, i3, r3, q3, z3⟩ := open_tiers (v := c10) g3
    have hns : [c2, c3, c4, c5, c6, c7, c8, c9] = nums .i64 ns := by simpa using h2
    have hB := bounds_u8 w0
    have hK := bounds_u64 w1
    refine ⟨⟨op, key, ns, ts⟩, A, c, ?_, ⟨hB.1, hB.2, hK.1, by have := hK.2; simp only; omega, l2, (fun z hz => bounds_i64 (w2 z hz)), i3, e3⟩, r3, q3, ?_⟩
    · congr 1
      apply Array.toList_inj.1
      rw [he, h0', h1', h3]
      match ns, l2, hns with
      | [n0, n1, n2, n3, n4, n5, n6, n7], _, hns =>
        simp only [nums, List.map_cons, List.map_nil, List.cons.injEq, and_true] at hns
        obtain ⟨rfl, rfl, rfl, rfl, rfl, rfl, rfl, rfl⟩ := hns
        rfl
    · rcases z3 with z3 | ⟨elems, spare, z1, z2⟩
      · rw [z3]; simp
      · have hd3 : d = .agg [y0.1, y1.1, y2.1, y3.1] := congrArg Prod.fst hx
        have h4 : ((elems.length + spare.length) * Try.prog.bytesOf 44) ≤ reachBytes := by
          refine hw _ ?_
          rw [hd3]
          simp only [DataW.weights, Try.underlying26]
          refine DataW.weights_mem_each (j := 3) (t := 24) (d := y3.1) rfl rfl _ ?_
          rw [z1]
          simp [DataW.weights, Try.underlying24]
        rw [show Try.prog.bytesOf 44 = 16 from by kernel_rfl] at h4
        simp only [reachBytes] at h4
        simp only
        omega
end
end Go.Proofs.Ytkcfeaonkgpbdaa.Event
