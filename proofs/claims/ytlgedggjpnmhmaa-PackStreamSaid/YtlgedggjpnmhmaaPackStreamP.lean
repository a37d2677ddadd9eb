/-
  Numbers and bytes that are written one behind another are read one behind another, and nothing is left: for all lists, without a condition.
-/
import Derived.Test.YtlgedggjpnmhmaaRows
import Derived.Test.YtlgedggjpnmhmaaPackStreamW
import Derived.WalkKit
import Derived.ProofKit
import Derived.OpenShut
import Derived.ShutString
import Derived.ChangeOld
import Derived.Below
import Derived.SizedLaws
import Derived.Deep.Matrix
namespace Go.Proofs.Ytlgedggjpnmhmaa.packStream
open Go.ChangeShapes Go.WideShapes Go.ChangeAt Go.RowKit
open Go.ChangeMaps (open_string shut_string)
set_option linter.unusedVariables false
set_option linter.unusedSimpArgs false
theorem own : ownKnob Try.prog.godebug = none := by kernel_rfl
theorem laidOut : laidOutB Try.prog = true := by kernel_rfl

open Go.Deep Go.Proofs.Ytlgedggjpnmhmaa.PackStreamW
theorem tread_nil {W : World} {B : Nat} : TRead W B none [] := by intro i t ht; simp at ht
theorem tread_open {W : World} {base : Nat} {x : Addr} {len cap : Nat} {AA : Nat → Option Addr} {LL CC : Nat → Nat} {ZZ : Nat → List Int} (hl : len ≤ cap)
    (h : ∀ r, r < cap → W.cell? (x.add r) = some (.slice (AA r) (LL r) (CC r)) ∧ LL r ≤ CC r ∧ CC r ≤ maxLen ∧ (ZZ r).length = CC r ∧ (∀ n ∈ ZZ r, (Lit.int .u8 n).wf = true) ∧ (AA r = none → CC r = 0) ∧
        ∀ a', AA r = some a' → base ≤ a'.block ∧ ∀ c, c < CC r → W.cell? (a'.add c) = some (.int .u8 ((ZZ r).getD c 0))) :
    TRead W W.heap.size (some x) ((List.range len).map fun r => (AA r, CC r, (ZZ r).take (LL r))) := by
  intro i t ht
  rw [List.getElem?_map] at ht
  have hi : i < len := by
    rcases Nat.lt_or_ge i len with h1 | h1
    · exact h1
    · rw [List.getElem?_eq_none (by simpa using h1)] at ht; cases ht
  rw [List.getElem?_range hi] at ht
  obtain rfl := Option.some.inj ht
  obtain ⟨h1, h2, h3, h4, h5, h6, h7⟩ := h i (by omega)
  have hlen : ((ZZ i).take (LL i)).length = LL i := by simp; omega
  have hb : x.block < W.heap.size := by
    have := World.block_lt_of_cell? W _ h1
    rwa [block_of_add] at this
  refine ⟨x, rfl, hb, by simp only [hlen]; exact h1, ?_, fun n hn => bounds_u8 (h5 n (List.mem_of_mem_take hn)), by simp only [hlen]; exact h2, by simp only [hlen]; unfold maxLen at h3; omega⟩
  show RI W W.heap.size .u8 (AA i) ((ZZ i).take (LL i))
  cases hA : AA i with
  | none => exact RI.none (by simp only [hlen]; have := h6 hA; omega)
  | some a' => exact RI.of_open (zs := ZZ i) (len := LL i) (fun j hj => (h7 a' hA).2 j (by omega)) (by omega)
set_option maxRecDepth 100000 in
theorem lifted (os : Os) (started : os.Started) (H : Type) (enc : TypeId × Value → H) :
    ReturnsInHanded {} Try.checked os 7 .any (Rows.packStreamSpec.pre6 enc Try.prog Try.f7 Rows.packStreamRow.domain false) (Rows.packStreamSpec.post enc Try.prog Try.f7 false true false false) := by
  refine returnsInHanded_of_change_sized (C := Try.checked) own started (by kernel_rfl) Try.func7
    (ChangeSpec.witness6 (enc := enc) (C := Try.checked) false ⟨#[], #[.slice none 0 0, .slice none 0 0], []⟩ 8 (by kernel_rfl) (by kernel_rfl) (by kernel_rfl) (by kernel_rfl)) ?_
  intro W base args ds gs before hval0 hW hcnd hsz0 _
  have hsz : (DataW.weightsEach Try.prog (Try.f7.params.toList ++ Rows.packStreamSpec.plain.varTypes Try.prog) (ds ++ gs)).all (· ≤ reachBytes) = true := hsz0
  clear hsz0
  have hval : ∀ (j : Nat) t v, Try.f7.params[j]? = some t → args[j]? = some v → Value.okWide Try.prog W .any base t v := hval0
  have hW' := hW
  obtain ⟨p, q, hA0, hV, rfl, hfz, hnd⟩ := hW
  have hA : DataW.TrodAll enc Try.prog W 0 (fun _ => true) true Try.f7.params.toList args.toList ds p := hA0
  rw [Try.params7] at hA hval hsz
  obtain ⟨v0, vs0, d0, ds0, p0, q0, hargs, rfl, rfl, h0, r0⟩ := trodAll_cons hA
  obtain ⟨v1, vs1, d1, ds1, p1, q1, rfl, rfl, rfl, h1, r1⟩ := trodAll_cons r0
  obtain ⟨rfl, rfl, rfl⟩ := trodAll_nil r1
  obtain rfl : args = #[v0, v1] := by cases args; simp_all
  obtain ⟨rfl, rfl⟩ := trodVars_none hV
  have k0 := h0
  have lt0 : ∀ x ∈ p0, x.block < W.heap.size := by obtain ⟨m, hm⟩ := k0; exact DataW.trod_lt m _ _ _ hm
  obtain ⟨A0, c0, x0, rfl, w0⟩ : ∃ A0 c0 x0, v0 = .slice A0 (List.length x0) c0 ∧ ArrIn W .i64 8 A0 c0 x0 := by
    obtain ⟨a, len, cap, rfl⟩ := okWide_slice Try.underlying52 (hval 0 52 v0 rfl rfl)
    obtain ⟨fuel, hf⟩ := h0
    rcases open_ints Try.underlying52 Try.underlying2 (by kernel_rfl) hf with ⟨hcs, _⟩ | ⟨x, l, c, zs, hcs, _, hl, hm, hz, hx, hcell, hwz⟩
    · simp [Value.cells] at hcs
      obtain ⟨rfl, rfl, rfl⟩ := hcs
      exact ⟨none, 0, [], rfl, RI.nil, by simp, by simp, by simp⟩
    · simp [Value.cells] at hcs
      obtain ⟨rfl, rfl, rfl⟩ := hcs
      have hzl : zs.length = cap := by simpa using hz
      have hd : d0 = _ := congrArg Prod.fst hx
      have hs := sized_slice hsz (j := 0) (t := 52) (e := 2) rfl (by rw [hd]; rfl) Try.underlying52
      rw [show Try.prog.bytesOf 2 = 8 from by kernel_rfl] at hs
      simp only [lits, List.length_map, List.length_take, List.length_drop, reachBytes] at hs
      have hlen : (zs.take len).length = len := by simp; omega
      refine ⟨some x, cap, zs.take len, by rw [hlen], RI.of_open hcell (by omega), by omega, fun n hn => hwz n (List.mem_of_mem_take hn), by rw [hlen]; omega⟩
  have k1 := h1
  have lt1 : ∀ x ∈ p1, x.block < W.heap.size := by obtain ⟨m, hm⟩ := k1; exact DataW.trod_lt m _ _ _ hm
  obtain ⟨A1, c1, x1, rfl, w1, y1, z1⟩ : ∃ A1 c1, ∃ x1 : List (Option Addr × Nat × List Int), v1 = .slice A1 (List.length x1) c1 ∧ TRead W W.heap.size A1 x1 ∧ x1.length ≤ c1 ∧ x1.length ≤ 9223372036854775807 := by
    obtain ⟨a, len, cap, rfl⟩ := okWide_slice Try.underlying34 (hval 1 34 v1 rfl rfl)
    obtain ⟨fuel, hf⟩ := h1
    rcases open_int_rows Try.underlying34 Try.underlying22 Try.underlying5 (by kernel_rfl) (by kernel_rfl) hf with ⟨hcs, _⟩ | ⟨x, l, c, AA, LL, CC, ZZ, hcs, _, hl, hm, hx, hcell⟩
    · simp [Value.cells] at hcs
      obtain ⟨rfl, rfl, rfl⟩ := hcs
      exact ⟨none, 0, [], rfl, tread_nil, by simp, by simp⟩
    · simp [Value.cells] at hcs
      obtain ⟨rfl, rfl, rfl⟩ := hcs
      refine ⟨some x, cap, (List.range len).map fun r => (AA r, CC r, (ZZ r).take (LL r)), by simp, tread_open hl hcell, by simpa using hl, by simp; unfold maxLen at hm; omega⟩
  clear hA0 hval0
  refine (Go.Proofs.Ytlgedggjpnmhmaa.PackStreamW.walk A0 c0 x0 A1 c1 x1 W w0 w1 y1 z1).mono fun e W' ⟨he, bel⟩ => ?_
  subst he
  exact ⟨_, rfl, _, _, _, [], _, [], hW', trodAll_mk1 (shut_bool Try.underlying4 _), (trodAll_cons_mk (Below.trod laidOut (by kernel_rfl) (of_decide_eq_true (by kernel_rfl)) k0 bel lt0) (trodAll_cons_mk (Below.trod laidOut (by kernel_rfl) (of_decide_eq_true (by kernel_rfl)) k1 bel lt1) trodAll_mk0)), rfl, bel.frame _, fun h => by cases h⟩

theorem over : Rows.packStreamRow.holds Try.pinned (OpenSpec.ofChange Rows.packStreamSpec) :=
  OpenClaim.holds_of_wide 7 Try.f7 rfl rfl rfl rfl rfl rfl rfl ⟨rfl, rfl, rfl, rfl, rfl⟩ rfl rfl rfl rfl rfl (by kernel_rfl) Try.func7 (by kernel_rfl)
    (of_decide_eq_true (by kernel_rfl)) (by unfold Func.isWrapper; first | (rw [if_pos (by decide +kernel)]; kernel_rfl) | (rw [if_neg (by decide +kernel)]; exact ⟨rfl, rfl⟩))
    (fun os started H enc _ => lifted os started H enc)

/-- the statement -/
theorem proved : Rows.PackStreamSaid := over
#print axioms proved
end Go.Proofs.Ytlgedggjpnmhmaa.packStream
