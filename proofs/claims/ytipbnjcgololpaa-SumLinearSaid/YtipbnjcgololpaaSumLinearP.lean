/-
  Crc of three texts of one length, put upon one another bit by bit, is their three sums put upon one another: for all texts, without a condition.
-/
import Derived.Test.YtipbnjcgololpaaRows
import Derived.Test.YtipbnjcgololpaaSumLinearW
import Derived.WalkKit
import Derived.ProofKit
import Derived.OpenShut
import Derived.ShutString
import Derived.ChangeOld
import Derived.Below
import Derived.SizedLaws
namespace Go.Proofs.Ytipbnjcgololpaa.sumLinear
open Go.ChangeShapes Go.WideShapes Go.ChangeAt Go.RowKit
open Go.ChangeMaps (open_string shut_string)
set_option linter.unusedVariables false
set_option linter.unusedSimpArgs false
theorem own : ownKnob Try.prog.godebug = none := by kernel_rfl
theorem laidOut : laidOutB Try.prog = true := by kernel_rfl

set_option maxRecDepth 100000 in
theorem lifted (os : Os) (started : os.Started) (H : Type) (enc : TypeId × Value → H) :
    ReturnsInHanded {} Try.checked os 5 .any (Rows.sumLinearSpec.pre6 enc Try.prog Try.f5 Rows.sumLinearRow.domain false) (Rows.sumLinearSpec.post enc Try.prog Try.f5 false true false false) := by
  refine returnsInHanded_of_change_sized (C := Try.checked) own started (by kernel_rfl) Try.func5
    (ChangeSpec.witness6 (enc := enc) (C := Try.checked) false ⟨#[], #[.slice none 0 0, .slice none 0 0, .slice none 0 0], []⟩ 8 (by kernel_rfl) (by kernel_rfl) (by kernel_rfl) (by kernel_rfl)) ?_
  intro W base args ds gs before hval0 hW hcnd hsz0 _
  have hsz : (DataW.weightsEach Try.prog (Try.f5.params.toList ++ Rows.sumLinearSpec.plain.varTypes Try.prog) (ds ++ gs)).all (· ≤ reachBytes) = true := hsz0
  clear hsz0
  have hval : ∀ (j : Nat) t v, Try.f5.params[j]? = some t → args[j]? = some v → Value.okWide Try.prog W .any base t v := hval0
  have hW' := hW
  obtain ⟨p, q, hA0, hV, rfl, hfz, hnd⟩ := hW
  have hA : DataW.TrodAll enc Try.prog W 0 (fun _ => true) true Try.f5.params.toList args.toList ds p := hA0
  rw [Try.params5] at hA hval hsz
  obtain ⟨v0, vs0, d0, ds0, p0, q0, hargs, rfl, rfl, h0, r0⟩ := trodAll_cons hA
  obtain ⟨v1, vs1, d1, ds1, p1, q1, rfl, rfl, rfl, h1, r1⟩ := trodAll_cons r0
  obtain ⟨v2, vs2, d2, ds2, p2, q2, rfl, rfl, rfl, h2, r2⟩ := trodAll_cons r1
  obtain ⟨rfl, rfl, rfl⟩ := trodAll_nil r2
  obtain rfl : args = #[v0, v1, v2] := by cases args; simp_all
  obtain ⟨rfl, rfl⟩ := trodVars_none hV
  have k0 := h0
  have lt0 : ∀ x ∈ p0, x.block < W.heap.size := by obtain ⟨m, hm⟩ := k0; exact DataW.trod_lt m _ _ _ hm
  obtain ⟨A0, c0, x0, rfl, w0⟩ : ∃ A0 c0 x0, v0 = .slice A0 (List.length x0) c0 ∧ ArrIn W .u8 1 A0 c0 x0 := by
    obtain ⟨a, len, cap, rfl⟩ := okWide_slice Try.underlying27 (hval 0 27 v0 rfl rfl)
    obtain ⟨fuel, hf⟩ := h0
    rcases open_ints Try.underlying27 Try.underlying5 (by kernel_rfl) hf with ⟨hcs, _⟩ | ⟨x, l, c, zs, hcs, _, hl, hm, hz, hx, hcell, hwz⟩
    · simp [Value.cells] at hcs
      obtain ⟨rfl, rfl, rfl⟩ := hcs
      exact ⟨none, 0, [], rfl, RI.nil, by simp, by simp, by simp⟩
    · simp [Value.cells] at hcs
      obtain ⟨rfl, rfl, rfl⟩ := hcs
      have hzl : zs.length = cap := by simpa using hz
      have hd : d0 = _ := congrArg Prod.fst hx
      have hs := sized_slice hsz (j := 0) (t := 27) (e := 5) rfl (by rw [hd]; rfl) Try.underlying27
      rw [show Try.prog.bytesOf 5 = 1 from by kernel_rfl] at hs
      simp only [lits, List.length_map, List.length_take, List.length_drop, reachBytes] at hs
      have hlen : (zs.take len).length = len := by simp; omega
      refine ⟨some x, cap, zs.take len, by rw [hlen], RI.of_open hcell (by omega), by omega, fun n hn => hwz n (List.mem_of_mem_take hn), by rw [hlen]; omega⟩
  have k1 := h1
  have lt1 : ∀ x ∈ p1, x.block < W.heap.size := by obtain ⟨m, hm⟩ := k1; exact DataW.trod_lt m _ _ _ hm
  obtain ⟨A1, c1, x1, rfl, w1⟩ : ∃ A1 c1 x1, v1 = .slice A1 (List.length x1) c1 ∧ ArrIn W .u8 1 A1 c1 x1 := by
    obtain ⟨a, len, cap, rfl⟩ := okWide_slice Try.underlying27 (hval 1 27 v1 rfl rfl)
    obtain ⟨fuel, hf⟩ := h1
    rcases open_ints Try.underlying27 Try.underlying5 (by kernel_rfl) hf with ⟨hcs, _⟩ | ⟨x, l, c, zs, hcs, _, hl, hm, hz, hx, hcell, hwz⟩
    · simp [Value.cells] at hcs
      obtain ⟨rfl, rfl, rfl⟩ := hcs
      exact ⟨none, 0, [], rfl, RI.nil, by simp, by simp, by simp⟩
    · simp [Value.cells] at hcs
      obtain ⟨rfl, rfl, rfl⟩ := hcs
      have hzl : zs.length = cap := by simpa using hz
      have hd : d1 = _ := congrArg Prod.fst hx
      have hs := sized_slice hsz (j := 1) (t := 27) (e := 5) rfl (by rw [hd]; rfl) Try.underlying27
      rw [show Try.prog.bytesOf 5 = 1 from by kernel_rfl] at hs
      simp only [lits, List.length_map, List.length_take, List.length_drop, reachBytes] at hs
      have hlen : (zs.take len).length = len := by simp; omega
      refine ⟨some x, cap, zs.take len, by rw [hlen], RI.of_open hcell (by omega), by omega, fun n hn => hwz n (List.mem_of_mem_take hn), by rw [hlen]; omega⟩
  have k2 := h2
  have lt2 : ∀ x ∈ p2, x.block < W.heap.size := by obtain ⟨m, hm⟩ := k2; exact DataW.trod_lt m _ _ _ hm
  obtain ⟨A2, c2, x2, rfl, w2⟩ : ∃ A2 c2 x2, v2 = .slice A2 (List.length x2) c2 ∧ ArrIn W .u8 1 A2 c2 x2 := by
    obtain ⟨a, len, cap, rfl⟩ := okWide_slice Try.underlying27 (hval 2 27 v2 rfl rfl)
    obtain ⟨fuel, hf⟩ := h2
    rcases open_ints Try.underlying27 Try.underlying5 (by kernel_rfl) hf with ⟨hcs, _⟩ | ⟨x, l, c, zs, hcs, _, hl, hm, hz, hx, hcell, hwz⟩
    · simp [Value.cells] at hcs
      obtain ⟨rfl, rfl, rfl⟩ := hcs
      exact ⟨none, 0, [], rfl, RI.nil, by simp, by simp, by simp⟩
    · simp [Value.cells] at hcs
      obtain ⟨rfl, rfl, rfl⟩ := hcs
      have hzl : zs.length = cap := by simpa using hz
      have hd : d2 = _ := congrArg Prod.fst hx
      have hs := sized_slice hsz (j := 2) (t := 27) (e := 5) rfl (by rw [hd]; rfl) Try.underlying27
      rw [show Try.prog.bytesOf 5 = 1 from by kernel_rfl] at hs
      simp only [lits, List.length_map, List.length_take, List.length_drop, reachBytes] at hs
      have hlen : (zs.take len).length = len := by simp; omega
      refine ⟨some x, cap, zs.take len, by rw [hlen], RI.of_open hcell (by omega), by omega, fun n hn => hwz n (List.mem_of_mem_take hn), by rw [hlen]; omega⟩
  clear hA0 hval0
  refine (Go.Proofs.Ytipbnjcgololpaa.SumLinearW.walk A0 c0 x0 A1 c1 x1 A2 c2 x2 W w0 w1 w2).mono fun e W' ⟨he, bel⟩ => ?_
  subst he
  exact ⟨_, rfl, _, _, _, [], _, [], hW', trodAll_mk1 (shut_bool Try.underlying4 _), (trodAll_cons_mk (Below.trod laidOut (by kernel_rfl) (of_decide_eq_true (by kernel_rfl)) k0 bel lt0) (trodAll_cons_mk (Below.trod laidOut (by kernel_rfl) (of_decide_eq_true (by kernel_rfl)) k1 bel lt1) (trodAll_cons_mk (Below.trod laidOut (by kernel_rfl) (of_decide_eq_true (by kernel_rfl)) k2 bel lt2) trodAll_mk0))), rfl, bel.frame _, fun h => by cases h⟩

theorem over : Rows.sumLinearRow.holds Try.pinned (OpenSpec.ofChange Rows.sumLinearSpec) :=
  OpenClaim.holds_of_wide 5 Try.f5 rfl rfl rfl rfl rfl rfl rfl ⟨rfl, rfl, rfl, rfl, rfl⟩ rfl rfl rfl rfl rfl (by kernel_rfl) Try.func5 (by kernel_rfl)
    (of_decide_eq_true (by kernel_rfl)) (by unfold Func.isWrapper; first | (rw [if_pos (by decide +kernel)]; kernel_rfl) | (rw [if_neg (by decide +kernel)]; exact ⟨rfl, rfl⟩))
    (fun os started H enc _ => lifted os started H enc)

/-- the statement -/
theorem proved : Rows.SumLinearSaid := over
#print axioms proved
end Go.Proofs.Ytipbnjcgololpaa.sumLinear
