import Derived.Test.YtkcfeaonkgpbdaaPackF
/-! the document's signed numbers and bytes -/
namespace Go.Proofs.Ytkcfeaonkgpbdaa.Pack
open Go.RowKit Go.Deep
set_option linter.unusedVariables false
set_option maxRecDepth 100000 in
set_option maxHeartbeats 2000000 in
theorem docreadint_ok (P : Option Addr) (c : Nat) (xs : List Int) (w : World) (hx : RI w w.heap.size .u8 P xs) (hc : xs.length ≤ c) (hl : xs.length ≤ 9223372036854775807) (hb : Byt xs) :
    Calls Try.prog 38 #[.slice P xs.length c] w fun e w' => e = .returned (.tuple #[.int .i64 (zag (rdU xs).1), .int .i64 (rdU xs).2.1, .int .i64 (rdU xs).2.2]) ∧ Below w.heap.size w w' := by
  obtain ⟨r0, r1, _⟩ := rdU_range xs hb
  have HU := Lib.hid (docreaduint_ok P c xs w hx hc hl hb)
  clear hx hb
  generalize (rdU xs).1 = n at *
  generalize (rdU xs).2.1 = k at *
  generalize (rdU xs).2.2 = f at *
  by_cases h : n % 2 = 1
  · have hz : zag n = -(n / 2) - 1 := by unfold zag; rw [if_pos h]
    have h1 : (n % 2 == 1) = true := by simpa using h
    have HZ := Lib.hid hz
    clear hz h
    go_enter Try.func38, Try.ntmps38
    go_wp2_with fail
    refine HU.out.mono ?_
    rintro e w1 ⟨rfl, hb1⟩
    go_wp2
    go_ret3
    exact ⟨by rw [HZ.out]; rfl, hb1⟩
  · have hz : zag n = n / 2 := by unfold zag; rw [if_neg h]
    have h1 : (n % 2 == 1) = false := by simpa using h
    have HZ := Lib.hid hz
    clear hz h
    go_enter Try.func38, Try.ntmps38
    go_wp2_with fail
    refine HU.out.mono ?_
    rintro e w1 ⟨rfl, hb1⟩
    go_wp2
    go_ret3
    exact ⟨by rw [HZ.out]; rfl, hb1⟩
/-- new memory behind new memory -/
theorem Fresh.then' {w w1 w2 : World} {v : Value} {xs : List Int} (hb : Below w.heap.size w w1) (h : Fresh w1 w2 v xs) : Fresh w w2 v xs := by
  refine ⟨?_, below_then' hb h.2⟩
  obtain ⟨h1, h2⟩ := h.1
  refine ⟨h1, ?_⟩
  rcases h2 with h2 | ⟨g, cap, cur, hv, hg, r⟩
  · exact .inl h2
  · exact .inr ⟨g, cap, cur, hv, Nat.le_trans hb.size hg, r⟩
end Go.Proofs.Ytkcfeaonkgpbdaa.Pack
