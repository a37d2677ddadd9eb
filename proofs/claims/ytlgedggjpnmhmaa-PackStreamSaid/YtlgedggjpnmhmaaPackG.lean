import Derived.Test.YtlgedggjpnmhmaaPackF
/-! the document's signed numbers and bytes -/
namespace Go.Proofs.Ytlgedggjpnmhmaa.Pack
open Go.RowKit Go.Deep
set_option linter.unusedVariables false
set_option maxRecDepth 100000 in
set_option maxHeartbeats 2000000 in
theorem docreadint_ok (P : Option Addr) (c : Nat) (xs : List Int) (w : World) (hx : RI w w.heap.size .u8 P xs) (hc : xs.length ≤ c) (hl : xs.length ≤ 9223372036854775807) (hb : Byt xs) :
    Calls Try.prog 22 #[.slice P xs.length c] w fun e w' => e = .returned (.tuple #[.int .i64 (zag (rdU xs).1), .int .i64 (rdU xs).2.1, .int .i64 (rdU xs).2.2]) ∧ Below w.heap.size w w' := by
  obtain ⟨r0, r1, _⟩ := rdU_range xs hb
  have HU := Lib.hid (docreaduint_ok P c xs w hx hc hl hb)
  clear hx hb
  generalize (rdU xs).1 = n at *
  generalize (rdU xs).2.1 = k at *
  generalize (rdU xs).2.2 = f at *
  by_cases h : n % 2 = 1
  · have hz : zag n = -(n / 2) - 1 := by unfold zag; rw [if_pos h]
    have h1 : (n % 2 == 1) = true := by simpa using h
    have HZ := Lib.hid hz
    clear hz h
    go_enter Try.func22, Try.ntmps22
    go_wp2_with fail
    refine HU.out.mono ?_
    rintro e w1 ⟨rfl, hb1⟩
    go_wp2
    go_ret3
    exact ⟨by rw [HZ.out]; rfl, hb1⟩
  · have hz : zag n = n / 2 := by unfold zag; rw [if_neg h]
    have h1 : (n % 2 == 1) = false := by simpa using h
    have HZ := Lib.hid hz
    clear hz h
    go_enter Try.func22, Try.ntmps22
    go_wp2_with fail
    refine HU.out.mono ?_
    rintro e w1 ⟨rfl, hb1⟩
    go_wp2
    go_ret3
    exact ⟨by rw [HZ.out]; rfl, hb1⟩
/-- new memory behind new memory -/
theorem Fresh.then' {w w1 w2 : World} {v : Value} {xs : List Int} (hb : Below w.heap.size w w1) (h : Fresh w1 w2 v xs) : Fresh w w2 v xs := by
  refine ⟨?_, below_then' hb h.2⟩
  obtain ⟨h1, h2⟩ := h.1
  refine ⟨h1, ?_⟩
  rcases h2 with h2 | ⟨g, cap, cur, hv, hg, r⟩
  · exact .inl h2
  · exact .inr ⟨g, cap, cur, hv, Nat.le_trans hb.size hg, r⟩
set_option maxRecDepth 100000 in
set_option maxHeartbeats 2000000 in
theorem docreadbytes_yes (P : Option Addr) (c : Nat) (xs : List Int) (most : Int) (w : World) (hx : RI w w.heap.size .u8 P xs) (hl : xs.length ≤ 140737488355328) (hc : xs.length ≤ c) (hb : Byt xs) (h0 : 0 ≤ most) (h1 : most ≤ 65536) (n k : Nat) (hd : dec xs = some ((n : Int), k)) (hn : (n : Int) ≤ most) (hnk : n + k ≤ xs.length) :
    Calls Try.prog 24 #[.slice P xs.length c, .int .i64 most] w fun e w' => ∃ v, e = .returned (.tuple #[v, .int .i64 ((k : Int) + n), .int .i64 0]) ∧ Fresh w w' v ((xs.drop k).take n) := by
  have HU := docreaduint_ok P c xs w hx hc (by omega) hb
  obtain ⟨_, _, _, q1, q2, _⟩ := rdU_range xs hb
  rw [rdU_some hd] at HU q1 q2
  simp only [] at HU q1 q2
  have HU := Lib.hid HU
  have HX := Lib.hid hx
  have hlen : ((xs.drop k).take n).length = n := by simp; omega
  have HL := Lib.hid hlen
  clear hx hb hd hlen
  go_enter Try.func24, Try.ntmps24
  go_wp2_with fail
  refine HU.out.mono ?_
  rintro e w1 ⟨rfl, hb1⟩
  go_wp2_with fail
  · have H := twin_ok P 0 ((xs.drop k).take n) w1 (RI.none (by have := HL.out; omega)) (by have := HL.out; omega)
    rw [HL.out] at H
    refine H.mono ?_
    rintro e w2 ⟨v2, rfl, hf⟩
    have HF := Lib.hid hf
    clear hf H
    go_wp2
    go_ret3
    exact ⟨_, rfl, HF.out.then' hb1⟩
  · have H := twin_ok (P.map (·.add k)) (c - k) ((xs.drop k).take n) w1 (((HX.out.below hb1).more hb1.size).cut k n) (by have := HL.out; omega)
    rw [HL.out] at H
    refine H.mono ?_
    rintro e w2 ⟨v2, rfl, hf⟩
    have HF := Lib.hid hf
    clear hf H
    go_wp2
    go_ret3
    exact ⟨_, rfl, HF.out.then' hb1⟩
set_option maxRecDepth 100000 in
set_option maxHeartbeats 2000000 in
theorem docreadbytes_arg (P : Option Addr) (c : Nat) (xs : List Int) (most : Int) (w : World) (h : most < 0 ∨ 65536 < most) :
    Calls Try.prog 24 #[.slice P xs.length c, .int .i64 most] w fun e w' => ∃ v, e = .returned (.tuple #[v, .int .i64 0, .int .i64 1]) ∧ Fresh w w' v [] := by
  rcases h with h | h
  all_goals
    go_enter Try.func24, Try.ntmps24
    go_wp2
    go_ret3
    exact ⟨_, rfl, own_nil _ _ _ _, Below.refl _ _⟩
set_option maxRecDepth 100000 in
set_option maxHeartbeats 2000000 in
theorem docreadbytes_no (P : Option Addr) (c : Nat) (xs : List Int) (most : Int) (w : World) (hx : RI w w.heap.size .u8 P xs) (hl : xs.length ≤ 140737488355328) (hc : xs.length ≤ c) (hb : Byt xs) (h0 : 0 ≤ most) (h1 : most ≤ 65536) (hno : (rdU xs).2.2 = 3 ∨ (rdU xs).2.2 = 0 ∧ (most < (rdU xs).1 ∨ (xs.length : Int) - (rdU xs).2.1 < (rdU xs).1)) :
    Calls Try.prog 24 #[.slice P xs.length c, .int .i64 most] w fun e w' => ∃ v, e = .returned (.tuple #[v, .int .i64 0, .int .i64 3]) ∧ Fresh w w' v [] := by
  have HU := docreaduint_ok P c xs w hx hc (by omega) hb
  obtain ⟨r0, r1, q0, q1, q2, _⟩ := rdU_range xs hb
  have HU := Lib.hid HU
  clear hx hb
  generalize (rdU xs).1 = n at *
  generalize (rdU xs).2.1 = k at *
  generalize (rdU xs).2.2 = f at *
  rcases hno with rfl | ⟨rfl, hno⟩
  · go_enter Try.func24, Try.ntmps24
    go_wp2_with fail
    refine HU.out.mono ?_
    rintro e w1 ⟨rfl, hb1⟩
    go_wp2
    go_ret3
    exact ⟨_, rfl, own_nil _ _ _ _, hb1⟩
  · by_cases hm : most < n
    · go_enter Try.func24, Try.ntmps24
      go_wp2_with fail
      refine HU.out.mono ?_
      rintro e w1 ⟨rfl, hb1⟩
      go_wp2
      go_ret3
      exact ⟨_, rfl, own_nil _ _ _ _, hb1⟩
    · have hk : (xs.length : Int) - k < n := by omega
      clear hno
      go_enter Try.func24, Try.ntmps24
      go_wp2_with fail
      refine HU.out.mono ?_
      rintro e w1 ⟨rfl, hb1⟩
      go_wp2
      go_ret3
      exact ⟨_, rfl, own_nil _ _ _ _, hb1⟩
theorem docreadbytes_ok (P : Option Addr) (c : Nat) (xs : List Int) (most : Int) (w : World) (hx : RI w w.heap.size .u8 P xs) (hl : xs.length ≤ 140737488355328) (hc : xs.length ≤ c) (hb : Byt xs) :
    Calls Try.prog 24 #[.slice P xs.length c, .int .i64 most] w fun e w' => ∃ v, e = .returned (.tuple #[v, .int .i64 (rdB xs most).2.1, .int .i64 (rdB xs most).2.2]) ∧ Fresh w w' v (rdB xs most).1 := by
  by_cases h : most < 0 ∨ 65536 < most
  · have e : rdB xs most = ([], 0, 1) := by unfold rdB; rw [if_pos h]
    rw [e]
    exact docreadbytes_arg P c xs most w h
  · cases hd : dec xs with
    | none =>
      have e : rdB xs most = ([], 0, 3) := by unfold rdB; rw [if_neg h, hd]
      rw [e]
      exact docreadbytes_no P c xs most w hx hl hc hb (by omega) (by omega) (.inl (by rw [rdU_none hd]))
    | some r =>
      obtain ⟨n, k⟩ := r
      obtain ⟨n0, n1, hk, r, hr⟩ := dec_some hb hd
      have hkl : k ≤ xs.length := by rw [hr, hk]; simp
      by_cases hn : n ≤ most ∧ n ≤ xs.length - k
      · have e : rdB xs most = ((xs.drop k).take n.toNat, (k : Int) + n, 0) := by unfold rdB; rw [if_neg h, hd]; simp only []; rw [if_pos hn]
        rw [e]
        obtain ⟨m, rfl⟩ := Int.eq_ofNat_of_zero_le n0
        exact docreadbytes_yes P c xs most w hx hl hc hb (by omega) (by omega) m k hd hn.1 (by omega)
      · have e : rdB xs most = ([], 0, 3) := by unfold rdB; rw [if_neg h, hd]; simp only []; rw [if_neg hn]
        rw [e]
        exact docreadbytes_no P c xs most w hx hl hc hb (by omega) (by omega) (.inr (by rw [rdU_some hd]; refine ⟨rfl, ?_⟩; show most < n ∨ (xs.length : Int) - k < n; omega))
end Go.Proofs.Ytlgedggjpnmhmaa.Pack
