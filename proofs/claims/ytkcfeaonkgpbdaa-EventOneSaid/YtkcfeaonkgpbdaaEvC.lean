import Derived.Test.YtkcfeaonkgpbdaaEvB
/-! the document's Form -/
namespace Go.Proofs.Ytkcfeaonkgpbdaa.Event
open Go.RowKit Go.Deep Go.Proofs.Ytkcfeaonkgpbdaa Go.Proofs.Ytkcfeaonkgpbdaa.Pack
set_option linter.unusedVariables false
set_option linter.unusedSimpArgs false
noncomputable def formB (e : Ev) : Bool := @decide e.form (Classical.propDecidable _)
theorem formB_yes {e : Ev} (h : e.form) : formB e = true := by unfold formB; simpa using h
theorem formB_no {e : Ev} (h : ¬ e.form) : formB e = false := by unfold formB; simpa using h
set_option maxRecDepth 100000 in
set_option maxHeartbeats 4000000 in
theorem form_ok (e : Ev) (A : Option Addr) (c : Nat) (w : World) (ho : e.ok) (hlen : e.ts.length ≤ 17592186044416) :
    Calls Try.prog 15 #[.agg (row e A c)] w fun x w' => x = .returned (.bool (formB e)) ∧ Below w.heap.size w w' := by
  have hr := row_row e A c
  obtain ⟨R, hR⟩ : ∃ R, R = row e A c := ⟨_, rfl⟩
  rw [← hR] at hr ⊢
  have HR := Lib.hid hr
  have HO := Lib.hid ho
  have hop0 := ho.op0
  have hop1 := ho.op1
  have hc := cnt_range e.op
  clear hr hR ho
  obtain ⟨L, hL⟩ : ∃ L, L = e.ts.length / 2 := ⟨_, rfl⟩
  have HL := Lib.hid hL
  have hL2 : L ≤ 8796093022208 := by omega
  clear hL
  go_enter Try.func15, Try.ntmps15
  have hB := Lib.hid (Blk.new w 26 R)
  have c0 := (hB.out.cell 0).trans HR.out.op
  have c10 := (hB.out.cell 10).trans HR.out.ts
  rw [← HL.out] at c10
  obtain ⟨op, hop⟩ : ∃ op, op = e.op := ⟨_, rfl⟩
  rw [← hop] at hop0 hop1 hc c0
  have HOP := Lib.hid hop
  clear hop
  have d0 := Lib.hid (((Below.refl w.heap.size w).alloc (Nat.le_refl _) (.cells R 26)))
  go_wp2_with fail
  refine (refcount_ok op hop0 hop1 _).mono ?_
  rintro e1 w1 ⟨rfl, rfl⟩
  by_cases hcn : cnt op < 0
  · go_wp2
    go_ret
    exact ⟨by rw [formB_no fun h => by have := h.1; rw [← HOP.out] at this; omega]; rfl, d0.out⟩
  · obtain ⟨n, hn⟩ : ∃ n : Nat, cnt op = n := ⟨(cnt op).toNat, by omega⟩
    rw [hn]
    have hn8 : n ≤ 8 := by omega
    have HN := Lib.hid hn
    clear hn hcn
    rcases (by omega : (0 < L ∧ L ≤ 8 ∧ op ≠ 1) ∨ (8 < L) ∨ (L = 0 ∧ op ≠ 1) ∨ (L = 0 ∧ op = 1) ∨ ((0 < L ∧ L ≤ 8) ∧ op = 1)) with ⟨h1, h3, h2⟩ | h1 | ⟨h1, h2⟩ | ⟨h1, h2⟩ | ⟨h1, h2⟩
    · have e1 : (op != 1) = true := by simpa using h2
      go_wp2
      go_ret
      have hno : ¬ e.form := by
        intro h
        rcases h.2.2.1 with h3 | h3
        · have := HL.out; rw [h3] at this; simp at this; omega
        · rw [← HOP.out] at h3; exact h2 h3
      exact ⟨by rw [formB_no hno]; rfl, d0.out⟩
    · go_wp2
      go_ret
      have hno : ¬ e.form := by
        intro h
        have := h.2.1; have := HL.out; omega
      exact ⟨by rw [formB_no hno]; rfl, d0.out⟩
    all_goals
      have hform : Hid (e.ts.length ≤ 16 ∧ (e.ts = [] ∨ e.op = 1)) := Lib.hid (by
        have := HL.out
        have := HO.out.even
        first
          | exact ⟨by omega, .inr (by rw [← HOP.out]; exact h2)⟩
          | exact ⟨by omega, .inl (List.eq_nil_of_length_eq_zero (by omega))⟩)
      try (have e1 : (op != 1) = true := by simpa using h2)
      go_wp2_with fail
      go_loopw [4] (fun i wr => ∃ j : Nat, n ≤ j ∧ j ≤ 8 ∧ i = .int .i64 j ∧ Hid (∀ k, n ≤ k → k < j → rd e.ns k = 0) ∧ wr = w.alloc (.cells R 26)) (fun i _ => 8 - (intOf i).toNat)
      case atStart => exact ⟨n, by omega, by omega, rfl, Lib.hid (fun k _ _ => by omega), rfl⟩
      case round =>
        obtain ⟨j, hj, hj8, rfl, hz, rfl⟩ := hrel
        by_cases hjm : j < 8
        · have cj := (hB.out.cell (2 + j)).trans (HR.out.n j (by omega))
          have hjm' : (j : Int) < 8 := by omega
          have hj0 : (0 : Int) ≤ j := by omega
          have hd := decide_eq_true hjm'
          by_cases hv : rd e.ns j = 0
          · rw [hv] at cj
            go_wp2
            go_roundw
            case rel =>
              refine ⟨j + 1, by omega, by omega, by go_num, Lib.hid (fun k h1 h2 => ?_), trivial⟩
              by_cases hk : k = j
              · rw [hk]; exact hv
              · exact hz.out k h1 (by omega)
            case measure => simp [intOf]; omega
          · obtain ⟨v, hv'⟩ : ∃ v, v = rd e.ns j := ⟨_, rfl⟩
            rw [← hv'] at cj
            have e2 : (v != 0) = true := by rw [hv']; simpa using hv
            have e3 : (v == 0) = false := by rw [hv']; simpa using hv
            go_wp2
            go_ret
            exact ⟨by rw [formB_no fun h => hv (h.2.2.2 j (by rw [← HOP.out, HN.out]; omega) (by omega))]; rfl, d0.out⟩
        · have hd : decide ((j : Int) < 8) = false := by simp; omega
          have hjm' : ¬ (j : Int) < 8 := by omega
          go_wp2
          go_ret
          have hyes : e.form := by
            refine ⟨?_, hform.out.1, hform.out.2, fun k h1 h2 => ?_⟩
            · rw [← HOP.out, HN.out]; omega
            · rw [← HOP.out, HN.out] at h1
              exact hz.out k (by omega) (by omega)
          exact ⟨by rw [formB_yes hyes]; rfl, d0.out⟩
end Go.Proofs.Ytkcfeaonkgpbdaa.Event
