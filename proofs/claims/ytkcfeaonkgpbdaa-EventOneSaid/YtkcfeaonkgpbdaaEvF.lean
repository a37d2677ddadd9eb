import Derived.Test.YtkcfeaonkgpbdaaEvE
/-! DocWrite; the reader's two functions -/
namespace Go.Proofs.Ytkcfeaonkgpbdaa.Event
open Go.RowKit Go.Deep Go.Proofs.Ytkcfeaonkgpbdaa Go.Proofs.Ytkcfeaonkgpbdaa.Pack
set_option linter.unusedVariables false
set_option linter.unusedSimpArgs false
set_option maxRecDepth 100000 in
theorem docwrite_no (e : Ev) (A : Option Addr) (c : Nat) (w : World) (ho : e.ok) (hf : ¬ e.form) (hlen : e.ts.length ≤ 17592186044416) :
    Calls Try.prog 10 #[.agg (row e A c)] w fun x w' => x = .returned (.tuple #[.slice none 0 0, .int .i64 3]) ∧ Below w.heap.size w w' := by
  have hck := fun w' => form_ok e A c w' ho hlen
  rw [formB_no hf] at hck
  have hr := row_row e A c
  obtain ⟨R, hR⟩ : ∃ R, R = row e A c := ⟨_, rfl⟩
  rw [← hR] at hr ⊢
  simp only [← hR] at hck
  have HR := Lib.hid hr
  have HCK := Lib.hid hck
  clear hr hR hck
  go_enter Try.func10, Try.ntmps10
  have hB := Lib.hid (Blk.new w 26 R)
  have d0 := Lib.hid (((Below.refl w.heap.size w).alloc (Nat.le_refl _) (.cells R 26)))
  go_wp2_with (first
    | (refine wpList_load_row rfl 26 (.tmp 1) rfl w.heap.size rfl 26 R (0, 0) _ hB.out Try.underlying26 rfl (by rw [HR.out.size]; kernel_rfl) ?_))
  refine (HCK.out _).mono ?_
  rintro e1 w1 ⟨rfl, b1⟩
  go_wp2
  go_ret2
  exact ⟨rfl, d0.out.trans (b1.mono (by simp))⟩
set_option maxRecDepth 100000 in
theorem docwrite_ok (e : Ev) (A : Option Addr) (c : Nat) (w : World) (ho : e.ok) (hf : e.form) (hts : RI w w.heap.size .i64 A e.ts) (hcap : e.ts.length / 2 ≤ c) :
    Calls Try.prog 10 #[.agg (row e A c)] w fun x w' => ∃ v, x = .returned (.tuple #[v, .int .i64 0]) ∧ Fresh w w' v (wr e) := by
  have hlen16 := hf.2.1
  have hck := fun w' => form_ok e A c w' ho (by omega)
  have hwr := fun w' h => refwrite_ok e A c w' ho hf h hcap
  rw [formB_yes hf] at hck
  have hr := row_row e A c
  obtain ⟨R, hR⟩ : ∃ R, R = row e A c := ⟨_, rfl⟩
  rw [← hR] at hr ⊢
  simp only [← hR] at hck hwr
  have HR := Lib.hid hr
  have HCK := Lib.hid hck
  have HWR := Lib.hid hwr
  clear hr hR hck hwr
  go_enter Try.func10, Try.ntmps10
  have hB := Lib.hid (Blk.new w 26 R)
  have d0 := Lib.hid (((Below.refl w.heap.size w).alloc (Nat.le_refl _) (.cells R 26)))
  go_wp2_with (first
    | (refine wpList_load_row rfl 26 (.tmp 1) rfl w.heap.size rfl 26 R (0, 0) _ hB.out Try.underlying26 rfl (by rw [HR.out.size]; kernel_rfl) ?_))
  refine (HCK.out _).mono ?_
  rintro e1 w1 ⟨rfl, b1⟩
  have hB1 := Lib.hid (hB.out.below b1 (by simp))
  have d1 := Lib.hid (d0.out.trans (b1.mono (by simp)))
  have ht1 := (hts.below d1.out).more d1.out.size
  go_wp2_with (first
    | (refine wpList_load_row rfl 26 (.tmp 1) rfl w.heap.size rfl 26 R (0, 0) _ hB1.out Try.underlying26 rfl (by rw [HR.out.size]; kernel_rfl) ?_))
  refine (HWR.out _ ht1).mono ?_
  rintro e1 w2 ⟨v, rfl, f⟩
  go_wp2
  go_ret2
  exact ⟨_, rfl, Fresh.then' d1.out f⟩
theorem grown_set (w : World) (b i : Nat) (u : Value) : w.grownBy (w.setCell ⟨b, i, none⟩ u) (some b) := by
  have h := (Below.refl b w).setCell (p := ⟨b, i, none⟩) (Nat.le_refl _) u
  exact ⟨h.os, h.tape, h.output, h.size, fun k hk hne => Below.heap_setCell w ⟨b, i, none⟩ u k (fun e => hne (by rw [e]))⟩
/-- the reader: what is left of the bytes, and whether it has failed -/
def Rst (w : World) (b B : Nat) (xs : List Int) (bad : Bool) : Prop :=
  ∃ (A : Option Addr) (c : Nat), Blk w b 62 #[.slice A xs.length c, .bool bad] ∧ xs.length ≤ c ∧ RI w B .u8 A xs
def rest (xs : List Int) : List Int := xs.drop (rdU xs).2.1.toNat
def bads (xs : List Int) (bad : Bool) : Bool := bad || ((rdU xs).2.2 != 0)
set_option maxRecDepth 100000 in
set_option maxHeartbeats 4000000 in
theorem rduint_ok (b B : Nat) (xs : List Int) (bad : Bool) (w : World) (h : Rst w b B xs bad) (hBb : B ≤ b) (hl : xs.length ≤ 140737488355328) (hb : Byt xs) :
    Calls Try.prog 27 #[.pointer (some ⟨b, 0, none⟩)] w fun e w' => e = .returned (.int .u64 (rdU xs).1) ∧ w.grownBy w' (some b) ∧ Rst w' b B (rest xs) (bads xs bad) := by
  obtain ⟨A, c, hB, hc, hr⟩ := h
  have hcall := fun w' h => readuint_ok A c B xs w' h (by omega) hb
  have hrange := rdU_range xs hb
  obtain ⟨k, hk⟩ : ∃ k : Nat, (rdU xs).2.1 = k := ⟨(rdU xs).2.1.toNat, by omega⟩
  have hkx : k ≤ xs.length := by omega
  have hrest : rest xs = xs.drop k := by unfold rest; rw [hk]; rfl
  have hcode : (rdU xs).2.2 = 0 ∨ (rdU xs).2.2 = 3 := by omega
  rw [hk] at hcall
  obtain ⟨v, hv⟩ : ∃ v, v = (rdU xs).1 := ⟨_, rfl⟩
  obtain ⟨f, hf⟩ : ∃ f, f = (rdU xs).2.2 := ⟨_, rfl⟩
  have hbads : bads xs bad = (bad || (f != 0)) := by unfold bads; rw [hf]
  rw [hrest, hbads]
  rw [← hf] at hcode
  rw [← hv]
  simp only [← hv, ← hf] at hcall
  obtain ⟨L, hL⟩ : ∃ L, L = xs.length := ⟨_, rfl⟩
  have HL := Lib.hid hL
  rw [← hL] at hB hc hl hkx hcall
  have HB := Lib.hid hB
  have HRI := Lib.hid hr
  have HCALL := Lib.hid hcall
  have c0 : w.cell? ⟨b, 0, none⟩ = some (.slice A L c) := hB.cell 0
  have c1 : w.cell? ⟨b, 1, none⟩ = some (.bool bad) := hB.cell 1
  have f0 := hB.frozen 0
  have f1 := hB.frozen 1
  clear hB hr hcall hbads hf hv hrest hk hrange hL hb
  go_enter Try.func27, Try.ntmps27
  go_wp2_with fail
  refine (HCALL.out w HRI.out).mono ?_
  rintro e1 w1 ⟨rfl, rfl⟩
  go_upto_region 2 with fail
  have hbF : (!bad) = false ∨ (!bad) = true := by cases bad <;> simp
  have hAl : ∀ u, (w1.setCell ⟨b, 1, none⟩ u).cell? ⟨b, 0, none⟩ = some (.slice A L c) := fun u => (HB.out.set_ 1 u).cell 0
  have hAf : ∀ u, (w1.setCell ⟨b, 1, none⟩ u).frozen? ⟨b, 0, none⟩ = false := fun u => (HB.out.set_ 1 u).frozen 0
  have HAL := Lib.hid hAl
  have HAF := Lib.hid hAf
  clear hAl hAf
  cases bad
  · rcases hcode with hcode | hcode <;> subst hcode
    · go_upto_region 3 with fail
      have q1 := HAL.out (.bool true)
      have q2 := HAL.out (.bool false)
      have q3 := HAF.out (.bool true)
      have q4 := HAF.out (.bool false)
      go_wp2_with (first
        | (refine wpList_cut rfl (.tmp 30) (.tmp 31) 29 rfl Try.underlying29 (fun _ => by kernel_rfl) A L c k .i64 rfl rfl hkx hc ?_
           intro A' hA'))
      go_ret
      refine ⟨rfl, (grown_set _ _ _ _).trans (grown_set _ _ _ _), A', c - k, ?_, ?_, ?_⟩
      · have := (HB.out.set_ 1 (.bool false)).set_ 0 (.slice A' (L - k) (c - k))
        simp only [List.length_drop, ← HL.out]
        exact this
      · rw [List.length_drop, ← HL.out]; omega
      · exact hA' _ B .u8 xs HL.out.symm ((HRI.out.setCell hBb _).setCell hBb _)
    · go_upto_region 3 with fail
      have q1 := HAL.out (.bool true)
      have q2 := HAL.out (.bool false)
      have q3 := HAF.out (.bool true)
      have q4 := HAF.out (.bool false)
      go_wp2_with (first
        | (refine wpList_cut rfl (.tmp 30) (.tmp 31) 29 rfl Try.underlying29 (fun _ => by kernel_rfl) A L c k .i64 rfl rfl hkx hc ?_
           intro A' hA'))
      go_ret
      refine ⟨rfl, (grown_set _ _ _ _).trans (grown_set _ _ _ _), A', c - k, ?_, ?_, ?_⟩
      · have := (HB.out.set_ 1 (.bool true)).set_ 0 (.slice A' (L - k) (c - k))
        simp only [List.length_drop, ← HL.out]
        exact this
      · rw [List.length_drop, ← HL.out]; omega
      · exact hA' _ B .u8 xs HL.out.symm ((HRI.out.setCell hBb _).setCell hBb _)
  · rcases hcode with hcode | hcode <;> subst hcode
    · go_upto_region 3 with fail
      have q1 := HAL.out (.bool true)
      have q2 := HAL.out (.bool false)
      have q3 := HAF.out (.bool true)
      have q4 := HAF.out (.bool false)
      go_wp2_with (first
        | (refine wpList_cut rfl (.tmp 30) (.tmp 31) 29 rfl Try.underlying29 (fun _ => by kernel_rfl) A L c k .i64 rfl rfl hkx hc ?_
           intro A' hA'))
      go_ret
      refine ⟨rfl, (grown_set _ _ _ _).trans (grown_set _ _ _ _), A', c - k, ?_, ?_, ?_⟩
      · have := (HB.out.set_ 1 (.bool true)).set_ 0 (.slice A' (L - k) (c - k))
        simp only [List.length_drop, ← HL.out]
        exact this
      · rw [List.length_drop, ← HL.out]; omega
      · exact hA' _ B .u8 xs HL.out.symm ((HRI.out.setCell hBb _).setCell hBb _)
    · go_upto_region 3 with fail
      have q1 := HAL.out (.bool true)
      have q2 := HAL.out (.bool false)
      have q3 := HAF.out (.bool true)
      have q4 := HAF.out (.bool false)
      go_wp2_with (first
        | (refine wpList_cut rfl (.tmp 30) (.tmp 31) 29 rfl Try.underlying29 (fun _ => by kernel_rfl) A L c k .i64 rfl rfl hkx hc ?_
           intro A' hA'))
      go_ret
      refine ⟨rfl, (grown_set _ _ _ _).trans (grown_set _ _ _ _), A', c - k, ?_, ?_, ?_⟩
      · have := (HB.out.set_ 1 (.bool true)).set_ 0 (.slice A' (L - k) (c - k))
        simp only [List.length_drop, ← HL.out]
        exact this
      · rw [List.length_drop, ← HL.out]; omega
      · exact hA' _ B .u8 xs HL.out.symm ((HRI.out.setCell hBb _).setCell hBb _)
set_option maxRecDepth 100000 in
set_option maxHeartbeats 4000000 in
theorem rdint_ok (b B : Nat) (xs : List Int) (bad : Bool) (w : World) (h : Rst w b B xs bad) (hBb : B ≤ b) (hl : xs.length ≤ 140737488355328) (hb : Byt xs) :
    Calls Try.prog 28 #[.pointer (some ⟨b, 0, none⟩)] w fun e w' => e = .returned (.int .i64 (zag (rdU xs).1)) ∧ w.grownBy w' (some b) ∧ Rst w' b B (rest xs) (bads xs bad) := by
  obtain ⟨A, c, hB, hc, hr⟩ := h
  have hcall := fun w' h => readint_ok A c B xs w' h (by omega) hb
  have hrange := rdU_range xs hb
  obtain ⟨k, hk⟩ : ∃ k : Nat, (rdU xs).2.1 = k := ⟨(rdU xs).2.1.toNat, by omega⟩
  have hkx : k ≤ xs.length := by omega
  have hrest : rest xs = xs.drop k := by unfold rest; rw [hk]; rfl
  have hcode : (rdU xs).2.2 = 0 ∨ (rdU xs).2.2 = 3 := by omega
  rw [hk] at hcall
  obtain ⟨v, hv⟩ : ∃ v, v = zag (rdU xs).1 := ⟨_, rfl⟩
  obtain ⟨f, hf⟩ : ∃ f, f = (rdU xs).2.2 := ⟨_, rfl⟩
  have hbads : bads xs bad = (bad || (f != 0)) := by unfold bads; rw [hf]
  rw [hrest, hbads]
  rw [← hf] at hcode
  rw [← hv]
  simp only [← hv, ← hf] at hcall
  obtain ⟨L, hL⟩ : ∃ L, L = xs.length := ⟨_, rfl⟩
  have HL := Lib.hid hL
  rw [← hL] at hB hc hl hkx hcall
  have HB := Lib.hid hB
  have HRI := Lib.hid hr
  have HCALL := Lib.hid hcall
  have c0 : w.cell? ⟨b, 0, none⟩ = some (.slice A L c) := hB.cell 0
  have c1 : w.cell? ⟨b, 1, none⟩ = some (.bool bad) := hB.cell 1
  have f0 := hB.frozen 0
  have f1 := hB.frozen 1
  clear hB hr hcall hbads hf hv hrest hk hrange hL hb
  go_enter Try.func28, Try.ntmps28
  go_wp2_with fail
  refine (HCALL.out w HRI.out).mono ?_
  rintro e1 w1 ⟨rfl, rfl⟩
  go_upto_region 2 with fail
  have hbF : (!bad) = false ∨ (!bad) = true := by cases bad <;> simp
  have hAl : ∀ u, (w1.setCell ⟨b, 1, none⟩ u).cell? ⟨b, 0, none⟩ = some (.slice A L c) := fun u => (HB.out.set_ 1 u).cell 0
  have hAf : ∀ u, (w1.setCell ⟨b, 1, none⟩ u).frozen? ⟨b, 0, none⟩ = false := fun u => (HB.out.set_ 1 u).frozen 0
  have HAL := Lib.hid hAl
  have HAF := Lib.hid hAf
  clear hAl hAf
  cases bad
  · rcases hcode with hcode | hcode <;> subst hcode
    · go_upto_region 3 with fail
      have q1 := HAL.out (.bool true)
      have q2 := HAL.out (.bool false)
      have q3 := HAF.out (.bool true)
      have q4 := HAF.out (.bool false)
      go_wp2_with (first
        | (refine wpList_cut rfl (.tmp 30) (.tmp 31) 29 rfl Try.underlying29 (fun _ => by kernel_rfl) A L c k .i64 rfl rfl hkx hc ?_
           intro A' hA'))
      go_ret
      refine ⟨rfl, (grown_set _ _ _ _).trans (grown_set _ _ _ _), A', c - k, ?_, ?_, ?_⟩
      · have := (HB.out.set_ 1 (.bool false)).set_ 0 (.slice A' (L - k) (c - k))
        simp only [List.length_drop, ← HL.out]
        exact this
      · rw [List.length_drop, ← HL.out]; omega
      · exact hA' _ B .u8 xs HL.out.symm ((HRI.out.setCell hBb _).setCell hBb _)
    · go_upto_region 3 with fail
      have q1 := HAL.out (.bool true)
      have q2 := HAL.out (.bool false)
      have q3 := HAF.out (.bool true)
      have q4 := HAF.out (.bool false)
      go_wp2_with (first
        | (refine wpList_cut rfl (.tmp 30) (.tmp 31) 29 rfl Try.underlying29 (fun _ => by kernel_rfl) A L c k .i64 rfl rfl hkx hc ?_
           intro A' hA'))
      go_ret
      refine ⟨rfl, (grown_set _ _ _ _).trans (grown_set _ _ _ _), A', c - k, ?_, ?_, ?_⟩
      · have := (HB.out.set_ 1 (.bool true)).set_ 0 (.slice A' (L - k) (c - k))
        simp only [List.length_drop, ← HL.out]
        exact this
      · rw [List.length_drop, ← HL.out]; omega
      · exact hA' _ B .u8 xs HL.out.symm ((HRI.out.setCell hBb _).setCell hBb _)
  · rcases hcode with hcode | hcode <;> subst hcode
    · go_upto_region 3 with fail
      have q1 := HAL.out (.bool true)
      have q2 := HAL.out (.bool false)
      have q3 := HAF.out (.bool true)
      have q4 := HAF.out (.bool false)
      go_wp2_with (first
        | (refine wpList_cut rfl (.tmp 30) (.tmp 31) 29 rfl Try.underlying29 (fun _ => by kernel_rfl) A L c k .i64 rfl rfl hkx hc ?_
           intro A' hA'))
      go_ret
      refine ⟨rfl, (grown_set _ _ _ _).trans (grown_set _ _ _ _), A', c - k, ?_, ?_, ?_⟩
      · have := (HB.out.set_ 1 (.bool true)).set_ 0 (.slice A' (L - k) (c - k))
        simp only [List.length_drop, ← HL.out]
        exact this
      · rw [List.length_drop, ← HL.out]; omega
      · exact hA' _ B .u8 xs HL.out.symm ((HRI.out.setCell hBb _).setCell hBb _)
    · go_upto_region 3 with fail
      have q1 := HAL.out (.bool true)
      have q2 := HAL.out (.bool false)
      have q3 := HAF.out (.bool true)
      have q4 := HAF.out (.bool false)
      go_wp2_with (first
        | (refine wpList_cut rfl (.tmp 30) (.tmp 31) 29 rfl Try.underlying29 (fun _ => by kernel_rfl) A L c k .i64 rfl rfl hkx hc ?_
           intro A' hA'))
      go_ret
      refine ⟨rfl, (grown_set _ _ _ _).trans (grown_set _ _ _ _), A', c - k, ?_, ?_, ?_⟩
      · have := (HB.out.set_ 1 (.bool true)).set_ 0 (.slice A' (L - k) (c - k))
        simp only [List.length_drop, ← HL.out]
        exact this
      · rw [List.length_drop, ← HL.out]; omega
      · exact hA' _ B .u8 xs HL.out.symm ((HRI.out.setCell hBb _).setCell hBb _)
end Go.Proofs.Ytkcfeaonkgpbdaa.Event
