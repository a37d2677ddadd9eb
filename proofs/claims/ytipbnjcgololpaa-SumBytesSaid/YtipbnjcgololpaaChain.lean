import Derived.Test.YtipbnjcgololpaaShaE
import Derived.Deep.Upon
/-! sum.Chain: the earlier sum ahead of the bytes -/
namespace Go.Proofs.Ytipbnjcgololpaa.Sha
open Go.RowKit Go.Deep Go.Proofs.Ytipbnjcgololpaa.Pack Go.Proofs.Ytipbnjcgololpaa.Crc
set_option linter.unusedVariables false
set_option linter.unusedSimpArgs false
/-- 'append(s, ys...)' where s has no room and is not of the call's own making -/
theorem wpList_app_full {P : Program} {ops : Array Oper} {rest : List Oper} {o : Oper} {a : Act} {Q : Exit → Act → World → Prop} (W : World) (hgd : o.guard = none) (s x : Operand) (t : TypeId)
    (ho : o.op = .call { callee := .builtin .append, args := #[s, x], argTypes := #[t, t] })
    (e : TypeId) (k : IntKind) (bytes : Nat) (ht : P.underlying t = some (.slice e)) (hinfo : (P.info? e).map (fun i => (i.zero, i.size, i.bytes)) = some (some (.int k 0), 1, bytes)) (hb0 : 0 < bytes)
    (g : Nat) (xs : List Int) (hs : a.eval s = .slice (some ⟨g, 0, none⟩) xs.length xs.length) (hr0 : RI W W.heap.size k (some ⟨g, 0, none⟩) xs)
    (B : Nat) (A : Option Addr) (c : Nat) (ys : List Int) (hx : a.eval x = .slice A ys.length c) (hr : RI W B k A ys)
    (hl : (xs.length + ys.length) * bytes ≤ 140737488355328)
    (h : ∀ n A' c' w', n = (xs ++ ys).length → RI w' w'.heap.size k A' (xs ++ ys) → Below W.heap.size W w' → wpList P ops Q rest (a.put o.dst (.slice A' n c')) w') : wpList P ops Q (o :: rest) a W := by
  obtain ⟨i0, hi, hz0, hz1, hz2⟩ := info_parts hinfo
  have hlen : xs.length + ys.length ≤ 140737488355328 := Nat.le_trans (Nat.le_mul_of_pos_right _ hb0) hl
  by_cases hy : ys.length = 0
  · obtain rfl := List.eq_nil_of_length_eq_zero hy
    have hsrc : Src P i0.size t (.slice A 0 c) 0 [] W := by
      cases A with
      | none => exact .ofNil W ht c
      | some ad => exact .ofSlice W ht ad 0 c [] (by simp) (by simp) (by simp)
    refine wpList_plain hgd fun K hK' => ?_
    have hrun := run_append_nothing (P := P) W t t o.type e i0 ht hi (some ⟨g, 0, none⟩) xs.length xs.length (Nat.le_refl _) _ hsrc
    unfold Oper.wp
    simp [execOp, ho, resolve, invoke, builtin, hs, hx, hrun, Result.andThen]
    have := h xs.length (some ⟨g, 0, none⟩) xs.length W (by simp) (by simpa using hr0) (Below.refl _ _)
    exact hK' _ _ this
  · obtain ⟨ad, rfl, hB, hc⟩ := hr.2 (by simpa using Nat.pos_of_ne_zero hy)
    refine wpList_append_grows W hgd s x t ho e i0 (.int k 0) 1 bytes ht hi hz0 hz1 hz2 rfl (by omega) (some ⟨g, 0, none⟩) xs.length xs.length (nums k xs) hs (by simp) (by simp [nums]) ?_ ad ys.length c (nums k ys) hx (by simp [nums]) hc (nums_one k ys) (by omega) (by simp only [maxLen]; omega) hl ?_
    · intro b hb j u hu
      injection hb with hb; subst hb
      by_cases hx0 : xs.length = 0
      · obtain rfl := List.eq_nil_of_length_eq_zero hx0
        simp [nums] at hu
      · obtain ⟨ad', h', _, hc'⟩ := hr0.2 (by simpa using Nat.pos_of_ne_zero hx0)
        injection h' with h'; subst h'
        exact hc' j u hu
    · intro v' w' hown hg
      have e1 : nums k xs ++ nums k ys = nums k (xs ++ ys) := (nums_append k xs ys).symm
      rw [e1] at hown
      have e2 : xs.length + ys.length = (xs ++ ys).length := by simp
      rw [e2] at hown
      obtain ⟨A', c', rfl⟩ := own_slice hown
      exact h _ A' c' w' rfl (RI.of_own hown).2 ⟨hg.os, hg.tape, hg.output, hg.size, fun q hq => hg.block q hq (by simp)⟩
set_option maxHeartbeats 1000000 in
set_option maxRecDepth 100000 in
theorem chain_ok (ps : List Nat) (h32 : ps.length = 32) (P : Option Addr) (c : Nat) (xs : List Int) (w : World) (hx : RI w w.heap.size .u8 P xs) (hl : xs.length + 112 ≤ 140737488355328) (hb : Byt xs) (hp : Byt (toI ps)) :
    Calls Try.prog 16 #[.agg (rowB ps 32), .slice P xs.length c] w fun e w' => e = .returned (.agg (rowB (sha (ps ++ nat xs)) 32)) ∧ Below w.heap.size w w' := by
  have HX := Lib.hid hx
  have HB := Lib.hid hb
  have HP := Lib.hid hp
  clear hx hb hp
  have hL : (toI ps).length = 32 := by rw [toI_length, h32]
  have hL2 : (toI ps ++ xs).length = 32 + xs.length := by simp [hL]
  have hcs : (rowB ps 32).toList = nums .u8 (toI ps) := by simp [rowB, h32, nums, toI, Function.comp_def]
  obtain ⟨R, hR⟩ : ∃ R, R = rowB ps 32 := ⟨_, rfl⟩
  rw [← hR] at hcs ⊢
  have HR := Lib.hid hR
  have HC := Lib.hid hcs
  clear hR hcs
  go_enter Try.func16, Try.ntmps16
  go_upto_region 1 with fail
  have hRI : Hid (RI ((w.alloc (.cells R 33)).alloc (.cells (rowB [] 32) 33)) ((w.alloc (.cells R 33)).alloc (.cells (rowB [] 32) 33)).heap.size .u8 (some ⟨w.heap.size, 0, none⟩) (toI ps)) := Lib.hid (((RI.of_lit (t := 33) (b := w.heap.size) (heap_alloc_new w _) HC.out).alloc (Nat.le_refl _) _).more (by simp))
  have hOut : Blk ((w.alloc (.cells R 33)).alloc (.cells (rowB [] 32) 33)) (w.heap.size + 1) 33 (rowB [] 32) := Blk.new' (by simp)
  have d0 : Below w.heap.size w ((w.alloc (.cells R 33)).alloc (.cells (rowB [] 32) 33)) := ((Below.refl _ _).alloc (Nat.le_refl _) _).alloc (by simp) _
  have HO := Lib.hid hOut
  have HD := Lib.hid d0
  clear hOut d0
  go_wp2_with (first
    | (at_builtin
       refine wpList_app_full _ rfl (.tmp 5) (.tmp 6) _ rfl 5 .u8 1 Try.underlying27 info5 (by omega) w.heap.size (toI ps) (by rw [hL]; rfl) hRI.out w.heap.size P c xs rfl ((HX.out.alloc (Nat.le_refl _) _).alloc (by simp) _) (by rw [hL]; omega) ?_
       intro n1 A1 c1 w1 hn1 hr1 hb1
       replace hb1 : Below ((w.alloc (.cells R 33)).alloc (.cells (rowB [] 32) 33)).heap.size ((w.alloc (.cells R 33)).alloc (.cells (rowB [] 32) 33)) w1 := hb1))
  have HO1 := Lib.hid (HO.out.below hb1 (by simp))
  have e1 := HD.out.trans (hb1.mono (by simp; omega))
  have hn : nat (toI ps ++ xs) = ps ++ nat xs := by rw [nat_app, nat_toI]
  have hbt : Byt (toI ps ++ xs) := fun x hx => (List.mem_append.1 hx).elim (HP.out x) (HB.out x)
  clear hb1 HO HD hRI HX
  have H := sha_ok A1 c1 (toI ps ++ xs) w1 hr1 (by omega) hbt
  rw [hL2] at H
  clear hn1 hr1 hbt
  refine H.mono ?_
  rintro e w2 ⟨rfl, b2⟩
  rw [hn]
  have HO2 := HO1.out.below b2 HO1.out.lt
  have e2 := e1.trans (b2.mono e1.size)
  have hlen : (sha (ps ++ nat xs)).length = 32 := out_length _
  obtain ⟨D, hD⟩ : ∃ D, D = sha (ps ++ nat xs) := ⟨_, rfl⟩
  rw [← hD] at hlen ⊢
  have HDD := Lib.hid hD
  clear hn HO1 e1 b2 hD H
  go_wp2_with (refine wpList_put rfl 33 (.tmp 4) (.tmp 8) rfl (w.heap.size + 1) (rowB D 32) rfl rfl 33 _ HO2 (by rw [rowB_size (Nat.le_of_eq hlen)]; kernel_rfl) (by rw [rowB_size (Nat.le_of_eq hlen)]; rfl) (rowB_one _ _) ?_; intro W9 hB9 hfar9 hbel9 hsz9 hcl9)
  have e9 := hbel9 w.heap.size w (by omega) e2
  exact bodyPost_ret (results_cell_row rfl _ W9 (w.heap.size + 1) 33 (rowB D 32) (0, 0) _ rfl hB9 Try.underlying33 rfl (by rw [rowB_size (Nat.le_of_eq hlen)]; kernel_rfl)) rfl ⟨by rw [HDD.out], e9⟩
end Go.Proofs.Ytipbnjcgololpaa.Sha
