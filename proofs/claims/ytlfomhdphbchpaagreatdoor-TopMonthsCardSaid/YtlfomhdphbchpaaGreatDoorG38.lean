/- Lemmas of a claim, several texts in one: Chain, Apz, BkJ -/
import Derived.Test.YtlfomhdphbchpaaGreatDoorG37
import Derived.Deep.Upon
import Derived.Test.YtlfomhdphbchpaaGreatDoorG34
import Derived.Lib.AppendZerosOnto
/-! sum.Chain: the earlier sum ahead of the bytes -/
namespace Go.Proofs.YtlfomhdphbchpaaGreatDoor.Sha
open Go.RowKit Go.Deep Go.Proofs.YtlfomhdphbchpaaGreatDoor.Pack Go.Proofs.YtlfomhdphbchpaaGreatDoor.Crc
set_option linter.unusedVariables false
set_option linter.unusedSimpArgs false
/-- 'append(s, ys...)' where s has no room and is not of the call's own making -/
theorem wpList_app_full {P : Program} {ops : Array Oper} {rest : List Oper} {o : Oper} {a : Act} {Q : Exit → Act → World → Prop} (W : World) (hgd : o.guard = none) (s x : Operand) (t : TypeId)
    (ho : o.op = .call { callee := .builtin .append, args := #[s, x], argTypes := #[t, t] })
    (e : TypeId) (k : IntKind) (bytes : Nat) (ht : P.underlying t = some (.slice e)) (hinfo : (P.info? e).map (fun i => (i.zero, i.size, i.bytes)) = some (some (.int k 0), 1, bytes)) (hb0 : 0 < bytes)
    (g : Nat) (xs : List Int) (hs : a.eval s = .slice (some ⟨g, 0, none⟩) xs.length xs.length) (hr0 : RI W W.heap.size k (some ⟨g, 0, none⟩) xs)
    (B : Nat) (A : Option Addr) (c : Nat) (ys : List Int) (hx : a.eval x = .slice A ys.length c) (hr : RI W B k A ys)
    (hl : (xs.length + ys.length) * bytes ≤ 140737488355328)
    (h : ∀ n A' c' w', n = (xs ++ ys).length → RI w' w'.heap.size k A' (xs ++ ys) → Below W.heap.size W w' → wpList P ops Q rest (a.put o.dst (.slice A' n c')) w') : wpList P ops Q (o :: rest) a W := by
  obtain ⟨i0, hi, hz0, hz1, hz2⟩ := info_parts hinfo
  have hlen : xs.length + ys.length ≤ 140737488355328 := Nat.le_trans (Nat.le_mul_of_pos_right _ hb0) hl
  by_cases hy : ys.length = 0
  · obtain rfl := List.eq_nil_of_length_eq_zero hy
    have hsrc : Src P i0.size t (.slice A 0 c) 0 [] W := by
      cases A with
      | none => exact .ofNil W ht c
      | some ad => exact .ofSlice W ht ad 0 c [] (by simp) (by simp) (by simp)
    refine wpList_plain hgd fun K hK' => ?_
    have hrun := run_append_nothing (P := P) W t t o.type e i0 ht hi (some ⟨g, 0, none⟩) xs.length xs.length (Nat.le_refl _) _ hsrc
    unfold Oper.wp
    simp [execOp, ho, resolve, invoke, builtin, hs, hx, hrun, Result.andThen]
    have := h xs.length (some ⟨g, 0, none⟩) xs.length W (by simp) (by simpa using hr0) (Below.refl _ _)
    exact hK' _ _ this
  · obtain ⟨ad, rfl, hB, hc⟩ := hr.2 (by simpa using Nat.pos_of_ne_zero hy)
    refine wpList_append_grows W hgd s x t ho e i0 (.int k 0) 1 bytes ht hi hz0 hz1 hz2 rfl (by omega) (some ⟨g, 0, none⟩) xs.length xs.length (nums k xs) hs (by simp) (by simp [nums]) ?_ ad ys.length c (nums k ys) hx (by simp [nums]) hc (nums_one k ys) (by omega) (by simp only [maxLen]; omega) hl ?_
    · intro b hb j u hu
      injection hb with hb; subst hb
      by_cases hx0 : xs.length = 0
      · obtain rfl := List.eq_nil_of_length_eq_zero hx0
        simp [nums] at hu
      · obtain ⟨ad', h', _, hc'⟩ := hr0.2 (by simpa using Nat.pos_of_ne_zero hx0)
        injection h' with h'; subst h'
        exact hc' j u hu
    · intro v' w' hown hg
      have e1 : nums k xs ++ nums k ys = nums k (xs ++ ys) := (nums_append k xs ys).symm
      rw [e1] at hown
      have e2 : xs.length + ys.length = (xs ++ ys).length := by simp
      rw [e2] at hown
      obtain ⟨A', c', rfl⟩ := own_slice hown
      exact h _ A' c' w' rfl (RI.of_own hown).2 ⟨hg.os, hg.tape, hg.output, hg.size, fun q hq => hg.block q hq (by simp)⟩
set_option maxHeartbeats 1000000 in
set_option maxRecDepth 100000 in
theorem chain_ok (ps : List Nat) (h32 : ps.length = 32) (P : Option Addr) (c : Nat) (xs : List Int) (w : World) (hx : RI w w.heap.size .u8 P xs) (hl : xs.length + 112 ≤ 140737488355328) (hb : Byt xs) (hp : Byt (toI ps)) :
    Calls Tryz.prog 160 #[.agg (rowB ps 32), .slice P xs.length c] w fun e w' => e = .returned (.agg (rowB (sha (ps ++ nat xs)) 32)) ∧ Below w.heap.size w w' := by
  have HX := Lib.hid hx
  have HB := Lib.hid hb
  have HP := Lib.hid hp
  clear hx hb hp
  have hL : (toI ps).length = 32 := by rw [toI_length, h32]
  have hL2 : (toI ps ++ xs).length = 32 + xs.length := by simp [hL]
  have hcs : (rowB ps 32).toList = nums .u8 (toI ps) := by simp [rowB, h32, nums, toI, Function.comp_def]
  obtain ⟨R, hR⟩ : ∃ R, R = rowB ps 32 := ⟨_, rfl⟩
  rw [← hR] at hcs ⊢
  have HR := Lib.hid hR
  have HC := Lib.hid hcs
  clear hR hcs
  go_enter Tryz.func160, Tryz.ntmps160
  go_upto_region 1 with fail
  have hRI : Hid (RI ((w.alloc (.cells R 142)).alloc (.cells (rowB [] 32) 142)) ((w.alloc (.cells R 142)).alloc (.cells (rowB [] 32) 142)).heap.size .u8 (some ⟨w.heap.size, 0, none⟩) (toI ps)) := Lib.hid (((RI.of_lit (t := 142) (b := w.heap.size) (heap_alloc_new w _) HC.out).alloc (Nat.le_refl _) _).more (by simp))
  have hOut : Blk ((w.alloc (.cells R 142)).alloc (.cells (rowB [] 32) 142)) (w.heap.size + 1) 142 (rowB [] 32) := Blk.new' (by simp)
  have d0 : Below w.heap.size w ((w.alloc (.cells R 142)).alloc (.cells (rowB [] 32) 142)) := ((Below.refl _ _).alloc (Nat.le_refl _) _).alloc (by simp) _
  have HO := Lib.hid hOut
  have HD := Lib.hid d0
  clear hOut d0
  go_wp2_with (first
    | (at_builtin
       refine wpList_app_full _ rfl (.tmp 5) (.tmp 6) _ rfl 5 .u8 1 Tryz.underlying94 info5 (by omega) w.heap.size (toI ps) (by rw [hL]; rfl) hRI.out w.heap.size P c xs rfl ((HX.out.alloc (Nat.le_refl _) _).alloc (by simp) _) (by rw [hL]; omega) ?_
       intro n1 A1 c1 w1 hn1 hr1 hb1
       replace hb1 : Below ((w.alloc (.cells R 142)).alloc (.cells (rowB [] 32) 142)).heap.size ((w.alloc (.cells R 142)).alloc (.cells (rowB [] 32) 142)) w1 := hb1))
  have HO1 := Lib.hid (HO.out.below hb1 (by simp))
  have e1 := HD.out.trans (hb1.mono (by simp; omega))
  have hn : nat (toI ps ++ xs) = ps ++ nat xs := by rw [nat_app, nat_toI]
  have hbt : Byt (toI ps ++ xs) := fun x hx => (List.mem_append.1 hx).elim (HP.out x) (HB.out x)
  clear hb1 HO HD hRI HX
  have H := sha_ok A1 c1 (toI ps ++ xs) w1 hr1 (by omega) hbt
  rw [hL2] at H
  clear hn1 hr1 hbt
  refine H.mono ?_
  rintro e w2 ⟨rfl, b2⟩
  rw [hn]
  have HO2 := HO1.out.below b2 HO1.out.lt
  have e2 := e1.trans (b2.mono e1.size)
  have hlen : (sha (ps ++ nat xs)).length = 32 := out_length _
  obtain ⟨D, hD⟩ : ∃ D, D = sha (ps ++ nat xs) := ⟨_, rfl⟩
  rw [← hD] at hlen ⊢
  have HDD := Lib.hid hD
  clear hn HO1 e1 b2 hD H
  go_wp2_with (refine wpList_put rfl 142 (.tmp 4) (.tmp 8) rfl (w.heap.size + 1) (rowB D 32) rfl rfl 142 _ HO2 (by rw [rowB_size (Nat.le_of_eq hlen)]; kernel_rfl) (by rw [rowB_size (Nat.le_of_eq hlen)]; rfl) (rowB_one _ _) ?_; intro W9 hB9 hfar9 hbel9 hsz9 hcl9)
  have e9 := hbel9 w.heap.size w (by omega) e2
  exact bodyPost_ret (results_cell_row rfl _ W9 (w.heap.size + 1) 142 (rowB D 32) (0, 0) _ rfl hB9 Tryz.underlying142 rfl (by rw [rowB_size (Nat.le_of_eq hlen)]; kernel_rfl)) rfl ⟨by rw [HDD.out], e9⟩
end Go.Proofs.YtlfomhdphbchpaaGreatDoor.Sha

/-! append(s, make([]byte, k)...) onto a row of the call's own -/
namespace Go.Proofs.YtlfomhdphbchpaaGreatDoor
open Go.RowKit Go.Deep
set_option linter.unusedVariables false
set_option linter.unusedSimpArgs false
set_option maxHeartbeats 1000000 in
theorem run_appz {P : Program} (w : World) (base : Nat) (t tn ty e : TypeId) (i : TypeInfo) (kn : IntKind) (ht : P.underlying t = some (.slice e)) (htn : P.underlying tn = some (.int kn)) (hi : P.info? e = some i) (hz : i.zero = some (.int .u8 0)) (hs : i.size = 1) (hby : i.bytes = 1)
    (v : Value) (xs : List Int) (hown : w.ownsRow base e 1 v xs.length (nums .u8 xs)) (k : Nat) (hl : xs.length + k ≤ 1000000) (hbase : base ≤ w.heap.size) :
    ∃ v' w', (Builtin.append_ #[t, tn] ty #[v, .int .i64 (k : Int)]).run P w = .ok v' w' ∧ w'.ownsRow base e 1 v' (xs.length + k) (nums .u8 (xs ++ List.replicate k 0)) ∧ w.grownBy w' v.ownBlock ∧ (v'.ownBlock = v.ownBlock ∨ v'.ownBlock = some w.heap.size) := by
  obtain ⟨A, c, rfl⟩ := own_slice hown
  have hw : IntKind.i64.wrap (k : Int) = k := by rw [IntKind.wrap_i64]; omega
  have hneg : ¬ ((k : Int) < 0) := by omega
  have h48i : ¬ (281474976710656 < (k : Int)) := by omega
  rcases Nat.eq_zero_or_pos k with rfl | hk
  · refine ⟨.slice A xs.length c, w, ?_, by simpa using hown, World.grownBy.refl w _, .inl rfl⟩
    have hc := own_cap hown
    have hw0 : IntKind.i64.wrap 0 = 0 := by rw [IntKind.wrap_i64]; omega
    cases A with
    | none => simp [Builtin.append_, run_underlying ht, run_underlying htn, sizeOf, typeInfo, zeroValue, hi, hz, hs, hby, asInt, asIntOf, hw, hw0, hc]
    | some a => simp [Builtin.append_, run_underlying ht, run_underlying htn, sizeOf, typeInfo, zeroValue, hi, hz, hs, hby, asInt, asIntOf, hw, hw0, hc, storeCells]
  · have hzc : (Builtin.zeroCells (Value.int .u8 0).cells k).toList = List.replicate k (Value.int .u8 0) := by
      apply List.ext_getElem?
      intro j
      simp only [Builtin.zeroCells, Value.cells, Array.toList_map, Array.toList_range, List.size_toArray, List.length_cons, List.length_nil, Nat.zero_add, Nat.mul_one, List.getElem?_map, Nat.mod_one, List.getElem?_replicate]
      by_cases hj : j < k
      · simp [hj]
      · simp [hj]
    by_cases hr : xs.length + k ≤ c
    · obtain ⟨h1, h2 | ⟨g, cap, cur, he, hb, hg, hc, hm, hz', hx⟩⟩ := id hown
      · obtain ⟨h2, _⟩ := h2
        injection h2 with e1 e2 e3; omega
      · cases he
        have hst := run_storeCells_at P g xs.length e (List.replicate k (Value.int .u8 0)) 0 cur w hg (by simp; omega) (by intro v hv; rw [List.eq_of_mem_replicate hv]; rfl)
        have hlen : cur.toList.length = c := by simp at hz' ⊢; omega
        refine ⟨.slice (some ⟨g, 0, none⟩) (xs.length + k) c, w.setRow g (cur.toList.take (xs.length + 0) ++ List.replicate k (Value.int .u8 0) ++ cur.toList.drop (xs.length + 0 + (List.replicate k (Value.int .u8 0)).length)).toArray, ?_, ?_, ?_, .inl rfl⟩
        · have hk0 : k ≠ 0 := by omega
          simp [Builtin.append_, run_underlying ht, run_underlying htn, sizeOf, typeInfo, zeroValue, hi, hz, hs, hby, asInt, asIntOf, hw, hneg, h48i, hr, hk0, hzc, Addr.add_lit, hst]
        · refine ⟨by simp [nums], .inr ⟨g, c, _, rfl, hb, setRow_heap w g cur _ e _ hg, by omega, hm, by simp; omega, ?_⟩⟩
          have hx' : cur.toList.take xs.length = nums .u8 xs := by simpa using hx
          have e1 : nums .u8 (List.replicate k 0) = List.replicate k (Value.int .u8 0) := by simp [nums]
          rw [nums_append, e1, ← hx']
          simp only [Nat.add_zero, Nat.mul_one]
          rw [List.take_append_of_le_length (by simp; omega), List.take_of_length_le (by simp; omega)]
        · exact ⟨rfl, rfl, rfl, by simp [World.setRow], fun q hq hne => setRow_other w g q _ (fun e => hne (by rw [e]; rfl))⟩
    · have hrd := Reads.of_own hown
      have hold : (Builtin.firstCells i.size xs.length (.slice A xs.length c)).run P w.drew = .ok (nums .u8 xs).toArray w.drew := by
        rw [hs]
        rcases Nat.eq_zero_or_pos xs.length with h0 | h0
        · have hx0 : xs = [] := List.eq_nil_of_length_eq_zero h0
          subst hx0
          cases A with
          | none => rw [List.length_nil, run_firstCells_none]; rfl
          | some a => exact run_firstCells_some (P := P) w.drew 1 0 a 0 c [] rfl (by simp)
        · obtain ⟨ad, rfl, _, hc⟩ := hrd.2 h0
          exact run_firstCells_some (P := P) w.drew 1 xs.length ad xs.length c (nums .u8 xs) (by rw [nums_length]; omega) hc
      have hfit : Builtin.nextslicecap (xs.length + k) c * i.bytes ≤ 281474976710656 := by
        have := nextslicecap_le (need := xs.length + k) (old := c) (by omega)
        rw [hby]; omega
      have hrun := Lib.run_append_grow_zeros (P := P) w t tn ty e i (.int .u8 0) .i64 kn ht htn hi hz A xs.length c (nums .u8 xs) hold k hk (by omega) (by omega) (by omega) (by rw [hby]; omega) hfit
      have hge := grownCap_ge w (xs.length + k) c e
      refine ⟨_, _, hrun, ⟨by simp [nums], .inr ⟨w.heap.size, _, _, rfl, hbase, heap_alloc_new w.drew _, hge, grownCap_le_maxLen w _ c e (by simp only [maxLen]; omega), ?_, ?_⟩⟩, ⟨rfl, rfl, rfl, by simp, fun q hq _ => Below.heap_alloc w.drew _ q hq⟩, .inr rfl⟩
      · simp only [Array.size_append, List.size_toArray, size_zeroCells, Value.cells, nums_length, List.length_cons, List.length_nil]
        omega
      · have e1 : nums .u8 (List.replicate k 0) = List.replicate k (Value.int .u8 0) := by simp [nums]
        simp only [Array.toList_append, List.append_assoc, hzc]
        rw [nums_append, e1, ← List.append_assoc]
        exact List.take_left' (by simp [nums])
theorem wpList_appz {P : Program} {ops : Array Oper} {rest : List Oper} {o : Oper} {a : Act} {Q : Exit → Act → World → Prop} (W : World) (hgd : o.guard = none) (s x : Operand) (t tn : TypeId)
    (ho : o.op = .call { callee := .builtin .append, args := #[s, x], argTypes := #[t, tn] }) (base : Nat) (e : TypeId) (i : TypeInfo) (kn : IntKind) (ht : P.underlying t = some (.slice e)) (htn : P.underlying tn = some (.int kn)) (hi : P.info? e = some i) (hz : i.zero = some (.int .u8 0)) (hs1 : i.size = 1) (hby : i.bytes = 1)
    (v : Value) (xs : List Int) (hown : W.ownsRow base e 1 v xs.length (nums .u8 xs)) (hs : a.eval s = v) (k : Nat) (hx : a.eval x = .int .i64 (k : Int)) (hl : xs.length + k ≤ 1000000) (hbase : base ≤ W.heap.size)
    (h : ∀ v' w', w'.ownsRow base e 1 v' (xs ++ List.replicate k 0).length (nums .u8 (xs ++ List.replicate k 0)) → W.grownBy w' v.ownBlock → (v'.ownBlock = v.ownBlock ∨ v'.ownBlock = some W.heap.size) → wpList P ops Q rest (a.put o.dst v') w') : wpList P ops Q (o :: rest) a W := by
  obtain ⟨v', w', hrun, h2, h3, h4⟩ := run_appz (P := P) W base t tn o.type e i kn ht htn hi hz hs1 hby v xs hown k hl hbase
  refine wpList_plain hgd fun K hK => ?_
  unfold Oper.wp execOp
  simp only [ho, resolve, invoke, builtin, Sem.run_bind, Sem.run_pure, Result.andThen_ok, List.map_toArray, List.map_cons, List.map_nil, hs, hx, hrun]
  exact hK _ _ (h v' w' (by rw [List.length_append, List.length_replicate]; exact h2) h3 h4)
end Go.Proofs.YtlfomhdphbchpaaGreatDoor

/-! the log's sectors -/
namespace Go.Proofs.YtlfomhdphbchpaaGreatDoor.Bk
open Go.RowKit Go.Deep Go.Shelf Go.Proofs.YtlfomhdphbchpaaGreatDoor.Mp Go.Proofs.YtlfomhdphbchpaaGreatDoor.Mo
open Go.Proofs.YtlfomhdphbchpaaGreatDoor.Pr (Below.of_grown Keep.of_grown)
open Go.Proofs.YtlfomhdphbchpaaGreatDoor.Sha (rowB rowB_size rowB_one toI toI_length)
open Go.Proofs.YtlfomhdphbchpaaGreatDoor.Crc (nat crc)
open Go.Proofs.YtlfomhdphbchpaaGreatDoor.Pack (Fresh)
open Go.Proofs.YtlfomhdphbchpaaGreatDoor.Cal (results_one results_two results_three)
set_option linter.unusedVariables false
set_option linter.unusedSimpArgs false
theorem hasO_grown1 {W w w' : World} {fs : List (Nat × Obj)} {base size n : Nat} {e : TypeId} {v : Value} {xs : List Value} (h : HasO [] W fs w) (ho : w.ownsRow base e size v n xs) (hg : w.grownBy w' v.ownBlock) (hW : W.heap.size ≤ base) (hf : ∀ f ∈ fs, f.1 < base) : HasO [] W fs w' := by
  have hk : Keep v.ownBlock.toList w w' := Keep.of_grown hg (fun r e => .inl (by rw [e]; simp))
  refine h.call hk (fun r hr => .inr (Nat.le_trans hW (own_cells ho r (by simpa using hr)).1)) (fun f hf' hr => ?_)
  have := (own_cells ho f.1 (by simpa using hr)).1
  have := hf f hf'
  omega
set_option maxHeartbeats 8000000 in
set_option maxRecDepth 100000 in
theorem sectors_ok (nx : Int) (gp c : Nat) (ps : List Int) (lk : Array Value) (hlk : ∃ qs : List Int, lk.toList = nums .u8 qs ∧ qs.length = 32) (hm : ps.length ≤ 4096) (W : World) (hp : RI W W.heap.size .u8 (some ⟨gp, 0, none⟩) ps) (hb : Byt ps) :
    Calls Tryz.prog 171 #[.int .i64 nx, .slice (some ⟨gp, 0, none⟩) ps.length c, .agg lk] W fun e w' => ∃ g c' xs, e = .returned (.slice (some ⟨g, 0, none⟩) (32 * ((ps.length + 59) / 24)) c') ∧ xs.length = 32 * ((ps.length + 59) / 24) ∧ RI w' w'.heap.size .u8 (some ⟨g, 0, none⟩) xs ∧ 32 * ((ps.length + 59) / 24) ≤ c' ∧ c' ≤ maxLen ∧ Below W.heap.size W w' := by
  have CC := Lib.hid (fun w hx => Pack.clone_ok (some ⟨gp, 0, none⟩) c ps w hx (by omega))
  have CR := Lib.hid (fun w hx => Crc.crc_ok (some ⟨gp, 0, none⟩) c w.heap.size ps w hx (by omega) hb)
  have HP := Lib.hid hp
  have HLK := Lib.hid hlk
  obtain ⟨m, hmq⟩ : ∃ m, m = ps.length := ⟨_, rfl⟩
  rw [← hmq] at CC CR hm ⊢
  have HMQ := Lib.hid hmq
  obtain ⟨K, hKK⟩ : ∃ K, K = (m + 59) / 24 := ⟨_, rfl⟩
  rw [← hKK]
  have hK : ((m : Int) + 36 + 24 - 1).tdiv 24 = (K : Int) := by rw [Int.tdiv_eq_ediv_of_nonneg (by omega), hKK]; omega
  have hKm : K ≤ 200 := by omega
  have HKK := Lib.hid hKK
  clear hKK
  clear hp hlk hb hmq
  go_enter Tryz.func171, Tryz.ntmps171
  have H1 : Hid (HasO [] W [(W.heap.size, .cells lk 142)] _) := Lib.hid ((HasO.start [] W).new (g := W.heap.size) rfl (.cells lk 142))
  go_wp2_with fail
  refine wp_region_regF (fun w' => HasO [] W [(W.heap.size, .cells lk 142)] w') (fun w' => HasO [] W [(W.heap.size, .cells lk 142)] w') (fun _ => (0, #[])) [0, 2, 6] [] [1, 3, 4, 5, 7, 8] [2, 6] (by kernel_rfl) (by kernel_rfl) ?_ (fun w w' h hb => h.step hb) ?_ (fun k hk => by cases hk) ?_
  · exact fun w h => h
  · exact H1.out.drew
  simp only [List.map_cons, List.map_nil, opAt, List.getElem?_cons_succ, List.getElem?_cons_zero, Option.getD_some, List.contains_cons, List.contains_nil, Nat.reduceBEq, Bool.or_false, Bool.or_true, Bool.true_or, Bool.false_or]
  repeat (refine wpX_pure rfl ?_; go_big_quiet_step ((intro _; rfl)); refine wpQuiet_nil ?_)
  repeat (refine wpX_float rfl ?_; go_big_quiet_step ((intro _; rfl)); refine wpQuiet_nil ?_)
  refine wpX_nil ?_
  intro gs w2 H2
  intro hmade
  simp only [putAll, wpTail, opAt, List.getElem?_cons_succ, List.getElem?_cons_zero, Option.getD_some, Act.put]
  have H2 := Lib.hid H2
  clear hmade H1
  go_wp2_with fail
  refine (CC.out w2 ((HP.out.below H2.out.below).more H2.out.size)).mono ?_
  rintro e w3 ⟨v3, rfl, ho3, hb3⟩
  obtain ⟨A3, c3, rfl⟩ := own_slice ho3
  have H3 := Lib.hid (H2.out.step hb3)
  have HO3 := Lib.hid ho3
  have HZ2 := Lib.hid (H2.out.obj 0 rfl)
  have HZ3 := Lib.hid hb3.size
  clear ho3 hb3
  go_wp2_with fail
  refine ⟨H3.out, ?_⟩
  go_wp2_with fail
  refine (CR.out w3 ((HP.out.below H3.out.below).more H3.out.size)).mono ?_
  rintro e w4 ⟨rfl, hw⟩
  obtain rfl : w3 = w4 := hw
  go_wp2_with fail
  refine ⟨H3.out, ?_⟩
  go_wp2_with fail
  refine (number_ok _ w3).mono ?_
  rintro e w5 ⟨x4, hx4, hx4b, rfl, hw5⟩
  have H5 : Hid (HasO [] W [(W.heap.size, .cells lk 142)] w5) := Lib.hid (by rw [hw5]; exact H3.out.alloc _)
  have HO5 : Hid (w5.ownsRow w2.heap.size 5 1 (.slice A3 ps.length c3) ps.length (nums .u8 ps)) := Lib.hid (by rw [hw5]; exact HO3.out.alloc _)
  have HX4 : Hid (RI w5 w5.heap.size .u8 (some ⟨w3.heap.size, 0, none⟩) x4) := Lib.hid (by rw [hw5]; exact RI.of_lit (t := 5) (heap_alloc_new _ _) rfl)
  have HZ5 : Hid (w2.heap.size ≤ w5.heap.size ∧ W.heap.size < w2.heap.size) := Lib.hid ⟨by rw [hw5]; have := HZ3.out; simp; omega, obj_lt HZ2.out⟩
  have HL4 := Lib.hid hx4
  obtain ⟨qs, hq1, hq2⟩ := HLK.out
  clear hw5 H3 HO3 hx4 hx4b CC CR H2
  go_wp2_with fail
  refine ⟨H5.out, ?_⟩
  go_wp2_with (first
    | (at_builtin; refine wpList_app _ rfl (.tmp 14) (.tmp 17) _ rfl w2.heap.size 5 .u8 1 Tryz.underlying94 Pack.info5 (by omega) (.slice A3 ps.length c3) ps HO5.out rfl w5.heap.size (some ⟨w3.heap.size, 0, none⟩) 4 x4 (by rw [HL4.out]; rfl) HX4.out (by rw [HL4.out]; have := HMQ.out; omega) HZ5.out.1 ?_
       intro v6 w6 hown6 hg6 hat6))
  have H6 := Lib.hid (hasO_grown1 H5.out HO5.out hg6 (Nat.le_of_lt HZ5.out.2) (fun f hf => by simp only [List.mem_singleton] at hf; subst hf; exact HZ5.out.2))
  have HZ6 := Lib.hid (Nat.le_trans HZ5.out.1 hg6.size)
  obtain ⟨A6, c6, rfl⟩ := own_slice hown6
  have HO6 := Lib.hid hown6
  have HQ6 : Hid (RI w6 w6.heap.size .u8 (some ⟨W.heap.size, 0, none⟩) qs) := Lib.hid (RI.of_lit (t := 142) (H6.out.obj 0 rfl) hq1)
  have HL6 := Lib.hid hq2
  clear hown6 hg6 hat6 H5 HO5 HX4 hq1 hq2
  refine ⟨H6.out, ?_⟩
  go_wp2_with (first
    | (at_builtin; refine wpList_app _ rfl (.tmp 18) (.tmp 19) _ rfl w2.heap.size 5 .u8 1 Tryz.underlying94 Pack.info5 (by omega) (.slice A6 (ps ++ x4).length c6) (ps ++ x4) HO6.out rfl w6.heap.size (some ⟨W.heap.size, 0, none⟩) 32 qs (by rw [HL6.out]; rfl) HQ6.out (by rw [List.length_append, HL4.out, HL6.out]; have := HMQ.out; omega) HZ6.out ?_
       intro v7 w7 hown7 hg7 hat7))
  have H7 := Lib.hid (hasO_grown1 H6.out HO6.out hg7 (Nat.le_of_lt HZ5.out.2) (fun f hf => by simp only [List.mem_singleton] at hf; subst hf; exact HZ5.out.2))
  obtain ⟨A7, c7, rfl⟩ := own_slice hown7
  have HRI7 := Lib.hid (RI.of_own hown7).2
  have HL7 := Lib.hid (show (ps ++ x4 ++ qs).length = m + 36 by rw [List.length_append, List.length_append, HL4.out, HL6.out, HMQ.out])
  obtain ⟨bs, hbs⟩ : ∃ bs, bs = ps ++ x4 ++ qs := ⟨_, rfl⟩
  rw [← hbs] at HRI7 HL7
  have hcap := own_cap hown7
  rw [← hbs, HL7.out] at hcap ⊢
  have HCAP := Lib.hid hcap
  clear hown7 hg7 hat7 H6 HO6 HQ6 hbs hcap
  refine ⟨H7.out, ?_⟩
  go_wp2_with fail
  refine ⟨H7.out, ?_⟩
  go_wp2_with fail
  have HW7 := Lib.hid H7.out.below
  clear H7 HZ6 HZ5 HZ2 HZ3 HP HLK HL4 HL6
  go_loopw [9, 27] (fun out i wr => ∃ (j : Nat) (A : Option Addr) (c' : Nat) (ys : List Int), j ≤ K ∧ i = .int .i64 j ∧ out = .slice A (32 * j) c' ∧ Hid (ys.length = 32 * j) ∧ Hid (wr.ownsRow w7.heap.size 5 1 (.slice A (32 * j) c') ys.length (nums .u8 ys)) ∧ Hid (Below w7.heap.size w7 wr)) (fun _ i _ => K - (intOf i).toNat)
  case atStart => exact ⟨0, none, 0, [], Nat.zero_le _, rfl, rfl, Lib.hid rfl, Lib.hid (own_nil _ _ _ _), Lib.hid (Below.refl _ _)⟩
  case round =>
    obtain ⟨j, A, c', ys, hj, rfl, rfl, HYL, HOY, HBW⟩ := hrel
    by_cases hjk : j < K
    · have hd := decide_eq_true (show (j : Int) < (K : Int) by omega)
      have hjm : 24 * j < m + 36 := by have := HKK.out; omega
      obtain ⟨b, hb⟩ : ∃ b : Nat, b = min 24 (m + 36 - 24 * j) := ⟨_, rfl⟩
      have hmin : min (((j : Int) + 1) * 24) ((m : Int) + 36) = ((24 * j + b : Nat) : Int) := by omega
      have hcap := HCAP.out
      have hbb : 24 * j + b ≤ m + 36 := by omega
      have HBM := Lib.hid (show b ≤ 24 ∧ 1 ≤ b by omega)
      have eb : 24 * j + b - j * 24 = b := by omega
      have hmin24 : min 24 (m + 36 - 24 * j) = b := hb.symm
      clear hb
      go_wp2_with fail
      rw [eb]
      clear eb hmin24
      have H0 : Hid (HasO [] w7 [(wr.heap.size, .cells #[.int .u8 177, .int .u8 (b : Int)] 5)] _) := Lib.hid ((HasO.nil (S := []) (Keep.of_below HBW.out)).new rfl (.cells #[.int .u8 177, .int .u8 (b : Int)] 5))
      refine (number_ok _ _).mono ?_
      rintro e wa ⟨x4', hx4', hx4b', rfl, hwa⟩
      have Ha : Hid (HasO [] w7 [(wr.heap.size, .cells #[.int .u8 177, .int .u8 (b : Int)] 5)] wa) := Lib.hid (by rw [hwa]; exact H0.out.alloc _)
      have hza : wa.heap.size = wr.heap.size + 2 := by rw [hwa]; simp
      have HBA : Hid (Below wr.heap.size wr wa) := Lib.hid (by rw [hwa]; exact Below.al (Below.al (Below.refl _ _) _) _)
      have HOa : Hid (wa.ownsRow wr.heap.size 5 1 (.slice (some ⟨wr.heap.size, 0, none⟩) 2 2) [177, (b : Int)].length (nums .u8 [177, (b : Int)])) := Lib.hid ⟨rfl, .inr ⟨_, 2, _, rfl, Nat.le_refl _, Ha.out.obj 0 rfl, Nat.le_refl _, by decide, rfl, rfl⟩⟩
      have HXa : Hid (RI wa wa.heap.size .u8 (some ⟨wr.heap.size + 1, 0, none⟩) x4') := Lib.hid (by rw [hwa]; have := RI.of_lit (k := .u8) (w := (wr.alloc (.cells #[.int .u8 177, .int .u8 (b : Int)] 5)).alloc (.cells (nums .u8 x4').toArray 5)) (t := 5) (b := wr.heap.size + 1) (cs := (nums .u8 x4').toArray) (xs := x4') (by have := heap_alloc_new (wr.alloc (.cells #[.int .u8 177, .int .u8 (b : Int)] 5)) (.cells (nums .u8 x4').toArray 5); simpa using this) rfl; exact this)
      have HLa := Lib.hid hx4'
      have HZa := Lib.hid hza
      clear hwa hx4' hx4b' hza H0 Ha
      go_wp2_with (first
        | (at_builtin; refine wpList_app _ rfl (.tmp 43) (.tmp 46) _ rfl wr.heap.size 5 .u8 1 Tryz.underlying94 Pack.info5 (by omega) (.slice (some ⟨wr.heap.size, 0, none⟩) 2 2) [177, (b : Int)] HOa.out rfl wa.heap.size (some ⟨wr.heap.size + 1, 0, none⟩) 4 x4' (by rw [HLa.out]; first | rfl | simp) HXa.out (by rw [HLa.out]; simp) (by rw [HZa.out]; omega) ?_
           intro v1 wb hown1 hg1 hat1
           obtain ⟨Ab, cb, rfl⟩ := own_slice hown1
           have HBb := Lib.hid (below_own HBA.out hg1 HOa.out (Nat.le_refl _) HBA.out.size)
           have hl6 : ([177, (b : Int)] ++ x4').length = 6 := by rw [List.length_append, HLa.out]; rfl
           obtain ⟨zs, hzs⟩ : ∃ zs, zs = [177, (b : Int)] ++ x4' := ⟨_, rfl⟩
           rw [← hzs] at hown1 hl6
           rw [← hzs, hl6]
           rw [hl6] at hown1
           have HOb := Lib.hid hown1
           have HL6' := Lib.hid hl6
           clear hown1 hg1 hat1 hzs hl6 HOa HXa HLa HZa HBA)
        | (at_builtin; refine wpList_app _ rfl (.tmp 48) (.tmp 53) _ rfl wr.heap.size 5 .u8 1 Tryz.underlying94 Pack.info5 (by omega) (.slice Ab 6 cb) zs (by rw [HL6'.out]; exact HOb.out.alloc _) rfl _ (some ⟨wb.heap.size, 0, none⟩) 2 [(j : Int), (K : Int)] rfl (RI.of_lit (t := 5) (heap_alloc_new _ _) rfl) (by rw [HL6'.out]; simp) (by have := HBb.out.size; simp; omega) ?_
           intro v2 wc hown2 hg2 hat2
           obtain ⟨Ac, cc, rfl⟩ := own_slice hown2
           have HBc := Lib.hid (below_own (HBb.out.alloc HBb.out.size (.cells #[.int .u8 (j : Int), .int .u8 (K : Int)] 5)) hg2 (HOb.out.alloc _) (Nat.le_refl _) (by have := HBb.out.size; simp; omega))
           have hl8 : (zs ++ [(j : Int), (K : Int)]).length = 8 := by rw [List.length_append, HL6'.out]; rfl
           obtain ⟨z2, hz2⟩ : ∃ z2, z2 = zs ++ [(j : Int), (K : Int)] := ⟨_, rfl⟩
           rw [← hz2] at hown2 hl8
           rw [← hz2, hl8]
           rw [hl8] at hown2
           have HOc := Lib.hid hown2
           have HL8 := Lib.hid hl8
           have HCU := Lib.hid (((HRI7.out.cut (j * 24) b).more (Nat.le_refl _)).below HBW.out)
           have hlcu : ((bs.drop (j * 24)).take b).length = b := by rw [List.length_take, List.length_drop, HL7.out]; omega
           obtain ⟨cu, hcu⟩ : ∃ cu, cu = (bs.drop (j * 24)).take b := ⟨_, rfl⟩
           rw [← hcu] at HCU hlcu
           have HLC := Lib.hid hlcu
           have HCU' := Lib.hid ((HCU.out.more HBW.out.size).below HBc.out)
           clear hown2 hg2 hat2 hz2 hl8 HOb HL6' HBb hcu hlcu HCU)
        | (at_builtin; refine wpList_app _ rfl (.tmp 54) (.tmp 55) _ rfl wr.heap.size 5 .u8 1 Tryz.underlying94 Pack.info5 (by omega) (.slice Ac 8 cc) z2 (by rw [HL8.out]; exact HOc.out) rfl _ (A7.map (·.add (j * 24))) _ cu (by rw [HLC.out]; rfl) HCU'.out (by rw [HL8.out, HLC.out]; have := HBM.out; omega) HBc.out.size ?_
           intro v3 wd hown3 hg3 hat3
           obtain ⟨Ad, cd, rfl⟩ := own_slice hown3
           have HBd := Lib.hid (below_own HBc.out hg3 HOc.out (Nat.le_refl _) HBc.out.size)
           have hl9 : (z2 ++ cu).length = 8 + b := by rw [List.length_append, HL8.out, HLC.out]
           obtain ⟨z3, hz3⟩ : ∃ z3, z3 = z2 ++ cu := ⟨_, rfl⟩
           rw [← hz3] at hown3 hl9
           rw [← hz3, hl9]
           rw [hl9] at hown3
           have HOd := Lib.hid hown3
           have HL9 := Lib.hid hl9
           have HOY' := Lib.hid (own_below HOY.out (HBd.out.mono (Nat.le_refl _)))
           have HRd := Lib.hid (RI.of_own (by rw [← hl9] at hown3; exact hown3)).2
           clear hown3 hg3 hat3 hz3 hl9 HOc HL8 HBc HLC HCU')
        | (at_builtin; refine wpList_app _ rfl (.tmp 57) (.tmp 58) _ rfl w7.heap.size 5 .u8 1 Tryz.underlying94 Pack.info5 (by omega) (.slice A (32 * j) c') ys HOY'.out rfl _ Ad cd z3 (by rw [HL9.out]; rfl) HRd.out (by rw [HL9.out, HYL.out]; have := HBM.out; omega) (Nat.le_trans HBW.out.size HBd.out.size) ?_
           intro v4 we hown4 hg4 hat4
           obtain ⟨Ae, ce, rfl⟩ := own_slice hown4
           have HBe := Lib.hid (below_own (HBW.out.trans (HBd.out.mono HBW.out.size)) hg4 HOY'.out (Nat.le_refl _) (Nat.le_trans HBW.out.size HBd.out.size))
           have hl10 : (ys ++ z3).length = 32 * j + (8 + b) := by rw [List.length_append, HYL.out, HL9.out]
           obtain ⟨y2, hy2⟩ : ∃ y2, y2 = ys ++ z3 := ⟨_, rfl⟩
           rw [← hy2] at hown4 hl10
           rw [← hy2, hl10]
           rw [hl10] at hown4
           have HOe := Lib.hid hown4
           have HL10 := Lib.hid hl10
           clear hown4 hg4 hat4 hy2 hl10 HOd HBd HOY' HRd HL9)
        | (at_builtin
           obtain ⟨i0, hi0, hz0, hz1, hz2⟩ := info_parts Pack.info5
           refine wpList_appz _ rfl (.tmp 60) (.tmp 63) 94 3 rfl w7.heap.size 5 i0 .i64 Tryz.underlying94 Tryz.underlying3 hi0 hz0 hz1 hz2 (.slice Ae (32 * j + (8 + b)) ce) y2 (by rw [HL10.out]; exact HOe.out) rfl (24 - b) (by refine congrArg (Value.int .i64) ?_; have := HBM.out; omega) (by rw [HL10.out]; have := HBM.out; omega) HBe.out.size ?_
           intro v5 wf hown5 hg5 hat5
           obtain ⟨Af, cf, rfl⟩ := own_slice hown5
           have HBf := Lib.hid (below_own HBe.out hg5 HOe.out (Nat.le_refl _) HBe.out.size)
           have hl11 : (y2 ++ List.replicate (24 - b) 0).length = 32 * (j + 1) := by rw [List.length_append, List.length_replicate, HL10.out]; have := HBM.out; omega
           obtain ⟨y3, hy3⟩ : ∃ y3, y3 = y2 ++ List.replicate (24 - b) 0 := ⟨_, rfl⟩
           rw [← hy3] at hown5 hl11
           rw [← hy3, hl11]
           rw [hl11] at hown5
           have HOf := Lib.hid hown5
           have HL11 := Lib.hid hl11
           clear hown5 hg5 hat5 hy3 hl11 HOe HBe HL10 hi0 hz0 hz1 hz2))
      refine ⟨⟨j + 1, Af, cf, y3, hjk, by simp, rfl, HL11, Lib.hid (by rw [HL11.out]; exact HOf.out), HBf⟩, ?_⟩
      simp only [intOf]
      omega
    · have hd := decide_eq_false (show ¬ (j : Int) < (K : Int) by omega)
      obtain rfl : j = K := by omega
      obtain ⟨_, h2 | ⟨g, cap, cur, he, hb, hg, hc, hm2, hz, hx⟩⟩ := id HOY.out
      · exfalso
        have := HYL.out; have := HKK.out; have := h2.2; omega
      · injection he with e1 e2 e3
        subst e1 e3
        have HC := Lib.hid (show 32 * j ≤ c' ∧ c' ≤ maxLen from ⟨by omega, hm2⟩)
        have HRI := Lib.hid (RI.of_own (e2 ▸ HOY.out)).2
        clear hb hg hc hm2 hz hx e2
        go_wp2_with fail
        exact bodyPost_ret (results_one rfl _ _ rfl) rfl ⟨g, c', ys, rfl, HYL.out, HRI.out, HC.out.1, HC.out.2, HW7.out.trans (HBW.out.mono HW7.out.size)⟩
end Go.Proofs.YtlfomhdphbchpaaGreatDoor.Bk
