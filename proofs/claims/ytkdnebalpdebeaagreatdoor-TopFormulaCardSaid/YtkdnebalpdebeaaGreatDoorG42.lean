/- Lemmas of a claim: Chain, Apz, BkJ, BkK -/
import Derived.Test.YtkdnebalpdebeaaGreatDoorG41
import Derived.Deep.Upon
import Derived.Test.YtkdnebalpdebeaaGreatDoorG38
import Derived.Lib.AppendZerosOnto
set_option linter.unusedVariables false
set_option linter.unusedSimpArgs false
set_option maxHeartbeats 16000000
set_option maxRecDepth 100000
namespace Go.Proofs.YtkdnebalpdebeaaGreatDoor
namespace Sha
open Go.RowKit Go.Deep Pack Crc
theorem wpList_app_full {P : Program} {ops : Array Oper} {rest : List Oper} {o : Oper} {a : Act} {Q : Exit -> Act -> World -> Prop} (W : World) (hgd : o.guard = none) (s x : Operand) (t : TypeId)
 (ho : o.op = .call { callee := .builtin .append, args := #[s, x], argTypes := #[t, t] })
 (e : TypeId) (k : IntKind) (bytes : Nat) (ht : P.underlying t = some (.slice e)) (hinfo : (P.info? e).map (fun i => (i.zero, i.size, i.bytes)) = some (some (.int k 0), 1, bytes)) (hb0 : 0 < bytes)
 (g : Nat) (xs : List Int) (hs : a.eval s = .slice (some ⟨g, 0, none⟩) xs.length xs.length) (hr0 : RI W W.heap.size k (some ⟨g, 0, none⟩) xs)
 (B : Nat) (A : Option Addr) (c : Nat) (ys : List Int) (hx : a.eval x = .slice A ys.length c) (hr : RI W B k A ys)
 (hl : (xs.length + ys.length) * bytes <= 140737488355328)
 (h : ∀ n A' c' w', n = (xs ++ ys).length -> RI w' w'.heap.size k A' (xs ++ ys) -> Below W.heap.size W w' -> wpList P ops Q rest (a.put o.dst (.slice A' n c')) w') : wpList P ops Q (o :: rest) a W := by
 obtain ⟨i0, hi, hz0, hz1, hz2⟩ := info_parts hinfo
 have hlen : xs.length + ys.length <= 140737488355328 := Nat.le_trans (Nat.le_mul_of_pos_right _ hb0) hl
 by_cases hy : ys.length = 0
 . obtain rfl := List.eq_nil_of_length_eq_zero hy
   have hsrc : Src P i0.size t (.slice A 0 c) 0 [] W := by
    cases A with
    | none => exact .ofNil W ht c
    | some ad => exact .ofSlice W ht ad 0 c [] (by simp) (by simp) (by simp)
   refine wpList_plain hgd fun K hK' => ?_
   have hrun := run_append_nothing (P := P) W t t o.type e i0 ht hi (some ⟨g, 0, none⟩) xs.length xs.length (Nat.le_refl _) _ hsrc
   unfold Oper.wp
   simp [execOp, ho, resolve, invoke, builtin, hs, hx, hrun, Result.andThen]
   have := h xs.length (some ⟨g, 0, none⟩) xs.length W (by simp) (by simpa using hr0) (Below.refl _ _)
   exact hK' _ _ this
 . obtain ⟨ad, rfl, hB, hc⟩ := hr.2 (by simpa using Nat.pos_of_ne_zero hy)
   refine wpList_append_grows W hgd s x t ho e i0 (.int k 0) 1 bytes ht hi hz0 hz1 hz2 rfl (by omega) (some ⟨g, 0, none⟩) xs.length xs.length (nums k xs) hs (by simp) (by simp [nums]) ?_ ad ys.length c (nums k ys) hx (by simp [nums]) hc (nums_one k ys) (by omega) (by simp only [maxLen]; omega) hl ?_
   . intro b hb j u hu
     injection hb with hb; subst hb
     by_cases hx0 : xs.length = 0
     . obtain rfl := List.eq_nil_of_length_eq_zero hx0
       simp [nums] at hu
     . obtain ⟨ad', h', _, hc'⟩ := hr0.2 (by simpa using Nat.pos_of_ne_zero hx0)
       injection h' with h'; subst h'
       exact hc' j u hu
   . intro v' w' hown hg
     have e1 : nums k xs ++ nums k ys = nums k (xs ++ ys) := (nums_append k xs ys).symm
     rw [e1] at hown
     have e2 : xs.length + ys.length = (xs ++ ys).length := by simp
     rw [e2] at hown
     obtain ⟨A', c', rfl⟩ := own_slice hown
     exact h _ A' c' w' rfl (RI.of_own hown).2 ⟨hg.os, hg.tape, hg.output, hg.size, fun q hq => hg.block q hq (by simp)⟩
theorem chain_ok (ps : List Nat) (h32 : ps.length = 32) (P : Option Addr) (c : Nat) (xs : List Int) (w : World) (hx : RI w w.heap.size .u8 P xs) (hl : xs.length + 112 <= 140737488355328) (hb : Byt xs) (hp : Byt (toI ps)) :
 Calls Tryz.prog 196 #[.agg (rowB ps 32), .slice P xs.length c] w fun e w' => e = .returned (.agg (rowB (sha (ps ++ nat xs)) 32)) /\ Below w.heap.size w w' := by
 have HX := Hd hx
 have HB := Hd hb
 have HP := Hd hp
 clear hx hb hp
 have hL : (toI ps).length = 32 := by rw [toI_length, h32]
 have hL2 : (toI ps ++ xs).length = 32 + xs.length := by simp [hL]
 have hcs : (rowB ps 32).toList = nums .u8 (toI ps) := by simp [rowB, h32, nums, toI, Function.comp_def]
 obtain ⟨R, hR⟩ : ∃ R, R = rowB ps 32 := ⟨_, rfl⟩
 rw [<- hR] at hcs ⊢
 have HR := Hd hR
 have HC := Hd hcs
 clear hR hcs
 go_enter Tryz.func196, Tryz.ntmps196
 go_upto_region 1 with fail
 have hRI : Hi (RI ((w.alloc (.cells R 190)).alloc (.cells (rowB [] 32) 190)) ((w.alloc (.cells R 190)).alloc (.cells (rowB [] 32) 190)).heap.size .u8 (some ⟨w.heap.size, 0, none⟩) (toI ps)) := Hd (((RI.of_lit (t := 190) (b := w.heap.size) (heap_alloc_new w _) HC.o).alloc (Nat.le_refl _) _).more (by simp))
 have hOut : Blk ((w.alloc (.cells R 190)).alloc (.cells (rowB [] 32) 190)) (w.heap.size + 1) 190 (rowB [] 32) := Blk.new' (by simp)
 have d0 : Below w.heap.size w ((w.alloc (.cells R 190)).alloc (.cells (rowB [] 32) 190)) := ((Below.refl _ _).alloc (Nat.le_refl _) _).alloc (by simp) _
 have HO := Hd hOut
 have HD := Hd d0
 clear hOut d0
 go_wp2_with (first
  | (at_builtin
     refine wpList_app_full _ rfl (.tmp 5) (.tmp 6) _ rfl 5 .u8 1 Tryz.underlying134 info5 (by omega) w.heap.size (toI ps) (by rw [hL]; rfl) hRI.o w.heap.size P c xs rfl ((HX.o.alloc (Nat.le_refl _) _).alloc (by simp) _) (by rw [hL]; omega) ?_
     intro n1 A1 c1 w1 hn1 hr1 hb1
     replace hb1 : Below ((w.alloc (.cells R 190)).alloc (.cells (rowB [] 32) 190)).heap.size ((w.alloc (.cells R 190)).alloc (.cells (rowB [] 32) 190)) w1 := hb1))
 have HO1 := Hd (HO.o.below hb1 (by simp))
 have e1 := HD.o.trans (hb1.mono (by simp; omega))
 have hn : nat (toI ps ++ xs) = ps ++ nat xs := by rw [nat_app, nat_toI]
 have hbt : Byt (toI ps ++ xs) := fun x hx => (List.mem_append.1 hx).elim (HP.o x) (HB.o x)
 clear hb1 HO HD hRI HX
 have H := sha_ok A1 c1 (toI ps ++ xs) w1 hr1 (by omega) hbt
 rw [hL2] at H
 clear hn1 hr1 hbt
 refine H.mono ?_
 rintro e w2 ⟨rfl, b2⟩
 rw [hn]
 have HO2 := HO1.o.below b2 HO1.o.lt
 have e2 := e1.trans (b2.mono e1.size)
 have hlen : (sha (ps ++ nat xs)).length = 32 := out_length _
 obtain ⟨D, hD⟩ : ∃ D, D = sha (ps ++ nat xs) := ⟨_, rfl⟩
 rw [<- hD] at hlen ⊢
 have HDD := Hd hD
 clear hn HO1 e1 b2 hD H
 go_wp2_with (refine wpList_put rfl 190 (.tmp 4) (.tmp 8) rfl (w.heap.size + 1) (rowB D 32) rfl rfl 190 _ HO2 (by rw [rowB_size (Nat.le_of_eq hlen)]; kernel_rfl) (by rw [rowB_size (Nat.le_of_eq hlen)]; rfl) (rowB_one _ _) ?_; intro W9 hB9 hfar9 hbel9 hsz9 hcl9)
 have e9 := hbel9 w.heap.size w (by omega) e2
 exact bodyPost_ret (results_cell_row rfl _ W9 (w.heap.size + 1) 190 (rowB D 32) (0, 0) _ rfl hB9 Tryz.underlying190 rfl (by rw [rowB_size (Nat.le_of_eq hlen)]; kernel_rfl)) rfl ⟨by rw [HDD.o], e9⟩
end Sha
section
open Go.RowKit Go.Deep
theorem run_appz {P : Program} (w : World) (base : Nat) (t tn ty e : TypeId) (i : TypeInfo) (kn : IntKind) (ht : P.underlying t = some (.slice e)) (htn : P.underlying tn = some (.int kn)) (hi : P.info? e = some i) (hz : i.zero = some (.int .u8 0)) (hs : i.size = 1) (hby : i.bytes = 1)
 (v : Value) (xs : List Int) (hown : w.ownsRow base e 1 v xs.length (nums .u8 xs)) (k : Nat) (hl : xs.length + k <= 1000000) (hbase : base <= w.heap.size) :
 ∃ v' w', (Builtin.append_ #[t, tn] ty #[v, .int .i64 (k : Int)]).run P w = .ok v' w' /\ w'.ownsRow base e 1 v' (xs.length + k) (nums .u8 (xs ++ List.replicate k 0)) /\ w.grownBy w' v.ownBlock /\ (v'.ownBlock = v.ownBlock ∨ v'.ownBlock = some w.heap.size) := by
 obtain ⟨A, c, rfl⟩ := own_slice hown
 have hw : IntKind.i64.wrap (k : Int) = k := by rw [IntKind.wrap_i64]; omega
 have hneg : ¬ ((k : Int) < 0) := by omega
 have h48i : ¬ (281474976710656 < (k : Int)) := by omega
 rcases Nat.eq_zero_or_pos k with rfl | hk
 . refine ⟨.slice A xs.length c, w, ?_, by simpa using hown, World.grownBy.refl w _, .inl rfl⟩
   have hc := own_cap hown
   have hw0 : IntKind.i64.wrap 0 = 0 := by rw [IntKind.wrap_i64]; omega
   cases A with
   | none => simp [Builtin.append_, run_underlying ht, run_underlying htn, sizeOf, typeInfo, zeroValue, hi, hz, hs, hby, asInt, asIntOf, hw, hw0, hc]
   | some a => simp [Builtin.append_, run_underlying ht, run_underlying htn, sizeOf, typeInfo, zeroValue, hi, hz, hs, hby, asInt, asIntOf, hw, hw0, hc, storeCells]
 . have hzc : (Builtin.zeroCells (Value.int .u8 0).cells k).toList = List.replicate k (Value.int .u8 0) := by
    apply List.ext_getElem?
    intro j
    simp only [Builtin.zeroCells, Value.cells, Array.toList_map, Array.toList_range, List.size_toArray, List.length_cons, List.length_nil, Nat.zero_add, Nat.mul_one, List.getElem?_map, Nat.mod_one, List.getElem?_replicate]
    by_cases hj : j < k
    . simp [hj]
    . simp [hj]
   by_cases hr : xs.length + k <= c
   . obtain ⟨h1, h2 | ⟨g, cap, cur, he, hb, hg, hc, hm, hz', hx⟩⟩ := id hown
     . obtain ⟨h2, _⟩ := h2
       injection h2 with e1 e2 e3; omega
     . cases he
       have hst := run_storeCells_at P g xs.length e (List.replicate k (Value.int .u8 0)) 0 cur w hg (by simp; omega) (by intro v hv; rw [List.eq_of_mem_replicate hv]; rfl)
       have hlen : cur.toList.length = c := by simp at hz' ⊢; omega
       refine ⟨.slice (some ⟨g, 0, none⟩) (xs.length + k) c, w.setRow g (cur.toList.take (xs.length + 0) ++ List.replicate k (Value.int .u8 0) ++ cur.toList.drop (xs.length + 0 + (List.replicate k (Value.int .u8 0)).length)).toArray, ?_, ?_, ?_, .inl rfl⟩
       . have hk0 : k ≠ 0 := by omega
         simp [Builtin.append_, run_underlying ht, run_underlying htn, sizeOf, typeInfo, zeroValue, hi, hz, hs, hby, asInt, asIntOf, hw, hneg, h48i, hr, hk0, hzc, Addr.add_lit, hst]
       . refine ⟨by simp [nums], .inr ⟨g, c, _, rfl, hb, setRow_heap w g cur _ e _ hg, by omega, hm, by simp; omega, ?_⟩⟩
         have hx' : cur.toList.take xs.length = nums .u8 xs := by simpa using hx
         have e1 : nums .u8 (List.replicate k 0) = List.replicate k (Value.int .u8 0) := by simp [nums]
         rw [nums_append, e1, <- hx']
         simp only [Nat.add_zero, Nat.mul_one]
         rw [List.take_append_of_le_length (by simp; omega), List.take_of_length_le (by simp; omega)]
       . exact ⟨rfl, rfl, rfl, by simp [World.setRow], fun q hq hne => setRow_other w g q _ (fun e => hne (by rw [e]; rfl))⟩
   . have hrd := Reads.of_own hown
     have hold : (Builtin.firstCells i.size xs.length (.slice A xs.length c)).run P w.drew = .ok (nums .u8 xs).toArray w.drew := by
      rw [hs]
      rcases Nat.eq_zero_or_pos xs.length with h0 | h0
      . have hx0 : xs = [] := List.eq_nil_of_length_eq_zero h0
        subst hx0
        cases A with
        | none => rw [List.length_nil, run_firstCells_none]; rfl
        | some a => exact run_firstCells_some (P := P) w.drew 1 0 a 0 c [] rfl (by simp)
      . obtain ⟨ad, rfl, _, hc⟩ := hrd.2 h0
        exact run_firstCells_some (P := P) w.drew 1 xs.length ad xs.length c (nums .u8 xs) (by rw [nums_length]; omega) hc
     have hfit : Builtin.nextslicecap (xs.length + k) c * i.bytes <= 281474976710656 := by
      have := nextslicecap_le (need := xs.length + k) (old := c) (by omega)
      rw [hby]; omega
     have hrun := Lib.run_append_grow_zeros (P := P) w t tn ty e i (.int .u8 0) .i64 kn ht htn hi hz A xs.length c (nums .u8 xs) hold k hk (by omega) (by omega) (by omega) (by rw [hby]; omega) hfit
     have hge := grownCap_ge w (xs.length + k) c e
     refine ⟨_, _, hrun, ⟨by simp [nums], .inr ⟨w.heap.size, _, _, rfl, hbase, heap_alloc_new w.drew _, hge, grownCap_le_maxLen w _ c e (by simp only [maxLen]; omega), ?_, ?_⟩⟩, ⟨rfl, rfl, rfl, by simp, fun q hq _ => Below.heap_alloc w.drew _ q hq⟩, .inr rfl⟩
     . simp only [Array.size_append, List.size_toArray, size_zeroCells, Value.cells, nums_length, List.length_cons, List.length_nil]
       omega
     . have e1 : nums .u8 (List.replicate k 0) = List.replicate k (Value.int .u8 0) := by simp [nums]
       simp only [Array.toList_append, List.append_assoc, hzc]
       rw [nums_append, e1, <- List.append_assoc]
       exact List.take_left' (by simp [nums])
theorem wpList_appz {P : Program} {ops : Array Oper} {rest : List Oper} {o : Oper} {a : Act} {Q : Exit -> Act -> World -> Prop} (W : World) (hgd : o.guard = none) (s x : Operand) (t tn : TypeId)
 (ho : o.op = .call { callee := .builtin .append, args := #[s, x], argTypes := #[t, tn] }) (base : Nat) (e : TypeId) (i : TypeInfo) (kn : IntKind) (ht : P.underlying t = some (.slice e)) (htn : P.underlying tn = some (.int kn)) (hi : P.info? e = some i) (hz : i.zero = some (.int .u8 0)) (hs1 : i.size = 1) (hby : i.bytes = 1)
 (v : Value) (xs : List Int) (hown : W.ownsRow base e 1 v xs.length (nums .u8 xs)) (hs : a.eval s = v) (k : Nat) (hx : a.eval x = .int .i64 (k : Int)) (hl : xs.length + k <= 1000000) (hbase : base <= W.heap.size)
 (h : ∀ v' w', w'.ownsRow base e 1 v' (xs ++ List.replicate k 0).length (nums .u8 (xs ++ List.replicate k 0)) -> W.grownBy w' v.ownBlock -> (v'.ownBlock = v.ownBlock ∨ v'.ownBlock = some W.heap.size) -> wpList P ops Q rest (a.put o.dst v') w') : wpList P ops Q (o :: rest) a W := by
 obtain ⟨v', w', hrun, h2, h3, h4⟩ := run_appz (P := P) W base t tn o.type e i kn ht htn hi hz hs1 hby v xs hown k hl hbase
 refine wpList_plain hgd fun K hK => ?_
 unfold Oper.wp execOp
 simp only [ho, resolve, invoke, builtin, Sem.run_bind, Sem.run_pure, Result.andThen_ok, List.map_toArray, List.map_cons, List.map_nil, hs, hx, hrun]
 exact hK _ _ (h v' w' (by rw [List.length_append, List.length_replicate]; exact h2) h3 h4)
end
namespace Bk
open Go.RowKit Go.Deep Go.Shelf Mp Mo
open Pr (Below.of_grown Keep.of_grown)
open Sha (rowB rowB_size rowB_one toI toI_length)
open Crc (nat crc)
open Pack (Fresh)
open Cal (results_one results_two results_three)
theorem hasO_grown1 {W w w' : World} {fs : List (Nat × Obj)} {base size n : Nat} {e : TypeId} {v : Value} {xs : List Value} (h : HasO [] W fs w) (ho : w.ownsRow base e size v n xs) (hg : w.grownBy w' v.ownBlock) (hW : W.heap.size <= base) (hf : ∀ f ∈ fs, f.1 < base) : HasO [] W fs w' := by
 have hk : Keep v.ownBlock.toList w w' := Keep.of_grown hg (fun r e => .inl (by rw [e]; simp))
 refine h.call hk (fun r hr => .inr (Nat.le_trans hW (own_cells ho r (by simpa using hr)).1)) (fun f hf' hr => ?_)
 have := (own_cells ho f.1 (by simpa using hr)).1
 have := hf f hf'
 omega
theorem sectors_ok (nx : Int) (gp c : Nat) (ps : List Int) (lk : Array Value) (hlk : ∃ qs : List Int, lk.toList = nums .u8 qs /\ qs.length = 32) (hm : ps.length <= 4096) (W : World) (hp : RI W W.heap.size .u8 (some ⟨gp, 0, none⟩) ps) (hb : Byt ps) :
 Calls Tryz.prog 207 #[.int .i64 nx, .slice (some ⟨gp, 0, none⟩) ps.length c, .agg lk] W fun e w' => ∃ g c' xs, e = .returned (.slice (some ⟨g, 0, none⟩) (32 * ((ps.length + 59) / 24)) c') /\ xs.length = 32 * ((ps.length + 59) / 24) /\ RI w' w'.heap.size .u8 (some ⟨g, 0, none⟩) xs /\ 32 * ((ps.length + 59) / 24) <= c' /\ c' <= maxLen /\ Below W.heap.size W w' := by
 have CC := Hd (fun w hx => Pack.clone_ok (some ⟨gp, 0, none⟩) c ps w hx (by omega))
 have CR := Hd (fun w hx => Crc.crc_ok (some ⟨gp, 0, none⟩) c w.heap.size ps w hx (by omega) hb)
 have HP := Hd hp
 have HLK := Hd hlk
 obtain ⟨m, hmq⟩ : ∃ m, m = ps.length := ⟨_, rfl⟩
 rw [<- hmq] at CC CR hm ⊢
 have HMQ := Hd hmq
 obtain ⟨K, k1⟩ : ∃ K, K = (m + 59) / 24 := ⟨_, rfl⟩
 rw [<- k1]
 have hK : ((m : Int) + 36 + 24 - 1).tdiv 24 = (K : Int) := by rw [Int.tdiv_eq_ediv_of_nonneg (by omega), k1]; omega
 have hKm : K <= 200 := by omega
 have HKK := Hd k1
 clear k1
 clear hp hlk hb hmq
 go_enter Tryz.func207, Tryz.ntmps207
 have H1 : Hi (HasO [] W [(W.heap.size, .cells lk 190)] _) := Hd ((HasO.start [] W).new (g := W.heap.size) rfl (.cells lk 190))
 go_wp2_with fail
 refine wp_region_regF (fun w' => HasO [] W [(W.heap.size, .cells lk 190)] w') (fun w' => HasO [] W [(W.heap.size, .cells lk 190)] w') (fun _ => (0, #[])) [0, 2, 6] [] [1, 3, 4, 5, 7, 8] [2, 6] (by kernel_rfl) (by kernel_rfl) ?_ (fun w w' h hb => h.step hb) ?_ (fun k hk => by cases hk) ?_
 . exact fun w h => h
 . exact H1.o.drew
 simp only [List.map_cons, List.map_nil, opAt, List.getElem?_cons_succ, List.getElem?_cons_zero, Option.getD_some, List.contains_cons, List.contains_nil, Nat.reduceBEq, Bool.or_false, Bool.or_true, Bool.true_or, Bool.false_or]
 repeat (refine wpX_pure rfl ?_; go_big_quiet_step ((intro _; rfl)); refine wpQuiet_nil ?_)
 repeat (refine wpX_float rfl ?_; go_big_quiet_step ((intro _; rfl)); refine wpQuiet_nil ?_)
 refine wpX_nil ?_
 intro gs w2 H2
 intro hmade
 simp only [putAll, wpTail, opAt, List.getElem?_cons_succ, List.getElem?_cons_zero, Option.getD_some, Act.put]
 have H2 := Hd H2
 clear hmade H1
 go_wp2_with fail
 refine (CC.o w2 ((HP.o.below H2.o.below).more H2.o.size)).mono ?_
 rintro e w3 ⟨v3, rfl, ho3, hb3⟩
 obtain ⟨A3, c3, rfl⟩ := own_slice ho3
 have H3 := Hd (H2.o.step hb3)
 have HO3 := Hd ho3
 have HZ2 := Hd (H2.o.obj 0 rfl)
 have HZ3 := Hd hb3.size
 clear ho3 hb3
 go_wp2_with fail
 refine ⟨H3.o, ?_⟩
 go_wp2_with fail
 refine (CR.o w3 ((HP.o.below H3.o.below).more H3.o.size)).mono ?_
 rintro e w4 ⟨rfl, hw⟩
 obtain rfl : w3 = w4 := hw
 go_wp2_with fail
 refine ⟨H3.o, ?_⟩
 go_wp2_with fail
 refine (number_ok _ w3).mono ?_
 rintro e w5 ⟨x4, hx4, hx4b, rfl, hw5⟩
 have H5 : Hi (HasO [] W [(W.heap.size, .cells lk 190)] w5) := Hd (by rw [hw5]; exact H3.o.alloc _)
 have HO5 : Hi (w5.ownsRow w2.heap.size 5 1 (.slice A3 ps.length c3) ps.length (nums .u8 ps)) := Hd (by rw [hw5]; exact HO3.o.alloc _)
 have HX4 : Hi (RI w5 w5.heap.size .u8 (some ⟨w3.heap.size, 0, none⟩) x4) := Hd (by rw [hw5]; exact RI.of_lit (t := 5) (heap_alloc_new _ _) rfl)
 have HZ5 : Hi (w2.heap.size <= w5.heap.size /\ W.heap.size < w2.heap.size) := Hd ⟨by rw [hw5]; have := HZ3.o; simp; omega, obj_lt HZ2.o⟩
 have HL4 := Hd hx4
 obtain ⟨qs, hq1, hq2⟩ := HLK.o
 clear hw5 H3 HO3 hx4 hx4b CC CR H2
 go_wp2_with fail
 refine ⟨H5.o, ?_⟩
 go_wp2_with (first
  | (at_builtin; refine wpList_app _ rfl (.tmp 14) (.tmp 17) _ rfl w2.heap.size 5 .u8 1 Tryz.underlying134 Pack.info5 (by omega) (.slice A3 ps.length c3) ps HO5.o rfl w5.heap.size (some ⟨w3.heap.size, 0, none⟩) 4 x4 (by rw [HL4.o]; rfl) HX4.o (by rw [HL4.o]; have := HMQ.o; omega) HZ5.o.1 ?_
     intro v6 w6 hown6 hg6 hat6))
 have H6 := Hd (hasO_grown1 H5.o HO5.o hg6 (Nat.le_of_lt HZ5.o.2) (fun f hf => by simp only [List.mem_singleton] at hf; subst hf; exact HZ5.o.2))
 have HZ6 := Hd (Nat.le_trans HZ5.o.1 hg6.size)
 obtain ⟨A6, c6, rfl⟩ := own_slice hown6
 have HO6 := Hd hown6
 have HQ6 : Hi (RI w6 w6.heap.size .u8 (some ⟨W.heap.size, 0, none⟩) qs) := Hd (RI.of_lit (t := 190) (H6.o.obj 0 rfl) hq1)
 have HL6 := Hd hq2
 clear hown6 hg6 hat6 H5 HO5 HX4 hq1 hq2
 refine ⟨H6.o, ?_⟩
 go_wp2_with (first
  | (at_builtin; refine wpList_app _ rfl (.tmp 18) (.tmp 19) _ rfl w2.heap.size 5 .u8 1 Tryz.underlying134 Pack.info5 (by omega) (.slice A6 (ps ++ x4).length c6) (ps ++ x4) HO6.o rfl w6.heap.size (some ⟨W.heap.size, 0, none⟩) 32 qs (by rw [HL6.o]; rfl) HQ6.o (by rw [List.length_append, HL4.o, HL6.o]; have := HMQ.o; omega) HZ6.o ?_
     intro v7 w7 hown7 hg7 hat7))
 have H7 := Hd (hasO_grown1 H6.o HO6.o hg7 (Nat.le_of_lt HZ5.o.2) (fun f hf => by simp only [List.mem_singleton] at hf; subst hf; exact HZ5.o.2))
 obtain ⟨A7, c7, rfl⟩ := own_slice hown7
 have HRI7 := Hd (RI.of_own hown7).2
 have HL7 := Hd (show (ps ++ x4 ++ qs).length = m + 36 by rw [List.length_append, List.length_append, HL4.o, HL6.o, HMQ.o])
 obtain ⟨bs, hbs⟩ : ∃ bs, bs = ps ++ x4 ++ qs := ⟨_, rfl⟩
 rw [<- hbs] at HRI7 HL7
 have hcap := own_cap hown7
 rw [<- hbs, HL7.o] at hcap ⊢
 have HCAP := Hd hcap
 clear hown7 hg7 hat7 H6 HO6 HQ6 hbs hcap
 refine ⟨H7.o, ?_⟩
 go_wp2_with fail
 refine ⟨H7.o, ?_⟩
 go_wp2_with fail
 have HW7 := Hd H7.o.below
 clear H7 HZ6 HZ5 HZ2 HZ3 HP HLK HL4 HL6
 go_loopw [9, 27] (fun out i wr => ∃ (j : Nat) (A : Option Addr) (c' : Nat) (ys : List Int), j <= K /\ i = .int .i64 j /\ out = .slice A (32 * j) c' /\ Hi (ys.length = 32 * j) /\ Hi (wr.ownsRow w7.heap.size 5 1 (.slice A (32 * j) c') ys.length (nums .u8 ys)) /\ Hi (Below w7.heap.size w7 wr)) (fun _ i _ => K - (intOf i).toNat)
 case atStart => exact ⟨0, none, 0, [], Nat.zero_le _, rfl, rfl, Hd rfl, Hd (own_nil _ _ _ _), Hd (Below.refl _ _)⟩
 case round =>
  obtain ⟨j, A, c', ys, hj, rfl, rfl, HYL, HOY, HBW⟩ := hrel
  by_cases hjk : j < K
  . have hd := decide_eq_true (show (j : Int) < (K : Int) by omega)
    have hjm : 24 * j < m + 36 := by have := HKK.o; omega
    obtain ⟨b, hb⟩ : ∃ b : Nat, b = min 24 (m + 36 - 24 * j) := ⟨_, rfl⟩
    have hmin : min (((j : Int) + 1) * 24) ((m : Int) + 36) = ((24 * j + b : Nat) : Int) := by omega
    have hcap := HCAP.o
    have hbb : 24 * j + b <= m + 36 := by omega
    have HBM := Hd (show b <= 24 /\ 1 <= b by omega)
    have eb : 24 * j + b - j * 24 = b := by omega
    have hmin24 : min 24 (m + 36 - 24 * j) = b := hb.symm
    clear hb
    go_wp2_with fail
    rw [eb]
    clear eb hmin24
    have H0 : Hi (HasO [] w7 [(wr.heap.size, .cells #[.int .u8 177, .int .u8 (b : Int)] 5)] _) := Hd ((HasO.nil (S := []) (Keep.of_below HBW.o)).new rfl (.cells #[.int .u8 177, .int .u8 (b : Int)] 5))
    refine (number_ok _ _).mono ?_
    rintro e wa ⟨x4', hx4', hx4b', rfl, hwa⟩
    have Ha : Hi (HasO [] w7 [(wr.heap.size, .cells #[.int .u8 177, .int .u8 (b : Int)] 5)] wa) := Hd (by rw [hwa]; exact H0.o.alloc _)
    have hza : wa.heap.size = wr.heap.size + 2 := by rw [hwa]; simp
    have HBA : Hi (Below wr.heap.size wr wa) := Hd (by rw [hwa]; exact Below.al (Below.al (Below.refl _ _) _) _)
    have HOa : Hi (wa.ownsRow wr.heap.size 5 1 (.slice (some ⟨wr.heap.size, 0, none⟩) 2 2) [177, (b : Int)].length (nums .u8 [177, (b : Int)])) := Hd ⟨rfl, .inr ⟨_, 2, _, rfl, Nat.le_refl _, Ha.o.obj 0 rfl, Nat.le_refl _, by decide, rfl, rfl⟩⟩
    have HXa : Hi (RI wa wa.heap.size .u8 (some ⟨wr.heap.size + 1, 0, none⟩) x4') := Hd (by rw [hwa]; have := RI.of_lit (k := .u8) (w := (wr.alloc (.cells #[.int .u8 177, .int .u8 (b : Int)] 5)).alloc (.cells (nums .u8 x4').toArray 5)) (t := 5) (b := wr.heap.size + 1) (cs := (nums .u8 x4').toArray) (xs := x4') (by have := heap_alloc_new (wr.alloc (.cells #[.int .u8 177, .int .u8 (b : Int)] 5)) (.cells (nums .u8 x4').toArray 5); simpa using this) rfl; exact this)
    have HLa := Hd hx4'
    have HZa := Hd hza
    clear hwa hx4' hx4b' hza H0 Ha
    go_wp2_with (first
     | (at_builtin; refine wpList_app _ rfl (.tmp 43) (.tmp 46) _ rfl wr.heap.size 5 .u8 1 Tryz.underlying134 Pack.info5 (by omega) (.slice (some ⟨wr.heap.size, 0, none⟩) 2 2) [177, (b : Int)] HOa.o rfl wa.heap.size (some ⟨wr.heap.size + 1, 0, none⟩) 4 x4' (by rw [HLa.o]; first | rfl | simp) HXa.o (by rw [HLa.o]; simp) (by rw [HZa.o]; omega) ?_
        intro v1 wb hown1 hg1 hat1
        obtain ⟨Ab, cb, rfl⟩ := own_slice hown1
        have HBb := Hd (below_own HBA.o hg1 HOa.o (Nat.le_refl _) HBA.o.size)
        have hl6 : ([177, (b : Int)] ++ x4').length = 6 := by rw [List.length_append, HLa.o]; rfl
        obtain ⟨zs, hzs⟩ : ∃ zs, zs = [177, (b : Int)] ++ x4' := ⟨_, rfl⟩
        rw [<- hzs] at hown1 hl6
        rw [<- hzs, hl6]
        rw [hl6] at hown1
        have HOb := Hd hown1
        have HL6' := Hd hl6
        clear hown1 hg1 hat1 hzs hl6 HOa HXa HLa HZa HBA)
     | (at_builtin; refine wpList_app _ rfl (.tmp 48) (.tmp 53) _ rfl wr.heap.size 5 .u8 1 Tryz.underlying134 Pack.info5 (by omega) (.slice Ab 6 cb) zs (by rw [HL6'.o]; exact HOb.o.alloc _) rfl _ (some ⟨wb.heap.size, 0, none⟩) 2 [(j : Int), (K : Int)] rfl (RI.of_lit (t := 5) (heap_alloc_new _ _) rfl) (by rw [HL6'.o]; simp) (by have := HBb.o.size; simp; omega) ?_
        intro v2 wc hown2 hg2 hat2
        obtain ⟨Ac, cc, rfl⟩ := own_slice hown2
        have HBc := Hd (below_own (HBb.o.alloc HBb.o.size (.cells #[.int .u8 (j : Int), .int .u8 (K : Int)] 5)) hg2 (HOb.o.alloc _) (Nat.le_refl _) (by have := HBb.o.size; simp; omega))
        have hl8 : (zs ++ [(j : Int), (K : Int)]).length = 8 := by rw [List.length_append, HL6'.o]; rfl
        obtain ⟨z2, hz2⟩ : ∃ z2, z2 = zs ++ [(j : Int), (K : Int)] := ⟨_, rfl⟩
        rw [<- hz2] at hown2 hl8
        rw [<- hz2, hl8]
        rw [hl8] at hown2
        have HOc := Hd hown2
        have HL8 := Hd hl8
        have HCU := Hd (((HRI7.o.cut (j * 24) b).more (Nat.le_refl _)).below HBW.o)
        have hlcu : ((bs.drop (j * 24)).take b).length = b := by rw [List.length_take, List.length_drop, HL7.o]; omega
        obtain ⟨cu, hcu⟩ : ∃ cu, cu = (bs.drop (j * 24)).take b := ⟨_, rfl⟩
        rw [<- hcu] at HCU hlcu
        have HLC := Hd hlcu
        have HCU' := Hd ((HCU.o.more HBW.o.size).below HBc.o)
        clear hown2 hg2 hat2 hz2 hl8 HOb HL6' HBb hcu hlcu HCU)
     | (at_builtin; refine wpList_app _ rfl (.tmp 54) (.tmp 55) _ rfl wr.heap.size 5 .u8 1 Tryz.underlying134 Pack.info5 (by omega) (.slice Ac 8 cc) z2 (by rw [HL8.o]; exact HOc.o) rfl _ (A7.map (·.add (j * 24))) _ cu (by rw [HLC.o]; rfl) HCU'.o (by rw [HL8.o, HLC.o]; have := HBM.o; omega) HBc.o.size ?_
        intro v3 wd hown3 hg3 hat3
        obtain ⟨Ad, cd, rfl⟩ := own_slice hown3
        have HBd := Hd (below_own HBc.o hg3 HOc.o (Nat.le_refl _) HBc.o.size)
        have hl9 : (z2 ++ cu).length = 8 + b := by rw [List.length_append, HL8.o, HLC.o]
        obtain ⟨z3, hz3⟩ : ∃ z3, z3 = z2 ++ cu := ⟨_, rfl⟩
        rw [<- hz3] at hown3 hl9
        rw [<- hz3, hl9]
        rw [hl9] at hown3
        have HOd := Hd hown3
        have HL9 := Hd hl9
        have HOY' := Hd (own_below HOY.o (HBd.o.mono (Nat.le_refl _)))
        have HRd := Hd (RI.of_own (by rw [<- hl9] at hown3; exact hown3)).2
        clear hown3 hg3 hat3 hz3 hl9 HOc HL8 HBc HLC HCU')
     | (at_builtin; refine wpList_app _ rfl (.tmp 57) (.tmp 58) _ rfl w7.heap.size 5 .u8 1 Tryz.underlying134 Pack.info5 (by omega) (.slice A (32 * j) c') ys HOY'.o rfl _ Ad cd z3 (by rw [HL9.o]; rfl) HRd.o (by rw [HL9.o, HYL.o]; have := HBM.o; omega) (Nat.le_trans HBW.o.size HBd.o.size) ?_
        intro v4 we hown4 hg4 hat4
        obtain ⟨Ae, ce, rfl⟩ := own_slice hown4
        have HBe := Hd (below_own (HBW.o.trans (HBd.o.mono HBW.o.size)) hg4 HOY'.o (Nat.le_refl _) (Nat.le_trans HBW.o.size HBd.o.size))
        have hl10 : (ys ++ z3).length = 32 * j + (8 + b) := by rw [List.length_append, HYL.o, HL9.o]
        obtain ⟨y2, hy2⟩ : ∃ y2, y2 = ys ++ z3 := ⟨_, rfl⟩
        rw [<- hy2] at hown4 hl10
        rw [<- hy2, hl10]
        rw [hl10] at hown4
        have HOe := Hd hown4
        have HL10 := Hd hl10
        clear hown4 hg4 hat4 hy2 hl10 HOd HBd HOY' HRd HL9)
     | (at_builtin
        obtain ⟨i0, hi0, hz0, hz1, hz2⟩ := info_parts Pack.info5
        refine wpList_appz _ rfl (.tmp 60) (.tmp 63) 134 3 rfl w7.heap.size 5 i0 .i64 Tryz.underlying134 Tryz.underlying3 hi0 hz0 hz1 hz2 (.slice Ae (32 * j + (8 + b)) ce) y2 (by rw [HL10.o]; exact HOe.o) rfl (24 - b) (by refine congrArg (Value.int .i64) ?_; have := HBM.o; omega) (by rw [HL10.o]; have := HBM.o; omega) HBe.o.size ?_
        intro v5 wf hown5 hg5 hat5
        obtain ⟨Af, cf, rfl⟩ := own_slice hown5
        have HBf := Hd (below_own HBe.o hg5 HOe.o (Nat.le_refl _) HBe.o.size)
        have hl11 : (y2 ++ List.replicate (24 - b) 0).length = 32 * (j + 1) := by rw [List.length_append, List.length_replicate, HL10.o]; have := HBM.o; omega
        obtain ⟨y3, hy3⟩ : ∃ y3, y3 = y2 ++ List.replicate (24 - b) 0 := ⟨_, rfl⟩
        rw [<- hy3] at hown5 hl11
        rw [<- hy3, hl11]
        rw [hl11] at hown5
        have HOf := Hd hown5
        have HL11 := Hd hl11
        clear hown5 hg5 hat5 hy3 hl11 HOe HBe HL10 hi0 hz0 hz1 hz2))
    refine ⟨⟨j + 1, Af, cf, y3, hjk, by simp, rfl, HL11, Hd (by rw [HL11.o]; exact HOf.o), HBf⟩, ?_⟩
    simp only [intOf]
    omega
  . have hd := decide_eq_false (show ¬ (j : Int) < (K : Int) by omega)
    obtain rfl : j = K := by omega
    obtain ⟨_, h2 | ⟨g, cap, cur, he, hb, hg, hc, hm2, hz, hx⟩⟩ := id HOY.o
    . exfalso
      have := HYL.o; have := HKK.o; have := h2.2; omega
    . injection he with e1 e2 e3
      subst e1 e3
      have HC := Hd (show 32 * j <= c' /\ c' <= maxLen from ⟨by omega, hm2⟩)
      have HRI := Hd (RI.of_own (e2 ▸ HOY.o)).2
      clear hb hg hc hm2 hz hx e2
      go_wp2_with fail
      exact bodyPost_ret (results_one rfl _ _ rfl) rfl ⟨g, c', ys, rfl, HYL.o, HRI.o, HC.o.1, HC.o.2, HW7.o.trans (HBW.o.mono HW7.o.size)⟩
end Bk
namespace Bk
open Go.RowKit Go.Deep Go.Shelf Mp Mo
open Sha (rowB rowB_size rowB_one toI toI_length)
open Crc (nat crc)
open Cal (results_one results_two results_three)
theorem out_lt (s : Sha.St) : ∀ x ∈ Sha.out s, x < 256 := by
 intro x hx
 simp only [Sha.out, Sha.be4, List.mem_append, List.mem_cons, List.not_mem_nil, or_false] at hx
 omega
theorem sha_32 (l : List Nat) : (Sha.sha l).length = 32 /\ Byt (toI (Sha.sha l)) := by
 refine ⟨Sha.out_length _, Sha.byt_toI (fun b hb => out_lt _ b hb)⟩
theorem rowB_full {qs : List Nat} (h : qs.length = 32) : (rowB qs 32).toList = nums .u8 (toI qs) := by
 simp [rowB, h, nums, toI]
theorem logE_size {gd : Nat} {per nx : Int} {lk : Array Value} (h : lk.size = 32) : (logE gd per nx lk).size = 37 := by simp [logE, h]
theorem logE_part (gd : Nat) (per nx : Int) (lk : Array Value) : ∀ (j : Nat) (v : Value), lk.toList[j]? = some v -> (logE gd per nx lk)[4 + j]? = some v := by
 intro j v h
 have hj := (List.getElem?_eq_some_iff.1 h).1
 rw [logE, List.getElem?_toArray, Nat.add_comm 4 j]
 simp only [List.getElem?_cons_succ]
 rw [List.getElem?_append_left hj]; exact h
theorem logE_link {gd : Nat} {per nx : Int} {lk lk' : Array Value} (h : lk.size = 32) (h' : lk'.size = 32) : splice (logE gd per nx lk) 4 (Value.agg lk').cells = logE gd per nx lk' := by
 apply Array.ext'
 simp [splice, logE, Value.cells, h, h']
theorem logE_next {gd : Nat} {per nx nx' : Int} {lk : Array Value} : splice (logE gd per nx lk) 3 (Value.int .i64 nx').cells = logE gd per nx' lk := by
 apply Array.ext'
 simp [splice, logE, Value.cells]
def z32 : Array Value := #[.int .u8 0, .int .u8 0, .int .u8 0, .int .u8 0, .int .u8 0, .int .u8 0, .int .u8 0, .int .u8 0, .int .u8 0, .int .u8 0, .int .u8 0, .int .u8 0, .int .u8 0, .int .u8 0, .int .u8 0, .int .u8 0, .int .u8 0, .int .u8 0, .int .u8 0, .int .u8 0, .int .u8 0, .int .u8 0, .int .u8 0, .int .u8 0, .int .u8 0, .int .u8 0, .int .u8 0, .int .u8 0, .int .u8 0, .int .u8 0, .int .u8 0, .int .u8 0]
theorem splice_all {z lk : Array Value} (h : z.size = lk.size) : splice z 0 (Value.agg lk).cells = lk := by
 apply Array.ext'
 simp [splice, Value.cells, h]
theorem logAppend_ok (gl gd bf gp c : Nat) (room ops nx k : Int) (d : UInt8) (hk : (nx - 1).tdiv 4 = k) (hk1 : k = 0 ∨ k = 1) (hd : d = if k = 0 then 48 else 49) (hnx : 1 <= nx /\ nx <= 1000000) (ho : 0 <= ops /\ ops <= 1000000)
 (L : List (UInt8 × Value)) (hL : OkN L d) (qs : List Nat) (hq : qs.length = 32) (hqb : Byt (toI qs)) (ps : List Int) (hps : 1 <= ps.length /\ ps.length <= 4096) (hb : Byt ps) (hr : ((usedL L + (ps.length + 59) / 24 : Nat) : Int) <= room) (hroom : room <= 65536)
 (W : World) (hgl : Blk W gl 192 (logE gd 4 nx (rowB qs 32))) (h : Dk gd bf room ops L W) (hp : RI W W.heap.size .u8 (some ⟨gp, 0, none⟩) ps) :
 Calls Tryz.prog 162 #[.pointer (some ⟨gl, 0, none⟩), .slice (some ⟨gp, 0, none⟩) ps.length c] W fun e w' => e = .returned (.tuple #[.int .i64 nx, .int .i64 0]) /\ Keep [gl, gd, bf] W w' /\
  ∃ (qs' : List Nat) (v v' : Value), qs'.length = 32 /\ Byt (toI qs') /\ w'.heap[gl]? = some (.cells (logE gd 4 (nx + 1) (rowB qs' 32)) 192) /\ lenV v' = lenV (getN L d) + (ps.length + 59) / 24 /\ Dk gd bf room (ops + 2) (setN (setN L d v) d v') w' := by
 obtain ⟨hn1, hn2⟩ := hnx
 obtain ⟨hp1, hp2⟩ := hps
 obtain ⟨hs32, hsb⟩ := sha_32 (qs ++ nat ps)
 have CC := Hd (fun w hx => Sha.chain_ok qs hq (some ⟨gp, 0, none⟩) c ps w hx (by omega) hb hqb)
 have CN := Hd (fun w => name_ok k hk1 w)
 have HP := Hd hp
 have HW := Hd hgl
 have HD := Hd h
 have HL := Hd hL
 have HB := Hd hb
 have HR := Hd hr
 obtain ⟨qs', hqs'⟩ : ∃ qs', qs' = Sha.sha (qs ++ nat ps) := ⟨_, rfl⟩
 obtain ⟨lk, hlk⟩ : ∃ lk, lk = rowB qs' 32 := ⟨_, rfl⟩
 rw [<- hqs', <- hlk] at CC
 rw [<- hqs'] at hs32 hsb
 have HZ := Hd (show lk.size = 32 by rw [hlk]; exact rowB_size (by omega))
 have HQ := Hd (rowB_size (ws := qs) (n := 32) (by omega))
 have H1k := Hd (show lk.all (·.oneCell') = true by rw [hlk]; exact rowB_one _ _)
 have HSI : Hi (∃ xs : List Int, lk.toList = nums .u8 xs /\ xs.length = 32) := Hd ⟨toI qs', by rw [hlk]; exact rowB_full hs32, by rw [toI_length]; exact hs32⟩
 have HSK := Hd (And.intro hs32 (And.intro hsb hlk))
 have CS := Hd (fun w hx => sectors_ok nx gp c ps lk HSI.o (by omega) w hx hb)
 obtain ⟨s, hsd⟩ : ∃ s, s = nm d := ⟨_, rfl⟩
 have HSD := Hd hsd
 rw [<- hd, <- hsd] at CN
 have hlen1 : decide (4096 < (ps.length : Int)) = false := by simp; omega
 have hlen2 : ((ps.length : Int) == 0) = false := beq_eq_false_iff_ne.2 (by omega)
 have c36 : W.cell? ⟨gl, 36, none⟩ = some (.bool false) := by
  rw [Blk.cell hgl 36]
  simp [logE, List.getElem?_append_right, HQ.o]
 have hgw := obj_lt hgl
 have HGW := Hd hgw
 obtain ⟨m, hm⟩ : ∃ m, m = ps.length := ⟨_, rfl⟩
 have HM := Hd hm
 rw [<- hm] at CC CS hlen1 hlen2 hp1 hp2 hr ⊢
 have hk0 : 0 <= k /\ k <= 1 := by omega
 obtain ⟨N, hN⟩ : ∃ N, N = (m + 59) / 24 := ⟨_, rfl⟩
 rw [<- hN] at CS hr ⊢
 have HNN := Hd hN
 have HRR := Hd (And.intro hr hroom)
 have hgl7 := obj_lt h.1
 have HNE : Hi (gl ≠ gd /\ gl ≠ bf) := Hd ⟨ne_alike h.1 hgl rfl, ne_alike h.2.1 hgl rfl⟩
 have HLT : Hi (gd < W.heap.size /\ bf < W.heap.size /\ gl < W.heap.size) := Hd ⟨obj_lt h.1, obj_lt h.2.1, hgw⟩
 have HOP := Hd ho
 clear hgl h hL hb hp hq hqb hqs' hlk hs32 hsb hk1 hd hsd hr hroom hm hN hgl7 ho
 go_enter Tryz.func162, Tryz.ntmps162
 go_wp2_with (refine wpListG_part rfl 190 (.tmp 28) rfl gl 4 rfl 192 (logE gd 4 nx (rowB qs 32)) (rowB qs 32) _ HW.o (logE_part _ _ _ _) Tryz.underlying190 rfl (by rw [HQ.o]; kernel_rfl) ?_)
 refine (CC.o _ HP.o).mono ?_
 rintro e w1 ⟨rfl, hb1⟩
 have H1 : Hi (HasO [] W [(gl, .cells (logE gd 4 nx (rowB qs 32)) 192)] w1) := Hd (HasO.cons ((hb1.block gl hgw).trans HW.o) (HasO.nil (Keep.of_below hb1)))
 have HZ1 := Hd hb1.size
 clear hb1 c36
 go_wp2_with (
  obtain ⟨g6, hg6⟩ : ∃ g6, g6 = w1.heap.size := ⟨_, rfl⟩
  have H2 := Hd (H1.o.new hg6 (.cells z32 190))
  rw [<- hg6] at HZ1
  rw [<- hg6]
  clear hg6
  refine wpList_turn rfl 190 (.tmp 6) (.tmp 31) rfl g6 0 (.agg lk) rfl rfl 190 z32 lk (H2.o.get 0 rfl) (by rw [show (Value.agg lk).cells.size = 32 from HZ.o]; kernel_rfl) (by rw [show (Value.agg lk).cells.size = 32 from HZ.o]; decide) H1k.o (splice_all (by rw [HZ.o]; rfl)) ?_
  intro W2 HT2
  have H3 := Hd (H2.o.turn 0 rfl HT2 (.inr HZ1.o) (H2.o.apart 0 rfl rfl))
  clear H1 H2 HT2)
 simp only [Act.put]
 refine wp_region_class (fun w' => HasO [] W _ w') [0, 1, 2, 3, 4, 5, 6, 7, 8, 9, 10, 11] (by kernel_rfl) (by kernel_rfl) (H3.o.drew) ?_
 simp only [List.map_cons, List.map_nil, opAt, List.getElem?_cons_succ, List.getElem?_cons_zero, Option.getD_some]
 repeat (go_big_quiet_step ((intro _; rfl)))
 refine wpQuiet_cell 2 (.tmp 34) rfl rfl ⟨gl, 3, none⟩ rfl (.int .i64 nx) _ (fun w hw => by rw [Blk.cell (hw.get 1 rfl) 3]; exact rfl) Tryz.underlying2 rfl (fun K1 k1 => ?_)
 go_simp
 refine k1 _ ?_
 clear k1 K1
 repeat (go_big_quiet_step ((intro _; rfl)))
 refine wpQuiet_cell 2 (.tmp 39) rfl rfl ⟨gl, 1, none⟩ rfl (.int .i64 4) _ (fun w hw => by rw [Blk.cell (hw.get 1 rfl) 1]; exact rfl) Tryz.underlying2 rfl (fun K1 k1 => ?_)
 go_simp
 refine k1 _ ?_
 clear k1 K1
 repeat (go_big_quiet_step ((intro _; rfl)))
 go_big_quiet_step ((intro hw; exact (CN.o _).mono fun e w' h => ⟨h.1, hw.step h.2⟩))
 repeat (go_big_quiet_step ((intro _; rfl)))
 refine wpQuiet_nil ?_
 intro w5 H5
 have H5 := Hd H5
 clear H3
 go_wp2_with fail
 refine wp_region_regF (fun w' => HasO [] W [(g6, .cells lk 190), (gl, .cells (logE gd 4 nx (rowB qs 32)) 192)] w') (fun w' => HasO [gl, gd, bf] W [(g6, .cells lk 190), (gl, .cells (logE gd 4 nx (rowB qs 32)) 192)] w') (fun _ => (0, #[])) [0, 1, 2, 3, 4, 5, 6, 7, 8, 9, 10, 11] [] [12, 13, 14, 15] [0, 1, 2, 3, 4, 5, 6, 7, 8, 9, 10, 11] (by kernel_rfl) (by kernel_rfl) ?_ (fun w w' h hb => h.step hb) ?_ (fun k hk => by cases hk) ?_
 . exact fun w h => ⟨h.1.mono (by simp), h.2⟩
 . exact H5.o.drew
 simp only [List.map_cons, List.map_nil, opAt, List.getElem?_cons_succ, List.getElem?_cons_zero, Option.getD_some, List.contains_cons, List.contains_nil, Nat.reduceBEq, Bool.or_false, Bool.or_true, Bool.true_or, Bool.false_or]
 repeat (refine wpX_float rfl ?_; go_big_quiet_step ((intro _; rfl)); refine wpQuiet_nil ?_)
 refine wpX_float rfl ?_
 refine wpQuiet_cell 62 (.tmp 46) rfl rfl ⟨gl, 0, none⟩ rfl (.pointer (some ⟨gd, 0, none⟩)) _ (fun w hw => (hw.get 1 rfl).cell 0) Tryz.underlying62 rfl (fun K1 k1 => ?_)
 go_simp
 refine k1 _ ?_
 clear k1 K1
 refine wpQuiet_nil ?_
 repeat (refine wpX_float rfl ?_; go_big_quiet_step ((intro _; rfl)); refine wpQuiet_nil ?_)
 refine wpX_float rfl ?_
 refine wpQuiet_cell 2 (.tmp 51) rfl rfl ⟨gl, 3, none⟩ rfl (.int .i64 nx) _ (fun w hw => (hw.get 1 rfl).cell 3) Tryz.underlying2 rfl (fun K1 k1 => ?_)
 go_simp
 refine k1 _ ?_
 clear k1 K1
 refine wpQuiet_nil ?_
 repeat (refine wpX_float rfl ?_; go_big_quiet_step ((intro _; rfl)); refine wpQuiet_nil ?_)
 refine wpX_float rfl ?_
 refine wpQuiet_row 190 (.tmp 6) rfl rfl g6 rfl 190 lk _ (fun w hw => hw.get 0 rfl) Tryz.underlying190 rfl (by rw [HZ.o]; kernel_rfl) (fun K1 k1 => ?_)
 go_simp
 refine k1 _ ?_
 clear k1 K1
 refine wpQuiet_nil ?_
 repeat (refine wpX_float rfl ?_; go_big_quiet_step ((intro _; rfl)); refine wpQuiet_nil ?_)
 refine wpX_nil ?_
 intro gs w6 H6
 intro hmade
 simp only [putAll, wpTail, opAt, List.getElem?_cons_succ, List.getElem?_cons_zero, Option.getD_some, Act.put]
 have H6 := Hd H6
 clear hmade H5
 go_wp2_with fail
 refine (CS.o w6 ((HP.o.below H6.o.below).more H6.o.size)).mono ?_
 rintro e w7 ⟨g7, c7, xs, rfl, hxl, hx7, hc1, hc2, hb7⟩
 have H7 := Hd (H6.o.step hb7)
 have HX := Hd (And.intro hxl (And.intro hx7 (And.intro hc1 hc2)))
 clear hxl hx7 hc1 hc2 hb7 H6 CS
 go_wp2_with fail
 refine ⟨⟨H7.o.1.mono (by simp), H7.o.2⟩, ?_⟩
 have CA := Hd (append_ok gd bf g7 (32 * N) c7 room ops (by have := HOP.o; omega) L d HL.o (by have := HNN.o; omega) ⟨HX.o.2.2.1, HX.o.2.2.2, by have := HNN.o; omega⟩ (by rw [show (32 * N + 31) / 32 = N by omega]; exact HRR.o.1) HRR.o.2 w7 (HD.o.step H7.o.below) xs HX.o.1 HX.o.2.1)
 rw [<- HSD.o, show (32 * N + 31) / 32 = N by omega] at CA
 go_wp2_with fail
 refine CA.o.mono ?_
 rintro e w8 ⟨rfl, hk8, v8, hv8, hd8⟩
 have H8 : Hi (HasO [gl, gd, bf] W [(g6, .cells lk 190), (gl, .cells (logE gd 4 nx (rowB qs 32)) 192)] w8) := Hd ((H7.o.re' (T := [gl, gd, bf]) (by simp)).call hk8 (by simp) (by
  have := HNE.o
  have := HLT.o
  have := HZ1.o
  simp only [List.mem_cons, List.not_mem_nil, or_false, forall_eq_or_imp, forall_eq, not_or]
  omega))
 have HV8 := Hd hv8
 have HD8 := Hd hd8
 clear hk8 hv8 hd8 CA HX H7
 go_wp2_with fail
 refine ⟨H8.o, ?_⟩
 go_wp2_with fail
 refine (done_ok gl gd 4 nx (rowB qs 32) HQ.o w8 (H8.o.obj 1 rfl)).mono ?_
 rintro e w9 ⟨rfl, ht9⟩
 have H9 : Hi (HasO [gl, gd, bf] W [(g6, .cells lk 190), (gl, .cells (logE gd 4 nx (rowB qs 32)) 192)] w9) := Hd (H8.o.turn 1 rfl ht9 (.inl (by simp)) (H8.o.apart 1 rfl rfl))
 have HD9 : Hi (Dk gd bf room (ops + 1) (setN L d v8) w9) := Hd (HD8.o.keep ht9.keep (by simp only [List.mem_singleton]; exact fun e => HNE.o.1 e.symm) (by simp only [List.mem_singleton]; exact fun e => HNE.o.2 e.symm) (by
  intro k hk cur hc
  simp only [List.mem_singleton] at hk
  subst hk
  rw [H8.o.obj 1 rfl] at hc; cases hc))
 have c0 : w9.cell? ⟨gl, 0, none⟩ = some (.pointer (some ⟨gd, 0, none⟩)) := by rw [Blk.cell (H9.o.get 1 rfl) 0]; rfl
 clear ht9 H8 HD8
 go_wp2_with fail
 refine ⟨H9.o, ?_⟩
 go_wp2_with fail
 refine ⟨H9.o, ?_⟩
 go_wp2_with fail
 have CY := Hd (sync_ok gd bf room (ops + 1) (by have := HOP.o; omega) (setN L d v8) d (HL.o.set v8).1 (HL.o.set v8).2.1 w9 HD9.o)
 rw [<- HSD.o] at CY
 refine CY.o.mono ?_
 rintro e w10 ⟨rfl, hk10, v10, hv10, hd10⟩
 have H10 : Hi (HasO [gl, gd, bf] W [(g6, .cells lk 190), (gl, .cells (logE gd 4 nx (rowB qs 32)) 192)] w10) := Hd (H9.o.call hk10 (by simp) (by
  have := HNE.o
  have := HLT.o
  have := HZ1.o
  simp only [List.mem_cons, List.not_mem_nil, or_false, forall_eq_or_imp, forall_eq, not_or]
  omega))
 have HV10 := Hd (hv10.trans ((congrArg lenV (HL.o.set v8).2.2).trans HV8.o))
 have HD10 := Hd hd10
 clear hk10 hv10 hd10 CY H9 HD9 c0
 go_wp2_with fail
 refine (done_ok gl gd 4 nx (rowB qs 32) HQ.o w10 (H10.o.obj 1 rfl)).mono ?_
 rintro e w11 ⟨rfl, ht11⟩
 have H11 : Hi (HasO [gl, gd, bf] W [(g6, .cells lk 190), (gl, .cells (logE gd 4 nx (rowB qs 32)) 192)] w11) := Hd (H10.o.turn 1 rfl ht11 (.inl (by simp)) (H10.o.apart 1 rfl rfl))
 have HD11 : Hi (Dk gd bf room (ops + 1 + 1) (setN (setN L d v8) d v10) w11) := Hd (HD10.o.keep ht11.keep (by simp only [List.mem_singleton]; exact fun e => HNE.o.1 e.symm) (by simp only [List.mem_singleton]; exact fun e => HNE.o.2 e.symm) (by
  intro k hk cur hc
  simp only [List.mem_singleton] at hk
  subst hk
  rw [H10.o.obj 1 rfl] at hc; cases hc))
 clear ht11 H10 HD10
 go_wp2_with (first
  | (refine wpListG_row rfl 190 (.tmp 6) rfl g6 rfl 190 lk _ (H11.o.get 0 rfl) Tryz.underlying190 rfl (by rw [HZ.o]; kernel_rfl) ?_)
  | (refine wpList_turn rfl 190 (.tmp 75) (.tmp 73) rfl gl 4 (.agg lk) rfl rfl 192 (logE gd 4 nx (rowB qs 32)) (logE gd 4 nx lk) (H11.o.get 1 rfl) (by rw [show (Value.agg lk).cells.size = 32 from HZ.o]; kernel_rfl) (by rw [show (Value.agg lk).cells.size = 32 from HZ.o, logE_size HQ.o]; decide) H1k.o (logE_link HQ.o HZ.o) ?_
     intro W12 HT12
     have H12 := Hd (H11.o.turn 1 rfl HT12 (.inl (by simp)) (H11.o.apart 1 rfl rfl))
     have HD12 : Hi (Dk gd bf room (ops + 1 + 1) (setN (setN L d v8) d v10) W12) := Hd (HD11.o.keep HT12.keep (by simp only [List.mem_singleton]; exact fun e => HNE.o.1 e.symm) (by simp only [List.mem_singleton]; exact fun e => HNE.o.2 e.symm) (by
      intro k hk cur hc
      simp only [List.mem_singleton] at hk
      subst hk
      rw [H11.o.obj 1 rfl] at hc; cases hc))
     have c3 : W12.cell? ⟨gl, 3, none⟩ = some (.int .i64 nx) := by rw [Blk.cell (H12.o.get 1 rfl) 3]; rfl
     clear HT12 H11 HD11)
  | (refine wpList_turn rfl 2 (.tmp 82) (.tmp 80) rfl gl 3 (.int .i64 (nx + 1)) rfl rfl 192 (logE gd 4 nx lk) (logE gd 4 (nx + 1) lk) (H12.o.get 1 rfl) (by kernel_rfl) (by rw [logE_size HZ.o]; simp [Value.cells]) (by simp [Value.cells, Value.oneCell']) logE_next ?_
     intro W13 HT13
     have H13 := Hd (H12.o.turn 1 rfl HT13 (.inl (by simp)) (H12.o.apart 1 rfl rfl))
     have HD13 : Hi (Dk gd bf room (ops + 1 + 1) (setN (setN L d v8) d v10) W13) := Hd (HD12.o.keep HT13.keep (by simp only [List.mem_singleton]; exact fun e => HNE.o.1 e.symm) (by simp only [List.mem_singleton]; exact fun e => HNE.o.2 e.symm) (by
      intro k hk cur hc
      simp only [List.mem_singleton] at hk
      subst hk
      rw [H12.o.obj 1 rfl] at hc; cases hc))
     clear c3
     have c3 : W13.cell? ⟨gl, 3, none⟩ = some (.int .i64 (nx + 1)) := by rw [Blk.cell (H13.o.get 1 rfl) 3]; rfl
     clear HT13 H12 HD12))
 refine bodyPost_ret (results_two rfl _ _ rfl rfl) rfl ⟨?_, H13.o.1, qs', v8, v10, HSK.o.1, HSK.o.2.1, ?_, HV10.o, ?_⟩
 . simp
 . rw [<- HSK.o.2.2]; exact H13.o.obj 1 rfl
 . rw [show ops + 2 = ops + 1 + 1 by omega]; exact HD13.o
end Bk
end Go.Proofs.YtkdnebalpdebeaaGreatDoor
