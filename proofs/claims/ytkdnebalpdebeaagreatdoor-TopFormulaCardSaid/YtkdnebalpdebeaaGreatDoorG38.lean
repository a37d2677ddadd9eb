/- Lemmas of a claim: BkG, BkH, InB, BkI -/
import Derived.Test.YtkdnebalpdebeaaGreatDoorG37
set_option linter.unusedVariables false
set_option linter.unusedSimpArgs false
set_option maxHeartbeats 16000000
set_option maxRecDepth 100000
namespace Go.Proofs.YtkdnebalpdebeaaGreatDoor
namespace Bk
open Go.RowKit Go.Deep Mp Mo
open Pr (Below.of_grown Keep.of_grown)
open Cal (results_one results_two results_three)
def Dk (gd bf : Nat) (room ops : Int) (L : List (UInt8 × Value)) (w : World) : Prop := w.heap[gd]? = some (.cells (diskE bf room ops) 127) /\ w.heap[bf]? = some (.map (filesE L) L.length) /\ ∀ p ∈ L, ∃ n, n <= 1000000 /\ Sl w p.2 n
theorem Dk.step {gd bf : Nat} {room ops : Int} {L : List (UInt8 × Value)} {w w' : World} (h : Dk gd bf room ops L w) (hb : Below w.heap.size w w') : Dk gd bf room ops L w' :=
 ⟨by rw [hb.block gd (obj_lt h.1)]; exact h.1, by rw [hb.block bf (obj_lt h.2.1)]; exact h.2.1, fun p hp => by obtain ⟨n, h1, h2⟩ := h.2.2 p hp; exact ⟨n, h1, h2.step hb⟩⟩
theorem Dk.ne {gd bf : Nat} {room ops : Int} {L : List (UInt8 × Value)} {w : World} (h : Dk gd bf room ops L w) : gd ≠ bf := fun e => by have h1 := h.1; rw [e, h.2.1] at h1; cases h1
theorem Dk.keep {gd bf : Nat} {room ops : Int} {L : List (UInt8 × Value)} {w w' : World} {S : List Nat} (h : Dk gd bf room ops L w) (hk : Keep S w w') (h1 : gd ∉ S) (h2 : bf ∉ S) (hS : ∀ k ∈ S, ∀ cur, w.heap[k]? ≠ some (.cells cur 258)) : Dk gd bf room ops L w' :=
 ⟨by rw [hk.block gd (obj_lt h.1) h1]; exact h.1, by rw [hk.block bf (obj_lt h.2.1) h2]; exact h.2.1, fun p hp => by obtain ⟨n, h1, h2⟩ := h.2.2 p hp; exact ⟨n, h1, h2.keep hk hS⟩⟩
theorem Dk.get {gd bf : Nat} {room ops : Int} {L : List (UInt8 × Value)} {d : UInt8} {w : World} (h : Dk gd bf room ops L w) (hL : OkN L d) : lenV (getN L d) <= 1000000 /\ Sl w (getN L d) (lenV (getN L d)) := by
 have key : ∀ p ∈ L, lenV p.2 <= 1000000 /\ Sl w p.2 (lenV p.2) := fun p hp => by obtain ⟨n, h1, h2⟩ := h.2.2 p hp; rw [h2.isS.2]; exact ⟨h1, h2⟩
 rcases hL with ⟨rfl, rfl⟩ | ⟨u, rfl, rfl⟩ | ⟨u, rfl, rfl⟩ | ⟨u, v, rfl, rfl | rfl⟩
 . exact ⟨Nat.zero_le _, Sl.nil w⟩
 . exact key _ List.mem_cons_self
 . exact ⟨Nat.zero_le _, Sl.nil w⟩
 . exact key _ List.mem_cons_self
 . exact key (49, v) (by simp)
theorem mem_setN {L : List (UInt8 × Value)} {d : UInt8} {v : Value} {p : UInt8 × Value} (hp : p ∈ setN L d v) : p ∈ L ∨ p.2 = v := by
 unfold setN at hp
 split at hp
 . obtain ⟨q, hq, rfl⟩ := List.mem_map.1 hp
   split
   . exact .inr rfl
   . exact .inl hq
 . rcases List.mem_append.1 hp with hp | hp
   . exact .inl hp
   . simp only [List.mem_singleton] at hp; subst hp; exact .inr rfl
theorem Dk.set {gd bf : Nat} {room ops : Int} {L : List (UInt8 × Value)} {d : UInt8} {v : Value} {n : Nat} {w w' : World} {S : List Nat} (h : Dk gd bf room ops L w) (hk : Keep S w w') (hS : ∀ k ∈ S, ∀ cur, w.heap[k]? ≠ some (.cells cur 258))
 (hg : w'.heap[gd]? = some (.cells (diskE bf room (ops + 1)) 127)) (hf : w'.heap[bf]? = some (.map (filesE (setN L d v)) (setN L d v).length)) (hn : n <= 1000000) (hv : Sl w' v n) : Dk gd bf room (ops + 1) (setN L d v) w' :=
 ⟨hg, hf, fun p hp => by
  rcases mem_setN hp with hp | hp
  . obtain ⟨n, h1, h2⟩ := h.2.2 p hp; exact ⟨n, h1, h2.keep hk hS⟩
  . exact ⟨n, hn, by rw [hp]; exact hv⟩⟩
theorem Dk.far {gd bf : Nat} {room ops : Int} {L : List (UInt8 × Value)} {w : World} (h : Dk gd bf room ops L w) : ∀ k ∈ [gd, bf], ∀ cur, w.heap[k]? ≠ some (.cells cur 258) := by
 intro k hk cur hc
 simp only [List.mem_cons, List.not_mem_nil, or_false] at hk
 rcases hk with rfl | rfl
 . rw [h.1] at hc; cases hc
 . rw [h.2.1] at hc; cases hc
theorem sync_ok (gd bf : Nat) (room ops : Int) (ho : 0 <= ops /\ ops <= 1000000000000) (L : List (UInt8 × Value)) (d : UInt8) (hL : OkN L d) (hh : hasN L d = true) (W : World) (h : Dk gd bf room ops L W) :
 Calls Tryz.prog 208 #[.pointer (some ⟨gd, 0, none⟩), .string (nm d)] W fun e w' => e = .returned (.int .i64 0) /\ Keep [gd, bf] W w' /\ ∃ v', lenV v' = lenV (getN L d) /\ Dk gd bf room (ops + 1) (setN L d v') w' := by
 have CK := Hd (fun w (hb : Below W.heap.size W w) => check_ok gd bf room ops L hL.two.1 d hL.two.2 true (fun _ => hh) w (h.step hb).1 (h.step hb).2.1)
 have CD := Hd (fun (bd bn : Nat) (R : World -> Prop) w (hb : Below W.heap.size W w) => doS_ok gd bf room ops ho #[.pointer (some ⟨bd, 0, none⟩), .pointer (some ⟨bn, 0, none⟩)] R w (h.step hb).1)
 have CS := Hd (fun (bd bn : Nat) w hL' hs => sync1_ok gd bf bd bn room (ops + 1) L d hL (lenV (getN L d)) (h.get hL).1 w hL' hs)
 have HD := Hd h
 have HL := Hd hL
 obtain ⟨s, hsd⟩ : ∃ s, s = nm d := ⟨_, rfl⟩
 rw [<- hsd] at CK CS ⊢
 clear h ho hL hh hsd
 go_enter Tryz.func208, Tryz.ntmps208
 have H1 : Hi (HasO [] W [(W.heap.size + 1, .cells #[.string s] 9), (W.heap.size, .cells #[.pointer (some ⟨gd, 0, none⟩)] 62)] _) := Hd (((HasO.start [] W).new (g := W.heap.size) rfl (.cells #[.pointer (some ⟨gd, 0, none⟩)] 62)).new (g := W.heap.size + 1) (by simp) (.cells #[.string s] 9))
 go_wp2_with fail
 refine (CK.o _ H1.o.below).mono ?_
 rintro e w2 ⟨rfl, hb2⟩
 have H2 := Hd (H1.o.step hb2)
 have cd : w2.cell? ⟨W.heap.size, 0, none⟩ = _ := (H2.o.get 1 rfl).cell 0
 simp only [List.getElem?_toArray, List.getElem?_cons_zero] at cd
 clear hb2 H1 CK
 go_wp2_with fail
 refine (CD.o W.heap.size (W.heap.size + 1) (fun w' => Keep [gd, bf] W w' /\ ∃ v', lenV v' = lenV (getN L d) /\ Dk gd bf room (ops + 1) (setN L d v') w') w2 H2.o.below ?_).mono ?_
 . intro w3 ht
   have hd2 := HD.o.step H2.o.below
   have hgw := obj_lt HD.o.1
   have hfw := obj_lt HD.o.2.1
   have hk3 : Keep [gd] w2 w3 := ht.keep
   have hs3 : Sl w3 (getN L d) (lenV (getN L d)) := ((hd2.get HL.o).2).keep hk3 (fun k hk => hd2.far k (by simp at hk ⊢; exact .inl hk))
   refine (CS.o W.heap.size (W.heap.size + 1) w3 (HasO.cons ht.at_ (HasO.cons ((ht.far _ (by omega)).trans (H2.o.obj 1 rfl)) (HasO.cons ((ht.far _ (by omega)).trans (H2.o.obj 0 rfl)) (HasO.cons ((ht.far _ hd2.ne.symm).trans hd2.2.1) (HasO.start [] w3))))) hs3).mono ?_
   rintro e w4 ⟨rfl, hk4, v4, hs4, hf4⟩
   have hk24 : Keep [gd, bf] w2 w4 := (hk3.mono (by simp)).trans hk4 (by simp)
   refine ⟨rfl, (H2.o.1.mono (by simp)).trans hk24 (by simp), v4, hs4.isS.2, ?_⟩
   exact hd2.set hk24 hd2.far ((hk4.block gd (by rw [ht.size]; exact obj_lt hd2.1) (by simp; exact hd2.ne)).trans ht.at_) hf4 (hd2.get HL.o).1 hs4
 . rintro e w3 ⟨rfl, hr⟩
   have HR := Hd hr
   clear hr
   go_wp2_with fail
   exact bodyPost_ret (results_one rfl _ _ rfl) rfl ⟨rfl, HR.o⟩
end Bk
namespace Bk
open Go.RowKit Go.Deep Go.Shelf Mp Mo
open Pr (Below.of_grown Keep.of_grown)
open Cal (results_one results_two results_three)
attribute [local go_sem] Oper.semAt_some
theorem chunk_ok (g c : Nat) (m : Nat) (W : World) : Calls Tryz.prog 154 #[.slice (some ⟨g, 0, none⟩) m c, .int .i64 32] W fun e w' =>
 e = .returned (.func (.func 201) #[] #[.pointer (some ⟨W.heap.size, 0, none⟩), .pointer (some ⟨W.heap.size + 1, 0, none⟩)]) /\ w' = (W.alloc (.cells #[.slice (some ⟨g, 0, none⟩) m c] 134)).alloc (.cells #[.int .i64 32] 3) := by
 go_enter Tryz.func154, Tryz.ntmps154
 go_wp2_with fail
 exact bodyPost_ret (results_one rfl _ _ rfl) rfl ⟨rfl, rfl⟩
theorem slice3 {P : Program} (W : World) (t e : TypeId) (ht : P.underlying t = some (.slice e)) (hz : ∀ w, (Go.sizeOf e).run P w = .ok 1 w) (b len cap l r : Nat) (hr : 1 <= r) (hh : l + r <= cap) :
 (Instr.slice t (.slice (some ⟨b, 0, none⟩) len cap) (some (.int .i64 (l : Int))) (some (.int .i64 ((l : Int) + (r : Int)))) (some (.int .i64 ((l : Int) + (r : Int))))).run P W = .ok (.slice (some ⟨b, l, none⟩) r r) W := by
 have ht' : P.underlying t = some (.slice (P.elem t)) := by simp [Program.elem, ht]
 have he : P.elem t = e := by simp [Program.elem, ht]
 rw [run_slice_lhm (w := W) (t := t) (a := some ⟨b, 0, none⟩) (len := len) (cap := cap) ht' .i64 .i64 .i64 _ _ _ (by omega) (by omega) (by omega) (by omega), he, hz]
 have e1 : ((l : Int) + (r : Int)).toNat = l + r := by omega
 have e2 : (l : Int).toNat = l := by omega
 have e3 : ¬ l + r = l := by omega
 have e4 : l + r - l = r := by omega
 simp only [Result.andThen, sliced, e1, e2, e3, e4, if_false, if_true]
 by_cases h0 : l = 0
 . subst h0; simp [Addr.add]
 . simp [Addr.add, h0]
def chunkV (g m j : Nat) : Value := .slice (some ⟨g, 32 * j, none⟩) (min 32 (m - 32 * j)) (min 32 (m - 32 * j))
def KC (Bs Bn : Nat) (X X' : World) : Prop := X'.heap[Bs]? = X.heap[Bs]? /\ X'.heap[Bn]? = X.heap[Bn]?
def encC (g m : Nat) : Nat -> Array Value := fun j => #[chunkV g m j]
theorem chunk1_stops (n Bs Bn n₀ g c m : Nat) (hm : m <= c) (hc : c <= maxLen) (hm2 : m <= 1000000) (w : World) (hb1 : Bs < n₀) (hb2 : Bn < n₀) (hn : n₀ <= w.heap.size)
 (hB : w.heap[Bs]? = some (.cells #[.slice (some ⟨g, 0, none⟩) m c] 134)) (hN : w.heap[Bn]? = some (.cells #[.int .i64 32] 3)) :
 SeqStopsK Fence.wide n Tryz.prog 201 #[.pointer (some ⟨Bs, 0, none⟩), .pointer (some ⟨Bn, 0, none⟩)] (encC g m) (KC Bs Bn) (fun xs => xs = List.range ((m + 31) / 32)) (fun _ => True) ((m + 31) / 32) w := by
 intro l J Jx W hW hJ hJx hY h0
 have HB := Hd (show W.heap[Bs]? = _ from (hW.block Bs (by omega)).trans hB)
 have HNN := Hd (show W.heap[Bn]? = _ from (hW.block Bn (by omega)).trans hN)
 have HN := Hd (And.intro hb1 hb2)
 have HY := Hd hY
 have HM := Hd (And.intro hm (And.intro hc hm2))
 have HJA := Hd hJ
 have HZ := Hd (show n₀ <= W.heap.size from Nat.le_trans hn hW.size)
 clear hb1 hb2 hn hB hN hW hJ hJx hY hm hc hm2
 refine callsIn_of_wp Tryz.func201 rfl trivial ?_ rfl
 simp only [Tryz.ntmps201, List.size_toArray, List.length_cons, List.length_nil, Nat.reduceAdd, Nat.reduceSub, Array.replicate_succ, Array.replicate_zero, List.push_toArray, List.append_toArray, List.nil_append, List.cons_append]
 gi_wp2
 gi_loopw [4] (fun i wr => ∃ j : Nat, j <= (m + 31) / 32 /\ i = .int .i64 (32 * j : Nat) /\ Hi (J (List.range j) wr /\ KC Bs Bn W wr)) (fun i _ => (m + 32) - (intOf i).toNat)
 case atStart => exact ⟨0, Nat.zero_le _, rfl, Hd ⟨h0, rfl, rfl⟩⟩
 case round =>
  clear h0
  obtain ⟨j, hj, rfl, HJ⟩ := hrel
  have HS1 := Hd (show wr.heap[Bs]? = _ from HJ.o.2.1.trans HB.o)
  have HS2 := Hd (show wr.heap[Bn]? = _ from HJ.o.2.2.trans HNN.o)
  have cb := Blk.cell (t := 134) (cs := #[.slice (some ⟨g, 0, none⟩) m c]) HS1.o 0
  have cn := Blk.cell (t := 3) (cs := #[.int .i64 32]) HS2.o 0
  simp only [List.getElem?_toArray, List.getElem?_cons_zero] at cb cn
  by_cases hjm : 32 * j < m
  . have hd := decide_eq_true (show ((32 * j : Nat) : Int) < (m : Nat) by omega)
    gi_wp2_with fail
    clear cb cn
    refine wpIn_wide.2 ?_
    have H1 : Hi (HasO [] wr [(Bs, .cells #[.slice (some ⟨g, 0, none⟩) m c] 134), (Bn, .cells #[.int .i64 32] 3)] wr) := Hd (HasO.cons HS1.o (HasO.cons HS2.o (HasO.start [] wr)))
    refine wp_region_class (fun w' => HasO [] wr _ w') [0, 1, 2, 3, 4, 5, 6] (by kernel_rfl) (by kernel_rfl) (H1.o.drew) ?_
    simp only [List.map_cons, List.map_nil, opAt, List.getElem?_cons_succ, List.getElem?_cons_zero, Option.getD_some]
    refine wpQuiet_cell 3 (.tmp 2) rfl rfl ⟨Bn, 0, none⟩ rfl (.int .i64 32) _ (fun w hw => (hw.get 1 rfl).cell 0) Tryz.underlying3 rfl (fun K1 k1 => ?_)
    go_simp
    refine k1 _ ?_
    clear k1 K1
    refine wpQuiet_cell 134 (.tmp 1) rfl rfl ⟨Bs, 0, none⟩ rfl (.slice (some ⟨g, 0, none⟩) m c) _ (fun w hw => (hw.get 0 rfl).cell 0) Tryz.underlying134 rfl (fun K1 k1 => ?_)
    go_simp
    refine k1 _ ?_
    clear k1 K1
    repeat (go_big_quiet_step ((intro _; rfl)))
    refine wpQuiet_nil ?_
    intro w5 H5
    have H5 := Hd H5
    clear H1
    obtain ⟨r, hr⟩ : ∃ r : Nat, r = min 32 (m - 32 * j) := ⟨_, rfl⟩
    have er : min (32 : Int) ((m - 32 * j : Nat) : Int) = (r : Int) := by omega
    rw [er]
    have hJ5 : J (List.range j) w5 := HJA.o _ _ _ none HJ.o.1 (only_of_below H5.o.below none) (by rintro _ h; cases h)
    obtain ⟨fn, tmps, assign, body, hy, hR⟩ := HY.o (List.range j) j w5 hJ5 (by simp; omega)
    have ev : chunkV g m j = .slice (some ⟨g, 32 * j, none⟩) r r := by unfold chunkV; rw [hr]
    dsimp only [encC] at hy
    rw [ev] at hy
    have hr1 : 1 <= r /\ 32 * j + r <= c /\ 32 * j + r <= 1000000 := by have := HM.o; omega
    have cb := Blk.cell (H5.o.get 0 rfl) 0
    have cn := Blk.cell (H5.o.get 1 rfl) 0
    simp only [List.getElem?_toArray, List.getElem?_cons_zero] at cb cn
    have hsl : ∀ w, (Instr.slice 134 (.slice (some ⟨g, 0, none⟩) m c) (some (.int .i64 (32 * (j : Int)))) (some (.int .i64 (32 * (j : Int) + (r : Int)))) (some (.int .i64 (32 * (j : Int) + (r : Int))))).run Tryz.prog w = .ok (.slice (some ⟨g, 32 * j, none⟩) r r) w := fun w => by
     have := slice3 w 134 5 Tryz.underlying134 (fun w => by kernel_rfl) g m c (32 * j) r hr1.1 hr1.2.1
     simpa using this
    have HR := Hd hR
    clear hr er ev hR
    gi_wp2_with fail
    refine ⟨fun h => (by cases h), HR.o.mono ?_⟩
    rintro e W3 (⟨rfl, hJ3, hk3⟩ | ⟨rfl, hJx3⟩)
    . have HK3 := Hd hk3
      have c3 := Blk.cell (t := 3) (cs := #[.int .i64 32]) (hk3.2.trans (H5.o.obj 1 rfl)) 0
      simp only [List.getElem?_toArray, List.getElem?_cons_zero] at c3
      clear hk3
      gi_wp2_with fail
      go_roundw
      case rel => exact ⟨j + 1, by omega, by go_num, Hd ⟨by rw [List.range_succ]; exact hJ3, HK3.o.1.trans ((H5.o.obj 0 rfl).trans HB.o.symm), HK3.o.2.trans ((H5.o.obj 1 rfl).trans HNN.o.symm)⟩⟩
      case measure => simp [intOf]; omega
    . gi_wp2
      refine bodyPost_ret (results_none rfl _ _ _) rfl ?_
      exact ⟨⟨_, rfl⟩, .inr ⟨_, trivial, hJx3⟩⟩
  . have hd := decide_eq_false (show ¬ ((32 * j : Nat) : Int) < (m : Nat) by omega)
    have hjl : j = (m + 31) / 32 := by omega
    gi_wp2_with fail
    go_end0
    exact ⟨⟨_, rfl⟩, .inl ⟨_, by rw [hjl], HJ.o.1⟩⟩
end Bk
section
open Go.RowKit Go.Deep Go.Shelf
section
variable {F : Fence} {n : Nat} {P : Program} {ops : Array Oper} {rest : List Oper} {o : Oper} {a : Act} {w : World} {Q : Exit -> Act -> World -> Prop}
theorem wpListIn_bi (hw : Region.wanted o (yielded ops a.tmps) = true) (b : Builtin) (args : Array Operand) (tys : Array TypeId) (ho : o.op = .call { callee := .builtin b, args := args, argTypes := tys }) (v : Value) (w' : World)
 (hr : (execOp a.eval o).run P w = .ok (.value v) w') (h : wpListIn F n P ops Q rest (a.put o.dst v) w') : wpListIn F n P ops Q (o :: rest) a w := by
 refine wpListIn_step fun K hK => ?_
 rw [if_pos hw]
 unfold Oper.wpIn
 refine ⟨fun f hf => ?_, ?_⟩
 . unfold Oper.about at hf
   simp [ho, resolve, Target.leads] at hf
 . rw [Oper.semAt_eq _ _ _ (by rw [ho]; intro c e; cases e), hr]
   exact hK _ _ h
theorem wpListIn_append_any (hw : Region.wanted o (yielded ops a.tmps) = true) (s x : Operand) (t : TypeId)
 (ho : o.op = .call { callee := .builtin .append, args := #[s, x], argTypes := #[t, t] })
 (base : Nat) (e : TypeId) (i : TypeInfo) (z : Value) (size bytes : Nat) (ht : P.underlying t = some (.slice e)) (hi : P.info? e = some i) (hz : i.zero = some z)
 (hsize : i.size = size) (hby : i.bytes = bytes) (hzs : z.cells.size = size) (hsz : 0 < size)
 (v : Value) (m : Nat) (xs : List Value) (hs : a.eval s = v) (hown : w.ownsRow base e size v m xs)
 (B : Nat) (A : Option Addr) (k c : Nat) (news : List Value) (hx : a.eval x = .slice A k c) (hr : Reads w B size A k news) (h1 : ∀ u ∈ news, u.oneCell' = true)
 (h63 : m + k <= maxLen) (hbytes : (m + k) * bytes <= 140737488355328) (hbase : base <= w.heap.size)
 (h : ∀ v' w', w'.ownsRow base e size v' (m + k) (xs ++ news) -> w.grownBy w' v.ownBlock -> (v'.ownBlock = v.ownBlock ∨ v'.ownBlock = some w.heap.size) -> wpListIn F n P ops Q rest (a.put o.dst v') w') : wpListIn F n P ops Q (o :: rest) a w := by
 obtain ⟨v', w', hrun, h2, h3, h4⟩ := run_append_any (P := P) w base t o.type e i z size bytes ht hi hz hsize hby hzs hsz v m xs hown B A k c news hr h1 h63 hbytes hbase
 refine wpListIn_bi hw _ _ _ ho v' w' ?_ (h v' w' h2 h3 h4)
 unfold execOp
 simp only [ho, resolve, invoke, builtin, Sem.run_bind, Sem.run_pure, Result.andThen_ok, List.map_toArray, List.map_cons, List.map_nil, hs, hx, hrun]
theorem wpListIn_copyT (hw : Region.wanted o (yielded ops a.tmps) = true) (d s : Operand) (dT sT : TypeId)
 (ho : o.op = .call { callee := .builtin .copy, args := #[d, s], argTypes := #[dT, sT] }) (elem : TypeId) (hu : P.underlying dT = some (.slice elem)) (hsz : (P.info? elem).map (·.size) = some 1)
 (g off dLen dCap : Nat) (ad : Addr) (sLen sCap : Nat) (hd : a.eval d = .slice (some ⟨g, off, none⟩) dLen dCap) (hs : a.eval s = .slice (some ad) sLen sCap)
 (cur : Array Value) (t : TypeId) (hg : w.heap[g]? = some (.cells cur t)) (cs : List Value) (hn : cs.length = Nat.min sLen dLen)
 (hsrc : ∀ j v, cs[j]? = some v -> w.cell? (ad.add j) = some v) (hfit : off + cs.length <= cur.size) (h1 : ∀ v ∈ cs, v.oneCell' = true) (new : Array Value) (hnew : (cur.toList.take off ++ cs ++ cur.toList.drop (off + cs.length)).toArray = new)
 (h : ∀ W2, Turn w g (.cells new t) W2 -> wpListIn F n P ops Q rest (a.put o.dst (goInt cs.length)) W2) : wpListIn F n P ops Q (o :: rest) a w := by
 have hrun := run_copy_row (P := P) w dT sT o.type elem g off dLen dCap ad sLen sCap cur t cs hu hsz hg hn hsrc hfit h1
 subst hnew
 refine wpListIn_bi hw _ _ _ ho (goInt cs.length) _ ?_ (h _ (turn_setRow hg))
 unfold execOp
 simp only [ho, resolve, invoke, builtin, Sem.run_bind, Sem.run_pure, Result.andThen_ok, List.map_toArray, List.map_cons, List.map_nil, hd, hs, hrun]
end
end
namespace Bk
open Go.RowKit Go.Deep Go.Shelf Mp Mo
open Pr (Below.of_grown Keep.of_grown)
open Cal (results_one results_two results_three)
attribute [local go_sem] Oper.semAt_some
theorem filesE_size {L : List (UInt8 × Value)} (hL : LOk2 L) : (filesE L).size = L.length /\ L.length <= 2 := by
 rcases hL with rfl | ⟨u, rfl⟩ | ⟨u, v, rfl⟩
 . exact ⟨rfl, by simp⟩
 . exact ⟨rfl, by simp⟩
 . exact ⟨rfl, by simp⟩
theorem _root_.Go.Proofs.YtkdnebalpdebeaaGreatDoor.HasO.re' {S T : List Nat} {W w : World} {fs : List (Nat × Obj)} (h : HasO S W fs w) (hS : ∀ k ∈ S, k ∈ T) : HasO T W fs w := ⟨h.1.mono fun k hk => .inl (hS k hk), h.2⟩
def secL (k : Nat -> Int) : Array Value := #[.int .u8 (k 0), .int .u8 (k 1), .int .u8 (k 2), .int .u8 (k 3), .int .u8 (k 4), .int .u8 (k 5), .int .u8 (k 6), .int .u8 (k 7), .int .u8 (k 8), .int .u8 (k 9), .int .u8 (k 10), .int .u8 (k 11), .int .u8 (k 12), .int .u8 (k 13), .int .u8 (k 14), .int .u8 (k 15), .int .u8 (k 16), .int .u8 (k 17), .int .u8 (k 18), .int .u8 (k 19), .int .u8 (k 20), .int .u8 (k 21), .int .u8 (k 22), .int .u8 (k 23), .int .u8 (k 24), .int .u8 (k 25), .int .u8 (k 26), .int .u8 (k 27), .int .u8 (k 28), .int .u8 (k 29), .int .u8 (k 30), .int .u8 (k 31), Value.bool false]
def sec0 : Array Value := #[.int .u8 0, .int .u8 0, .int .u8 0, .int .u8 0, .int .u8 0, .int .u8 0, .int .u8 0, .int .u8 0, .int .u8 0, .int .u8 0, .int .u8 0, .int .u8 0, .int .u8 0, .int .u8 0, .int .u8 0, .int .u8 0, .int .u8 0, .int .u8 0, .int .u8 0, .int .u8 0, .int .u8 0, .int .u8 0, .int .u8 0, .int .u8 0, .int .u8 0, .int .u8 0, .int .u8 0, .int .u8 0, .int .u8 0, .int .u8 0, .int .u8 0, .int .u8 0, Value.bool false]
theorem secL_eq (k : Nat -> Int) : secL k = ((List.range 32).map (fun i => Value.int .u8 (k i)) ++ [Value.bool false]).toArray := rfl
theorem sec0_eq : sec0 = ((List.replicate 32 (Value.int .u8 0)) ++ [Value.bool false]).toArray := rfl
theorem sec_copied (xs : List Int) (h : xs.length <= 32) : ∃ k, (sec0.toList.take 0 ++ nums .u8 xs ++ sec0.toList.drop (0 + (nums .u8 xs).length)).toArray = secL k := by
 refine ⟨fun i => if i < xs.length then rd xs i else 0, ?_⟩
 rw [secL_eq, sec0_eq]
 apply congrArg List.toArray
 apply List.ext_getElem?
 intro i
 simp only [List.take_zero, List.nil_append, Nat.zero_add, nums_length]
 by_cases hi : i < xs.length
 . rw [List.getElem?_append_left (by rw [nums_length]; exact hi), nums_get _ _ _ hi, List.getElem?_append_left (by simp; omega), List.getElem?_map, List.getElem?_range (by omega)]
   simp [hi]
 . rw [List.getElem?_append_right (by rw [nums_length]; omega), nums_length, List.getElem?_drop, show xs.length + (i - xs.length) = i by omega]
   by_cases h2 : i < 32
   . rw [List.getElem?_append_left (by simp; exact h2), List.getElem?_append_left (by simp; exact h2), List.getElem?_replicate, List.getElem?_map, List.getElem?_range h2]
     simp [hi, h2]
   . rw [List.getElem?_append_right (by simp; omega), List.getElem?_append_right (by simp; omega)]
     simp
theorem wpIn_rangeFunc_G {F : Fence} {n : Nat} {P : Program} {α : Type} {g : Operand} {ps : Array Tmp} {assign body : Code} {Q : Exit -> Act -> World -> Prop} {a : Act} {w : World}
 (hro : F.round = none) (h1 : 1 <= n) {gf : Nat} {lb : Array Value} (hg : a.eval g = .func (.func gf) #[] lb) (hFg : F.fn gf) (eg : ∀ args w, (callFunc gf args).run P w = .ok (.enter gf args) w)
 {encs : α -> Array Value} {Kp : World -> World -> Prop} {S Sp : List α -> Prop} {N : Nat} {w0 : World} (hseq : SeqStopsK F (n - 1) P gf lb encs Kp S Sp N w0)
 (hKt : ∀ {A B C : World}, Kp A B -> Kp B C -> Kp A C) (hKb : ∀ (W : World) (l : Nat) (o o' : Obj), w.heap.size <= l -> W.heap[l]? = some o -> o.isCells = false -> o.isWalk = false -> Kp W (W.putObj l o')) (hb0 : Below w0.heap.size w0 w) (hps : ∀ x, (encs x).size = ps.size)
 (I : List α -> World -> Prop) (hI : OwnFrom w.heap.size I) (h0 : I [] w) (G : α -> Act)
 (hassign : ∀ (l : Nat) (pre : List α) (x : α) (W : World) (K : Act -> World -> Prop), I pre W -> (∀ W', KeepsFrom w.heap.size W W' -> Kp W W' -> I pre W' -> K (G x) W') ->
   assign.wpIn (F.inRound l) (n - 1 - 1) P (Exit.then K (fun _ _ _ => False)) { tmps := (ps.zip (encs x)).foldl (fun t (p, v) => t.setIfInBounds p v) a.tmps, defers := [] } W)
 (hbody : ∀ (l : Nat) (pre : List α) (x : α) (W : World), w.heap.size <= l -> I pre W -> pre.length < N -> body.wpIn (F.inRound l) (n - 1 - 1) P (ownPostG w.heap.size Kp I (fun _ _ _ => False) (pre ++ [x]) W) (G x) W)
 (hdone : ∀ (D : Nat) (xs : List α) (W : World), w.heap.size <= D -> S xs -> I xs W -> W.heap[D]? = some (.deferred (some [])) -> Q .normal { a with defers := { target := .collected D, args := #[] } :: a.defers } W) :
 (Code.rangeFunc g ps assign body).wpIn F n P Q a w :=
 wpIn_rangeFunc_ownH hro h1 hg hFg eg hseq hKt hKb hb0 hps I (fun _ _ _ => False) hI (fun _ _ _ _ _ h _ _ => h) h0 (fun x a' _ => a' = G x) (fun _ _ _ _ _ _ h _ _ => h)
  (fun l pre x W K hi hK => hassign l pre x W K hi fun W' h1 h2 h3 => hK _ W' h1 h2 h3 rfl)
  (fun l pre x a' W hl _ hi ha hlt => by subst ha; exact hbody l pre x W hl hi hlt) hdone (fun _ _ _ _ _ _ h _ => h.elim)
theorem below_new {X W6 : World} {o o' : Obj} (ht : Turn (X.alloc o) X.heap.size o' W6) : Below X.heap.size X W6 :=
 ⟨ht.os, ht.tape, ht.output, by rw [ht.size]; simp, fun k hk => (ht.far k (by omega)).trans (Below.heap_alloc X o k hk)⟩
theorem keepsFrom_grown {B : Nat} {W W' : World} {row : Option Nat} (hg : W.grownBy W' row) (hr : ∀ r, row = some r -> ∃ o, W.heap[r]? = some o /\ o.isCells = true) : KeepsFrom B W W' :=
 ⟨hg.size, fun k o _ hk hn => (hg.block k (obj_lt hk) (fun e => by obtain ⟨o', h1, h2⟩ := hr k e.symm; rw [hk] at h1; cases h1; rw [h2] at hn; cases hn)).trans hk⟩
theorem own_cells {w : World} {base size n : Nat} {e : TypeId} {v : Value} {xs : List Value} (h : w.ownsRow base e size v n xs) (r : Nat) (hr : v.ownBlock = some r) : base <= r /\ ∃ o, w.heap[r]? = some o /\ o.isCells = true := by
 obtain ⟨_, h2 | ⟨g, c, cur, rfl, hb, hh, _⟩⟩ := h
 . rw [h2.1] at hr; cases hr
 . cases hr; exact ⟨hb, _, hh, rfl⟩
theorem reads_new {w : World} {t : TypeId} {cs : Array Value} {n size : Nat} (h : cs.size = n * size) : Reads (w.alloc (.cells cs t)) (w.heap.size + 1) size (some ⟨w.heap.size, 0, none⟩) n cs.toList :=
 ⟨by simpa using h, fun _ => ⟨_, rfl, by simp, fun j u hu => by rw [Addr.add_lit, Nat.zero_add, Blk.cell (t := t) (cs := cs) (heap_alloc_new _ _)]; simpa using hu⟩⟩
theorem secL_one (k : Nat -> Int) : ∀ u ∈ (secL k).toList, u.oneCell' = true := by
 intro u hu
 rw [secL_eq] at hu
 simp only [List.mem_append, List.mem_map, List.mem_singleton] at hu
 rcases hu with ⟨i, _, rfl⟩ | rfl <;> rfl
theorem own_turnT {w w' : World} {g : Nat} {o : Obj} {base size n : Nat} {e : TypeId} {v : Value} {xs : List Value} (h : w.ownsRow base e size v n xs) (ht : Turn w g o w') (hg : g < base) : w'.ownsRow base e size v n xs := by
 obtain ⟨h1, h2 | ⟨g', c, cur, rfl, hb, hh, h4⟩⟩ := h
 . exact ⟨h1, .inl h2⟩
 . exact ⟨h1, .inr ⟨g', c, cur, rfl, hb, (ht.far g' (by omega)).trans hh, h4⟩⟩
theorem own_grownO {X X' : World} {row : Option Nat} {base size n : Nat} {e : TypeId} {v : Value} {xs : List Value} (h : X.ownsRow base e size v n xs) (hg : X.grownBy X' row) (hr : ∀ r, row = some r -> ∃ o, X.heap[r]? = some o /\ o.isCells = false) : X'.ownsRow base e size v n xs := by
 obtain ⟨h1, h2 | ⟨g, c, cur, rfl, hb, hh, h4⟩⟩ := h
 . exact ⟨h1, .inl h2⟩
 . refine ⟨h1, .inr ⟨g, c, cur, rfl, hb, ?_, h4⟩⟩
   refine (hg.block g (obj_lt hh) (fun e => ?_)).trans hh
   obtain ⟨o, ho, hc⟩ := hr g e.symm
   rw [hh] at ho; cases ho; cases hc
def LoopI (gd bf : Nat) (room ops : Int) (L : List (UInt8 × Value)) (W : World) (B : Nat) (k : Nat) (X : World) : Prop :=
 B + 3 <= X.heap.size /\ ∃ v xs, HasO [] W [(B, .cells #[v] 250), (gd, .cells (diskE bf room ops) 127), (bf, .map (filesE L) L.length)] X /\ X.ownsRow (B + 3) 258 33 v k xs /\ ∀ u ∈ xs, u.oneCell' = true
theorem getN_le {L : List (UInt8 × Value)} {d : UInt8} (h : OkN L d) : lenV (getN L d) <= usedL L := by
 rcases h with ⟨rfl, rfl⟩ | ⟨u, rfl, rfl⟩ | ⟨u, rfl, rfl⟩ | ⟨u, v, rfl, rfl | rfl⟩
 . exact Nat.le_refl _
 . show lenV u <= lenV u + 0; omega
 . exact Nat.zero_le _
 . show lenV u <= lenV u + (lenV v + 0); omega
 . show lenV v <= lenV u + (lenV v + 0); omega
theorem append_ok (gd bf gp m c : Nat) (room ops : Int) (ho : 0 <= ops /\ ops <= 1000000000000) (L : List (UInt8 × Value)) (d : UInt8) (hL : OkN L d) (hm1 : 1 <= m) (hm : m <= c /\ c <= maxLen /\ m <= 100000) (hr : ((usedL L + (m + 31) / 32 : Nat) : Int) <= room) (hroom : room <= 65536) (W : World) (h : Dk gd bf room ops L W)
 (ps : List Int) (hps : ps.length = m) (hp : RI W W.heap.size .u8 (some ⟨gp, 0, none⟩) ps) :
 Calls Tryz.prog 206 #[.pointer (some ⟨gd, 0, none⟩), .string (nm d), .slice (some ⟨gp, 0, none⟩) m c] W fun e w' => e = .returned (.int .i64 0) /\ Keep [gd, bf] W w' /\ ∃ v', lenV v' = lenV (getN L d) + (m + 31) / 32 /\ Dk gd bf room (ops + 1) (setN L d v') w' := by
 have CK := Hd (fun w (hb : Below W.heap.size W w) => check_ok gd bf room ops L hL.two.1 d hL.two.2 false (fun h => by cases h) w (h.step hb).1 (h.step hb).2.1)
 have CL := Hd (fun w hw => lookF hL.two.1 d hL.two.2 bf true w hw)
 have CL2 := Hd (fun w hw => lookF hL.two.1 d hL.two.2 bf false w hw)
 have CU := Hd (fun w (hb : Below W.heap.size W w) => used_ok gd bf room ops L hL.two.1 (fun p hp => by obtain ⟨n, h1, h2⟩ := h.2.2 p hp; rw [h2.isS.2]; exact ⟨h2.isS.1, h1⟩) w (h.step hb).1 (h.step hb).2.1)
 have HD := Hd h
 have HL := Hd hL
 have HP := Hd hp
 have HSZ := Hd (filesE_size hL.two.1)
 have HM := Hd hm
 obtain ⟨s, hsd⟩ : ∃ s, s = nm d := ⟨_, rfl⟩
 obtain ⟨bh, hbh⟩ : ∃ bh, bh = hasN L d := ⟨_, rfl⟩
 obtain ⟨v0, hv0⟩ : ∃ v0, v0 = getN L d := ⟨_, rfl⟩
 obtain ⟨us, hus⟩ : ∃ us, us = usedL L := ⟨_, rfl⟩
 simp only [Bool.false_eq_true, if_false, if_true] at CL CL2
 rw [<- hsd] at CK CL CL2 ⊢
 rw [<- hbh, <- hv0] at CL
 rw [<- hv0] at CL2
 rw [<- hus] at CU hr
 obtain ⟨N, hN⟩ : ∃ N, N = (m + 31) / 32 := ⟨_, rfl⟩
 rw [<- hN] at hr ⊢
 have hq : ((m : Int) + 32 - 1).tdiv 32 = (N : Int) := by rw [Int.tdiv_eq_ediv_of_nonneg (by omega), hN]; omega
 have hq2 : ((m : Int) + 31).tdiv 32 = (N : Int) := by rw [Int.tdiv_eq_ediv_of_nonneg (by omega), hN]; omega
 have hdr : decide (room < (us : Int) + (N : Int)) = false := by simp; omega
 have hm0 : m <= 100000 := hm.2.2
 have HNQ := Hd hN
 have hN1 : 1 <= N := by rw [hN]; omega
 have hub : us <= 2000000 := by
  have key : ∀ p ∈ L, lenV p.2 <= 1000000 := fun p hp => by obtain ⟨n, h1, h2⟩ := h.2.2 p hp; rw [h2.isS.2]; exact h1
  rw [hus]
  rcases hL.two.1 with rfl | ⟨u, rfl⟩ | ⟨u, v, rfl⟩
  . exact Nat.zero_le _
  . have := key _ List.mem_cons_self
    simp [usedL] at *; omega
  . have := key _ List.mem_cons_self
    have := key (49, v) (by simp)
    simp [usedL] at *; omega
 have HV0 := Hd hv0
 have CUP := Hd (fun v w hw => updF hL v bf w hw)
 have HOPS := Hd ho
 have HLE := Hd (show lenV v0 <= us by rw [hv0, hus]; exact getN_le hL)
 have HRM := Hd hroom
 rw [<- hsd] at CUP
 have hNb : N <= 4000 := by omega
 have HR := Hd hr
 have c0 := Blk.cell (t := 127) (cs := diskE bf room ops) h.1 0
 simp only [diskE, List.getElem?_toArray, List.getElem?_cons_succ, List.getElem?_cons_zero] at c0
 clear h ho hL hsd hp hm hr hbh hv0 hus hN hroom
 refine callsIn_wide.1 (callsIn_of_wp_marks (n := 8) Tryz.func206 rfl trivial ?_ rfl)
 simp only [Tryz.ntmps206, List.size_toArray, List.length_cons, List.length_nil, Nat.reduceAdd, Nat.reduceSub, Array.replicate_succ, Array.replicate_zero, List.push_toArray, List.append_toArray, List.nil_append, List.cons_append]
 refine wpIn_wide.2 ?_
 go_wp2_with fail
 refine (CK.o _ (Below.refl _ _)).mono ?_
 rintro e w1 ⟨rfl, hb1⟩
 have H1 := Hd ((HasO.cons HD.o.1 (HasO.cons HD.o.2.1 (HasO.start [] W))).step hb1)
 clear c0 hb1 CK
 have c0 := Blk.cell (t := 127) (cs := diskE bf room ops) (H1.o.get 0 rfl) 0
 simp only [diskE, List.getElem?_toArray, List.getElem?_cons_succ, List.getElem?_cons_zero] at c0
 have hlk := CL.o w1 (H1.o.obj 1 rfl)
 go_wp2_with fail
 clear hlk c0
 have hcase : (bh = true) ∨ (bh = false /\ ∀ w, HasO [] W [(gd, .cells (diskE bf room ops) 127), (bf, .map (filesE L) L.length)] w -> (Builtin.len_ #[125] 3 #[.map (some bf)]).run Tryz.prog w = .ok (.int .i64 (L.length : Nat)) w) := by
  cases bh with
  | true => exact .inl rfl
  | false => exact .inr ⟨rfl, fun w hw => by rw [run_len_map1 Tryz.underlying125 3 bf _ _ w (hw.obj 1 rfl), HSZ.o.1]⟩
 have hl64 : decide ((L.length : Int) = 64) = false := by have := HSZ.o.2; simp; omega
 go_cut [58] from 38 to 58 (fun v wc => v = .bool false /\ HasO [] W [(gd, .cells (diskE bf room ops) 127), (bf, .map (filesE L) L.length)] wc)
 case first =>
  rcases hcase with rfl | ⟨rfl, hlen⟩
  . skip
    refine wp_region_class (fun w' => HasO [] W _ w') [0, 1, 2, 3, 4, 5, 6, 7, 8, 9, 10, 11, 12, 13, 14, 15, 16, 17, 18, 19, 20] (by kernel_rfl) (by kernel_rfl) (H1.o.drew) ?_
    simp only [List.map_cons, List.map_nil, opAt, List.getElem?_cons_succ, List.getElem?_cons_zero, Option.getD_some]
    repeat (go_big_quiet_step ((intro _; rfl)))
    go_big_quiet_step ((intro hw; exact (CU.o _ hw.below).mono fun e w' h => ⟨h.1, hw.step h.2⟩))
    repeat (go_big_quiet_step ((intro _; rfl)))
    refine wpQuiet_cell 3 (.tmp 44) rfl rfl ⟨gd, 1, none⟩ rfl (.int .i64 room) _ (fun w hw => (hw.get 0 rfl).cell 1) Tryz.underlying3 rfl (fun K1 k1 => ?_)
    go_simp
    refine k1 _ ?_
    clear k1 K1
    repeat (go_big_quiet_step ((intro _; rfl)))
    refine wpQuiet_nil ?_
    intro w5 H5
    have H5 := Hd H5
    go_wp2
    go_meet
    case rel => exact ⟨rfl, H5.o⟩
  . skip
    refine wp_region_class (fun w' => HasO [] W _ w') [0, 1, 2, 3, 4, 5, 6, 7, 8, 9, 10, 11, 12, 13, 14, 15, 16, 17, 18, 19, 20] (by kernel_rfl) (by kernel_rfl) (H1.o.drew) ?_
    simp only [List.map_cons, List.map_nil, opAt, List.getElem?_cons_succ, List.getElem?_cons_zero, Option.getD_some]
    repeat (go_big_quiet_step ((intro _; rfl)))
    go_big_quiet_step ((intro hw; exact (CU.o _ hw.below).mono fun e w' h => ⟨h.1, hw.step h.2⟩))
    repeat (go_big_quiet_step ((intro _; rfl)))
    refine wpQuiet_cell 3 (.tmp 44) rfl rfl ⟨gd, 1, none⟩ rfl (.int .i64 room) _ (fun w hw => (hw.get 0 rfl).cell 1) Tryz.underlying3 rfl (fun K1 k1 => ?_)
    go_simp
    refine k1 _ ?_
    clear k1 K1
    repeat (go_big_quiet_step ((intro _; rfl)))
    refine wpQuiet_cell 125 (.tmp 53) rfl rfl ⟨gd, 0, none⟩ rfl (.map (some bf)) _ (fun w hw => (hw.get 0 rfl).cell 0) Tryz.underlying125 rfl (fun K1 k1 => ?_)
    go_simp
    refine k1 _ ?_
    clear k1 K1
    refine wpQuiet_val (.int .i64 (L.length : Nat)) rfl (fun w hw => ?_) (fun K1 k1 => ?_)
    . unfold execOp
      simp only [resolve, invoke, builtin, Sem.run_bind, Sem.run_pure, Result.andThen_ok, List.map_toArray, List.map_cons, List.map_nil]
      go_simp
    . go_simp
      refine k1 _ ?_
      clear k1 K1
      repeat (go_big_quiet_step ((intro _; rfl)))
      refine wpQuiet_nil ?_
      intro w5 H5
      have H5 := Hd H5
      go_wp2
      go_meet
      case rel => exact ⟨congrArg Value.bool (by simpa using hl64), H5.o⟩
 case rest =>
  clear H1 CU hcase hl64 CL
  obtain ⟨rfl, H2'⟩ := hcut
  have H2 := Hd H2'
  clear H2'
  go_wp2_with fail
  obtain ⟨B, hB⟩ : ∃ B, B = wc.heap.size := ⟨_, rfl⟩
  have HBW := Hd (show W.heap.size <= B by rw [hB]; exact H2.o.size)
  have H3 := Hd (H2.o.new hB (.cells #[.slice none 0 0] 250))
  rw [<- hB]
  refine (chunk_ok gp c m _).mono ?_
  rintro e W5 ⟨rfl, hW5⟩
  have hz3 : (wc.alloc (.cells #[.slice none 0 0] 250)).heap.size = B + 1 := by rw [hB]; simp
  rw [hz3]
  have H5 : Hi (HasO [] W [(B + 2, .cells #[.int .i64 32] 3), (B + 1, .cells #[.slice (some ⟨gp, 0, none⟩) m c] 134), (B, .cells #[.slice none 0 0] 250), (gd, .cells (diskE bf room ops) 127), (bf, .map (filesE L) L.length)] W5) := Hd (by rw [hW5]; exact (H3.o.new hz3.symm _).new (by simp [hz3]) _)
  have hz5 : W5.heap.size = B + 3 := by rw [hW5]; simp [hB]
  clear hW5 hz3 H3 H2 hB
  go_wp2_with fail
  refine (wpIn_wide (n := 8)).1 ?_
  have hbfW := obj_lt HD.o.2.1
  apply wpIn_rangeFunc_G (α := Nat) rfl (by omega) (gf := 201) (lb := #[.pointer (some ⟨B + 1, 0, none⟩), .pointer (some ⟨B + 2, 0, none⟩)]) rfl trivial (enters_of Tryz.func201 (by kernel_rfl) rfl)
   (chunk1_stops _ (B + 1) (B + 2) W5.heap.size gp c m HM.o.1 HM.o.2.1 (by omega) W5 (by omega) (by omega) (Nat.le_refl _) (H5.o.obj 1 rfl) (H5.o.obj 0 rfl)) (fun h h' => ⟨h'.1.trans h.1, h'.2.trans h.2⟩) (fun X l o o' hl h _ _ => ⟨(grownBy_putObj' X l o').block (B + 1) (by have := obj_lt h; omega) (fun e => by cases e; omega), (grownBy_putObj' X l o').block (B + 2) (by have := obj_lt h; omega) (fun e => by cases e; omega)⟩) (Below.refl _ _) (fun _ => rfl)
   (fun pre X => LoopI gd bf room ops L W B pre.length X)
   (fun pre X X' row h hg hr => by
     obtain ⟨h1, v, xs, h2, h3, h4⟩ := h
     exact ⟨Nat.le_trans h1 hg.size, v, xs, h2.ownFrom (B := W5.heap.size) (by have := HBW.o; omega) (by intro f hf; simp only [List.mem_cons, List.not_mem_nil, or_false] at hf; rcases hf with rfl | rfl | rfl; exact .inr rfl; exact .inr rfl; left; show bf < _; have := HBW.o; omega) hg hr, own_grownO h3 hg (fun r e => (hr r e).2), h4⟩)
   ⟨by omega, .slice none 0 0, [], H5.o.of_mem (by simp), own_nil _ _ _ _, by simp⟩
  case hassign =>
   rintro l pre x X K hi hK
   dsimp only [encC, chunkV]
   gi_wp2
   exact hK _ (keepsFrom_refl _ _) ⟨rfl, rfl⟩ hi
  case hbody =>
   rintro l pre x X hl ⟨hz, v, xs, hi, ho, h1⟩ hlt
   have HI := Hd hi
   have HO := Hd ho
   have H1 := Hd h1
   have HZ := Hd hz
   have hcp : ∃ ys : List Int, ys.length = min 32 (m - 32 * x) /\ ∀ w, Below W.heap.size W w -> ∀ j u, (nums .u8 ys)[j]? = some u -> w.cell? ((⟨gp, 32 * x, none⟩ : Addr).add j) = some u := by
    refine ⟨(ps.drop (32 * x)).take (min 32 (m - 32 * x)), by rw [List.length_take, List.length_drop, hps]; omega, fun w hw j u hu => ?_⟩
    have h1 := (HP.o.cut (32 * x) (min 32 (m - 32 * x))).below hw
    obtain ⟨h2, h3⟩ := h1
    have hlt : j < (nums .u8 ((ps.drop (32 * x)).take (min 32 (m - 32 * x)))).length := (List.getElem?_eq_some_iff.1 hu).1
    obtain ⟨ad, e1, _, h4⟩ := h3 (by rw [nums_length] at hlt; omega)
    have h5 := h4 j u hu
    simp only [Option.map_some, Option.some.injEq] at e1
    rw [<- e1, Addr.add_lit, Nat.zero_add] at h5
    exact h5
   obtain ⟨ys, hys, hcp⟩ := hcp
   obtain ⟨k, hk⟩ := sec_copied ys (by omega)
   have HC := Hd hcp
   have HI2 := Hd (hi.new (g := X.heap.size) rfl (.cells sec0 258))
   have HKK := Hd hk
   have HYS := Hd hys
   clear hi ho h1 hz hcp hk
   obtain ⟨i0, hi0, hz0, hz1, hz2⟩ := secInfo
   have hv : ∃ A c, v = .slice A pre.length c := own_slice HO.o
   have hlB : bf < B /\ gd < B := by have := HBW.o; have := obj_lt HD.o.1; omega
   gi_wp2_with (first
    | (refine wpListIn_copyT rfl (.tmp 66) (.tmp 67) 134 134 rfl 5 Tryz.underlying134 (by kernel_rfl) X.heap.size 0 32 32 ⟨gp, 32 * x, none⟩ (min 32 (m - 32 * x)) (min 32 (m - 32 * x)) rfl rfl sec0 258 (HI2.o.obj 0 rfl) (nums .u8 ys) (by rw [nums_length, HYS.o]; exact (Nat.min_eq_left (by omega)).symm) (HC.o _ HI2.o.below) (by rw [nums_length, HYS.o]; show _ <= 33; omega) (nums_one _ _) (secL k) HKK.o ?_
       intro W6 HT6
       have HB6 := Hd (below_new HT6)
       have HI6 := Hd (HI.o.step HB6.o)
       have HO6 := Hd (own_below HO.o HB6.o)
       have HZ6 := Hd HT6.size
       have HA6 := Hd HT6.at_
       clear HT6)
    | (refine wpListIn_cell rfl 250 (.tmp 11) rfl B 0 rfl 250 _ v rfl _ (HI6.o.get 0 rfl) Tryz.underlying250 rfl ?_)
    | (refine wpListIn_row rfl 258 (.tmp 13) rfl X.heap.size rfl 258 #[Value.int .u8 (k 0), Value.int .u8 (k 1), Value.int .u8 (k 2), Value.int .u8 (k 3), Value.int .u8 (k 4), Value.int .u8 (k 5), Value.int .u8 (k 6), Value.int .u8 (k 7), Value.int .u8 (k 8), Value.int .u8 (k 9), Value.int .u8 (k 10), Value.int .u8 (k 11), Value.int .u8 (k 12), Value.int .u8 (k 13), Value.int .u8 (k 14), Value.int .u8 (k 15), Value.int .u8 (k 16), Value.int .u8 (k 17), Value.int .u8 (k 18), Value.int .u8 (k 19), Value.int .u8 (k 20), Value.int .u8 (k 21), Value.int .u8 (k 22), Value.int .u8 (k 23), Value.int .u8 (k 24), Value.int .u8 (k 25), Value.int .u8 (k 26), Value.int .u8 (k 27), Value.int .u8 (k 28), Value.int .u8 (k 29), Value.int .u8 (k 30), Value.int .u8 (k 31), Value.bool false] _ HA6.o Tryz.underlying258 rfl (by kernel_rfl) ?_)
    | (refine wpListIn_append_any rfl (.tmp 69) (.tmp 71) 250 rfl (B + 3) 258 i0 secZ 33 33 Tryz.underlying250 hi0 hz0 hz1 hz2 rfl (by omega) v pre.length xs rfl (HO6.o.alloc _) (W6.heap.size + 1) (some ⟨W6.heap.size, 0, none⟩) 1 1 (secL k).toList rfl (reads_new (cs := secL k) rfl) (secL_one k) (by simp only [maxLen]; omega) (by omega) (by have := HZ.o; have := HB6.o.size; simp; omega) ?_
       intro v7 W7 hown7 hg7 hat7
       have HB7 := Hd (HI6.o.step (Below.al (Below.refl _ _) (.cells (secL k) 258)))
       have HG7 := Hd hg7
       have HOC := Hd (own_cells (HO6.o.alloc (.cells (secL k) 258)))
       have HF7 : Hi (W7.heap[B]? = some (.cells #[v] 250)) := Hd ((hg7.block B (obj_lt (HB7.o.obj 0 rfl)) (fun e => by have := (HOC.o B e.symm).1; omega)).trans (HB7.o.obj 0 rfl))
       obtain ⟨A7, c7, rfl⟩ := own_slice hown7
       have HO7 := Hd hown7
       clear hown7 hat7 hg7)
    | (refine wpListIn_turn rfl 250 (.tmp 11) (.tmp 72) rfl B 0 (.slice A7 (pre.length + 1) c7) rfl rfl 250 #[v] #[.slice A7 (pre.length + 1) c7] HF7.o (by kernel_rfl) (by simp [Value.cells]) (by simp [Value.cells, Value.oneCell']) rfl ?_
       intro W8 HT8))
   have hk7 : Keep v.ownBlock.toList (W6.alloc (.cells (secL k) 258)) W7 := Keep.of_grown HG7.o (fun r e => .inl (by rw [e]; simp))
   have hI7 := HB7.o.call hk7 (fun r hr => .inr (by have := (HOC.o r (by simpa using hr)).1; have := HBW.o; omega)) (fun f hf hr => by
    have := (HOC.o f.1 (by simpa using hr)).1
    simp only [List.mem_cons, List.not_mem_nil, or_false] at hf
    rcases hf with rfl | rfl | rfl
    . exact absurd this (by show ¬ B + 3 <= B; omega)
    . exact absurd this (by show ¬ B + 3 <= gd; omega)
    . exact absurd this (by show ¬ B + 3 <= bf; omega))
   refine ⟨keepsFrom_tr (keepsFrom_tr (keepsFrom_tr (keepsFrom_below HB6.o) (keepsFrom_below (Below.al (Below.refl _ _) (.cells (secL k) 258)))) (keepsFrom_grown HG7.o (fun r e => (HOC.o r e).2))) (keepsFrom_turn HT8 HF7.o rfl), ?_, ?_⟩
   . have hz := HZ.o
     have hs6 := HB6.o.size
     have kc : ∀ q, q = B + 1 ∨ q = B + 2 -> W8.heap[q]? = X.heap[q]? := fun q hq => by
      rw [HT8.far q (by omega), HG7.o.block q (by simp; omega) (fun e => by have := (HOC.o q e.symm).1; omega), Below.heap_alloc _ _ q (by omega)]
      exact HB6.o.block q (by omega)
     exact ⟨kc _ (.inl rfl), kc _ (.inr rfl)⟩
   . show LoopI gd bf room ops L W B (pre ++ [x]).length W8
     rw [List.length_append]
     refine ⟨by have := HZ.o; have := HB6.o.size; have := HG7.o.size; rw [HT8.size]; simp at this; omega, _, _, hI7.turn 0 rfl HT8 (.inr HBW.o) (fun f hf => ?_), own_turnT HO7.o HT8 (by omega), ?_⟩
     . simp only [List.eraseIdx_cons_zero, List.mem_cons, List.not_mem_nil, or_false] at hf
       rcases hf with rfl | rfl
       . show gd ≠ B; omega
       . show bf ≠ B; omega
     . intro u hu
       rcases List.mem_append.1 hu with hu | hu
       . exact H1.o u hu
       . exact secL_one k u hu
  case hdone =>
   rintro D xs X hD rfl ⟨hz, v, ys, hi, ho, h1⟩ hK
   rw [List.length_range, <- HNQ.o] at ho
   have HI := Hd hi
   have HO := Hd ho
   have H1 := Hd h1
   have HK := Hd hK
   clear hi ho h1 hK H5
   have hlB : bf < B /\ gd < B := by have := HBW.o; have := obj_lt HD.o.1; omega
   have HNE := Hd HD.o.ne
   have HDL := Hd (show B + 3 <= D by omega)
   gi_wp2_with fail
   go_wp2_with fail
   refine (doA_ok gd bf room ops HOPS.o #[] (fun w' => Turn X gd (.cells (diskE bf room (ops + 1)) 127) w') X (HI.o.obj 1 rfl) (fun w ht => (empty_ok w).mono (by rintro e w' ⟨rfl, hw⟩; obtain rfl := hw; exact ⟨rfl, ht⟩))).mono ?_
   rintro e W6 ⟨rfl, ht6⟩
   have H6 : Hi (HasO [gd] W [(D, .deferred (some [])), (B, .cells #[v] 250), (gd, .cells (diskE bf room (ops + 1)) 127), (bf, .map (filesE L) L.length)] W6) := Hd (HasO.cons ((ht6.far D (by have := HDL.o; omega)).trans HK.o) (((HI.o.re' (by simp)).turn 1 rfl ht6 (.inl (by simp)) (by
    intro f hf
    simp only [List.eraseIdx_cons_succ, List.eraseIdx_cons_zero, List.mem_cons, List.not_mem_nil, or_false] at hf
    rcases hf with rfl | rfl
    . show B ≠ gd; omega
    . exact HNE.o.symm))))
   have HO6 := Hd (own_turnT HO.o ht6 (by omega))
   have HS6 : Hi (Sl W6 v0 (lenV v0)) := Hd (by rw [HV0.o]; exact (HD.o.get HL.o).2.keep H6.o.1 (fun k hk cur hc => HD.o.far k (by simp at hk ⊢; exact .inl hk) cur hc))
   have HK6 := Hd H6.o.1
   have H6 := Hd (HasO.re H6.o)
   clear HI HO HK ht6
   go_wp2_with fail
   refine wp_region_regF (fun w' => HasO [] W6 [(D, .deferred (some [])), (B, .cells #[v] 250), (gd, .cells (diskE bf room (ops + 1)) 127), (bf, .map (filesE L) L.length)] w') (fun w' => HasO [bf] W6 [(D, .deferred (some [])), (B, .cells #[v] 250), (gd, .cells (diskE bf room (ops + 1)) 127)] w') (fun _ => (0, #[])) [0, 1, 2, 3, 4, 5, 6, 7, 8, 9, 12] [] [10, 11, 13, 14] [0, 1, 2, 3, 4, 5, 6, 12] (by kernel_rfl) (by kernel_rfl) ?_ (fun w w' h hb => h.step hb) ?_ (fun k hk => by cases hk) ?_
   . exact fun w h => ⟨h.1.mono (by simp), (h.of_mem (gs := [(D, .deferred (some [])), (B, .cells #[v] 250), (gd, .cells (diskE bf room (ops + 1)) 127)]) (by simp)).2⟩
   . exact H6.o.drew
   simp only [List.map_cons, List.map_nil, opAt, List.getElem?_cons_succ, List.getElem?_cons_zero, Option.getD_some, List.contains_cons, List.contains_nil, Nat.reduceBEq, Bool.or_false, Bool.or_true, Bool.true_or, Bool.false_or]
   repeat (refine wpX_float rfl ?_; go_big_quiet_step ((intro _; rfl)); refine wpQuiet_nil ?_)
   refine wpX_float rfl ?_
   refine wpQuiet_cell 125 (.tmp 77) rfl rfl ⟨gd, 0, none⟩ rfl (.map (some bf)) _ (fun w hw => (hw.get 2 rfl).cell 0) Tryz.underlying125 rfl (fun K1 k1 => ?_)
   go_simp
   refine k1 _ ?_
   clear k1 K1
   refine wpQuiet_nil ?_
   repeat (refine wpX_float rfl ?_; go_big_quiet_step ((intro _; rfl)); refine wpQuiet_nil ?_)
   repeat (refine wpX_pure rfl ?_; go_big_quiet_step ((intro _; rfl)); refine wpQuiet_nil ?_)
   refine wpX_pure rfl ?_
   refine wpQuiet_cell 125 (.tmp 82) rfl rfl ⟨gd, 0, none⟩ rfl (.map (some bf)) _ (fun w hw => (hw.get 2 rfl).cell 0) Tryz.underlying125 rfl (fun K1 k1 => ?_)
   go_simp
   refine k1 _ ?_
   clear k1 K1
   refine wpQuiet_nil ?_
   repeat (refine wpX_pure rfl ?_; go_big_quiet_step ((intro _; rfl)); refine wpQuiet_nil ?_)
   refine wpX_float rfl ?_
   refine wpQuiet_cell 250 (.tmp 11) rfl rfl ⟨B, 0, none⟩ rfl (v) _ (fun w hw => (hw.get 1 rfl).cell 0) Tryz.underlying250 rfl (fun K1 k1 => ?_)
   go_simp
   refine k1 _ ?_
   clear k1 K1
   refine wpQuiet_nil ?_
   refine wpX_nil ?_
   intro gs w7 H7
   intro hmade
   simp only [putAll, wpTail, opAt, List.getElem?_cons_succ, List.getElem?_cons_zero, Option.getD_some, Act.put]
   have H7 := Hd H7
   clear hmade
   have hlk := CL2.o w7 (H7.o.obj 3 rfl)
   go_wp2_with fail
   refine ⟨⟨H7.o.1.mono (by simp), (H7.o.of_mem (gs := [(D, .deferred (some [])), (B, .cells #[v] 250), (gd, .cells (diskE bf room (ops + 1)) 127)]) (by simp)).2⟩, ?_⟩
   clear hlk
   go_wp2_with fail
   have HS7 := Hd (HS6.o.step H7.o.below)
   have HO7 := Hd (own_below HO6.o H7.o.below)
   refine (clip_ok v0 (lenV v0) w7 HS7.o).mono ?_
   rintro e w8 ⟨⟨A, c8, hv0, rfl⟩, hw⟩
   obtain rfl : w7 = w8 := hw.symm
   have HVC := Hd hv0
   clear hv0
   obtain ⟨n0, hn0⟩ : ∃ n0, n0 = lenV v0 := ⟨_, rfl⟩
   rw [<- hn0] at HVC HS7 ⊢
   have HN0 := Hd hn0
   clear hn0
   go_wp2_with fail
   refine ⟨⟨H7.o.1.mono (by simp), (H7.o.of_mem (gs := [(D, .deferred (some [])), (B, .cells #[v] 250), (gd, .cells (diskE bf room (ops + 1)) 127)]) (by simp)).2⟩, ?_⟩
   have hos := HS7.o
   rw [HVC.o] at hos
   obtain ⟨xo, hro, hox⟩ := hos.reads
   obtain ⟨A9, c9, hv9⟩ := own_slice HO7.o
   have hrn := Reads.of_own (hv9 ▸ HO7.o)
   obtain ⟨ad9, rfl, _, hcn⟩ := hrn.2 (by omega)
   subst hv9
   have HRO := Hd hro
   have HCN := Hd hcn
   have HLN := Hd hrn.1
   have HOX := Hd hox
   have hnn : A = none -> n0 = 0 /\ n0 = 0 := fun hA => by
    rcases Nat.eq_zero_or_pos n0 with h0 | h0
    . exact ⟨h0, h0⟩
    . obtain ⟨ad, h, _⟩ := hro.2 h0; rw [hA] at h; cases h
   have HNN := Hd hnn
   have HHO : Hi (∀ b, A = some b -> ∀ j u, xo[j]? = some u -> w7.cell? (b.add j) = some u) := Hd (fun b hb j u hu => by
    rcases Nat.eq_zero_or_pos n0 with h0 | h0
    . have : xo = [] := List.eq_nil_of_length_eq_zero (by simp [hro.1, h0])
      rw [this] at hu; simp at hu
    . obtain ⟨ad, h, _, h2⟩ := hro.2 h0
      rw [hb] at h; cases h
      exact h2 j u hu)
   obtain ⟨i0, hi0, hz0, hz1, hz2⟩ := secInfo
   have hn0b : n0 + N <= 65536 := by have := HLE.o; have := HR.o; have := HRM.o; have := HN0.o; omega
   clear hro hrn hox hos hcn hnn
   go_wp2_with (at_builtin
                (refine wpList_append_grows _ rfl (.tmp 86) (.tmp 87) 250 rfl 258 i0 secZ 33 33 Tryz.underlying250 hi0 hz0 hz1 hz2 rfl (by omega) A n0 n0 xo rfl HNN.o HRO.o.1 HHO.o ad9 N c9 ys rfl HLN.o HCN.o H1.o (by omega) (by simp only [maxLen]; omega) (by omega) ?_)
                intro v10 w10 hown10 hg10)
   have H10 := Hd (H7.o.step (Below.of_grown hg10 (by intro k hk; cases hk)))
   have HZ10 := Hd (show bf < w7.heap.size from obj_lt (H7.o.obj 3 rfl))
   obtain ⟨A10, c10, rfl⟩ := own_slice hown10
   have HO10 := Hd hown10
   clear hown10 hg10
   refine ⟨⟨H10.o.1.mono (by simp), (H10.o.of_mem (gs := [(D, .deferred (some [])), (B, .cells #[.slice (some ad9) N c9] 250), (gd, .cells (diskE bf room (ops + 1)) 127)]) (by simp)).2⟩, ?_⟩
   go_wp2_with (refine wpList_update1 rfl 125 (.tmp 78) (.tmp 79) (.tmp 88) rfl bf (.string s) (.slice A10 (n0 + N) c10) rfl rfl rfl (filesE L) L.length _ (H10.o.obj 3 rfl) (CUP.o (.slice A10 (n0 + N) c10) _ (H10.o.obj 3 rfl)) ?_; intro W12 HT12)
   have hne := HNE.o
   have hDL := HDL.o
   have K12 : Keep [bf] W6 W12 := (H10.o.1.mono (by simp)).trans HT12.keep (by simp)
   have H12 : HasO [bf] W6 [(D, .deferred (some [])), (B, .cells #[.slice (some ad9) N c9] 250), (gd, .cells (diskE bf room (ops + 1)) 127)] W12 := ⟨K12, fun f hf => by
    simp only [List.mem_cons, List.not_mem_nil, or_false] at hf
    rcases hf with rfl | rfl | rfl
    . exact (HT12.far D (by omega)).trans (H10.o.obj 0 rfl)
    . exact (HT12.far B (by omega)).trans (H10.o.obj 1 rfl)
    . exact (HT12.far gd hne).trans (H10.o.obj 2 rfl)⟩
   refine ⟨H12, ?_⟩
   have hK := H12.obj 0 rfl
   have hAT := HT12.at_
   have hO12 := own_turnT HO10.o HT12 HZ10.o
   have HFIN : Hi (Keep [gd, bf] W (W12.putObj D (.deferred none)) /\ ∃ v', lenV v' = lenV (getN L d) + N /\ Dk gd bf room (ops + 1) (setN L d v') (W12.putObj D (.deferred none))) := by
    have kk : Keep [gd, bf] W (W12.putObj D (.deferred none)) := ((HK6.o.mono (T := [gd, bf]) (by simp)).trans K12 (by simp)).putObj _ (by have := HBW.o; omega)
    have hg := grownBy_putObj' W12 D (.deferred none)
    refine Hd ⟨kk, .slice A10 (n0 + N) c10, by rw [<- HV0.o, <- HN0.o]; rfl, ?_⟩
    refine HD.o.set kk HD.o.far ((hg.block gd (obj_lt (H12.obj 2 rfl)) (fun e => by cases e; omega)).trans (H12.obj 2 rfl)) ((hg.block bf (obj_lt hAT) (fun e => by cases e; omega)).trans hAT) (n := n0 + N) (by omega) ⟨xo ++ ys, Joins.ownsRow_le (own_grownO hO12 hg (fun r e => by cases e; exact ⟨_, hK, rfl⟩)) (Nat.zero_le _), ?_⟩
    intro u hu
    rcases List.mem_append.1 hu with hu | hu
    . exact HOX.o u hu
    . exact H1.o u hu
   have HK12 := Hd hK
   clear H12 K12 HT12 hK hAT hO12
   go_wp2_with fail
   refine ⟨by simp, .inl ⟨_, _, rfl, run_takeDeferred HK12.o, ?_⟩⟩
   exact ⟨_, results_one rfl _ _ rfl, rfl, HFIN.o⟩
end Bk
end Go.Proofs.YtkdnebalpdebeaaGreatDoor
