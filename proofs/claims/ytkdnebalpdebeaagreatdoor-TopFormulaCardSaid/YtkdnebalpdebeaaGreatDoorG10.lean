/- Lemmas of a claim: MapA, ChB -/
import Derived.DeepKeys3
import Derived.Maps.RangeRun
import Derived.Laws.IdiomRangeMap
import Derived.Maps.RangeWalk
import Derived.Test.YtkdnebalpdebeaaGreatDoorG09
set_option linter.unusedVariables false
set_option linter.unusedSimpArgs false
set_option maxHeartbeats 16000000
set_option maxRecDepth 100000
namespace Go.Proofs.YtkdnebalpdebeaaGreatDoor
namespace Mp
open Go.RowKit Go.Deep
open Go.ChangeMaps (setBlock)
section
variable {P : Program}
def InR (x : Int) : Prop := -9223372036854775808 <= x /\ x <= 9223372036854775807
def key2 (x y : Int) : Value := .agg #[.int .i64 x, .int .i64 y]
structure Key2 (P : Program) (K : TypeId) : Prop where
 at2 : P.keyTypeAt 2 K = true
 wide : (match P.underlying K with | some (.array _ _) | some (.struct _) => true | _ => false) = true
 formed : ∀ u v, Value.formed P K (key2 u v) = true
 lits : ∀ x y, InR x -> InR y -> P.keyLits 2 K [.int .i64 x, .int .i64 y] = some [.int .i64 x, .int .i64 y]
theorem Key2.check {K : TypeId} (h : Key2 P K) (em : Bool) {x y : Int} (hx : InR x) (hy : InR y) (w : World) : (Instr.checkKey em 10000 K (key2 x y)).run P w = .ok () w :=
 run_checkKey_deep em 9998 2 K h.at2 w 2 _ _ (h.formed x y) (h.lits x y hx hy)
theorem Key2.eq {K : TypeId} (h : Key2 P K) {x y x' y' : Int} (hx : InR x) (hy : InR y) (hx' : InR x') (hy' : InR y') (w : World) : (Op.equal K (key2 x y) (key2 x' y')).run P w = .ok (decide (x = x' /\ y = y')) w := by
 obtain ⟨r, hr, hiff⟩ := run_equalIn_deep (P := P) 9998 2 K h.at2 w 2 2 _ _ _ _ (h.formed x y) (h.formed x' y') (h.lits x y hx hy) (h.lits x' y' hx' hy')
 have : r = decide (x = x' /\ y = y') := by
  by_cases hxy : x = x' /\ y = y'
  . rw [decide_eq_true hxy]; exact hiff.2 (by rw [hxy.1, hxy.2])
  . rw [decide_eq_false hxy]
    cases r with
    | false => rfl
    | true =>
      exfalso
      have := hiff.1 rfl
      simp at this
      exact hxy this
 rw [<- this]
 exact hr
structure Ent where
 k1 : Int
 k2 : Int
 val : Value
 born : Nat
def Ent.row (e : Ent) : MapEntry := { key := key2 e.k1 e.k2, val := e.val, born := e.born }
def seek : List Ent -> Int -> Int -> Nat -> Option (Nat × Value)
 | [], _, _, _ => none
 | e :: es, x, y, i => if x = e.k1 /\ y = e.k2 then some (i, e.val) else seek es x y (i + 1)
theorem run_findAsking {K : TypeId} (h : Key2 P K) {x y : Int} (hx : InR x) (hy : InR y) (w : World) : ∀ (L : List Ent) (i : Nat), (∀ e ∈ L, InR e.k1 /\ InR e.k2) -> (Instr.findAsking K (key2 x y) (L.map Ent.row) i).run P w = .ok (seek L x y i) w
 | [], _, _ => rfl
 | e :: es, i, hL => by
   have he := hL e List.mem_cons_self
   simp only [List.map_cons, Instr.findAsking, Sem.run_bind, Ent.row, h.eq hx hy he.1 he.2, Result.andThen, seek]
   by_cases hd : x = e.k1 /\ y = e.k2
   . simp [hd]
   . rw [decide_eq_false hd, if_neg hd]
     simp only [Bool.false_eq_true, if_false]
     exact run_findAsking h hx hy w es (i + 1) (fun e he => hL e (List.mem_cons_of_mem _ he))
theorem run_findKey2 {K : TypeId} (h : Key2 P K) {x y : Int} (hx : InR x) (hy : InR y) (w : World) (L : List Ent) (hL : ∀ e ∈ L, InR e.k1 /\ InR e.k2) : (Instr.findKey K (key2 x y) (L.map Ent.row)).run P w = .ok (seek L x y 0) w := by
 rw [run_findKey_eq w h.wide]; exact run_findAsking h hx hy w L 0 hL
def Map (w : World) (b : Nat) (L : List Ent) (cl : Nat) : Prop := w.heap[b]? = some (.map (L.map Ent.row).toArray cl)
theorem Map.lt {w : World} {b : Nat} {L : List Ent} {cl : Nat} (h : Map w b L cl) : b < w.heap.size := by
 unfold Map at h
 rcases Nat.lt_or_ge b w.heap.size with h' | h'
 . exact h'
 . rw [Array.getElem?_eq_none h'] at h; cases h
theorem Map.step {w w' : World} {b : Nat} {L : List Ent} {cl : Nat} (h : Map w b L cl) (hb : Below w.heap.size w w') : Map w' b L cl := by
 unfold Map at *; rw [hb.block b (Map.lt h)]; exact h
theorem run_lookup2 {T K E : TypeId} {z : Value} (h : Key2 P K) (hT : P.underlying T = some (.map K E)) (hz : ∀ w, (zeroValue E).run P w = .ok z w) {x y : Int} (hx : InR x) (hy : InR y) (w : World) (b : Nat) (L : List Ent) (cl : Nat)
 (hL : ∀ e ∈ L, InR e.k1 /\ InR e.k2) (hm : Map w b L cl) : (Instr.lookup T (.map (some b)) (key2 x y) true).run P w = .ok (.tuple #[((seek L x y 0).map (·.2)).getD z, .bool (seek L x y 0).isSome]) w := by
 have hg : (getObj b).run P w = .ok (.map (L.map Ent.row).toArray cl) w := by simp [getObj, Sem.run, show w.heap[b]? = _ from hm]
 simp only [Instr.lookup, Sem.run_bind, run_underlying hT, Result.andThen, hg, h.check _ hx hy, Sem.run_pure, run_findKey2 h hx hy w L hL]
 cases hl : seek L x y 0 with
 | none => simp [Sem.run_bind, hz, Result.andThen]
 | some p => obtain ⟨i, v⟩ := p; simp [Sem.run_bind, Result.andThen]
def upd : List Ent -> Int -> Int -> Value -> Nat -> List Ent
 | [], x, y, v, cl => [⟨x, y, v, cl⟩]
 | e :: es, x, y, v, cl => if x = e.k1 /\ y = e.k2 then { e with val := v } :: es else e :: upd es x y v cl
def updC (L : List Ent) (x y : Int) (cl : Nat) : Nat := if (seek L x y 0).isSome then cl else cl + 1
theorem seek_shift : ∀ (L : List Ent) (x y : Int) (i j : Nat), seek L x y (i + j) = (seek L x y j).map fun p => (i + p.1, p.2)
 | [], _, _, _, _ => rfl
 | e :: es, x, y, i, j => by
   unfold seek
   split
   . rfl
   . exact seek_shift es x y i (j + 1)
theorem seek_some : ∀ {L : List Ent} {x y : Int} {i : Nat} {v : Value}, seek L x y 0 = some (i, v) -> (∃ e, L[i]? = some e /\ e.k1 = x /\ e.k2 = y) /\ ∀ u cl, upd L x y u cl = L.modify i fun e => { e with val := u }
 | [], _, _, _, _, h => by cases h
 | e :: es, x, y, i, v, h => by
   unfold seek at h
   split at h
   . rename_i hd
     simp only [Option.some.injEq, Prod.mk.injEq] at h
     obtain ⟨rfl, rfl⟩ := h
     exact ⟨⟨e, rfl, hd.1.symm, hd.2.symm⟩, fun u cl => by unfold upd; rw [if_pos hd]; rfl⟩
   . rename_i hd
     rw [show 0 + 1 = 1 + 0 from rfl, seek_shift] at h
     cases hl : seek es x y 0 with
     | none => rw [hl] at h; cases h
     | some p =>
       obtain ⟨k, u⟩ := p
       rw [hl] at h
       simp only [Option.map_some, Option.some.injEq, Prod.mk.injEq] at h
       obtain ⟨rfl, rfl⟩ := h
       obtain ⟨⟨e', h1, h2, h3⟩, h4⟩ := seek_some hl
       refine ⟨⟨e', by rw [Nat.add_comm]; simpa using h1, h2, h3⟩, fun u cl => ?_⟩
       unfold upd
       rw [if_neg hd, h4 u cl, Nat.add_comm]
       rfl
theorem seek_none : ∀ {L : List Ent} {x y : Int}, seek L x y 0 = none -> ∀ u cl, upd L x y u cl = L ++ [⟨x, y, u, cl⟩]
 | [], _, _, _, _, _ => rfl
 | e :: es, x, y, h, u, cl => by
   unfold seek at h
   split at h
   . cases h
   . rename_i hd
     rw [show 0 + 1 = 1 + 0 from rfl, seek_shift] at h
     unfold upd
     rw [if_neg hd, seek_none (by simpa using h)]
     rfl
theorem run_setMap {w : World} {b : Nat} {es : Array MapEntry} {cl : Nat} (hm : w.heap[b]? = some (.map es cl)) (o' : Obj) : (setObj b o').run P w = .ok () (setBlock w b o') := by
 simp [setObj, Sem.run, hm, setBlock]
theorem run_stays (x y : Int) (w : World) : (Instr.keyThatStays (key2 x y) (key2 x y)).run P w = .ok (key2 x y) w := by
 simp [Instr.keyThatStays, Instr.sameBits, key2, Sem.run_bind, Result.andThen]
theorem run_update2 {T K E : TypeId} (h : Key2 P K) (hT : P.underlying T = some (.map K E)) {x y : Int} (hx : InR x) (hy : InR y) (v : Value) (w : World) (b : Nat) (L : List Ent) (cl : Nat)
 (hL : ∀ e ∈ L, InR e.k1 /\ InR e.k2) (hm : Map w b L cl) : (Instr.mapUpdate T (.map (some b)) (key2 x y) v).run P w = .ok () (setBlock w b (.map ((upd L x y v cl).map Ent.row).toArray (updC L x y cl))) := by
 have hg : (getObj b).run P w = .ok (.map (L.map Ent.row).toArray cl) w := by simp [getObj, Sem.run, show w.heap[b]? = _ from hm]
 simp only [Instr.mapUpdate, Sem.run_bind, run_underlying hT, Result.andThen, hg, h.check _ hx hy, run_findKey2 h hx hy w L hL]
 unfold updC
 cases hl : seek L x y 0 with
 | none =>
   simp only [Option.isSome_none, Bool.false_eq_true, if_false, seek_none hl, run_setMap hm]
   congr 2
   simp [Ent.row]
 | some p =>
   obtain ⟨i, u⟩ := p
   obtain ⟨⟨e, h1, rfl, rfl⟩, h4⟩ := seek_some hl
   have hk : ((((L.map Ent.row).toArray)[i]?).map (·.key)).getD (key2 e.k1 e.k2) = key2 e.k1 e.k2 := by simp [h1, Ent.row]
   simp only [Option.isSome_some, if_true, Sem.run_bind, hk, run_stays, Result.andThen, run_setMap hm, h4]
   congr 2
   refine congrArg (fun z => Obj.map z cl) ?_
   apply Array.ext_getElem?
   intro j
   by_cases hji : i = j
   . subst hji
     simp [Array.getElem?_modify, List.getElem?_modify, h1, Ent.row]
   . simp [Array.getElem?_modify, List.getElem?_modify, hji]
theorem setBlock_same {w : World} {b : Nat} {o : Obj} (h : b < w.heap.size) : (setBlock w b o).heap[b]? = some o := by simp [setBlock, h]
theorem setBlock_other {w : World} {b g : Nat} {o : Obj} (h : g ≠ b) : (setBlock w b o).heap[g]? = w.heap[g]? := by
 simp [setBlock, Array.getElem?_setIfInBounds_ne (Ne.symm h)]
theorem setBlock_size {w : World} {b : Nat} {o : Obj} : (setBlock w b o).heap.size = w.heap.size := by simp [setBlock]
theorem setBlock_below {B : Nat} {w0 w : World} {b : Nat} {o : Obj} (h : Below B w0 w) (hB : B <= b) : Below B w0 (setBlock w b o) :=
 ⟨h.os, h.tape, h.output, by rw [setBlock_size]; exact h.size, fun k hk => by rw [setBlock_other (by omega)]; exact h.block k hk⟩
section
variable {ops : Array Oper} {rest : List Oper} {o : Oper} {a : Act} {w : World} {Q : Exit -> Act -> World -> Prop}
theorem wpList_update2 (hg : o.guard = none) (T : TypeId) (m k v : Operand) (hop : o.op = .mapUpdate T m k v) {K E : TypeId} (h : Key2 P K) (hT : P.underlying T = some (.map K E)) {x y : Int} (hx : InR x) (hy : InR y) (b : Nat) (L : List Ent) (cl : Nat)
 (hma : a.eval m = .map (some b)) (hka : a.eval k = key2 x y) (hL : ∀ e ∈ L, InR e.k1 /\ InR e.k2) (hm : Map w b L cl)
 (hK : ∀ W2, Map W2 b (upd L x y (a.eval v) cl) (updC L x y cl) -> (∀ g, g ≠ b -> W2.heap[g]? = w.heap[g]?) -> (∀ B w0, B <= b -> Below B w0 w -> Below B w0 W2) -> W2.heap.size = w.heap.size -> wpList P ops Q rest (a.put o.dst undef) W2) : wpList P ops Q (o :: rest) a w := by
 refine wpList_plain hg fun _ hK' => ?_
 unfold Oper.wp execOp
 simp only [hop, hma, hka, Sem.run_bind, run_update2 h hT hx hy (a.eval v) w b L cl hL hm, Result.andThen_ok, Sem.run_pure]
 exact hK' _ _ (hK _ (setBlock_same hm.lt) (fun g hg => setBlock_other hg) (fun B w0 hB hb => setBlock_below hb hB) setBlock_size)
theorem wpList_range2 (hg : o.guard = none) (T : TypeId) (m : Operand) (hop : o.op = .range T m) {K E : TypeId} (hT : P.underlying T = some (.map K E)) (b : Nat) (es : Array MapEntry) (cl : Nat)
 (hma : a.eval m = .map (some b)) (hm : w.heap[b]? = some (.map es cl))
 (hK : ∀ W2, W2 = w.alloc (.mapIter (some b) cl #[] cl) -> wpList P ops Q rest (a.put o.dst (.pointer (some ⟨w.heap.size, 0, none⟩))) W2) : wpList P ops Q (o :: rest) a w := by
 refine wpList_plain hg fun _ hK' => ?_
 have hgo : (getObj b).run P w = .ok (.map es cl) w := by simp [getObj, Sem.run, hm]
 have hr : (Instr.range T (.map (some b))).run P w = .ok (.pointer (some ⟨w.heap.size, 0, none⟩)) (w.alloc (.mapIter (some b) cl #[] cl)) := by
  simp only [Instr.range, Sem.run_bind, run_underlying hT, Result.andThen, hgo, Sem.run_pure]
  rfl
 unfold Oper.wp execOp
 simp only [hop, hma, Sem.run_bind, hr, Result.andThen_ok, Sem.run_pure]
 exact hK' _ _ (hK _ rfl)
theorem wpList_next2 (hg : o.guard = none) (it : Operand) (hop : o.op = .next it false) (r b since c0 : Nat) (seen : Array Nat) (es : Array MapEntry) (cl : Nat) (hit : a.eval it = .pointer (some ⟨r, 0, none⟩))
 (hr : w.heap[r]? = some (.mapIter (some b) since seen c0)) (hb : w.heap[b]? = some (.map es cl)) (hold : ∀ x ∈ es.toList, x.born < since) (hsc : since <= c0)
 (hDone : (leftOf es seen).size = 0 -> wpList P ops Q rest (a.put o.dst (.tuple #[.bool false])) w)
 (hMore : ∀ e ∈ (leftOf es seen).toList, ∀ W2 : World, W2.heap[r]? = some (.mapIter (some b) since (seen.push e.born) cl) -> (∀ g, g ≠ r -> W2.heap[g]? = w.heap[g]?) -> (∀ B w0, B <= r -> Below B w0 w -> Below B w0 W2) -> W2.heap.size = w.heap.size ->
   wpList P ops Q rest (a.put o.dst (.tuple #[.bool true, e.key, e.val])) W2) : wpList P ops Q (o :: rest) a w := by
 refine wpList_plain hg fun _ hK' => ?_
 unfold Oper.wp execOp
 rcases run_next_at (P := P) w o.type r b since c0 seen es cl hr hb hold hsc with ⟨h0, hrun⟩ | ⟨e, he, w1, hw1, hrun⟩
 . simp only [hop, hit, Sem.run_bind, hrun, Result.andThen_ok, Sem.run_pure]
   exact hK' _ _ (hDone h0)
 . simp only [hop, hit, Sem.run_bind, hrun, Result.andThen_ok, Sem.run_pure]
   have hlt : r < w.heap.size := by
    rcases Nat.lt_or_ge r w.heap.size with h' | h'
    . exact h'
    . rw [Array.getElem?_eq_none h'] at hr; cases hr
   rcases hw1 with rfl | rfl
   . exact hK' _ _ (hMore e he _ (setBlock_same hlt) (fun g hg => setBlock_other hg) (fun B w0 hB hb => setBlock_below hb hB) setBlock_size)
   . exact hK' _ _ (hMore e he _ (setBlock_same (w := w.drew) hlt) (fun g hg => setBlock_other hg) (fun B w0 hB hb => setBlock_below hb.drew hB) setBlock_size)
end
end
structure HasM (W : World) (fs : List (Nat × TypeId × Array Value)) (b : Nat) (L : List Ent) (cl : Nat) (w : World) : Prop where
 has : Has W fs w
 map : Map w b L cl
section
variable {W w w' : World} {fs : List (Nat × TypeId × Array Value)} {b cl : Nat} {L : List Ent}
theorem HasM.step (h : HasM W fs b L cl w) (hb : Below w.heap.size w w') : HasM W fs b L cl w' := ⟨h.has.step hb, h.map.step hb⟩
theorem HasM.drew (h : HasM W fs b L cl w) : HasM W fs b L cl w.drew := h.step (Below.refl _ _).drew
theorem HasM.get (h : HasM W fs b L cl w) (i : Nat) {f : Nat × TypeId × Array Value} (hi : fs[i]? = some f) : Blk w f.1 f.2.1 f.2.2 := h.has.get i hi
theorem HasM.below (h : HasM W fs b L cl w) : Below W.heap.size W w := h.has.below
theorem HasM.size (h : HasM W fs b L cl w) : W.heap.size <= w.heap.size := h.has.size
theorem HasM.of_mem {gs : List (Nat × TypeId × Array Value)} (h : HasM W fs b L cl w) (hm : ∀ f ∈ gs, f ∈ fs) : HasM W gs b L cl w := ⟨h.has.of_mem hm, h.map⟩
theorem Map.ne_blk {g : Nat} {t : TypeId} {cs : Array Value} (h : Map w b L cl) (h' : Blk w g t cs) : g ≠ b := fun e => by
 subst e; unfold Map at h; unfold Blk at h'; rw [h] at h'; cases h'
theorem HasM.turned {L' : List Ent} {cl' : Nat} (h : HasM W fs b L cl w) (hb : W.heap.size <= b) (hn : Map w' b L' cl') (hfar : ∀ g, g ≠ b -> w'.heap[g]? = w.heap[g]?) (hbel : ∀ B w0, B <= b -> Below B w0 w -> Below B w0 w') : HasM W fs b L' cl' w' :=
 ⟨⟨hbel _ _ hb h.has.1, fun f hf => by
   have hk := h.has.2 f hf
   unfold Blk at *
   rw [hfar _ (h.map.ne_blk hk)]; exact hk⟩, hn⟩
end
def LB (L : List Ent) (cl : Nat) : Prop := (∀ e ∈ L, e.born < cl) /\ (L.map (·.born)).Nodup
theorem upd_born : ∀ {L : List Ent} {x y : Int} {v : Value} {cl : Nat}, (upd L x y v cl).map (·.born) = if (seek L x y 0).isSome then L.map (·.born) else L.map (·.born) ++ [cl]
 | [], _, _, _, _ => rfl
 | f :: fs, x, y, v, cl => by
   unfold upd seek
   split
   . rfl
   . rw [show 0 + 1 = 1 + 0 from rfl, seek_shift, Option.isSome_map]
     simp only [List.map_cons, upd_born (L := fs) (x := x) (y := y) (v := v) (cl := cl)]
     split <;> rfl
theorem LB.upd {L : List Ent} {cl : Nat} (h : LB L cl) (x y : Int) (v : Value) : LB (upd L x y v cl) (updC L x y cl) := by
 constructor
 . intro e he
   unfold updC
   have hm : e.born ∈ (Mp.upd L x y v cl).map (·.born) := List.mem_map.2 ⟨e, he, rfl⟩
   rw [upd_born] at hm
   split at hm
   . rename_i hs
     rw [if_pos hs]
     obtain ⟨f, hf, hb⟩ := List.mem_map.1 hm
     rw [<- hb]; exact h.1 f hf
   . rename_i hs
     rw [if_neg hs]
     rcases List.mem_append.1 hm with hm | hm
     . obtain ⟨f, hf, hb⟩ := List.mem_map.1 hm
       have := h.1 f hf; omega
     . simp only [List.mem_singleton] at hm; omega
 . rw [upd_born]
   split
   . exact h.2
   . refine List.nodup_append.2 ⟨h.2, by simp, fun a ha b hb => ?_⟩
     simp only [List.mem_singleton] at hb
     obtain ⟨f, hf, hb'⟩ := List.mem_map.1 ha
     have := h.1 f hf; omega
theorem LB.hold {L : List Ent} {cl : Nat} (h : LB L cl) : ∀ x ∈ (L.map Ent.row).toArray.toList, x.born < cl := fun x hx => by
 simp only [List.mem_map] at hx
 obtain ⟨e, he, rfl⟩ := hx
 exact h.1 e he
theorem LB.nodup {L : List Ent} {cl : Nat} (h : LB L cl) : ((L.map Ent.row).toArray.toList.map (·.born)).Nodup := by
 have e : (L.map Ent.row).map (·.born) = L.map (·.born) := by simp [Ent.row, Function.comp_def]
 simpa [e] using h.2
def Ranging (b cl r : Nat) (w : World) : Prop := ∃ seen c0, w.heap[r]? = some (.mapIter (some b) cl seen c0) /\ cl <= c0
theorem Ranging.lt {b cl r : Nat} {w : World} (h : Ranging b cl r w) : r < w.heap.size := by
 obtain ⟨seen, c0, h, _⟩ := h
 rcases Nat.lt_or_ge r w.heap.size with h' | h'
 . exact h'
 . rw [Array.getElem?_eq_none h'] at h; cases h
theorem Ranging.step {b cl r : Nat} {w w' : World} (h : Ranging b cl r w) (hb : Below w.heap.size w w') : Ranging b cl r w' := by
 have hlt := h.lt
 obtain ⟨seen, c0, h, h2⟩ := h
 exact ⟨seen, c0, by rw [hb.block r hlt]; exact h, h2⟩
theorem left_step {w w' : World} {b r : Nat} (hb : Below w.heap.size w w') (h1 : b < w.heap.size) (h2 : r < w.heap.size) : w'.rangeLeft b r = w.rangeLeft b r := by
 unfold World.rangeLeft; rw [hb.block b h1, hb.block r h2]
theorem left_eq {w : World} {b r cl' since c0 : Nat} {es : Array MapEntry} {seen : Array Nat} (hb : w.heap[b]? = some (.map es cl')) (hr : w.heap[r]? = some (.mapIter (some b) since seen c0)) : w.rangeLeft b r = (leftOf es seen).size := by
 unfold World.rangeLeft; rw [hb, hr]
end Mp
namespace Ch
open Go.RowKit Go.Deep Wide Dec Go.Proofs.YtkdnebalpdebeaaGreatDoor.Acc Mp
open Cal hiding results_one results_two
theorem i64_wf {x : Int} (h : InR x) : (Lit.int .i64 x).wf = true := by
 unfold InR at h
 simp [Lit.wf, IntKind.min, IntKind.max, IntKind.signed, IntKind.bits]
 omega
theorem keyA : Key2 Tryz.prog 184 := by
 have hu := Tryz.underlying184
 have hv : Tryz.prog.underlying 3 = some (.int .i64) := by kernel_rfl
 have hc1 : Tryz.prog.cellsOf 184 = 2 := by kernel_rfl
 have hc2 : Tryz.prog.cellsOf 3 = 1 := by kernel_rfl
 refine ⟨by kernel_rfl, by kernel_rfl, fun u v => by simp [Value.formed, key2, hu, hc1], fun x y hx hy => ?_⟩
 have w1 := i64_wf hx
 have w2 := i64_wf hy
 simp [Program.keyLits, hu, hv, hc1, hc2, w1, w2]
def amt (n : Int) : Value := .agg (decE (n * 1000000000000) 12)
def sv (L : List Ent) (x : Int) : Option Value := (seek L x 0 0).map (·.2)
theorem sv_cons (e : Ent) (es : List Ent) (x : Int) : sv (e :: es) x = if x = e.k1 /\ 0 = e.k2 then some e.val else sv es x := by
 unfold sv
 rw [show seek (e :: es) x 0 0 = if x = e.k1 /\ 0 = e.k2 then some (0, e.val) else seek es x 0 1 from rfl]
 split
 . rfl
 . have := seek_shift es x 0 1 0
   rw [Nat.add_zero] at this
   rw [this]
   cases seek es x 0 0 <;> rfl
theorem sv_upd : ∀ (L : List Ent) (x : Int) (v : Value) (cl : Nat) (y : Int), sv (upd L x 0 v cl) y = if y = x then some v else sv L y
 | [], x, v, cl, y => by
   rw [show upd [] x 0 v cl = [⟨x, 0, v, cl⟩] from rfl, sv_cons]
   by_cases h : y = x
   . simp [h]
   . simp [h]
 | e :: es, x, v, cl, y => by
   rw [show upd (e :: es) x 0 v cl = if x = e.k1 /\ 0 = e.k2 then { e with val := v } :: es else e :: upd es x 0 v cl from rfl]
   by_cases he : x = e.k1 /\ 0 = e.k2
   . rw [if_pos he, sv_cons, sv_cons]
     by_cases h : y = x
     . simp [h, he.1, <- he.2]
     . rw [if_neg (by rw [<- he.1]; exact fun q => h q.1), if_neg h, if_neg (by rw [<- he.1]; exact fun q => h q.1)]
   . rw [if_neg he, sv_cons, sv_cons, sv_upd es]
     by_cases h : y = x
     . subst h; rw [if_neg he, if_pos rfl]; simp
     . rw [if_neg h, if_neg h]
def EN (L : List Ent) : Prop := ∀ e ∈ L, InR e.k1 /\ e.k2 = 0 /\ ∃ c, e.val = .agg (decE c 12) /\ -1000000000000000000000000000000000000 <= c /\ c <= 1000000000000000000000000000000000000
theorem EN.keys {L : List Ent} (h : EN L) : ∀ e ∈ L, InR e.k1 /\ InR e.k2 := fun e he => ⟨(h e he).1, by rw [(h e he).2.1]; unfold InR; omega⟩
theorem EN.far : ∀ {L : List Ent} (_ : EN L) (x : Int) {y : Int} (_ : y ≠ 0) (j : Nat), seek L x y j = none
 | [], _, _, _, _, _ => rfl
 | e :: es, h, x, y, hy, j => by
   unfold seek
   rw [if_neg (by rw [(h e List.mem_cons_self).2.1]; exact fun q => hy q.2)]
   exact EN.far (fun f hf => h f (List.mem_cons_of_mem _ hf)) x hy (j + 1)
def AtN (L : List Ent) (x n : Int) : Prop := (sv L x = none /\ n = 0) ∨ sv L x = some (amt n)
theorem EN.upd : ∀ {L : List Ent} {x : Int} {n : Int} {cl : Nat}, EN L -> InR x -> (-1000000000000000000000000 <= n /\ n <= 1000000000000000000000000) -> EN (upd L x 0 (amt n) cl)
 | [], x, n, cl, _, hx, hn => fun e he => by
   simp only [Mp.upd, List.mem_singleton] at he
   subst he; exact ⟨hx, rfl, _, rfl, by omega, by omega⟩
 | e :: es, x, n, cl, hL, hx, hn => by
   unfold Mp.upd
   split
   . intro f hf
     rcases List.mem_cons.1 hf with rfl | hf
     . exact ⟨(hL e List.mem_cons_self).1, (hL e List.mem_cons_self).2.1, _, rfl, by omega, by omega⟩
     . exact hL f (List.mem_cons_of_mem _ hf)
   . intro f hf
     rcases List.mem_cons.1 hf with rfl | hf
     . exact hL f List.mem_cons_self
     . exact EN.upd (fun g hg => hL g (List.mem_cons_of_mem _ hg)) hx hn f hf
def LX (f : Int -> Int) (L : List Ent) : Prop := EN L /\ ∀ x, AtN L x (f x)
def addF (f : Int -> Int) (x n : Int) : Int -> Int := fun y => if y = x then f x + n else f y
theorem LX.upd {f : Int -> Int} {L : List Ent} (h : LX f L) {x n : Int} (cl : Nat) (hx : InR x) (hn : -1000000000000000000000000 <= f x + n /\ f x + n <= 1000000000000000000000000) : LX (addF f x n) (Mp.upd L x 0 (amt (f x + n)) cl) := by
 refine ⟨h.1.upd hx hn, fun y => ?_⟩
 unfold AtN
 rw [sv_upd]
 unfold addF
 by_cases hy : y = x
 . rw [if_pos hy, if_pos hy]; exact .inr rfl
 . rw [if_neg hy, if_neg hy]; exact h.2 y
theorem LX.nil : LX (fun _ => 0) [] := ⟨fun e he => (by cases he), fun x => .inl ⟨rfl, rfl⟩⟩
theorem atY_ok (L : List Ent) (x y n : Int) (hx : InR x) (hy : InR y) (hL : EN L) (hn : (seek L x y 0 = none /\ n = 0) ∨ ∃ i, seek L x y 0 = some (i, amt n)) : ∀ (b cl : Nat) (W : World), Map W b L cl ->
 Calls Tryz.prog 87 #[.map (some b), .agg #[.int .i64 x, .int .i64 y]] W fun e w' => e = .returned (amt n) /\ Below W.heap.size W w' := by
 have HLK : ∀ (b cl : Nat) (W : World), Map W b L cl -> _ := fun b cl W hm =>
  run_lookup2 (P := Tryz.prog) (z := .agg #[.int .i64 0, .int .u64 0, .int .i64 0]) keyA Tryz.underlying145 (fun w => by first | exact Tryz.zeroValue56 w | exact Tryz.zeroValue56 _) hx hy ((W.alloc (.cells #[.int .i64 x, .int .i64 y] 184)).alloc (.cells #[.int .i64 0, .int .u64 0, .int .i64 0] 56)) b L cl hL.keys
   ((hm.step ((Below.refl _ _).alloc (Nat.le_refl _) _)).step ((Below.refl _ _).alloc (Nat.le_refl _) _))
 have HII : ∀ W : World, Hi (Has W [(W.heap.size + 1, 56, #[.int .i64 0, .int .u64 0, .int .i64 0])] ((W.alloc (.cells #[.int .i64 x, .int .i64 y] 184)).alloc (.cells #[.int .i64 0, .int .u64 0, .int .i64 0] 56))) := fun W =>
  Hd (Has.cons (Blk.new' (by simp)) (Has.nil (Below.al (Below.al (Below.refl _ _) _) _)))
 cases hl : seek L x y 0 with
 | some p =>
   obtain ⟨i, v⟩ := p
   have hv : v = amt n := by
    rcases hn with ⟨h, _⟩ | ⟨k, h⟩
    . rw [hl] at h; cases h
    . rw [hl] at h; injection h with h; injection h
   subst hv
   intro b cl W hm
   unfold amt at *
   obtain ⟨c, hc⟩ : ∃ c, c = n * 1000000000000 := ⟨_, rfl⟩
   rw [<- hc] at hl ⊢
   obtain ⟨s, hs⟩ : ∃ s : Int, s = 12 := ⟨_, rfl⟩
   rw [<- hs] at hl ⊢
   have hlk := HLK b cl W hm
   unfold key2 at hlk
   rw [hl] at hlk
   simp only [Option.map_some, Option.getD_some, Option.isSome_some] at hlk
   rw [decE_lit] at hlk
   clear hl hc hs hL hn hm hx hy HLK HII
   go_enter Tryz.func87, Tryz.ntmps87
   go_wp2_with fail
   exact bodyPost_ret (results_cell_row rfl _ _ (W.heap.size + 1) 56 (decE c s) (0, 0) _ rfl ((Blk.new' (by simp)).alloc _) Tryz.underlying56 rfl (by kernel_rfl)) rfl ⟨rfl, Below.al (Below.al (Below.al (Below.refl _ _) _) _) _⟩
 | none =>
   have hn0 : n = 0 := by
    rcases hn with ⟨_, h⟩ | ⟨k, h⟩
    . exact h
    . rw [hl] at h; cases h
   subst hn0
   intro b cl W hm
   unfold amt
   rw [Int.zero_mul]
   have hlk := HLK b cl W hm
   have HI := HII W
   unfold key2 at hlk
   rw [hl] at hlk
   simp only [Option.map_none, Option.getD_none, Option.isSome_none] at hlk
   clear hl hL hn hm hx hy HLK HII
   go_enter Tryz.func87, Tryz.ntmps87
   go_wp2_with fail
   refine (nought_ok _).mono ?_
   rintro e w1 ⟨rfl, hb1⟩
   have H1 := Hd ((HI.o.alloc _).step hb1)
   clear hb1 HI hlk
   go_wp2_with (refine wpList_put rfl 56 (.tmp 4) (.tmp 15) rfl (W.heap.size + 1) (decE 0 12) rfl rfl 56 _ (H1.o.get 0 rfl) (by kernel_rfl) (by first | rfl | (rw [enc_size]; rfl)) (decE_all _ _) ?_
                intro W3 HB3 hfar3 hbel3 hsz3 hcell3)
   exact bodyPost_ret (results_cell_row rfl _ W3 (W.heap.size + 1) 56 (decE 0 12) (0, 0) _ rfl HB3 Tryz.underlying56 rfl (by kernel_rfl)) rfl ⟨rfl, hbel3 _ _ (by omega) H1.o.below⟩
theorem at_ok (L : List Ent) (x n : Int) (hx : InR x) (hL : EN L) (hn : AtN L x n) : ∀ (b cl : Nat) (W : World), Map W b L cl ->
 Calls Tryz.prog 87 #[.map (some b), .agg #[.int .i64 x, .int .i64 0]] W fun e w' => e = .returned (amt n) /\ Below W.heap.size W w' :=
 atY_ok L x 0 n hx (by unfold InR; omega) hL (by
  unfold AtN sv at hn
  cases hl : seek L x 0 0 with
  | none =>
    rw [hl] at hn
    rcases hn with ⟨_, h⟩ | h
    . exact .inl ⟨rfl, h⟩
    . cases h
  | some p =>
    rw [hl] at hn
    rcases hn with ⟨h, _⟩ | h
    . cases h
    . obtain ⟨i, v⟩ := p
      have : v = amt n := Option.some.inj h
      exact .inr ⟨i, by rw [this]⟩)
theorem amt_in {n : Int} (h : -1000000000000000000000000 <= n /\ n <= 1000000000000000000000000) : InT (n * 1000000000000) /\ chk (n * 1000000000000) 12 = 0 := ⟨by unfold InT; omega, chk_yes (by omega)⟩
theorem upE {a : Int} (s c : Int) : coef (decide (a < 0)) (upN a s c) = a * 10 ^ (c - s).toNat := by
 unfold upN coef
 rcases Int.lt_or_le a 0 with h | h
 . simp only [decide_eq_true h, if_true]
   have : ((a.natAbs * 10 ^ (c - s).toNat : Nat) : Int) = -a * 10 ^ (c - s).toNat := by push_cast; rw [show ((a.natAbs : Nat) : Int) = -a by omega]
   rw [this, Int.neg_mul, Int.neg_neg]
 . simp only [decide_eq_false (Int.not_lt.2 h), Bool.false_eq_true, if_false]
   push_cast; rw [show ((a.natAbs : Nat) : Int) = a by omega]
theorem upE' {a : Int} (s c : Int) : coef (!decide (a < 0)) (upN a s c) = -(a * 10 ^ (c - s).toNat) := by
 unfold upN coef
 rcases Int.lt_or_le a 0 with h | h
 . simp only [decide_eq_true h, Bool.not_true, Bool.false_eq_true, if_false]
   push_cast; rw [show ((a.natAbs : Nat) : Int) = -a by omega, Int.neg_mul]
 . simp only [decide_eq_false (Int.not_lt.2 h), Bool.not_false, if_true]
   push_cast; rw [show ((a.natAbs : Nat) : Int) = a by omega]
theorem cmp_le {a s b u : Int} (h : a * 10 ^ (max s u - s).toNat <= b * 10 ^ (max s u - u).toNat) : cmpD a s b u <= 0 := by
 unfold cmpD
 have e := plus_val (decide (a < 0)) (upN a s (max s u)) (!decide (b < 0)) (upN b u (max s u))
 rw [upE, upE'] at e
 generalize plusM (decide (a < 0)) (upN a s (max s u)) (!decide (b < 0)) (upN b u (max s u)) = m at e ⊢
 generalize plusN (decide (a < 0)) (upN a s (max s u)) (!decide (b < 0)) (upN b u (max s u)) = k at e ⊢
 split
 . omega
 . split
   . omega
   . rename_i h1 h2
     unfold coef at e
     rw [if_neg h2] at e
     omega
theorem win24 {c : Int} (h : -1000000000000000000000000000000000000 <= c /\ c <= 1000000000000000000000000000000000000) : winB c 12 24 = true := by
 unfold winB
 have h1 : cmpD c 12 (10 ^ 24) 0 <= 0 := cmp_le (by show c * 10 ^ 0 <= 10 ^ 24 * 10 ^ 12; omega)
 have h2 : cmpD (-(10 ^ 24)) 0 c 12 <= 0 := cmp_le (by show -(10 ^ 24) * 10 ^ 12 <= c * 10 ^ 0; omega)
 rw [decide_eq_true h1, decide_eq_true h2]; rfl
theorem win20 {c : Int} (h : -100000000000000000000 <= c /\ c <= 100000000000000000000) : winB c 0 20 = true := by
 unfold winB
 have h1 : cmpD c 0 (10 ^ 20) 0 <= 0 := cmp_le (by show c * 10 ^ 0 <= 10 ^ 20 * 10 ^ 0; omega)
 have h2 : cmpD (-(10 ^ 20)) 0 c 0 <= 0 := cmp_le (by show -(10 ^ 20) * 10 ^ 0 <= c * 10 ^ 0; omega)
 rw [decide_eq_true h1, decide_eq_true h2]; rfl
theorem addX_ok (a b : Int) (ha : -100000000000000000000000 <= a /\ a <= 100000000000000000000000) (hb : -100000000000000000000000 <= b /\ b <= 100000000000000000000000) (W : World) :
 Calls Tryz.prog 135 #[amt a, .agg (decE b 0)] W fun e w' => e = .returned (.tuple #[amt (a + b), .int .i64 0]) /\ Below W.heap.size W w' := by
 have h := Dec.add_ok (a * 1000000000000) 12 b 0 (amt_in (by omega)).1 (by unfold InT; omega) (amt_in (by omega)).2 (chk_yes (by omega)) W
 have e := plus_val (decide (a * 1000000000000 < 0)) (upN (a * 1000000000000) 12 (max 12 0)) (decide (b < 0)) (upN b 0 (max 12 0))
 rw [upE, upE] at e
 have e2 : coef (addM (a * 1000000000000) 12 b 0) (addN (a * 1000000000000) 12 b 0) = (a + b) * 1000000000000 := by
  unfold addM addN
  rw [e, show (max (12 : Int) 0 - 12).toNat = 0 by decide, show (max (12 : Int) 0 - 0).toNat = 12 by decide]
  omega
 have hlt : addN (a * 1000000000000) 12 b 0 < T := by
  unfold coef at e2
  unfold T
  split at e2 <;> omega
 unfold togC togS togE at h
 rw [if_pos hlt, if_pos hlt, if_pos hlt, e2] at h
 exact h
def lineE (k1 k2 c s : Int) : Array Value := #[.int .i64 k1, .int .i64 k2, .int .i64 (c / 18446744073709551616), .int .u64 (c % 18446744073709551616), .int .i64 s]
end Ch
end Go.Proofs.YtkdnebalpdebeaaGreatDoor
