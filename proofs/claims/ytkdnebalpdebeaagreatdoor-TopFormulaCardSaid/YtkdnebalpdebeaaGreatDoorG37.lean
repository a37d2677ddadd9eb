/- Lemmas of a claim: Rm, BkD, BkE, BkF -/
import Derived.Test.YtkdnebalpdebeaaGreatDoorG36
import Derived.Lib.SmallJoins
set_option linter.unusedVariables false
set_option linter.unusedSimpArgs false
set_option maxHeartbeats 16000000
set_option maxRecDepth 100000
namespace Go.Proofs.YtkdnebalpdebeaaGreatDoor
section
open Go.RowKit Go.Deep
inductive NF : {α : Type} -> Sem α -> Prop
 | pure {α : Type} (a : α) : NF (.pure a)
 | getObj {α : Type} (r : Nat) (k : Obj -> Sem α) (h : ∀ o, NF (k o)) : NF (.getObj r k)
 | setObj {α : Type} (r : Nat) (o : Obj) (k : Sem α) (h : NF k) : NF (.setObj r o k)
 | choose {α : Type} (q : Question) (k : Nat -> Sem α) (h : ∀ n, NF (k n)) : NF (.choose q k)
 | program {α : Type} (k : Program -> Sem α) (h : ∀ p, NF (k p)) : NF (.program k)
 | halt {α : Type} (h : Halt) : NF (.halt h : Sem α)
theorem NF.tape {α : Type} {P : Program} {m : Sem α} (h : NF m) : ∀ (w w' : World) (v : α), m.run P w = .ok v w' -> w'.tape = w.tape := by
 induction h with
 | pure a => intro w w' v h; simp only [Sem.run] at h; cases h; rfl
 | getObj r k h ih =>
   intro w w' v h
   simp only [Sem.run] at h
   split at h
   . cases h
   . exact ih _ _ _ _ h
   . cases h
 | setObj r o k h ih =>
   intro w w' v h
   simp only [Sem.run] at h
   split at h
   . cases h
   . have := ih _ _ _ h; exact this
   . cases h
 | choose q k h ih =>
   intro w w' v h
   simp only [Sem.run] at h
   split at h
   . exact ih _ _ _ _ h
   . have := ih _ _ _ _ h; exact this
 | program k h ih => intro w w' v h; exact ih _ _ _ _ h
 | halt h => intro w w' v h; simp only [Sem.run] at h; cases h
theorem NF.bind {α β : Type} {m : Sem α} {f : α -> Sem β} (h : NF m) (hf : ∀ a, NF (f a)) : NF (m.bind f) := by
 induction h with
 | pure a => exact hf a
 | getObj r k h ih => exact .getObj _ _ fun o => ih o
 | setObj r o k h ih => exact .setObj _ _ _ ih
 | choose q k h ih => exact .choose _ _ fun o => ih o
 | program k h ih => exact .program _ fun o => ih o
 | halt h => exact .halt _
theorem next_nf (a : Value) (ty : TypeId) : NF (Instr.next a false ty) := by
 unfold Instr.next
 repeat' (first | exact NF.halt _ | exact NF.pure _ | refine NF.getObj _ _ fun _ => ?_ | refine NF.setObj _ _ _ ?_ | refine NF.choose _ _ fun _ => ?_ | refine NF.bind ?_ fun _ => ?_ | split)
theorem run_next_t {P : Program} (w : World) (ty : TypeId) (bm since c0 : Nat) (seen : Array Nat) (es : Array MapEntry) (clock : Nat) (hb : w.heap[bm]? = some (.map es clock)) (hold : ∀ x ∈ es.toList, x.born < since) (hsc : since <= c0) :
 ((leftOf es seen).size = 0 /\ (Instr.next (.pointer (some ⟨w.heap.size, 0, none⟩)) false ty).run P (w.alloc (.mapIter (some bm) since seen c0)) = .ok (.tuple #[.bool false]) (w.alloc (.mapIter (some bm) since seen c0))) ∨
 ∃ e ∈ (leftOf es seen).toList, ∃ w1 : World, (w1.heap = w.heap /\ ∀ B W0, Below B W0 w -> Below B W0 w1) /\ (Instr.next (.pointer (some ⟨w.heap.size, 0, none⟩)) false ty).run P (w.alloc (.mapIter (some bm) since seen c0)) = .ok (.tuple #[.bool true, e.key, e.val]) (w1.alloc (.mapIter (some bm) since (seen.push e.born) clock)) := by
 rcases run_next_map (P := P) w ty bm since c0 seen es clock hb hold hsc with h | ⟨e, he, w1, ha, hr⟩
 . exact .inl h
 . have ht' := (next_nf _ ty).tape _ _ _ hr
   have ht : w1.tape = w.tape := ht'
   exact .inr ⟨e, he, w1, ⟨ha.1, fun B W0 h => ⟨ha.2.1.trans h.os, ht.trans h.tape, ha.2.2.trans h.output, by rw [ha.1]; exact h.size, fun k hk => by rw [ha.1]; exact h.block k hk⟩⟩, hr⟩
end
namespace Bk
open Go.RowKit Go.Deep Mp Mo
open Cal (results_one results_two results_three)
def Sl (w : World) (v : Value) (n : Nat) : Prop := ∃ xs, w.ownsRow 0 258 33 v n xs /\ ∀ u ∈ xs, u.oneCell' = true
def lenV : Value -> Nat | .slice _ n _ => n | _ => 0
def usedL (L : List (UInt8 × Value)) : Nat := (L.map fun p => lenV p.2).sum
def isS : Value -> Bool | .slice _ _ _ => true | _ => false
theorem isS_eq {v : Value} (h : isS v = true) : ∃ A c, v = .slice A (lenV v) c := by
 cases v with
 | slice A n c => exact ⟨_, _, rfl⟩
 | _ => cases h
def accL (L : List (UInt8 × Value)) (seen : Array Nat) : Nat := ((L.zip (List.range L.length)).map fun p => if seen.contains p.2 then 0 + lenV p.1.2 else 0).sum
theorem filesE_born {L : List (UInt8 × Value)} (hL : LOk2 L) : (∀ x ∈ (filesE L).toList, x.born < L.length) /\ ((filesE L).toList.map (·.born)).Nodup := by
 rcases hL with rfl | ⟨u, rfl⟩ | ⟨u, v, rfl⟩
 . exact ⟨fun x hx => (by cases hx), List.nodup_nil⟩
 . refine ⟨fun x hx => ?_, by simp [filesE]⟩
   simp [filesE] at hx; subst hx; simp
 . refine ⟨fun x hx => ?_, by simp [filesE, List.range_succ]⟩
   simp [filesE, List.range_succ] at hx
   rcases hx with rfl | rfl <;> simp
theorem accL_none {L : List (UInt8 × Value)} (hL : LOk2 L) : accL L #[] = 0 := by
 rcases hL with rfl | ⟨u, rfl⟩ | ⟨u, v, rfl⟩ <;> simp [accL, List.range_succ]
theorem accL_all {L : List (UInt8 × Value)} (hL : LOk2 L) (seen : Array Nat) (h : (leftOf (filesE L) seen).size = 0) : accL L seen = usedL L := by
 have ha := all_seen _ _ h
 rcases hL with rfl | ⟨u, rfl⟩ | ⟨u, v, rfl⟩
 . rfl
 . have h0 := ha ⟨.string (nm 48), u, 0⟩ (by simp [filesE])
   simp only [accL, usedL, List.length_cons, List.length_nil, List.range_succ, List.range_zero, List.zip, List.zipWith, List.nil_append, List.map, List.sum_cons, List.sum_nil, h0]; simp
 . have h0 := ha ⟨.string (nm 48), u, 0⟩ (by simp [filesE, List.range_succ])
   have h1 := ha ⟨.string (nm 49), v, 1⟩ (by simp [filesE, List.range_succ])
   simp only [accL, usedL, List.length_cons, List.length_nil, List.range_succ, List.range_zero, List.zip, List.zipWith, List.nil_append, List.cons_append, List.map, List.sum_cons, List.sum_nil, h0, h1]; simp
theorem accL_step {L : List (UInt8 × Value)} (hL : LOk2 L) (seen : Array Nat) (e : MapEntry) (he : e ∈ (leftOf (filesE L) seen).toList) : accL L (seen.push e.born) = accL L seen + lenV e.val /\ ∃ p ∈ L, p.2 = e.val := by
 obtain ⟨h1, h2⟩ := mem_left he
 rcases hL with rfl | ⟨u, rfl⟩ | ⟨u, v, rfl⟩
 . cases h1
 . simp [filesE] at h1; subst h1
   simp only at h2
   refine ⟨?_, _, List.mem_cons_self, rfl⟩
   simp [accL, List.range_succ] at *; simp [h2]
 . simp [filesE, List.range_succ] at h1
   rcases h1 with rfl | rfl
   . refine ⟨?_, _, List.mem_cons_self, rfl⟩
     simp [accL, List.range_succ] at *; simp [h2]; omega
   . refine ⟨?_, _, List.mem_cons_of_mem _ List.mem_cons_self, rfl⟩
     simp [accL, List.range_succ] at *; simp [h2]
theorem accL_le {L : List (UInt8 × Value)} (hL : LOk2 L) (hs : ∀ p ∈ L, lenV p.2 <= 1000000) (seen : Array Nat) : accL L seen <= 2000000 := by
 rcases hL with rfl | ⟨u, rfl⟩ | ⟨u, v, rfl⟩
 . simp [accL]
 . have := hs _ List.mem_cons_self
   simp [accL, List.range_succ] at *; split <;> omega
 . have := hs _ List.mem_cons_self
   have := hs (49, v) (by simp)
   simp [accL, List.range_succ] at *; split <;> split <;> omega
theorem used_ok (gd bf : Nat) (room ops : Int) (L : List (UInt8 × Value)) (hL : LOk2 L) (hs : ∀ p ∈ L, isS p.2 = true /\ lenV p.2 <= 1000000) (W : World) (h : Blk W gd 127 (diskE bf room ops)) (hf : W.heap[bf]? = some (.map (filesE L) L.length)) :
 Calls Tryz.prog 240 #[.pointer (some ⟨gd, 0, none⟩)] W fun e w' => e = .returned (.int .i64 (usedL L : Nat)) /\ Below W.heap.size W w' := by
 have c0 := h.cell 0
 simp only [diskE, List.getElem?_toArray, List.getElem?_cons_succ, List.getElem?_cons_zero] at c0
 have hrg := fun w hf => run_range_map (P := Tryz.prog) w 125 9 250 bf (filesE L) L.length Tryz.underlying125 hf
 replace hrg := hrg W hf
 clear h
 go_enter Tryz.func240, Tryz.ntmps240
 go_wp2_with fail
 clear hrg c0
 go_loopw [3] (fun s w' => ∃ (w1 : World) (seen : Array Nat), (w1.heap = W.heap /\ Below W.heap.size W w1) /\ w' = w1.alloc (.mapIter (some bf) L.length seen L.length) /\ s = .int .i64 (accL L seen : Nat)) (fun _ w' => (leftOf (filesE L) (w'.iterSeen W.heap.size)).size)
 case atStart => exact ⟨W, #[], ⟨rfl, Below.refl _ _⟩, rfl, by rw [accL_none hL]; rfl⟩
 case round =>
  obtain ⟨w1, seen, hal, rfl, rfl⟩ := hrel
  have hsz : w1.heap.size = W.heap.size := by rw [hal.1]
  have hb1 : w1.heap[bf]? = some (.map (filesE L) L.length) := by rw [hal.1]; exact hf
  have law := run_next_t (P := Tryz.prog) w1 0 bf L.length L.length seen (filesE L) L.length hb1 (filesE_born hL).1 (Nat.le_refl _)
  rw [hsz] at law
  rcases law with ⟨h0, hrun⟩ | ⟨e, he, w2, hal2, hrun⟩
  . have hnx : ∀ ty, (Instr.next (.pointer (some ⟨W.heap.size, 0, none⟩)) false ty).run Tryz.prog (w1.alloc (.mapIter (some bf) L.length seen L.length)) = _ := fun _ => hrun
    rw [accL_all hL seen h0]
    have HB := Hd (Below.al hal.2 (.mapIter (some bf) L.length seen L.length))
    clear hs hL hf hal hb1 hrun h0
    go_wp2_with fail
    exact bodyPost_ret (results_one rfl _ _ rfl) rfl ⟨rfl, HB.o⟩
  . obtain ⟨hstep, p, hp, hpe⟩ := accL_step hL seen e he
    obtain ⟨A, c, hval⟩ := isS_eq (hs p hp).1
    have hle := accL_le hL (fun p hp => (hs p hp).2) seen
    have hle2 := (hs p hp).2
    rw [hpe] at hval hle2
    generalize hn : lenV e.val = n at *
    rw [hval] at hrun
    have hnx : ∀ ty, (Instr.next (.pointer (some ⟨W.heap.size, 0, none⟩)) false ty).run Tryz.prog (w1.alloc (.mapIter (some bf) L.length seen L.length)) = _ := fun _ => hrun
    have hsz2 : w2.heap.size = W.heap.size := by rw [hal2.1, hal.1]
    have hb2 : w2.heap[bf]? = some (.map (filesE L) L.length) := by rw [hal2.1]; exact hb1
    have hen := run_entry_map (P := Tryz.prog) w2 bf L.length seen (filesE L) L.length e hb2 (mem_left he).1 (filesE_born hL).2
    rw [hsz2, hval] at hen
    have hsh := left_shrinks (filesE L) seen e he
    have HB := Hd (hal2.2 _ _ hal.2)
    have HH := Hd (hal2.1.trans hal.1)
    have HS := Hd hstep
    have HSH := Hd hsh
    have HZ2 := Hd hsz2
    have HZ := Hd hsz
    generalize accL L seen = m at *
    clear hs hL hf hal hb1 hrun hstep hp hpe hn hal2 hb2 hsh hsz hsz2 he
    go_wp2_with fail
    refine ⟨⟨w2, seen.push e.born, ⟨HH.o, HB.o⟩, rfl, by rw [HS.o]; rfl⟩, ?_⟩
    have e1 : (w2.alloc (.mapIter (some bf) L.length (seen.push e.born) L.length)).iterSeen W.heap.size = seen.push e.born := by rw [<- HZ2.o]; exact World.iterSeen_alloc _ _ _ _ _
    have e2 : (w1.alloc (.mapIter (some bf) L.length seen L.length)).iterSeen W.heap.size = seen := by rw [<- HZ.o]; exact World.iterSeen_alloc _ _ _ _ _
    rw [e1, e2]; exact HSH.o
end Bk
namespace Bk
open Go.RowKit Go.Deep Mp Mo
open Pr (Below.of_grown Keep.of_grown)
open Cal (results_one results_two results_three)
def secZ : Value := .agg #[Value.int .u8 0, Value.int .u8 0, Value.int .u8 0, Value.int .u8 0, Value.int .u8 0, Value.int .u8 0, Value.int .u8 0, Value.int .u8 0, Value.int .u8 0, Value.int .u8 0, Value.int .u8 0, Value.int .u8 0, Value.int .u8 0, Value.int .u8 0, Value.int .u8 0, Value.int .u8 0, Value.int .u8 0, Value.int .u8 0, Value.int .u8 0, Value.int .u8 0, Value.int .u8 0, Value.int .u8 0, Value.int .u8 0, Value.int .u8 0, Value.int .u8 0, Value.int .u8 0, Value.int .u8 0, Value.int .u8 0, Value.int .u8 0, Value.int .u8 0, Value.int .u8 0, Value.int .u8 0, .bool false]
theorem secInfo : ∃ i, Tryz.prog.info? 258 = some i /\ i.zero = some secZ /\ i.size = 33 /\ i.bytes = 33 := ⟨_, rfl, by kernel_rfl, by kernel_rfl, by kernel_rfl⟩
theorem Sl.form {w : World} {v : Value} {n : Nat} (h : Sl w v n) : (v = .slice none 0 0 /\ n = 0) ∨ ∃ g c cur, v = .slice (some ⟨g, 0, none⟩) n c /\ w.heap[g]? = some (.cells cur 258) /\ n <= c /\ c <= maxLen /\ cur.size = c * 33 := by
 obtain ⟨xs, ⟨h1, h2⟩, h3⟩ := h
 rcases h2 with h2 | ⟨g, c, cur, rfl, _, hg, hc, hm, hz, _⟩
 . exact .inl h2
 . exact .inr ⟨g, c, cur, rfl, hg, hc, hm, hz⟩
theorem Sl.step {w w' : World} {v : Value} {n : Nat} (h : Sl w v n) (hb : Below w.heap.size w w') : Sl w' v n := by
 obtain ⟨xs, h1, h2⟩ := h
 exact ⟨xs, own_below h1 hb, h2⟩
theorem Sl.keep {w w' : World} {v : Value} {n : Nat} {S : List Nat} (h : Sl w v n) (hk : Keep S w w') (hS : ∀ k ∈ S, ∀ cur, w.heap[k]? ≠ some (.cells cur 258)) : Sl w' v n := by
 obtain ⟨xs, ⟨h1, h2⟩, h3⟩ := h
 refine ⟨xs, ⟨h1, ?_⟩, h3⟩
 rcases h2 with h2 | ⟨g, c, cur, rfl, hb, hg, h4⟩
 . exact .inl h2
 . exact .inr ⟨g, c, cur, rfl, hb, by rw [hk.block g (obj_lt hg) (fun hb => hS g hb _ hg)]; exact hg, h4⟩
theorem Sl.isS {w : World} {v : Value} {n : Nat} (h : Sl w v n) : isS v = true /\ lenV v = n := by
 rcases h.form with ⟨rfl, rfl⟩ | ⟨g, c, cur, rfl, _⟩ <;> exact ⟨rfl, rfl⟩
theorem Sl.nil (w : World) : Sl w (.slice none 0 0) 0 := ⟨[], own_nil w 0 _ 33, by simp⟩
theorem Sl.reads {w : World} {A : Option Addr} {n c : Nat} (h : Sl w (.slice A n c) n) : ∃ xs, Reads w w.heap.size 33 A n xs /\ ∀ u ∈ xs, u.oneCell' = true := by
 obtain ⟨xs, h1, h2⟩ := h
 exact ⟨xs, Reads.of_own h1, h2⟩
theorem cloneS_ok (v : Value) (n : Nat) (hn : n <= 1000000) (W : World) (h : Sl W v n) : Calls Tryz.prog 198 #[v] W fun e w' => ∃ v', e = .returned v' /\ Below W.heap.size W w' /\ ∃ xs, w'.ownsRow W.heap.size 258 33 v' n xs /\ ∀ u ∈ xs, u.oneCell' = true := by
 rcases h.form with ⟨rfl, rfl⟩ | ⟨g, c, cur, rfl, hg, _⟩
 . have hq : ∀ w : World, (binOp .eql 250 (.slice none 0 0) (.slice none 0 0)).run Tryz.prog w = .ok (.bool true) w := fun w => Lib.run_eql_slice_nil w _ _ none 0 0 0 0 Tryz.underlying250
   clear h
   go_enter Tryz.func198, Tryz.ntmps198
   go_wp2_with fail
   exact bodyPost_ret (results_one rfl _ _ rfl) rfl ⟨_, rfl, Below.refl _ _, [], own_nil W _ _ 33, by simp⟩
 . obtain ⟨xs, hr, h1⟩ := h.reads
   have hq : ∀ w : World, (binOp .eql 250 (.slice (some ⟨g, 0, none⟩) n c) (.slice none 0 0)).run Tryz.prog w = .ok (.bool false) w := fun w => Lib.run_eql_slice_nil w _ _ (some ⟨g, 0, none⟩) n c 0 0 Tryz.underlying250
   obtain ⟨i, hi, h2, h3, h4⟩ := secInfo
   have HR := Hd hr
   have H1 := Hd h1
   have HN := Hd hn
   clear h hg hr h1 hn
   go_enter Tryz.func198, Tryz.ntmps198
   go_wp2_with (at_builtin
                refine wpList_append_any _ rfl (.tmp 5) (.tmp 6) 250 rfl W.heap.size 258 i secZ 33 33 Tryz.underlying250 hi h2 h3 h4 rfl (by omega) (.slice (some ⟨W.heap.size, 0, none⟩) 0 0) 0 [] rfl (World.ownsRow_made W #[] 0 (Nat.le_refl _) (Nat.zero_le _) rfl) W.heap.size (some ⟨g, 0, none⟩) n c xs rfl (HR.o.alloc (Nat.le_refl _) _) H1.o (by have := HN.o; simp only [maxLen]; omega) (by have := HN.o; omega) (by simp) ?_
                intro v1 w1 hown1 hg1 hat1)
   have hb : Below W.heap.size W w1 := ((Below.refl _ W).alloc (Nat.le_refl _) _).grown hg1 (by simp) (by intro k hk; simp [Value.ownBlock] at hk; omega)
   have HO := Hd hown1
   have HB := Hd hb
   clear hown1 hg1 hat1 hb
   go_wp2_with fail
   refine bodyPost_ret (results_one rfl _ _ rfl) rfl ⟨_, rfl, HB.o, xs, ?_, H1.o⟩
   have := HO.o
   simpa using this
theorem clip_ok (v : Value) (n : Nat) (W : World) (h : Sl W v n) : Calls Tryz.prog 242 #[v] W fun e w' => (∃ A c, v = .slice A n c /\ e = .returned (.slice A n n)) /\ w' = W := by
 obtain ⟨i, hi, h2, h3, h4⟩ := secInfo
 rcases h.form with ⟨rfl, rfl⟩ | ⟨g, c, cur, rfl, hg, hc, _⟩
 . clear h
   go_enter Tryz.func242, Tryz.ntmps242
   go_wp2_with fail
   exact bodyPost_ret (results_one rfl _ _ rfl) rfl ⟨⟨_, _, rfl, rfl⟩, rfl⟩
 . clear h hg
   go_enter Tryz.func242, Tryz.ntmps242
   go_wp2_with fail
   exact bodyPost_ret (results_one rfl _ _ rfl) rfl ⟨⟨_, _, rfl, rfl⟩, rfl⟩
theorem own_set {w : World} {base n g c k : Nat} {e : TypeId} {size : Nat} {xs : List Value} (h : w.ownsRow base e size (.slice (some ⟨g, 0, none⟩) n c) n xs) (u : Value) : (w.setCell ⟨g, k, none⟩ u).ownsRow base e size (.slice (some ⟨g, 0, none⟩) n c) n (xs.set k u) := by
 obtain ⟨h1, h2 | ⟨g', c', cur, he, hb, hg, hc, hm, hz, hx⟩⟩ := h
 . cases h2.1
 . cases he
   refine ⟨by simpa using h1, .inr ⟨g, c, cur.setIfInBounds k u, rfl, hb, ?_, hc, hm, by simpa using hz, ?_⟩⟩
   . exact Joins.block_setCell hg u
   . rw [Array.toList_setIfInBounds, <- hx, List.take_set]
theorem synced_ok (v : Value) (n : Nat) (hn : n <= 1000000) (W : World) (h : Sl W v n) : Calls Tryz.prog 149 #[v] W fun e w' => ∃ v', e = .returned v' /\ Below W.heap.size W w' /\ Sl w' v' n := by
 have CC := Hd (cloneS_ok v n hn W h)
 obtain ⟨A0, c0, rfl⟩ : ∃ A c, v = .slice A n c := by
  rcases h.form with ⟨rfl, rfl⟩ | ⟨g, c, cur, rfl, _⟩ <;> exact ⟨_, _, rfl⟩
 clear h
 go_enter Tryz.func149, Tryz.ntmps149
 go_wp2_with fail
 refine CC.o.mono ?_
 rintro e w1 ⟨v1, rfl, hb1, xs, ho, h1⟩
 obtain ⟨A1, c1, rfl⟩ := own_slice ho
 have HB := Hd hb1
 have HX := Hd (show ∃ xs, w1.ownsRow W.heap.size 258 33 (.slice A1 n c1) n xs /\ ∀ u ∈ xs, u.oneCell' = true from ⟨xs, ho, h1⟩)
 clear CC ho h1 hb1
 go_wp2_with fail
 go_loopw [8] (fun i wr => ∃ j : Nat, j <= n /\ i = .int .i64 j /\ Hi (Below W.heap.size W wr) /\ Hi (∃ xs, wr.ownsRow W.heap.size 258 33 (.slice A1 n c1) n xs /\ ∀ u ∈ xs, u.oneCell' = true)) (fun i _ => n - (intOf i).toNat)
 case atStart => exact ⟨0, by omega, rfl, HB, HX⟩
 case round =>
  clear HB HX
  obtain ⟨j, hj, rfl, HB, HX⟩ := hrel
  by_cases hjn : j < n
  . obtain ⟨xs, ho, h1⟩ := HX.o
    obtain ⟨_, h2 | ⟨g, c, cur, he, hb, hg, hc, hm, hz, hx⟩⟩ := id ho
    . omega
    cases he
    have hcl : ∃ u, wr.cell? ⟨g, j * 33 + 32, none⟩ = some u := by
     rw [Blk.cell (t := 258) (cs := cur) hg]
     exact ⟨_, Array.getElem?_eq_getElem (by omega)⟩
    obtain ⟨u, hcu⟩ := hcl
    have hfz : wr.frozen? ⟨g, j * 33 + 32, none⟩ = false := Blk.frozen (t := 258) (cs := cur) hg _
    have hd := decide_eq_true (show (j : Int) < (n : Nat) by omega)
    obtain ⟨i, hi, hz0, hz1, hz2⟩ := secInfo
    clear hg hx hz hm hc
    go_wp2_with fail
    refine ⟨⟨j + 1, by omega, by rw [show ((j + 1 : Nat) : Int) = (j : Int) + 1 by omega], Hd (HB.o.setCell hb _), Hd ⟨_, own_set ho _, ?_⟩⟩, by simp [intOf]; omega⟩
    intro u' hu'
    rcases List.mem_or_eq_of_mem_set hu' with hu' | rfl
    . exact h1 _ hu'
    . rfl
  . have hd := decide_eq_false (show ¬ (j : Int) < (n : Nat) by omega)
    go_wp2_with fail
    refine bodyPost_ret (results_one rfl _ _ rfl) rfl ⟨_, rfl, HB.o, ?_⟩
    obtain ⟨xs, ho, h1⟩ := HX.o
    exact ⟨xs, Joins.ownsRow_le ho (Nat.zero_le _), h1⟩
end Bk
namespace Bk
open Go.RowKit Go.Deep Mp Mo
open Pr (Below.of_grown Keep.of_grown)
open Cal (results_one results_two results_three)
open Go.ChangeMaps (setBlock)
def setN (L : List (UInt8 × Value)) (d : UInt8) (v : Value) : List (UInt8 × Value) := if hasN L d then L.map (fun p => if p.1 == d then (d, v) else p) else L ++ [(d, v)]
def OkN (L : List (UInt8 × Value)) (d : UInt8) : Prop := (L = [] /\ d = 48) ∨ (∃ u, L = [(48, u)] /\ d = 48) ∨ (∃ u, L = [(48, u)] /\ d = 49) ∨ ∃ u v, L = [(48, u), (49, v)] /\ (d = 48 ∨ d = 49)
theorem OkN.two {L : List (UInt8 × Value)} {d : UInt8} (h : OkN L d) : LOk2 L /\ (d = 48 ∨ d = 49) := by
 rcases h with ⟨rfl, rfl⟩ | ⟨u, rfl, rfl⟩ | ⟨u, rfl, rfl⟩ | ⟨u, v, rfl, h⟩
 . exact ⟨.inl rfl, .inl rfl⟩
 . exact ⟨.inr (.inl ⟨_, rfl⟩), .inl rfl⟩
 . exact ⟨.inr (.inl ⟨_, rfl⟩), .inr rfl⟩
 . exact ⟨.inr (.inr ⟨_, _, rfl⟩), h⟩
theorem OkN.set {L : List (UInt8 × Value)} {d : UInt8} (h : OkN L d) (v : Value) : OkN (setN L d v) d /\ hasN (setN L d v) d = true /\ getN (setN L d v) d = v := by
 rcases h with ⟨rfl, rfl⟩ | ⟨u, rfl, rfl⟩ | ⟨u, rfl, rfl⟩ | ⟨u, v', rfl, rfl | rfl⟩
 . exact ⟨.inr (.inl ⟨_, rfl, rfl⟩), rfl, rfl⟩
 . exact ⟨.inr (.inl ⟨_, rfl, rfl⟩), rfl, rfl⟩
 . exact ⟨.inr (.inr (.inr ⟨_, _, rfl, .inr rfl⟩)), rfl, rfl⟩
 . exact ⟨.inr (.inr (.inr ⟨_, _, rfl, .inl rfl⟩)), rfl, rfl⟩
 . exact ⟨.inr (.inr (.inr ⟨_, _, rfl, .inr rfl⟩)), rfl, rfl⟩
theorem updF {L : List (UInt8 × Value)} {d : UInt8} (h : OkN L d) (v : Value) (bf : Nat) (w : World) (hm : w.heap[bf]? = some (.map (filesE L) L.length)) :
 (Instr.mapUpdate 125 (.map (some bf)) (.string (nm d)) v).run Tryz.prog w = .ok () (setBlock w bf (.map (filesE (setN L d v)) (setN L d v).length)) := by
 have hk : MapKept.IsKey .string (.string (nm d)) := trivial
 rcases h with ⟨rfl, rfl⟩ | ⟨u, rfl, rfl⟩ | ⟨u, rfl, rfl⟩ | ⟨u, v', rfl, rfl | rfl⟩
 . exact run_update1_new (d := .string) Tryz.underlying125 (by kernel_rfl) hk bf _ _ rfl w hm
 . exact run_update1_old (d := .string) (u := u) Tryz.underlying125 (by kernel_rfl) hk bf _ _ 0 ⟨.string (nm 48), u, 0⟩ rfl rfl rfl w hm
 . exact run_update1_new (d := .string) Tryz.underlying125 (by kernel_rfl) hk bf _ _ rfl w hm
 . exact run_update1_old (d := .string) (u := u) Tryz.underlying125 (by kernel_rfl) hk bf _ _ 0 ⟨.string (nm 48), u, 0⟩ rfl rfl rfl w hm
 . exact run_update1_old (d := .string) (u := v') Tryz.underlying125 (by kernel_rfl) hk bf _ _ 1 ⟨.string (nm 49), v', 1⟩ rfl rfl rfl w hm
def FileP (bf : Nat) (L : List (UInt8 × Value)) (d : UInt8) (n : Nat) (W : World) (S : List Nat) (w' : World) : Prop := Keep S W w' /\ ∃ v', Sl w' v' n /\ w'.heap[bf]? = some (.map (filesE (setN L d v')) (setN L d v').length)
theorem sync1_ok (gd bf bd bn : Nat) (room ops : Int) (L : List (UInt8 × Value)) (d : UInt8) (hL : OkN L d) (n : Nat) (hn : n <= 1000000) (W : World) (h : HasO [] W [(gd, .cells (diskE bf room ops) 127), (bd, .cells #[.pointer (some ⟨gd, 0, none⟩)] 62), (bn, .cells #[.string (nm d)] 9), (bf, .map (filesE L) L.length)] W) (hs : Sl W (getN L d) n) :
 Calls Tryz.prog 243 #[.pointer (some ⟨bd, 0, none⟩), .pointer (some ⟨bn, 0, none⟩)] W fun e w' => e = .returned (.tuple #[]) /\ FileP bf L d n W [bf] w' := by
 have CL := Hd (fun w hw => lookF hL.two.1 d hL.two.2 bf false w hw)
 have CU := Hd (fun v w hw => updF hL v bf w hw)
 have CS := Hd (fun w (hb : Below W.heap.size W w) => synced_ok (getN L d) n hn w (hs.step hb))
 have H1 := Hd h
 obtain ⟨s, hsd⟩ : ∃ s, s = nm d := ⟨_, rfl⟩
 obtain ⟨v0, hv0⟩ : ∃ v0, v0 = getN L d := ⟨_, rfl⟩
 simp only [Bool.false_eq_true, if_false] at CL
 rw [<- hsd] at CL CU H1
 rw [<- hv0] at CL CS
 clear h hs hn hL hv0 hsd
 go_enter Tryz.func243, Tryz.ntmps243
 go_wp2_with fail
 refine wp_region_regF (fun w' => HasO [] W [(gd, .cells (diskE bf room ops) 127), (bd, .cells #[.pointer (some ⟨gd, 0, none⟩)] 62), (bn, .cells #[.string s] 9), (bf, .map (filesE L) L.length)] w') (fun w' => HasO [bf] W [(gd, .cells (diskE bf room ops) 127), (bd, .cells #[.pointer (some ⟨gd, 0, none⟩)] 62), (bn, .cells #[.string s] 9)] w') (fun _ => (0, #[])) [0, 1, 2, 3, 4, 5, 6, 7, 8, 9] [] [10, 11, 12] [0, 1, 2, 3, 4, 5] (by kernel_rfl) (by kernel_rfl) ?_ (fun w w' h hb => h.step hb) ?_ (fun k hk => by cases hk) ?_
 . exact fun w h => ⟨h.1.mono (by simp), (h.of_mem (gs := [(gd, .cells (diskE bf room ops) 127), (bd, .cells #[.pointer (some ⟨gd, 0, none⟩)] 62), (bn, .cells #[.string s] 9)]) (by simp)).2⟩
 . exact H1.o.drew
 simp only [List.map_cons, List.map_nil, opAt, List.getElem?_cons_succ, List.getElem?_cons_zero, Option.getD_some, List.contains_cons, List.contains_nil, Nat.reduceBEq, Bool.or_false, Bool.or_true, Bool.true_or, Bool.false_or]
 refine wpX_float rfl ?_
 refine wpQuiet_cell 62 (.tmp 0) rfl rfl ⟨bd, 0, none⟩ rfl (.pointer (some ⟨gd, 0, none⟩)) _ (fun w hw => (hw.get 1 rfl).cell 0) Tryz.underlying62 rfl (fun K1 k1 => ?_)
 go_simp
 refine k1 _ ?_
 clear k1 K1
 refine wpQuiet_nil ?_
 repeat (refine wpX_float rfl ?_; go_big_quiet_step ((intro _; rfl)); refine wpQuiet_nil ?_)
 refine wpX_float rfl ?_
 refine wpQuiet_cell 125 (.tmp 4) rfl rfl ⟨gd, 0, none⟩ rfl (.map (some bf)) _ (fun w hw => (hw.get 0 rfl).cell 0) Tryz.underlying125 rfl (fun K1 k1 => ?_)
 go_simp
 refine k1 _ ?_
 clear k1 K1
 refine wpQuiet_nil ?_
 refine wpX_float rfl ?_
 refine wpQuiet_cell 9 (.tmp 1) rfl rfl ⟨bn, 0, none⟩ rfl (.string s) _ (fun w hw => (hw.get 2 rfl).cell 0) Tryz.underlying9 rfl (fun K1 k1 => ?_)
 go_simp
 refine k1 _ ?_
 clear k1 K1
 refine wpQuiet_nil ?_
 refine wpX_float rfl ?_
 refine wpQuiet_cell 62 (.tmp 0) rfl rfl ⟨bd, 0, none⟩ rfl (.pointer (some ⟨gd, 0, none⟩)) _ (fun w hw => (hw.get 1 rfl).cell 0) Tryz.underlying62 rfl (fun K1 k1 => ?_)
 go_simp
 refine k1 _ ?_
 clear k1 K1
 refine wpQuiet_nil ?_
 repeat (refine wpX_pure rfl ?_; go_big_quiet_step ((intro _; rfl)); refine wpQuiet_nil ?_)
 refine wpX_pure rfl ?_
 refine wpQuiet_cell 125 (.tmp 9) rfl rfl ⟨gd, 0, none⟩ rfl (.map (some bf)) _ (fun w hw => (hw.get 0 rfl).cell 0) Tryz.underlying125 rfl (fun K1 k1 => ?_)
 go_simp
 refine k1 _ ?_
 clear k1 K1
 refine wpQuiet_nil ?_
 refine wpX_pure rfl ?_
 refine wpQuiet_cell 9 (.tmp 1) rfl rfl ⟨bn, 0, none⟩ rfl (.string s) _ (fun w hw => (hw.get 2 rfl).cell 0) Tryz.underlying9 rfl (fun K1 k1 => ?_)
 go_simp
 refine k1 _ ?_
 clear k1 K1
 refine wpQuiet_nil ?_
 refine wpX_nil ?_
 intro gs w5 H5
 intro hmade
 simp only [putAll, wpTail, opAt, List.getElem?_cons_succ, List.getElem?_cons_zero, Option.getD_some, Act.put]
 have H5 := Hd H5
 clear hmade H1
 have hlk := CL.o w5 (H5.o.obj 3 rfl)
 go_wp2_with fail
 refine ⟨⟨H5.o.1.mono (by simp), (H5.o.of_mem (gs := [(gd, .cells (diskE bf room ops) 127), (bd, .cells #[.pointer (some ⟨gd, 0, none⟩)] 62), (bn, .cells #[.string s] 9)]) (by simp)).2⟩, ?_⟩
 clear hlk
 go_wp2_with fail
 refine (CS.o _ H5.o.below).mono ?_
 rintro e w6 ⟨v6, rfl, hb6, hs6⟩
 have H6 := Hd (H5.o.step hb6)
 have HS6 := Hd hs6
 clear hb6 hs6 H5 CS
 go_wp2_with fail
 refine ⟨⟨H6.o.1.mono (by simp), (H6.o.of_mem (gs := [(gd, .cells (diskE bf room ops) 127), (bd, .cells #[.pointer (some ⟨gd, 0, none⟩)] 62), (bn, .cells #[.string s] 9)]) (by simp)).2⟩, ?_⟩
 go_wp2_with (refine wpList_update1 rfl 125 (.tmp 5) (.tmp 6) (.tmp 13) rfl bf (.string s) v6 rfl rfl rfl (filesE L) L.length _ (H6.o.obj 3 rfl) (CU.o v6 _ (H6.o.obj 3 rfl)) ?_; intro W7 HT7)
 have K7 : Hi (Keep [bf] W W7) := Hd ((H6.o.1.mono (by simp)).trans HT7.keep (fun k hk => .inl hk))
 have K8 : HasO [bf] W [(gd, .cells (diskE bf room ops) 127), (bd, .cells #[.pointer (some ⟨gd, 0, none⟩)] 62), (bn, .cells #[.string s] 9)] W7 := ⟨K7.o, fun f hf => (HT7.far f.1 (H6.o.apart 3 rfl rfl f (by simpa using hf))).trans (H6.o.2 f (List.mem_of_mem_take (i := 3) hf))⟩
 refine ⟨K8, ?_⟩
 go_wp2_with fail
 go_end0
 refine ⟨rfl, K7.o, v6, HS6.o.keep HT7.keep ?_, HT7.at_⟩
 intro k hk cur hc
 simp only [List.mem_singleton] at hk
 subst hk
 rw [H6.o.obj 3 rfl] at hc; cases hc
end Bk
end Go.Proofs.YtkdnebalpdebeaaGreatDoor
