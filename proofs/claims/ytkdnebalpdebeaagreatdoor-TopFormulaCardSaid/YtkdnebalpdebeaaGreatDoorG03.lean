/- Lemmas of a claim: Cls, Has, Cal -/
import Derived.Test.YtkdnebalpdebeaaGreatDoorG02
import Derived.Laws.Rows
import Derived.Laws.CopyOwn
set_option linter.unusedVariables false
set_option linter.unusedSimpArgs false
set_option maxHeartbeats 16000000
set_option maxRecDepth 100000
namespace Go.Proofs.YtkdnebalpdebeaaGreatDoor
section
open Go Go.RowKit
section
variable {P : Program} {ops : Array Oper} {C : World -> Prop}
def comesTo (P : Program) (C : World -> Prop) (v : Value) : Result Next -> Prop
 | .ok (.value u) w' => u = v /\ C w'
 | .ok .skip w' => v = undef /\ C w'
 | .ok (.enter f args) w' => Calls P f args w' fun e w'' => e = .returned v /\ C w''
 | _ => False
def StableIn (P : Program) (ops : Array Oper) (C : World -> Prop) (o : Oper) (v : Value) (a : Act) : Prop :=
 (Region.wanted o (yielded ops a.tmps) = true /\ ∀ w, C w -> comesTo P C v ((execOp a.eval o).run P w)) ∨ (Region.wanted o (yielded ops a.tmps) = false /\ v = undef)
theorem StableIn.of_same {o : Oper} {v : Value} {a a' : Act} (hy : StableIn P ops C o v a) (he : execOp a'.eval o = execOp a.eval o)
 (hw : Region.wanted o (yielded ops a'.tmps) = Region.wanted o (yielded ops a.tmps)) : StableIn P ops C o v a' := by
 unfold StableIn at *; rw [he, hw]; exact hy
theorem StableIn.wpOpM {i : Nat} {o : Oper} {v : Value} {a : Act} {w : World} (hi : ops[i]? = some o) (hy : StableIn P ops C o v a) (hC : C w) {K : Act -> World -> Prop} (h : ∀ w', C w' -> K (a.put o.dst v) w') : wpOpM P ops i K a w := by
 unfold Go.Proofs.YtkdnebalpdebeaaGreatDoor.wpOpM
 simp only [hi]
 rcases hy with ⟨hw, hv⟩ | ⟨hw, rfl⟩
 . simp only [hw, if_true]
   have h1 := hv w hC
   unfold Oper.wp
   generalize (execOp a.eval o).run P w = r at *
   cases r with
   | halt x w' => cases h1
   | ok n w' =>
     cases n <;> simp only [comesTo, Oper.upon] at h1 ⊢
     case value u => obtain ⟨rfl, hc⟩ := h1; exact h _ hc
     case skip => obtain ⟨rfl, hc⟩ := h1; exact h _ hc
     case enter f args => exact Calls.mono h1 (fun e w'' he => by obtain ⟨rfl, hc⟩ := he; exact h _ hc)
 . simp only [hw]; exact h _ hC
def edgeB (md : Region.Mode) (l : List Oper) (i j : Nat) : Bool := (opAt l j).after.any fun e => Region.binds md e && e.on == i
def pairB (md : Region.Mode) (l : List Oper) (k j : Nat) : Bool := (edgeB md l k j || (opAt l k).apart l.toArray (opAt l j)) && !edgeB md l j k
def pairsB (md : Region.Mode) (l : List Oper) : List Nat -> Bool
 | [] => true
 | k :: ks => ks.all (fun j => pairB md l k j && !(j == k)) && (!edgeB md l k k && pairsB md l ks)
def wpCls (P : Program) (ops : Array Oper) (C : World -> Prop) (Q : Act -> World -> Prop) : List Oper -> Act -> Prop
 | [], a => ∀ w, C w -> Q a w
 | o :: os, a => ∃ v, StableIn P ops C o v a /\ wpCls P ops C Q os (a.put o.dst v)
theorem wpCls_swap {Q : Act -> World -> Prop} {x y : Oper} {os : List Oper} {a : Act} (hap : x.apart ops y = true) (hx : ∀ cs b, x.op ≠ .select cs b) (hy : ∀ cs b, y.op ≠ .select cs b)
 (h : wpCls P ops C Q (x :: y :: os) a) : wpCls P ops C Q (y :: x :: os) a := by
 obtain ⟨v, h1, u, h2, h3⟩ := h
 obtain ⟨a1, a2, a3⟩ := Oper.apart_spec hap
 have k2 : StableIn P ops C y u a := h2.of_same (execOp_put y hy a x.dst v a1).symm (wanted_put y a x.dst v a1).symm
 have k1 : StableIn P ops C x v (a.put y.dst u) := h1.of_same (execOp_put x hx a y.dst u a3) (wanted_put x a y.dst u a3)
 exact ⟨u, k2, v, k1, by rw [<- Act.put_comm a v u a2]; exact h3⟩
theorem wpCls_cons {Q : Act -> World -> Prop} {o : Oper} {os os' : List Oper} (h : ∀ a, wpCls P ops C Q os a -> wpCls P ops C Q os' a) {a : Act} (hh : wpCls P ops C Q (o :: os) a) : wpCls P ops C Q (o :: os') a := by
 obtain ⟨v, h1, h2⟩ := hh; exact ⟨v, h1, h _ h2⟩
theorem wpCls_front {Q : Act -> World -> Prop} {y : Oper} {k2 : List Oper} (hy : ∀ cs b, y.op ≠ .select cs b) : ∀ (k1 : List Oper) (a : Act), (∀ x ∈ k1, x.apart ops y = true /\ ∀ cs b, x.op ≠ .select cs b) ->
 wpCls P ops C Q (k1 ++ y :: k2) a -> wpCls P ops C Q (y :: (k1 ++ k2)) a
 | [], _, _, h => h
 | x :: k1, a, hap, h => by
   have h1 : wpCls P ops C Q (x :: y :: (k1 ++ k2)) a := wpCls_cons (fun a h => wpCls_front hy k1 a (fun z hz => hap z (List.mem_cons_of_mem _ hz)) h) h
   exact wpCls_swap (hap x List.mem_cons_self).1 (hap x List.mem_cons_self).2 hy h1
theorem pairsB_spec {md : Region.Mode} {l : List Oper} : ∀ {ks : List Nat}, pairsB md l ks = true -> ks.Pairwise (fun k j => pairB md l k j = true /\ j ≠ k) /\ ∀ k ∈ ks, edgeB md l k k = false
 | [], _ => ⟨.nil, fun _ h => by cases h⟩
 | k :: ks, h => by
   simp only [pairsB, Bool.and_eq_true, List.all_eq_true, Bool.not_eq_true'] at h
   obtain ⟨h1, h2, h3⟩ := h
   obtain ⟨i1, i2⟩ := pairsB_spec h3
   refine ⟨List.pairwise_cons.2 ⟨fun j hj => ?_, i1⟩, fun j hj => ?_⟩
   . have := h1 j hj
     exact ⟨this.1, by have h := this.2; intro e; simp [e] at h⟩
   . rcases List.mem_cons.1 hj with rfl | hj
     . exact h2
     . exact i2 j hj
theorem edge_of {md : Region.Mode} {l : List Oper} {i j : Nat} {o : Oper} (ho : l[j]? = some o) {e : Edge} (he : e ∈ o.after) (hb : Region.binds md e = true) (h : e.on = i) : edgeB md l i j = true := by
 have : opAt l j = o := by simp [opAt, ho]
 rw [edgeB, this, Array.any_eq_true']
 exact ⟨e, he, by simp [hb, h]⟩
theorem opAt_toArray {l : List Oper} {k : Nat} (h : k < l.length) : l.toArray[k]? = some (opAt l k) := by simp [opAt, h]
theorem edge_ready {md : Region.Mode} {l : List Oper} {i j : Nat} {listed : Array Bool} (hlt : j < l.length) (h : edgeB md l i j = true) (hr : j ∈ Region.ready md l.toArray listed) : listed.getD i false = true := by
 obtain ⟨_, o, ho, hall⟩ := mem_ready.1 hr
 rw [opAt_toArray hlt] at ho
 cases ho
 rw [edgeB, Array.any_eq_true'] at h
 obtain ⟨e, he, h⟩ := h
 simp only [Bool.and_eq_true, beq_iff_eq] at h
 rw [<- h.2]; exact hall e he h.1
theorem getD_two {listed : Array Bool} {k : Nat} (h : listed.getD k true = false) : listed.getD k false = false := by
 rcases Nat.lt_or_ge k listed.size with h' | h' <;> simp_all
theorem wpAnyM_of_cls {md : Region.Mode} {l : List Oper} {Q G : Act -> World -> Prop} {m : Nat} (hsel : ∀ (j : Nat) (o : Oper) cs b, l.toArray[j]? = some o -> o.op ≠ .select cs b)
 (hin : ∀ (j : Nat) (o : Oper), l[j]? = some o -> ∀ e ∈ o.after, Region.binds md e = true -> e.on < l.length) :
 ∀ (ks : List Nat) (listed : Array Bool) (a : Act) (w : World), listed.size = l.length -> (∀ k ∈ ks, k < l.length /\ listed.getD k true = false) ->
   (∀ j, j < l.length -> listed.getD j true = false -> j ∉ ks -> ∀ k ∈ ks, edgeB md l k j = true) ->
   (∀ k ∈ ks, ∀ j, j < l.length -> listed.getD j true = false -> j ∉ ks -> edgeB md l j k = false) ->
   ks.Pairwise (fun k j => pairB md l k j = true /\ j ≠ k) -> (∀ k ∈ ks, edgeB md l k k = false) -> C w ->
   (∀ (listed' : Array Bool) (a : Act) (w : World), C w -> G a w -> listed'.size = l.length -> (∀ j, listed'.getD j true = false ↔ (listed.getD j true = false /\ j ∉ ks)) -> wpAnyM P md l.toArray (fun _ => True) Q m listed' a w) ->
   wpCls P l.toArray C G (ks.map (opAt l)) a -> wpAnyM P md l.toArray (fun _ => True) Q (ks.length + m) listed a w := by
 intro ks
 generalize hn : ks.length = n
 induction n generalizing ks with
 | zero =>
   intro listed a w hs _ _ _ _ _ hC hG h
   have : ks = [] := List.length_eq_zero_iff.1 hn
   subst this
   rw [Nat.zero_add]
   exact hG listed a w hC (h w hC) hs (fun j => by simp)
 | succ n ih =>
   intro listed a w hs hks hout hout2 hpw hself hC hG h
   rw [Nat.add_right_comm]
   have hready : Region.ready md l.toArray listed ≠ [] := by
    cases ks with
    | nil => simp at hn
    | cons k ks' =>
      intro h0
      have hk := hks k List.mem_cons_self
      have : k ∈ Region.ready md l.toArray listed := mem_ready.2 ⟨hk.2, opAt l k, opAt_toArray hk.1, fun e he hb => by
       have hko : l[k]? = some (opAt l k) := by simp [opAt, hk.1]
       have hlt := hin k _ hko e he hb
       cases hl : listed.getD e.on false with
       | true => rfl
       | false =>
         have hl' : listed.getD e.on true = false := by
          have h1 : e.on < listed.size := by omega
          simp [h1] at hl ⊢; exact hl
         have hedge := edge_of hko he hb rfl
         by_cases hmem : e.on ∈ k :: ks'
         . rcases List.mem_cons.1 hmem with e1 | e1
           . rw [e1] at hedge; exact absurd hedge (by simp [hself k List.mem_cons_self])
           . have := (List.pairwise_cons.1 hpw).1 _ e1
             simp only [pairB, Bool.and_eq_true, Bool.not_eq_true'] at this
             rw [this.1.2] at hedge; cases hedge
         . have := hout2 k List.mem_cons_self e.on hlt hl' hmem
           rw [this] at hedge; cases hedge⟩
      rw [h0] at this
      cases this
   refine ⟨fun h0 => absurd h0 hready, fun i hi => ?_⟩
   obtain ⟨hun, o, ho, hall⟩ := mem_ready.1 hi
   have hlt : i < l.length := by
    rcases Nat.lt_or_ge i l.length with h' | h'
    . exact h'
    . rw [Array.getElem?_eq_none (by simpa using h')] at ho; cases ho
   have hik : i ∈ ks := by
    rcases Classical.em (i ∈ ks) with h' | h'
    . exact h'
    . cases ks with
      | nil => simp at hn
      | cons k ks' =>
        have := edge_ready hlt (hout i hlt hun h' k List.mem_cons_self) hi
        have h2 := getD_two (hks k List.mem_cons_self).2
        rw [this] at h2; cases h2
   obtain ⟨k1, k2, rfl⟩ := List.append_of_mem hik
   have hap : ∀ x ∈ k1.map (opAt l), x.apart l.toArray (opAt l i) = true /\ ∀ cs b, x.op ≠ .select cs b := fun x hx => by
    obtain ⟨k, hk, rfl⟩ := List.mem_map.1 hx
    have hk' := hks k (by simp [hk])
    refine ⟨?_, fun cs b => hsel k _ cs b (opAt_toArray hk'.1)⟩
    have hp := (List.pairwise_append.1 hpw).2.2 k hk i List.mem_cons_self
    simp only [pairB, Bool.and_eq_true, Bool.or_eq_true] at hp
    rcases hp.1.1 with he | he
    . have := edge_ready hlt he hi
      have h2 := getD_two hk'.2
      rw [this] at h2; cases h2
    . exact he
   have hfr := wpCls_front (P := P) (C := C) (Q := G) (y := opAt l i) (k2 := k2.map (opAt l)) (fun cs b => hsel i _ cs b (opAt_toArray hlt)) (k1.map (opAt l)) a hap (by simpa using h)
   obtain ⟨v, hst, hrest⟩ := hfr
   refine hst.wpOpM (opAt_toArray hlt) hC fun w' hC' => ⟨trivial, ?_⟩
   have hnd : ∀ j, j ∈ k1 ++ k2 -> j ≠ i := fun j hj e => by
    subst e
    rcases List.mem_append.1 hj with hj | hj
    . exact ((List.pairwise_append.1 hpw).2.2 j hj j List.mem_cons_self).2 rfl
    . exact ((List.pairwise_cons.1 (List.pairwise_append.1 hpw).2.1).1 j hj).2 rfl
   have hgd : ∀ j, (listed.setIfInBounds i true).getD j true = false ↔ (listed.getD j true = false /\ j ≠ i) := fun j => by
    by_cases hji : i = j
    . subst hji; simp [hs, hlt]
    . rw [getD_set_ne true hji]; exact ⟨fun h => ⟨h, fun e => hji e.symm⟩, fun h => h.1⟩
   have hmem : ∀ j, j ∈ k1 ++ i :: k2 ↔ (j ∈ k1 ++ k2 ∨ j = i) := fun j => by
    simp only [List.mem_append, List.mem_cons]
    constructor
    . rintro (h | rfl | h)
      . exact .inl (.inl h)
      . exact .inr rfl
      . exact .inl (.inr h)
    . rintro ((h | h) | rfl)
      . exact .inl h
      . exact .inr (.inr h)
      . exact .inr (.inl rfl)
   refine ih (k1 ++ k2) (by simp at hn ⊢; omega) (listed.setIfInBounds i true) _ w' (by simp [hs]) (fun k hk => ?_) (fun j hj hl hjk k hk => ?_) (fun k hk j hj hl hjk => ?_) ?_ (fun k hk => hself k ((hmem k).2 (.inl hk))) hC' ?_ (by rw [List.map_append]; exact hrest)
   . exact ⟨(hks k ((hmem k).2 (.inl hk))).1, (hgd k).2 ⟨(hks k ((hmem k).2 (.inl hk))).2, hnd k hk⟩⟩
   . have := (hgd j).1 hl
     exact hout j hj this.1 (fun h => by rcases (hmem j).1 h with h | h; exact hjk h; exact this.2 h) k ((hmem k).2 (.inl hk))
   . have := (hgd j).1 hl
     exact hout2 k ((hmem k).2 (.inl hk)) j hj this.1 (fun h => by rcases (hmem j).1 h with h | h; exact hjk h; exact this.2 h)
   . exact hpw.sublist ((List.sublist_cons_self i k2).append_left k1)
   . intro listed' a' w'' hc hg hsz hl
     refine hG listed' a' w'' hc hg hsz (fun j => ?_)
     rw [hl j, hgd j]
     constructor
     . rintro ⟨⟨h1, h2⟩, h3⟩; exact ⟨h1, fun h => by rcases (hmem j).1 h with h | h; exact h3 h; exact h2 h⟩
     . rintro ⟨h1, h2⟩; exact ⟨⟨h1, fun e => h2 ((hmem j).2 (.inr e))⟩, fun h => h2 ((hmem j).2 (.inl h))⟩
def clsB (l : List Oper) (ks : List Nat) (z : Option Nat) : Bool :=
 Region.noSelect l.toArray && (l.all (fun o => o.after.all fun e => !Region.binds .any e || decide (e.on < l.length)) && (ks.all (fun k => decide (k < l.length)) && (pairsB .any l ks &&
  (match z with
  | none => ks.length == l.length && (List.range l.length).all fun j => ks.contains j
  | some z => decide (z < l.length) && (ks.length + 1 == l.length && (!ks.contains z && (ks.all (fun k => edgeB .any l k z && !edgeB .any l z k) && (!edgeB .any l z z && (List.range l.length).all fun j => ks.contains j || j == z))))))))
theorem wp_region_cls {id : Nat} {Q : Exit -> Act -> World -> Prop} {a : Act} {w : World} {l : List Oper} (C : World -> Prop) (ks : List Nat) (hm : P.follows .mixedOrders = true) (hB : clsB l ks none = true)
 (hC : C w.drew) (h : wpCls P l.toArray C (fun a' w' => Q .normal a' w') (ks.map (opAt l)) a) : (Code.region id l.toArray true).wp P Q a w := by
 simp only [clsB, Bool.and_eq_true, List.all_eq_true, Array.all_eq_true_iff_forall_mem, decide_eq_true_eq, beq_iff_eq, List.contains_iff_mem, List.mem_range, Bool.or_eq_true, Bool.not_eq_true'] at hB
 obtain ⟨h1, h2, h3, h4, h5, h6⟩ := hB
 obtain ⟨p1, p2⟩ := pairsB_spec h4
 refine wp_region_any hm (wpAny_of_M (Q := fun a' w' => Q .normal a' w') (C := fun _ => True) (fun _ _ h => h) _ _ _ _ ?_)
 have hrep : ∀ k : Nat, k < l.length -> (Array.replicate l.length false).getD k true = false := fun k hk => by simp [hk]
 have := wpAnyM_of_cls (P := P) (C := C) (md := .any) (l := l) (Q := fun a' w' => Q .normal a' w') (G := fun a' w' => Q .normal a' w') (m := 0) (fun j o cs b ho => Region.noSelect_spec h1 j o cs b ho)
  (fun j o ho e he hb => by rcases h2 o (List.mem_of_getElem? ho) e he with h | h; rw [hb] at h; cases h; exact h)
  ks (Array.replicate l.length false) a w.drew (by simp) (fun k hk => ⟨h3 k hk, hrep k (h3 k hk)⟩) (fun j hj _ hn => absurd (h6 j hj) hn) (fun _ _ j hj _ hn => absurd (h6 j hj) hn) p1 p2 hC
  (fun listed' a' w' _ hg hsz hl => ⟨?_, hg⟩) h
 . rw [h5] at this; simpa using this
 . refine List.eq_nil_iff_forall_not_mem.2 fun i hi => ?_
   obtain ⟨hun, o, ho, _⟩ := mem_ready.1 hi
   have hlt : i < l.length := by
    rcases Nat.lt_or_ge i l.length with h' | h'
    . exact h'
    . rw [Array.getElem?_eq_none (by simpa using h')] at ho; cases ho
   exact ((hl i).1 hun).2 (h6 i hlt)
theorem wp_region_clsZ {id : Nat} {Q : Exit -> Act -> World -> Prop} {a : Act} {w : World} {l : List Oper} (C : World -> Prop) (ks : List Nat) (z : Nat) (hm : P.follows .mixedOrders = true) (hB : clsB l ks (some z) = true)
 (hC : C w.drew) (h : wpCls P l.toArray C (fun a' w' => wpList P l.toArray (onlyNormal fun a w => Q .normal a w) [opAt l z] a' w') (ks.map (opAt l)) a) : (Code.region id l.toArray true).wp P Q a w := by
 simp only [clsB, Bool.and_eq_true, List.all_eq_true, Array.all_eq_true_iff_forall_mem, decide_eq_true_eq, beq_iff_eq, List.contains_iff_mem, List.mem_range, Bool.or_eq_true, Bool.not_eq_true'] at hB
 obtain ⟨h1, h2, h3, h4, hz, h5, hzn, h7, hzz, h6⟩ := hB
 obtain ⟨p1, p2⟩ := pairsB_spec h4
 refine wp_region_any hm (wpAny_of_M (Q := fun a' w' => Q .normal a' w') (C := fun _ => True) (fun _ _ h => h) _ _ _ _ ?_)
 have hrep : ∀ k : Nat, k < l.length -> (Array.replicate l.length false).getD k true = false := fun k hk => by simp [hk]
 have hzn' : z ∉ ks := fun h => by have := List.elem_eq_true_of_mem h; simp_all
 have hj6 : ∀ j, j < l.length -> j ∉ ks -> j = z := fun j hj hn => (h6 j hj).resolve_left hn
 have := wpAnyM_of_cls (P := P) (C := C) (md := .any) (l := l) (Q := fun a' w' => Q .normal a' w') (G := fun a' w' => wpList P l.toArray (onlyNormal fun a w => Q .normal a w) [opAt l z] a' w') (m := 1) (fun j o cs b ho => Region.noSelect_spec h1 j o cs b ho)
  (fun j o ho e he hb => by rcases h2 o (List.mem_of_getElem? ho) e he with h | h; rw [hb] at h; cases h; exact h)
  ks (Array.replicate l.length false) a w.drew (by simp) (fun k hk => ⟨h3 k hk, hrep k (h3 k hk)⟩) (fun j hj _ hn k hk => by rw [hj6 j hj hn]; exact (h7 k hk).1) (fun k hk j hj _ hn => by rw [hj6 j hj hn]; exact (h7 k hk).2) p1 p2 hC
  (fun listed' a' w' _ hg hsz hl => ?_) h
 . rw [h5] at this; simpa using this
 . have hzl : l.toArray[z]? = some (opAt l z) := opAt_toArray hz
   have hzr : ∀ i, i ∈ Region.ready .any l.toArray listed' -> i = z := fun i hi => by
    obtain ⟨hun, o, ho, _⟩ := mem_ready.1 hi
    have hlt : i < l.length := by
     rcases Nat.lt_or_ge i l.length with h' | h'
     . exact h'
     . rw [Array.getElem?_eq_none (by simpa using h')] at ho; cases ho
    exact hj6 i hlt ((hl i).1 hun).2
   have hzin : z ∈ Region.ready .any l.toArray listed' := mem_ready.2 ⟨(hl z).2 ⟨hrep z hz, hzn'⟩, _, hzl, fun e he hb => by
    have hlt : e.on < l.length := by
     rcases h2 _ (List.mem_of_getElem? (by simp [opAt, hz] : l[z]? = some (opAt l z))) e he with h | h
     . rw [hb] at h; cases h
     . exact h
    cases hg : listed'.getD e.on false with
    | true => rfl
    | false =>
      have hg' : listed'.getD e.on true = false := by
       have h1 : e.on < listed'.size := by omega
       simp [h1] at hg ⊢; exact hg
      have := hj6 _ hlt ((hl _).1 hg').2
      have he2 := edge_of (md := .any) (by simp [opAt, hz] : l[z]? = some (opAt l z)) he hb this
      rw [hzz] at he2; cases he2⟩
   refine ⟨fun h0 => (by rw [h0] at hzin; cases hzin), fun i hi => ?_⟩
   obtain rfl := hzr i hi
   refine wpOpM_mono (fun a w hq => ⟨trivial, ?_, hq⟩) (wpOpM_of_list hzl hg)
   refine List.eq_nil_iff_forall_not_mem.2 fun j hj => ?_
   have hun := (mem_ready.1 hj).1
   obtain ⟨o, ho, _⟩ := (mem_ready.1 hj).2
   by_cases hji : i = j
   . subst hji
     have hi' : i < listed'.size := by omega
     simp [hi'] at hun
   . rw [getD_set_ne true hji] at hun
     have hlt : j < l.length := by
      rcases Nat.lt_or_ge j l.length with h' | h'
      . exact h'
      . rw [Array.getElem?_eq_none (by simpa using h')] at ho; cases ho
     exact hji (hj6 j hlt ((hl j).1 hun).2).symm
theorem comes_of_quiet {w : World} {v : Value} {r : Result Next} (hC : C w) (h : Oper.quietUpon P C w v r) : comesTo P C v r := by
 unfold Oper.quietUpon at h
 split at h
 . obtain ⟨rfl, rfl⟩ := h; exact ⟨rfl, hC⟩
 . obtain ⟨rfl, rfl⟩ := h; exact ⟨rfl, hC⟩
 . obtain ⟨rfl, h⟩ := h; exact h
 . exact h.elim
theorem wpCls_of_quiet {G : Act -> Prop} {Q : Act -> World -> Prop} (hG : ∀ a, G a -> ∀ w, C w -> Q a w) : ∀ (os : List Oper) (a : Act), wpQuiet P ops C G os a -> wpCls P ops C Q os a
 | [], a, h => hG a h
 | o :: os, a, h => by
   unfold wpQuiet at h
   split at h
   . rename_i hw
     obtain ⟨v, h1, h2⟩ := h
     exact ⟨v, .inl ⟨hw, fun w hC => comes_of_quiet hC (h1 w hC)⟩, wpCls_of_quiet hG os _ h2⟩
   . rename_i hw
     exact ⟨undef, .inr ⟨by simpa using hw, rfl⟩, wpCls_of_quiet hG os _ h⟩
theorem wp_region_class {id : Nat} {Q : Exit -> Act -> World -> Prop} {a : Act} {w : World} {l : List Oper} (C : World -> Prop) (ks : List Nat) (hm : P.follows .mixedOrders = true) (hB : clsB l ks none = true)
 (hC : C w.drew) (h : wpQuiet P l.toArray C (fun a' => ∀ w', C w' -> Q .normal a' w') (ks.map (opAt l)) a) : (Code.region id l.toArray true).wp P Q a w :=
 wp_region_cls C ks hm hB hC (wpCls_of_quiet (fun _ h => h) _ _ h)
theorem wp_region_classZ {id : Nat} {Q : Exit -> Act -> World -> Prop} {a : Act} {w : World} {l : List Oper} (C : World -> Prop) (ks : List Nat) (z : Nat) (hm : P.follows .mixedOrders = true) (hB : clsB l ks (some z) = true)
 (hC : C w.drew) (h : wpQuiet P l.toArray C (fun a' => ∀ w', C w' -> wpList P l.toArray (onlyNormal fun a w => Q .normal a w) [opAt l z] a' w') (ks.map (opAt l)) a) : (Code.region id l.toArray true).wp P Q a w :=
 wp_region_clsZ C ks z hm hB hC (wpCls_of_quiet (fun _ h => h) _ _ h)
theorem wpQuiet_val {Q : Act -> Prop} {rest : List Oper} {o : Oper} {a : Act} (v : Value) (hw : Region.wanted o (yielded ops a.tmps) = true)
 (h : ∀ w, C w -> (execOp a.eval o).run P w = .ok (.value v) w) (h2 : ∀ K : Act -> Prop, (∀ a, wpQuiet P ops C Q rest a -> K a) -> K (a.put o.dst v)) : wpQuiet P ops C Q (o :: rest) a := by
 simp only [wpQuiet, hw, if_true]
 exact ⟨v, fun w hC => by unfold Oper.quietAt; rw [h w hC]; exact ⟨rfl, rfl⟩, h2 _ (fun _ q => q)⟩
theorem wpQuiet_row {Q : Act -> Prop} {rest : List Oper} {o : Oper} {a : Act} (ty : TypeId) (x : Operand) (ho : o.op = .load ty x) (hw : Region.wanted o (yielded ops a.tmps) = true)
 (g : Nat) (hx : a.eval x = .pointer (some ⟨g, 0, none⟩)) (t : TypeId) (cs : Array Value) (d : TypeDesc) (hg : ∀ w, C w -> w.heap[g]? = some (.cells cs t (0, 0)))
 (hu : P.underlying ty = some d) (hd : (match d with | .struct _ | .array _ _ => true | _ => false) = true) (hi : (P.info? ty).map (·.size) = some cs.size)
 (h2 : ∀ K : Act -> Prop, (∀ a, wpQuiet P ops C Q rest a -> K a) -> K (a.put o.dst (.agg cs))) : wpQuiet P ops C Q (o :: rest) a := by
 refine wpQuiet_val (.agg cs) hw (fun w hC => ?_) h2
 unfold execOp
 simp only [ho, hx, Instr.loadAt, Instr.sureAddr, Sem.run_bind, Sem.run_pure, Result.andThen_ok, run_loadVar_row w g t ty cs (0, 0) d (hg w hC) hu hd hi]
theorem wpQuiet_cell {Q : Act -> Prop} {rest : List Oper} {o : Oper} {a : Act} (ty : TypeId) (x : Operand) (ho : o.op = .load ty x) (hw : Region.wanted o (yielded ops a.tmps) = true)
 (ad : Addr) (hx : a.eval x = .pointer (some ad)) (v : Value) (d : TypeDesc) (hg : ∀ w, C w -> w.cell? ad = some v)
 (hu : P.underlying ty = some d) (hd : (match d with | .struct _ | .array _ _ => false | _ => true) = true)
 (h2 : ∀ K : Act -> Prop, (∀ a, wpQuiet P ops C Q rest a -> K a) -> K (a.put o.dst v)) : wpQuiet P ops C Q (o :: rest) a := by
 refine wpQuiet_val v hw (fun w hC => ?_) h2
 unfold execOp
 have hagg : (isAgg ty).run P w = .ok false w := by
  unfold isAgg
  rw [Sem.run_bind, run_underlying hu w]
  cases d <;> simp_all
 simp only [ho, hx, Instr.loadAt, Instr.sureAddr, Sem.run_bind, Sem.run_pure, Result.andThen_ok]
 simp [loadVar, Sem.run_bind, hagg, hg w hC, go_sem]
end
end
section
open Go.RowKit Go.Deep
def Has (W : World) (fs : List (Nat × TypeId × Array Value)) (w : World) : Prop := Below W.heap.size W w /\ ∀ f ∈ fs, Blk w f.1 f.2.1 f.2.2
theorem Blk.step {w w' : World} {g : Nat} {t : TypeId} {cs : Array Value} (h : Blk w g t cs) (hb : Below w.heap.size w w') : Blk w' g t cs := by
 unfold Blk at *; rw [hb.block g (Blk.lt h)]; exact h
theorem Below.al {W w : World} (h : Below W.heap.size W w) (o : Obj) : Below W.heap.size W (w.alloc o) := h.alloc h.size o
theorem Has.nil {W w : World} (h : Below W.heap.size W w) : Has W [] w := ⟨h, fun _ h => by cases h⟩
theorem Has.cons {W w : World} {g : Nat} {t : TypeId} {cs : Array Value} {fs : List (Nat × TypeId × Array Value)} (h : Blk w g t cs) (hf : Has W fs w) : Has W ((g, t, cs) :: fs) w :=
 ⟨hf.1, fun f hm => by rcases List.mem_cons.1 hm with rfl | hm; exact h; exact hf.2 f hm⟩
theorem Has.start (W : World) : Has W [] W := Has.nil (Below.refl _ _)
theorem Has.step {W w w' : World} {fs : List (Nat × TypeId × Array Value)} (h : Has W fs w) (hb : Below w.heap.size w w') : Has W fs w' :=
 ⟨h.1.trans (hb.mono h.1.size), fun f hm => (h.2 f hm).step hb⟩
theorem Has.drew {W w : World} {fs : List (Nat × TypeId × Array Value)} (h : Has W fs w) : Has W fs w.drew := h.step (Below.refl _ _).drew
theorem Has.alloc {W w : World} {fs : List (Nat × TypeId × Array Value)} (h : Has W fs w) (o : Obj) : Has W fs (w.alloc o) := h.step ((Below.refl _ _).alloc (Nat.le_refl _) o)
theorem Has.new {W w : World} {fs : List (Nat × TypeId × Array Value)} (h : Has W fs w) {g : Nat} (hg : g = w.heap.size) (t : TypeId) (cs : Array Value) : Has W ((g, t, cs) :: fs) (w.alloc (.cells cs t)) := by
 subst hg; exact Has.cons (Blk.new w t cs) (h.alloc _)
theorem Has.size {W w : World} {fs : List (Nat × TypeId × Array Value)} (h : Has W fs w) : W.heap.size <= w.heap.size := h.1.size
theorem Has.below {W w : World} {fs : List (Nat × TypeId × Array Value)} (h : Has W fs w) : Below W.heap.size W w := h.1
theorem Has.get {W w : World} {fs : List (Nat × TypeId × Array Value)} (h : Has W fs w) (i : Nat) {f : Nat × TypeId × Array Value} (hi : fs[i]? = some f) : Blk w f.1 f.2.1 f.2.2 := h.2 f (List.mem_of_getElem? hi)
theorem Has.tail {W w : World} {f : Nat × TypeId × Array Value} {fs : List (Nat × TypeId × Array Value)} (h : Has W (f :: fs) w) : Has W fs w := ⟨h.1, fun g hm => h.2 g (List.mem_cons_of_mem _ hm)⟩
theorem Has.turn {W w w' : World} {g : Nat} {t : TypeId} {cs cs' : Array Value} {fs : List (Nat × TypeId × Array Value)} (h : Has W ((g, t, cs) :: fs) w) (hg : W.heap.size <= g) (hne : ∀ f ∈ fs, f.1 ≠ g)
 (hn : Blk w' g t cs') (hfar : ∀ g' t' c', g' ≠ g -> Blk w g' t' c' -> Blk w' g' t' c') (hbel : ∀ B w0, B <= g -> Below B w0 w -> Below B w0 w') : Has W ((g, t, cs') :: fs) w' :=
 Has.cons hn ⟨hbel _ _ hg h.1, fun f hm => hfar _ _ _ (hne f hm) (h.2 f (List.mem_cons_of_mem _ hm))⟩
theorem Has.set {W w : World} {g : Nat} {t : TypeId} {cs : Array Value} {fs : List (Nat × TypeId × Array Value)} (h : Has W ((g, t, cs) :: fs) w) (hg : W.heap.size <= g) (hne : ∀ f ∈ fs, f.1 ≠ g) (k : Nat) (v : Value) :
 Has W ((g, t, cs.setIfInBounds k v) :: fs) (w.setCell ⟨g, k, none⟩ v) :=
 Has.cons ((h.2 _ List.mem_cons_self).set_ k v) ⟨h.1.setCell hg _, fun f hm => (h.2 f (List.mem_cons_of_mem _ hm)).far (by have := hne f hm; simpa using this) _⟩
theorem Has.swap {W w : World} {f g : Nat × TypeId × Array Value} {fs : List (Nat × TypeId × Array Value)} (h : Has W (f :: g :: fs) w) : Has W (g :: f :: fs) w :=
 ⟨h.1, fun x hm => h.2 x (by simp only [List.mem_cons] at hm ⊢; rcases hm with h | h | h; exact .inr (.inl h); exact .inl h; exact .inr (.inr h))⟩
theorem Has.fresh {W w : World} {fs : List (Nat × TypeId × Array Value)} (h : Has W fs w) : ∀ f ∈ fs, f.1 ≠ w.heap.size := fun f hf => Nat.ne_of_lt (h.2 f hf).lt
theorem results_rows2 {P : Program} {fn : Func} {p u : Tmp} {ty ty' : TypeId} (h : fn.results = #[.cell p ty, .cell u ty']) (tmps : Array Value) (w : World) (g g' : Nat) (t t' : TypeId) (cs cs' : Array Value) (d d' : TypeDesc)
 (hp : tmps.getD p undef = .pointer (some ⟨g, 0, none⟩)) (hg : Blk w g t cs) (hu : P.underlying ty = some d) (hd : (match d with | .struct _ | .array _ _ => true | _ => false) = true) (hi : (P.info? ty).map (·.size) = some cs.size)
 (hp' : tmps.getD u undef = .pointer (some ⟨g', 0, none⟩)) (hg' : Blk w g' t' cs') (hu' : P.underlying ty' = some d') (hd' : (match d' with | .struct _ | .array _ _ => true | _ => false) = true) (hi' : (P.info? ty').map (·.size) = some cs'.size) :
 (results fn tmps).run P w = .ok (.tuple #[.agg cs, .agg cs']) w := by
 have hq : tmps[p]?.getD undef = .pointer (some ⟨g, 0, none⟩) := by simpa using hp
 have hq' : tmps[u]?.getD undef = .pointer (some ⟨g', 0, none⟩) := by simpa using hp'
 simp [results, h, hq, hq', asAddr, run_loadVar_row w g t ty cs (0, 0) d hg hu hd hi, run_loadVar_row w g' t' ty' cs' (0, 0) d' hg' hu' hd' hi', Result.andThen]
theorem results_row_tmp {P : Program} {fn : Func} {p u : Tmp} {ty : TypeId} (h : fn.results = #[.cell p ty, .tmp u]) (tmps : Array Value) (w : World) (g : Nat) (t : TypeId) (cs : Array Value) (d : TypeDesc) (v : Value)
 (hp : tmps.getD p undef = .pointer (some ⟨g, 0, none⟩)) (hg : Blk w g t cs)
 (hu : P.underlying ty = some d) (hd : (match d with | .struct _ | .array _ _ => true | _ => false) = true) (hi : (P.info? ty).map (·.size) = some cs.size) (hv : tmps.getD u undef = v) :
 (results fn tmps).run P w = .ok (.tuple #[.agg cs, v]) w := by
 have hq : tmps[p]?.getD undef = .pointer (some ⟨g, 0, none⟩) := by simpa using hp
 have hq' : tmps[u]?.getD undef = v := by simpa using hv
 simp [results, h, hq, hq', asAddr, run_loadVar_row w g t ty cs (0, 0) d hg hu hd hi, Result.andThen]
theorem Has.of_mem {W w : World} {fs gs : List (Nat × TypeId × Array Value)} (h : Has W fs w) (hm : ∀ f ∈ gs, f ∈ fs) : Has W gs w := ⟨h.1, fun f hf => h.2 f (hm f hf)⟩
end
namespace Cal
open Go.RowKit Go.Deep
theorem results_one {fn : Func} {u : Tmp} (h : fn.results = #[.tmp u]) (tmps : Array Value) (w : World) {v : Value} (hv : tmps.getD u undef = v) : (results fn tmps).run Tryz.prog w = .ok v w := by
 subst hv; exact results_tmp h _ _ _
theorem results_two {fn : Func} {u v : Tmp} (h : fn.results = #[.tmp u, .tmp v]) (tmps : Array Value) (w : World) {x y : Value} (hx : tmps.getD u undef = x) (hy : tmps.getD v undef = y) : (results fn tmps).run Tryz.prog w = .ok (.tuple #[x, y]) w := by
 subst hx hy
 simp [results, h, go_sem, Result.andThen]
theorem results_three {fn : Func} {u v t : Tmp} (h : fn.results = #[.tmp u, .tmp v, .tmp t]) (tmps : Array Value) (w : World) {x y z : Value} (hx : tmps.getD u undef = x) (hy : tmps.getD v undef = y) (hz : tmps.getD t undef = z) : (results fn tmps).run Tryz.prog w = .ok (.tuple #[x, y, z]) w := by
 subst hx hy hz
 simp [results, h, go_sem, Result.andThen]
def leapB (y : Int) : Bool := (y % 4 == 0 && y % 100 != 0) || y % 400 == 0
def ahd (y : Int) : Int := 365 * (y - 1) + (y - 1) / 4 - (y - 1) / 100 + (y - 1) / 400
theorem leap_ok (y : Int) (h : 0 <= y /\ y <= 100000) (W : World) : Calls Tryz.prog 215 #[.int .i64 y] W fun e w' => e = .returned (.bool (leapB y)) /\ w' = W := by
 obtain ⟨h1, h2⟩ := h
 obtain ⟨a, ha⟩ : ∃ a, a = y % 4 := ⟨_, rfl⟩
 obtain ⟨b, hb⟩ : ∃ b, b = y % 100 := ⟨_, rfl⟩
 obtain ⟨c, hc⟩ : ∃ c, c = y % 400 := ⟨_, rfl⟩
 unfold leapB
 rw [<- ha, <- hb, <- hc]
 have ea := ha.symm
 have eb := hb.symm
 have ec := hc.symm
 clear ha hb hc
 cases h4 : (a == 0) with
 | true =>
   cases h5 : (b != 0) with
   | true =>
     go_enter Tryz.func215, Tryz.ntmps215
     go_wp2_with fail
     exact bodyPost_ret (results_one rfl _ _ rfl) rfl ⟨rfl, rfl⟩
   | false =>
     go_enter Tryz.func215, Tryz.ntmps215
     go_wp2_with fail
     exact bodyPost_ret (results_one rfl _ _ rfl) rfl ⟨by simp, rfl⟩
 | false =>
   go_enter Tryz.func215, Tryz.ntmps215
   go_wp2_with fail
   exact bodyPost_ret (results_one rfl _ _ rfl) rfl ⟨by simp, rfl⟩
theorem ahead_ok (y : Int) (h : 1 <= y /\ y <= 100000) (W : World) : Calls Tryz.prog 214 #[.int .i64 y] W fun e w' => e = .returned (.int .i64 (ahd y)) /\ w' = W := by
 obtain ⟨h1, h2⟩ := h
 unfold ahd
 go_enter Tryz.func214, Tryz.ntmps214
 go_wp2_with fail
 exact bodyPost_ret (results_one rfl _ _ rfl) rfl ⟨by simp, rfl⟩
def lenI (y m : Int) : Int := if m = 2 then (if leapB y then 29 else 28) else 30 + (m + m / 8) % 2
theorem lenI_in (y m : Int) : 28 <= lenI y m /\ lenI y m <= 31 := by unfold lenI; split; split <;> omega; omega
theorem andI1 (n : Int) (h : 0 <= n /\ n < 9223372036854775808) : bits .and .i64 n 1 = n % 2 := by
 have := i64_and_nat n.toNat 1 (by omega) (by decide)
 rw [show ((n.toNat : Nat) : Int) = n by omega, Nat.and_one_is_mod] at this
 rw [show ((1 : Nat) : Int) = 1 from rfl] at this
 rw [this]; omega
theorem length_ok (y m : Int) (h : 0 <= y /\ y <= 100000) (hm : 1 <= m /\ m <= 1000000000) (W : World) : Calls Tryz.prog 177 #[.int .i64 y, .int .i64 m] W fun e w' => e = .returned (.int .i64 (lenI y m)) /\ w' = W := by
 obtain ⟨h1, h2⟩ := hm
 by_cases h3 : m = 2
 . subst h3
   have CL := Hd (fun W' => leap_ok y h W')
   unfold lenI
   simp only [if_true]
   cases hb : leapB y with
   | true =>
     rw [hb] at CL
     clear hb h h1 h2
     go_enter Tryz.func177, Tryz.ntmps177
     go_wp2_with fail
     refine (CL.o _).mono ?_
     rintro e w1 ⟨rfl, rfl⟩
     go_wp2_with fail
     exact bodyPost_ret (results_one rfl _ _ rfl) rfl ⟨rfl, rfl⟩
   | false =>
     rw [hb] at CL
     clear hb h h1 h2
     go_enter Tryz.func177, Tryz.ntmps177
     go_wp2_with fail
     refine (CL.o _).mono ?_
     rintro e w1 ⟨rfl, rfl⟩
     go_wp2_with fail
     exact bodyPost_ret (results_one rfl _ _ rfl) rfl ⟨rfl, rfl⟩
 . have e0 : (m == 2) = false := beq_eq_false_iff_ne.2 h3
   have e1 := andI1 (m + m / 8) (by omega)
   unfold lenI
   rw [if_neg h3]
   clear h3 h
   go_enter Tryz.func177, Tryz.ntmps177
   go_wp2_with fail
   exact bodyPost_ret (results_one rfl _ _ rfl) rfl ⟨by first | rfl | simp, rfl⟩
theorem is_ok (n : Int) (h : 1 <= n /\ n <= 3652059) (W : World) : Calls Tryz.prog 175 #[.int .i64 n] W fun e w' => e = .returned (.bool true) /\ w' = W := by
 obtain ⟨h1, h2⟩ := h
 go_enter Tryz.func175, Tryz.ntmps175
 go_wp2_with fail
 exact bodyPost_ret (results_one rfl _ _ rfl) rfl ⟨by first | rfl | simp, rfl⟩
def yr (n : Int) : Nat -> Int -> Int
 | 0, y => y
 | k + 1, y => if ahd (y + 1) < n then yr n k (y + 1) else y
def mo (y : Int) : Nat -> Int -> Int -> Int × Int
 | 0, m, n => (m, n)
 | k + 1, m, n => if lenI y m < n then mo y k (m + 1) (n - lenI y m) else (m, n)
theorem ahd_ge {y : Int} (h : 1 <= y) : 365 * (y - 1) <= ahd y := by unfold ahd; omega
theorem ahd_le {y : Int} (h : 1 <= y) : ahd y <= 366 * (y - 1) := by unfold ahd; omega
def civY (n : Int) : Int := yr n 20000 (n / 366 + 1)
def civM (n : Int) : Int × Int := mo (civY n) 200000 1 (n - ahd (civY n))
def endB (n : Int) : Bool := (civM n).2 == lenI (civY n) (civM n).1
theorem civil_ok (n : Int) (h : 1 <= n /\ n <= 3652059) (W : World) : Calls Tryz.prog 176 #[.int .i64 n] W fun e w' => e = .returned (.tuple #[.int .i64 (civY n), .int .i64 (civM n).1, .int .i64 (civM n).2]) /\ w' = W /\ 1 <= civY n /\ civY n <= 20000 /\ 1 <= (civM n).1 /\ (civM n).1 <= 1000000 := by
 obtain ⟨h1, h2⟩ := h
 obtain ⟨Y, hY⟩ : ∃ Y, Y = civY n := ⟨_, rfl⟩
 obtain ⟨A, hA⟩ : ∃ A, A = ahd (civY n) := ⟨_, rfl⟩
 obtain ⟨M, hM⟩ : ∃ M, M = civM n := ⟨_, rfl⟩
 rw [<- hY, <- hM]
 have HY : Hi (yr n 20000 (n / 366 + 1) = Y) := Hd hY.symm
 have HM : Hi (mo Y 200000 1 (n - ahd Y) = M) := Hd (by rw [hM, hY]; rfl)
 clear hY hA hM
 go_enter Tryz.func176, Tryz.ntmps176
 go_wp2_with fail
 go_loop [5] (fun y => ∃ (k : Nat) (z : Int), y = .int .i64 z /\ 1 <= z /\ Hi (z + k <= 31000 /\ 10300 <= z + k) /\ Hi (yr n k z = Y) /\ Hi (365 * (z - 1) < n)) (fun y => (40000 - intOf y).toNat)
 case atStart =>
  exact ⟨20000, n / 366 + 1, rfl, by omega, Hd (by omega), HY, Hd (by omega)⟩
 case round =>
  clear HY
  obtain ⟨k, z, rfl, hz1, HK, HZ, HB⟩ := hrel
  have hb := HB.o
  have hz2 : z <= 10100 := by omega
  obtain ⟨k', rfl⟩ : ∃ k', k = k' + 1 := ⟨k - 1, by have := HK.o; omega⟩
  clear hb
  have CA := Hd (fun W' => ahead_ok (z + 1) (by omega) W')
  go_wp2_with fail
  refine (CA.o _).mono ?_
  rintro e w1 ⟨rfl, rfl⟩
  by_cases hlt : ahd (z + 1) < n
  . have hs := HZ.o
    rw [yr, if_pos hlt] at hs
    have HS := Hd hs
    have hg := ahd_ge (y := z + 1) (by omega)
    have HG : Hi (365 * (z + 1 - 1) < n) := Hd (by omega)
    clear hs hg
    go_wp2_with fail
    go_round
    case rel => exact ⟨k', z + 1, rfl, by omega, Hd (by have := HK.o; omega), HS, HG⟩
    case measure => simp [intOf]; omega
  . have hs := HZ.o
    rw [yr, if_neg hlt] at hs
    subst hs
    have hge : n <= ahd (z + 1) := by omega
    clear hlt
    have CB := Hd (fun W' => ahead_ok z (by omega) W')
    have hal := ahd_le (y := z) hz1
    have hag := ahd_ge (y := z) hz1
    obtain ⟨A, hA⟩ : ∃ A, A = ahd z := ⟨_, rfl⟩
    rw [<- hA] at CB HM hal hag
    have hA0 : 0 <= A := by omega
    have hA1 : A <= 4000000 := by omega
    clear hal hag hA
    go_wp2_with fail
    refine (CB.o _).mono ?_
    rintro e w1 ⟨rfl, rfl⟩
    clear hge
    have hy : 1 <= z /\ z <= 20000 := by omega
    go_wp2_with fail
    go_loop [0, 6] (fun d mm => ∃ (k : Nat) (x m : Int), d = .int .i64 x /\ mm = .int .i64 m /\ 1 <= m /\ Hi (m + k = 200001) /\ Hi (mo z k m x = M) /\ Hi (x + 28 * (m - 1) <= 4000000) /\ -5000000 <= x /\ x <= 4000000) (fun _ m => (300000 - intOf m).toNat)
    case atStart =>
     exact ⟨200000, n - A, 1, rfl, rfl, by omega, Hd (by omega), HM, Hd (by omega), by omega, by omega⟩
    case round =>
     clear HM
     obtain ⟨k, x, m, rfl, rfl, hm1, HK, HMM, HX, hx1, hx2⟩ := hrel
     have hm2 : m <= 200001 := by have := HK.o; omega
     have CL := Hd (fun W' => length_ok z m (by omega) (by omega) W')
     have hl := lenI_in z m
     obtain ⟨L, hL⟩ : ∃ L, L = lenI z m := ⟨_, rfl⟩
     rw [<- hL] at CL hl
     obtain ⟨hl1, hl2⟩ := hl
     have HL := Hd hL
     clear hL
     by_cases hlt : L < x
     . obtain ⟨k', rfl⟩ : ∃ k', k = k' + 1 := ⟨k - 1, by have := HK.o; have := HX.o; omega⟩
       have hs := HMM.o
       rw [mo, <- HL.o, if_pos hlt] at hs
       have HS := Hd hs
       clear hs
       go_wp2_with fail
       refine (CL.o _).mono ?_
       rintro e w1 ⟨rfl, rfl⟩
       go_wp2_with fail
       refine (CL.o _).mono ?_
       rintro e w1 ⟨rfl, rfl⟩
       go_wp2_with fail
       go_round
       case rel => exact ⟨k', x - L, m + 1, rfl, rfl, by omega, Hd (by have := HK.o; omega), HS, Hd (by have := HX.o; omega), by omega, by omega⟩
       case measure => simp [intOf]; omega
     . have hs : M = (m, x) := by
        have hs := HMM.o
        cases k with
        | zero => rw [mo] at hs; exact hs.symm
        | succ k => rw [mo, <- HL.o, if_neg hlt] at hs; exact hs.symm
       subst hs
       have hge : x <= L := by omega
       clear hlt HMM
       go_wp2_with fail
       refine (CL.o _).mono ?_
       rintro e w1 ⟨rfl, rfl⟩
       go_wp2_with fail
       exact bodyPost_ret (results_three rfl _ _ rfl rfl rfl) rfl ⟨rfl, rfl, by omega⟩
theorem monthEnd_ok (n : Int) (h : 1 <= n /\ n <= 3652059) (W : World) : Calls Tryz.prog 123 #[.int .i64 n] W fun e w' => e = .returned (.tuple #[.bool (endB n), .int .i64 0]) /\ w' = W := by
 have CI := Hd (fun W' => is_ok n h W')
 have CC := Hd (fun W' => civil_ok n h W')
 unfold endB
 obtain ⟨Y, hY⟩ : ∃ Y, Y = civY n := ⟨_, rfl⟩
 obtain ⟨M, hM⟩ : ∃ M, M = (civM n).1 := ⟨_, rfl⟩
 obtain ⟨D, hD⟩ : ∃ D, D = (civM n).2 := ⟨_, rfl⟩
 rw [<- hY, <- hM, <- hD] at CC ⊢
 clear hY hM hD
 go_enter Tryz.func123, Tryz.ntmps123
 go_wp2_with fail
 refine (CI.o _).mono ?_
 rintro e w1 ⟨rfl, rfl⟩
 go_wp2_with fail
 refine (CC.o _).mono ?_
 rintro e w1 ⟨rfl, rfl, y1, y2, m1, m2⟩
 have CL := Hd (fun W' => length_ok Y M (by omega) (by omega) W')
 go_wp2_with fail
 refine (CL.o _).mono ?_
 rintro e w1 ⟨rfl, rfl⟩
 go_wp2_with fail
 exact bodyPost_ret (results_two rfl _ _ rfl rfl) rfl ⟨rfl, rfl⟩
theorem name0_ok (W : World) : Calls Tryz.prog 114 #[.int .i64 0] W fun e w' => e = .returned (.string ⟨#[69, 85, 82]⟩) /\ w' = W := by
 go_enter Tryz.func114, Tryz.ntmps114
 go_wp2_with fail
 exact bodyPost_ret (results_one rfl _ _ rfl) rfl ⟨rfl, rfl⟩
theorem figures0_ok (W : World) : Calls Tryz.prog 115 #[.int .i64 0] W fun e w' => e = .returned (.int .i64 2) /\ w' = W := by
 go_enter Tryz.func115, Tryz.ntmps115
 go_wp2_with fail
 exact bodyPost_ret (results_one rfl _ _ rfl) rfl ⟨rfl, rfl⟩
theorem digits0_ok (W : World) : Calls Tryz.prog 66 #[.int .i64 0] W fun e w' => e = .returned (.tuple #[.int .i64 2, .int .i64 0]) /\ w' = W := by
 go_enter Tryz.func66, Tryz.ntmps66
 go_wp2_with fail
 refine (name0_ok _).mono ?_
 rintro e w1 ⟨rfl, rfl⟩
 go_wp2_with fail
 refine (figures0_ok _).mono ?_
 rintro e w1 ⟨rfl, rfl⟩
 go_wp2_with fail
 exact bodyPost_ret (results_two rfl _ _ rfl rfl) rfl ⟨rfl, rfl⟩
end Cal
end Go.Proofs.YtkdnebalpdebeaaGreatDoor
