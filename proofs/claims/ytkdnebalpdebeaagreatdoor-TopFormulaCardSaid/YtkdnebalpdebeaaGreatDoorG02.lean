/- Lemmas of a claim: MixT, MixK, MixO, MixD -/
import Derived.Test.YtkdnebalpdebeaaGreatDoorG01
import Derived.StillTailTactics
set_option linter.unusedVariables false
set_option linter.unusedSimpArgs false
set_option maxHeartbeats 16000000
set_option maxRecDepth 100000
namespace Go.Proofs.YtkdnebalpdebeaaGreatDoor
section
open Go
inductive Plan where
 | nil
 | seg (ks : List Nat) (p : Plan)
 | turn (k : Nat) (p : Plan)
 | fork (i : Nat) (p : Plan) (j : Nat) (q : Plan)
def Plan.len : Plan -> Nat
 | .nil => 0
 | .seg ks p => ks.length + p.len
 | .turn _ p => p.len + 1
 | .fork _ p _ _ => p.len + 1
section
variable {P : Program} {ops : Array Oper} {md : Region.Mode} {C : World -> Prop}
def segB (md : Region.Mode) (ops : Array Oper) : List Nat -> Array Bool -> Option (Array Bool)
 | [], listed => some listed
 | k :: r, listed => if (Region.ready md ops listed).contains k && Region.free md ops listed k && ((ops[k]?).map (plainOp ·.op)).getD false then segB md ops r (listed.setIfInBounds k true) else none
def Plan.fits (md : Region.Mode) (ops : Array Oper) : Plan -> Array Bool -> Bool
 | .nil, listed => (Region.ready md ops listed).isEmpty
 | .seg ks p, listed => ks.all (fun k => decide (k < ops.size)) && (match segB md ops ks listed with | some l => p.fits md ops l | none => false)
 | .turn k p, listed => decide (k < ops.size) && (Region.ready md ops listed == [k] && p.fits md ops (listed.setIfInBounds k true))
 | .fork i p j q, listed => decide (i < ops.size) && (decide (j < ops.size) && (Region.ready md ops listed == [i, j] && (p.len == q.len && (p.fits md ops (listed.setIfInBounds i true) && q.fits md ops (listed.setIfInBounds j true)))))
def wpPlan (P : Program) (l : List Oper) (C : World -> Prop) (Q : Act -> World -> Prop) : Plan -> Act -> World -> Prop
 | .nil, a, w => Q a w
 | .seg ks p, a, w => wpQuiet P l.toArray C (fun a' => wpPlan P l C Q p a' w) (ks.map (opAt l)) a
 | .turn k p, a, w => wpList P l.toArray (onlyNormal fun a w => C w /\ wpPlan P l C Q p a w) [opAt l k] a w
 | .fork i p j q, a, w => wpList P l.toArray (onlyNormal fun a w => C w /\ wpPlan P l C Q p a w) [opAt l i] a w /\ wpList P l.toArray (onlyNormal fun a w => C w /\ wpPlan P l C Q q a w) [opAt l j] a w
theorem opAt_some {l : List Oper} {k : Nat} (h : k < l.length) : l.toArray[k]? = some (opAt l k) := by simp [opAt, h]
theorem wpAnyM_of_seg {Q : Act -> World -> Prop} {l : List Oper} (hs : Region.noSelect l.toArray = true) {n : Nat} {G : Act -> Prop} {w : World} (hC : C w) : ∀ (ks : List Nat) (listed listed' : Array Bool) (a : Act),
 (∀ k ∈ ks, k < l.length) -> segB md l.toArray ks listed = some listed' -> (∀ a', G a' -> wpAnyM P md l.toArray C Q n listed' a' w) -> wpQuiet P l.toArray C G (ks.map (opAt l)) a -> wpAnyM P md l.toArray C Q (ks.length + n) listed a w
 | [], listed, listed', a, _, hB, hG, h => by
   simp only [segB, Option.some.injEq] at hB
   subst hB
   simpa using hG a h
 | k :: ks, listed, listed', a, hk, hB, hG, h => by
   simp only [segB] at hB
   split at hB
   case isFalse => cases hB
   rename_i hc
   simp only [Bool.and_eq_true] at hc
   obtain ⟨⟨hr, hf⟩, hp⟩ := hc
   have h0 := opAt_some (hk k (by simp))
   rw [h0] at hp
   have hq : qOp P l.toArray C k (fun a' => wpQuiet P l.toArray C G (ks.map (opAt l)) a') a := by
    unfold qOp
    simp only [h0]
    simp only [List.map_cons, wpQuiet] at h
    exact h
   obtain ⟨v, hy, hK⟩ := yieldsIn_of_qOp h0 hq
   rw [show (k :: ks).length + n = (ks.length + n) + 1 from by simp; omega]
   exact wpAnyM_first h0 (Region.noSelect_spec hs) (ks.length + n) listed a w hC (Region.free_spec h0 hf) (by simpa using hr) (pure_of_quiet (by simpa using hp) hy)
    (wpAnyM_of_seg hs hC ks _ _ _ (fun k' hk' => hk k' (by simp [hk'])) hB hG hK)
theorem wpAnyM_of_plan {Q : Act -> World -> Prop} {l : List Oper} (hs : Region.noSelect l.toArray = true) : ∀ (p : Plan) (listed : Array Bool) (a : Act) (w : World), C w ->
 p.fits md l.toArray listed = true -> wpPlan P l C Q p a w -> wpAnyM P md l.toArray C Q p.len listed a w
 | .nil, _, _, _, _, hB, h => ⟨by simpa [Plan.fits] using hB, h⟩
 | .seg ks p, listed, a, w, hC, hB, h => by
   simp only [Plan.fits, Bool.and_eq_true, List.all_eq_true, decide_eq_true_eq] at hB
   obtain ⟨hk, hB⟩ := hB
   split at hB
   case h_2 => cases hB
   rename_i l' hl
   exact wpAnyM_of_seg hs hC ks listed l' a (fun k hk' => by simpa using hk k hk') hl (fun a' ha => wpAnyM_of_plan hs p l' a' w hC hB ha) h
 | .turn k p, listed, a, w, hC, hB, h => by
   simp only [Plan.fits, Bool.and_eq_true, beq_iff_eq, decide_eq_true_eq] at hB
   obtain ⟨hk, hr, hB'⟩ := hB
   refine ⟨fun h0 => (by rw [hr] at h0; cases h0), fun i hi => ?_⟩
   rw [hr] at hi
   obtain rfl : i = k := by simpa using hi
   exact wpOpM_mono (fun a' w' hk => ⟨hk.1, wpAnyM_of_plan hs p _ a' w' hk.1 hB' hk.2⟩) (wpOpM_of_list (opAt_some (by simpa using hk)) h)
 | .fork i p j q, listed, a, w, hC, hB, h => by
   simp only [Plan.fits, Bool.and_eq_true, beq_iff_eq, decide_eq_true_eq] at hB
   obtain ⟨hi', hj', hr, hlen, hp, hq⟩ := hB
   refine ⟨fun h0 => (by rw [hr] at h0; cases h0), fun m hm => ?_⟩
   rw [hr] at hm
   simp only [List.mem_cons, List.not_mem_nil, or_false] at hm
   rcases hm with rfl | rfl
   . exact wpOpM_mono (fun a' w' hk => ⟨hk.1, wpAnyM_of_plan hs p _ a' w' hk.1 hp hk.2⟩) (wpOpM_of_list (opAt_some (by simpa using hi')) h.1)
   . exact wpOpM_mono (fun a' w' hk => ⟨hk.1, by have := wpAnyM_of_plan hs q _ a' w' hk.1 hq hk.2; rwa [<- hlen] at this⟩) (wpOpM_of_list (opAt_some (by simpa using hj')) h.2)
def mixT (l : List Oper) (p : Plan) : Bool := Region.noSelect l.toArray && (p.fits .any l.toArray (Array.replicate l.toArray.size false) && p.len == l.length)
theorem wp_region_tree {id : Nat} {Q : Exit -> Act -> World -> Prop} {a : Act} {w : World} {l : List Oper} (p : Plan) (hm : P.follows .mixedOrders = true) (hB : mixT l p = true)
 (hC : C w.drew) (h : wpPlan P l C (fun a' w' => Q .normal a' w') p a w.drew) : (Code.region id l.toArray true).wp P Q a w := by
 simp only [mixT, Bool.and_eq_true, beq_iff_eq] at hB
 obtain ⟨h1, h2, h3⟩ := hB
 refine wp_region_any hm (wpAny_of_M (Q := fun a' w' => Q .normal a' w') (C := C) (fun _ _ h => h) _ _ _ _ ?_)
 have := wpAnyM_of_plan (P := P) (C := C) (md := .any) (Q := fun a' w' => Q .normal a' w') h1 p _ a w.drew hC h2 h
 rw [h3] at this
 simpa using this
end
end
section
open Go
section
variable {P : Program} {ops : Array Oper} {md : Region.Mode} {C : World -> Prop} {z : Nat}
def wpAnyK (P : Program) (md : Region.Mode) (ops : Array Oper) (C : World -> Prop) (z : Nat) (Q : Act -> World -> Prop) : Nat -> Array Bool -> Act -> World -> Prop
 | 0, listed, a, w => Region.ready md ops listed = [] /\ Q a w
 | fuel + 1, listed, a, w => (Region.ready md ops listed = [] -> Q a w) /\
   ∀ i ∈ Region.ready md ops listed, wpOpM P ops i (fun a w => (i ≠ z -> C w) /\ wpAnyK P md ops C z Q fuel (listed.setIfInBounds i true) a w) a w
theorem wpAny_of_K {Q : Act -> World -> Prop} {Q' : Exit -> Act -> World -> Prop} (hQ : ∀ a w, Q a w -> Q' .normal a w) : ∀ (fuel : Nat) (listed : Array Bool) (a : Act) (w : World),
 wpAnyK P md ops C z Q fuel listed a w -> wpAny P md ops Q' fuel listed a w
 | 0, _, _, _, h => ⟨h.1, hQ _ _ h.2⟩
 | fuel + 1, _, _, _, h => ⟨fun h0 => hQ _ _ (h.1 h0), fun i hi => wpOp_of_M (fun a' w' hk => wpAny_of_K hQ fuel _ a' w' hk.2) (h.2 i hi)⟩
def lastB (md : Region.Mode) (ops : Array Oper) (z : Nat) : Bool := match ops[z]? with
 | none => false
 | some o => (List.range ops.size).all fun i => i == z || o.after.any fun e => Region.binds md e && e.on == i
theorem last_spec (h : lastB md ops z = true) {listed : Array Bool} (hz : z ∈ Region.ready md ops listed) {i : Nat} (hi : i < ops.size) (hne : i ≠ z) : i ∉ Region.ready md ops listed := by
 intro hri
 unfold lastB at h
 obtain ⟨_, o, ho, hall⟩ := mem_ready.1 hz
 rw [ho] at h
 simp only [List.all_eq_true, List.mem_range, Bool.or_eq_true, beq_iff_eq, Array.any_eq_true'] at h
 rcases h i hi with h1 | ⟨e, he, h1⟩
 . exact hne h1
 . simp only [Bool.and_eq_true, beq_iff_eq] at h1
   have h2 := hall e he h1.1
   rw [h1.2] at h2
   have h3 := (mem_ready.1 hri).1
   rcases Nat.lt_or_ge i listed.size with h' | h'
   . simp [h'] at h2 h3; rw [h2] at h3; cases h3
   . simp [Array.getElem?_eq_none h'] at h3
theorem wpAnyK_first {Q : Act -> World -> Prop} {i : Nat} {oi : Oper} {v : Value} (hz : lastB md ops z = true) (hiz : i ≠ z) (hi : ops[i]? = some oi) (hsel : ∀ (j : Nat) (o : Oper) cs b, ops[j]? = some o -> o.op ≠ .select cs b) :
 ∀ (fuel : Nat) (listed : Array Bool) (a : Act) (w : World), C w ->
   (∀ j oj, ops[j]? = some oj -> j ≠ i -> listed.getD j true = false -> (∀ e ∈ oj.after, Region.binds md e = true -> e.on ≠ i) -> oi.apart ops oj = true) ->
   i ∈ Region.ready md ops listed -> PureIn P ops C oi v a ->
   wpAnyK P md ops C z Q fuel (listed.setIfInBounds i true) (a.put oi.dst v) w -> wpAnyK P md ops C z Q (fuel + 1) listed a w := by
 intro fuel
 induction fuel with
 | zero =>
   intro listed a w hC _ hr hy H
   refine ⟨fun h => (by rw [h] at hr; cases hr), fun j hj => ?_⟩
   by_cases hji : j = i
   . subst hji; exact hy.wpOpM hi hC ⟨fun _ => hC, H⟩
   . have := ready_mono hj hji
     rw [H.1] at this
     cases this
 | succ fuel ih =>
   intro listed a w hC hfree hr hy H
   refine ⟨fun h => (by rw [h] at hr; cases hr), fun j hj => ?_⟩
   by_cases hji : j = i
   . subst hji; exact hy.wpOpM hi hC ⟨fun _ => hC, H⟩
   . have hjz : j ≠ z := by
      intro e
      subst e
      exact last_spec hz hj (Array.getElem?_eq_some_iff.1 hi).1 hiz hr
     have h1 := H.2 j (ready_mono hj hji)
     obtain ⟨hjun, oj, hoj, hall⟩ := mem_ready.1 hj
     have hnot : ∀ e ∈ oj.after, Region.binds md e = true -> e.on ≠ i := fun e he hb heq => by
      have h1 := hall e he hb
      have h0 := (mem_ready.1 hr).1
      rw [heq] at h1
      rcases Nat.lt_or_ge i listed.size with h' | h'
      . simp [h'] at h0 h1; rw [h0] at h1; cases h1
      . simp [Array.getElem?_eq_none h'] at h1
     have h2 := wpOpM_put hoj (hfree j oj hoj hji hjun hnot) (fun cs b => hsel i oi cs b hi) (fun cs b => hsel j oj cs b hoj) hy h1
     have hfree' : ∀ k ok, ops[k]? = some ok -> k ≠ i -> (listed.setIfInBounds j true).getD k true = false ->
      (∀ e ∈ ok.after, Region.binds md e = true -> e.on ≠ i) -> oi.apart ops ok = true := fun k ok hk hki hun hno => by
      refine hfree k ok hk hki ?_ hno
      by_cases hjk : j = k
      . subst hjk; exact hjun
      . rw [getD_set_ne true hjk] at hun; exact hun
     refine wpOpM_mono (fun a' w' h3 => ⟨fun _ => h3.2.1 hjz, ih (listed.setIfInBounds j true) a' w' (h3.2.1 hjz) hfree' (ready_mono hr (Ne.symm hji)) h3.1 ?_⟩) h2
     rw [Array.setIfInBounds_comm _ _ hji]
     exact h3.2.2
inductive PlanK where
 | nil
 | last
 | seg (ks : List Nat) (p : PlanK)
 | turn (k : Nat) (p : PlanK)
 | fork (i : Nat) (p : PlanK) (j : Nat) (q : PlanK)
def PlanK.len : PlanK -> Nat
 | .nil => 0
 | .last => 1
 | .seg ks p => ks.length + p.len
 | .turn _ p => p.len + 1
 | .fork _ p _ _ => p.len + 1
def PlanK.fits (md : Region.Mode) (ops : Array Oper) (z : Nat) : PlanK -> Array Bool -> Bool
 | .nil, listed => (Region.ready md ops listed).isEmpty
 | .last, listed => decide (z < ops.size) && (Region.ready md ops listed == [z] && (Region.ready md ops (listed.setIfInBounds z true)).isEmpty)
 | .seg ks p, listed => ks.all (fun k => decide (k < ops.size) && k != z) && (match segB md ops ks listed with | some l => p.fits md ops z l | none => false)
 | .turn k p, listed => (decide (k < ops.size) && k != z) && (Region.ready md ops listed == [k] && p.fits md ops z (listed.setIfInBounds k true))
 | .fork i p j q, listed => (decide (i < ops.size) && i != z) && ((decide (j < ops.size) && j != z) && (Region.ready md ops listed == [i, j] && (p.len == q.len && (p.fits md ops z (listed.setIfInBounds i true) && q.fits md ops z (listed.setIfInBounds j true)))))
def wpPlanK (P : Program) (l : List Oper) (C : World -> Prop) (z : Nat) (Q : Act -> World -> Prop) : PlanK -> Act -> World -> Prop
 | .nil, a, w => Q a w
 | .last, a, w => wpList P l.toArray (onlyNormal fun a w => Q a w) [opAt l z] a w
 | .seg ks p, a, w => wpQuiet P l.toArray C (fun a' => wpPlanK P l C z Q p a' w) (ks.map (opAt l)) a
 | .turn k p, a, w => wpList P l.toArray (onlyNormal fun a w => C w /\ wpPlanK P l C z Q p a w) [opAt l k] a w
 | .fork i p j q, a, w => wpList P l.toArray (onlyNormal fun a w => C w /\ wpPlanK P l C z Q p a w) [opAt l i] a w /\ wpList P l.toArray (onlyNormal fun a w => C w /\ wpPlanK P l C z Q q a w) [opAt l j] a w
theorem wpAnyK_of_seg {Q : Act -> World -> Prop} {l : List Oper} (hs : Region.noSelect l.toArray = true) (hz : lastB md l.toArray z = true) {n : Nat} {G : Act -> Prop} {w : World} (hC : C w) : ∀ (ks : List Nat) (listed listed' : Array Bool) (a : Act),
 (∀ k ∈ ks, k < l.length /\ k ≠ z) -> segB md l.toArray ks listed = some listed' -> (∀ a', G a' -> wpAnyK P md l.toArray C z Q n listed' a' w) -> wpQuiet P l.toArray C G (ks.map (opAt l)) a -> wpAnyK P md l.toArray C z Q (ks.length + n) listed a w
 | [], listed, listed', a, _, hB, hG, h => by
   simp only [segB, Option.some.injEq] at hB
   subst hB
   simpa using hG a h
 | k :: ks, listed, listed', a, hk, hB, hG, h => by
   simp only [segB] at hB
   split at hB
   case isFalse => cases hB
   rename_i hc
   simp only [Bool.and_eq_true] at hc
   obtain ⟨⟨hr, hf⟩, hp⟩ := hc
   have h0 := opAt_some (hk k (by simp)).1
   rw [h0] at hp
   have hq : qOp P l.toArray C k (fun a' => wpQuiet P l.toArray C G (ks.map (opAt l)) a') a := by
    unfold qOp
    simp only [h0]
    simp only [List.map_cons, wpQuiet] at h
    exact h
   obtain ⟨v, hy, hK⟩ := yieldsIn_of_qOp h0 hq
   rw [show (k :: ks).length + n = (ks.length + n) + 1 from by simp; omega]
   exact wpAnyK_first hz (hk k (by simp)).2 h0 (Region.noSelect_spec hs) (ks.length + n) listed a w hC (Region.free_spec h0 hf) (by simpa using hr) (pure_of_quiet (by simpa using hp) hy)
    (wpAnyK_of_seg hs hz hC ks _ _ _ (fun k' hk' => hk k' (by simp [hk'])) hB hG hK)
theorem wpAnyK_of_plan {Q : Act -> World -> Prop} {l : List Oper} (hs : Region.noSelect l.toArray = true) (hz : lastB md l.toArray z = true) : ∀ (p : PlanK) (listed : Array Bool) (a : Act) (w : World), C w ->
 p.fits md l.toArray z listed = true -> wpPlanK P l C z Q p a w -> wpAnyK P md l.toArray C z Q p.len listed a w
 | .nil, _, _, _, _, hB, h => ⟨by simpa [PlanK.fits] using hB, h⟩
 | .last, listed, a, w, hC, hB, h => by
   simp only [PlanK.fits, Bool.and_eq_true, beq_iff_eq, decide_eq_true_eq] at hB
   obtain ⟨hk, hr, hB'⟩ := hB
   refine ⟨fun h0 => (by rw [hr] at h0; cases h0), fun i hi => ?_⟩
   rw [hr] at hi
   obtain rfl : i = z := by simpa using hi
   exact wpOpM_mono (fun a' w' hk => ⟨fun h0 => absurd rfl h0, by simpa using hB', hk⟩) (wpOpM_of_list (opAt_some (by simpa using hk)) h)
 | .seg ks p, listed, a, w, hC, hB, h => by
   simp only [PlanK.fits, Bool.and_eq_true, List.all_eq_true, decide_eq_true_eq, bne_iff_ne] at hB
   obtain ⟨hk, hB⟩ := hB
   split at hB
   case h_2 => cases hB
   rename_i l' hl
   exact wpAnyK_of_seg hs hz hC ks listed l' a (fun k hk' => ⟨by simpa using (hk k hk').1, (hk k hk').2⟩) hl (fun a' ha => wpAnyK_of_plan hs hz p l' a' w hC hB ha) h
 | .turn k p, listed, a, w, hC, hB, h => by
   simp only [PlanK.fits, Bool.and_eq_true, beq_iff_eq, decide_eq_true_eq, bne_iff_ne] at hB
   obtain ⟨⟨hk, hkz⟩, hr, hB'⟩ := hB
   refine ⟨fun h0 => (by rw [hr] at h0; cases h0), fun i hi => ?_⟩
   rw [hr] at hi
   obtain rfl : i = k := by simpa using hi
   exact wpOpM_mono (fun a' w' hk => ⟨fun _ => hk.1, wpAnyK_of_plan hs hz p _ a' w' hk.1 hB' hk.2⟩) (wpOpM_of_list (opAt_some (by simpa using hk)) h)
 | .fork i p j q, listed, a, w, hC, hB, h => by
   simp only [PlanK.fits, Bool.and_eq_true, beq_iff_eq, decide_eq_true_eq, bne_iff_ne] at hB
   obtain ⟨⟨hi', hiz⟩, ⟨hj', hjz⟩, hr, hlen, hp, hq⟩ := hB
   refine ⟨fun h0 => (by rw [hr] at h0; cases h0), fun m hm => ?_⟩
   rw [hr] at hm
   simp only [List.mem_cons, List.not_mem_nil, or_false] at hm
   rcases hm with rfl | rfl
   . exact wpOpM_mono (fun a' w' hk => ⟨fun _ => hk.1, wpAnyK_of_plan hs hz p _ a' w' hk.1 hp hk.2⟩) (wpOpM_of_list (opAt_some (by simpa using hi')) h.1)
   . exact wpOpM_mono (fun a' w' hk => ⟨fun _ => hk.1, by have := wpAnyK_of_plan hs hz q _ a' w' hk.1 hq hk.2; rwa [<- hlen] at this⟩) (wpOpM_of_list (opAt_some (by simpa using hj')) h.2)
def mixK (l : List Oper) (z : Nat) (p : PlanK) : Bool := Region.noSelect l.toArray && (lastB .any l.toArray z && (p.fits .any l.toArray z (Array.replicate l.toArray.size false) && p.len == l.length))
theorem wp_region_treeK {id : Nat} {Q : Exit -> Act -> World -> Prop} {a : Act} {w : World} {l : List Oper} (z : Nat) (p : PlanK) (hm : P.follows .mixedOrders = true) (hB : mixK l z p = true)
 (hC : C w.drew) (h : wpPlanK P l C z (fun a' w' => Q .normal a' w') p a w.drew) : (Code.region id l.toArray true).wp P Q a w := by
 simp only [mixK, Bool.and_eq_true, beq_iff_eq] at hB
 obtain ⟨h1, hz, h2, h3⟩ := hB
 refine wp_region_any hm (wpAny_of_K (Q := fun a' w' => Q .normal a' w') (C := C) (z := z) (fun _ _ h => h) _ _ _ _ ?_)
 have := wpAnyK_of_plan (P := P) (C := C) (md := .any) (Q := fun a' w' => Q .normal a' w') h1 hz p _ a w.drew hC h2 h
 rw [h3] at this
 simpa using this
end
end
section
open Go
section
variable {P : Program}
theorem wpQuiet_of_still {ops : Array Oper} {W : World} {Q : Act -> Prop} : ∀ (l : List Oper) (a : Act), wpStill P ops W Q l a -> wpQuiet P ops (fun w => w = W) Q l a
 | [], _, h => h
 | o :: l, a, h => by
   simp only [wpStill, wpQuiet] at h ⊢
   split
   . rename_i hw
     rw [if_pos hw] at h
     unfold Oper.still at h
     unfold Oper.quiet
     generalize hr : (execOp a.eval o).run P W = r at h
     cases r with
     | ok n w' =>
       cases n <;> simp only [Oper.stillUpon] at h
       case value u => exact ⟨u, fun w hw => by subst hw; unfold Oper.quietAt; rw [hr]; exact ⟨h.1, rfl⟩, wpQuiet_of_still l _ h.2⟩
       case skip => exact ⟨undef, fun w hw => by subst hw; unfold Oper.quietAt; rw [hr]; exact ⟨h.1, rfl⟩, wpQuiet_of_still l _ h.2⟩
       case enter f args =>
        obtain ⟨h1, v, hc, hn⟩ := h
        exact ⟨v, fun w hw => by subst hw; unfold Oper.quietAt; rw [hr]; exact ⟨h1, hc⟩, wpQuiet_of_still l _ hn⟩
     | halt x w' => simp only [Oper.stillUpon] at h
   . rename_i hw
     rw [if_neg hw] at h
     exact wpQuiet_of_still l _ h
def planO (l : List Oper) (z : Option Nat) : List Nat -> PlanK
 | [] => match z with | some _ => .last | none => .nil
 | k :: ks => if plainOp (opAt l k).op then .seg [k] (planO l z ks) else .turn k (planO l z ks)
theorem wpList_of_still {ops : Array Oper} {W : World} {K : Act -> Prop} {Q : Act -> World -> Prop} {o : Oper} {a : Act} (hK : ∀ a, K a -> Q a W)
 (h : if Region.wanted o (yielded ops a.tmps) then o.still P a W K else K (a.put o.dst undef)) : wpList P ops (onlyNormal Q) [o] a W := by
 unfold wpList
 split
 . rename_i hw
   rw [if_pos hw] at h
   exact .inl (Oper.wp_of_still (fun a' ha => hK a' ha) h)
 . rename_i hw
   rw [if_neg hw] at h
   exact hK _ h
theorem wpPlanK_of_still {l : List Oper} {z : Nat} {zo : Option Nat} {W : World} {Q : Act -> World -> Prop} {R : Act -> Prop} (hR : ∀ a, R a -> wpPlanK P l (fun w => w = W) z Q (planO l zo []) a W) :
 ∀ (ks : List Nat) (a : Act), wpStill P l.toArray W R (ks.map (opAt l)) a -> wpPlanK P l (fun w => w = W) z Q (planO l zo ks) a W
 | [], a, h => hR a h
 | k :: ks, a, h => by
   simp only [List.map_cons, wpStill] at h
   have ih := wpPlanK_of_still hR ks
   unfold planO
   split
   . simp only [wpPlanK, List.map_cons, List.map_nil]
     refine wpQuiet_of_still [opAt l k] a ?_
     simp only [wpStill]
     split
     . rename_i hw; rw [if_pos hw] at h; exact Oper.still_mono (fun a' ha => ih a' ha) h
     . rename_i hw; rw [if_neg hw] at h; exact ih _ h
   . simp only [wpPlanK]
     exact wpList_of_still (fun a' ha => ⟨rfl, ih a' ha⟩) h
theorem wp_region_last {id : Nat} {Q : Exit -> Act -> World -> Prop} {a : Act} {w : World} {l : List Oper} (ks : List Nat) (z : Nat) (hm : P.follows .mixedOrders = true) (hB : mixK l z (planO l (some z) ks) = true)
 (h : wpStill P l.toArray w.drew (fun a' => wpList P l.toArray (onlyNormal fun a w => Q .normal a w) [opAt l z] a' w.drew) (ks.map (opAt l)) a) : (Code.region id l.toArray true).wp P Q a w :=
 wp_region_treeK (C := fun w' => w' = w.drew) z (planO l (some z) ks) hm hB rfl (wpPlanK_of_still (fun _ h => h) ks a h)
end
end
section
open Go
section
variable {P : Program} {ops : Array Oper} {md : Region.Mode} {C : World -> Prop} {z : Nat}
def blindOp (o : Op) : Bool := match o with | .move _ | .assign _ | .extract .. => true | _ => false
def wpAnyD (P : Program) (md : Region.Mode) (ops : Array Oper) (C : World -> Prop) (z : Nat) (Q : Act -> World -> Prop) : Nat -> Array Bool -> Act -> World -> Prop
 | 0, listed, a, w => Region.ready md ops listed = [] /\ Q a w
 | fuel + 1, listed, a, w => (Region.ready md ops listed = [] -> Q a w) /\
   ∀ i ∈ Region.ready md ops listed, wpOpM P ops i (fun a w => ((listed.setIfInBounds i true).getD z false = false -> C w) /\ wpAnyD P md ops C z Q fuel (listed.setIfInBounds i true) a w) a w
theorem wpAny_of_D {Q : Act -> World -> Prop} {Q' : Exit -> Act -> World -> Prop} (hQ : ∀ a w, Q a w -> Q' .normal a w) : ∀ (fuel : Nat) (listed : Array Bool) (a : Act) (w : World),
 wpAnyD P md ops C z Q fuel listed a w -> wpAny P md ops Q' fuel listed a w
 | 0, _, _, _, h => ⟨h.1, hQ _ _ h.2⟩
 | fuel + 1, _, _, _, h => ⟨fun h0 => hQ _ _ (h.1 h0), fun i hi => wpOp_of_M (fun a' w' hk => wpAny_of_D hQ fuel _ a' w' hk.2) (h.2 i hi)⟩
theorem wpAnyD_first {Q : Act -> World -> Prop} {i : Nat} {oi : Oper} {v : Value} (C' : World -> Prop) (G : Array Bool -> Prop)
 (hG : ∀ listed j, G listed -> i ∈ Region.ready md ops listed -> j ∈ Region.ready md ops listed -> j ≠ i -> G (listed.setIfInBounds j true))
 (hGC : ∀ listed w, G listed -> (listed.getD z false = false -> C w) -> C' w)
 (hiz : i ≠ z) (hi : ops[i]? = some oi) (hsel : ∀ (j : Nat) (o : Oper) cs b, ops[j]? = some o -> o.op ≠ .select cs b) :
 ∀ (fuel : Nat) (listed : Array Bool) (a : Act) (w : World), (listed.getD z false = false -> C w) -> G listed ->
   (∀ j oj, ops[j]? = some oj -> j ≠ i -> listed.getD j true = false -> (∀ e ∈ oj.after, Region.binds md e = true -> e.on ≠ i) -> oi.apart ops oj = true) ->
   i ∈ Region.ready md ops listed -> PureIn P ops C' oi v a ->
   wpAnyD P md ops C z Q fuel (listed.setIfInBounds i true) (a.put oi.dst v) w -> wpAnyD P md ops C z Q (fuel + 1) listed a w := by
 intro fuel
 induction fuel with
 | zero =>
   intro listed a w hC hg _ hr hy H
   refine ⟨fun h => (by rw [h] at hr; cases hr), fun j hj => ?_⟩
   by_cases hji : j = i
   . subst hji; exact hy.wpOpM hi (hGC _ _ hg hC) ⟨fun h => hC (by rwa [getD_set_ne false hiz] at h), H⟩
   . have := ready_mono hj hji
     rw [H.1] at this
     cases this
 | succ fuel ih =>
   intro listed a w hC hg hfree hr hy H
   refine ⟨fun h => (by rw [h] at hr; cases hr), fun j hj => ?_⟩
   by_cases hji : j = i
   . subst hji; exact hy.wpOpM hi (hGC _ _ hg hC) ⟨fun h => hC (by rwa [getD_set_ne false hiz] at h), H⟩
   . have h1 := H.2 j (ready_mono hj hji)
     obtain ⟨hjun, oj, hoj, hall⟩ := mem_ready.1 hj
     have hnot : ∀ e ∈ oj.after, Region.binds md e = true -> e.on ≠ i := fun e he hb heq => by
      have h1 := hall e he hb
      have h0 := (mem_ready.1 hr).1
      rw [heq] at h1
      rcases Nat.lt_or_ge i listed.size with h' | h'
      . simp [h'] at h0 h1; rw [h0] at h1; cases h1
      . simp [Array.getElem?_eq_none h'] at h1
     have h2 := wpOpM_put hoj (hfree j oj hoj hji hjun hnot) (fun cs b => hsel i oi cs b hi) (fun cs b => hsel j oj cs b hoj) hy h1
     have hfree' : ∀ k ok, ops[k]? = some ok -> k ≠ i -> (listed.setIfInBounds j true).getD k true = false ->
      (∀ e ∈ ok.after, Region.binds md e = true -> e.on ≠ i) -> oi.apart ops ok = true := fun k ok hk hki hun hno => by
      refine hfree k ok hk hki ?_ hno
      by_cases hjk : j = k
      . subst hjk; exact hjun
      . rw [getD_set_ne true hjk] at hun; exact hun
     have hcomm := Array.setIfInBounds_comm (xs := listed) true true hji
     refine wpOpM_mono (fun a' w' h3 => ?_) h2
     have hC3 : (listed.setIfInBounds j true).getD z false = false -> C w' := fun h => h3.2.1 (by
      rw [<- hcomm, getD_set_ne false hiz]; exact h)
     exact ⟨hC3, ih (listed.setIfInBounds j true) a' w' hC3 (hG _ _ hg hr hj hji) hfree' (ready_mono hr (Ne.symm hji)) h3.1 (by
      rw [hcomm]; exact h3.2.2)⟩
def aheadB (md : Region.Mode) (ops : Array Oper) (i z : Nat) : Bool := match ops[z]? with
 | none => false
 | some o => o.after.any fun e => Region.binds md e && e.on == i
theorem ahead_spec {i : Nat} (h : aheadB md ops i z = true) {listed : Array Bool} (hri : i ∈ Region.ready md ops listed) : z ∉ Region.ready md ops listed := by
 intro hz
 unfold aheadB at h
 obtain ⟨_, o, ho, hall⟩ := mem_ready.1 hz
 rw [ho] at h
 simp only [Array.any_eq_true'] at h
 obtain ⟨e, he, h1⟩ := h
 simp only [Bool.and_eq_true, beq_iff_eq] at h1
 have h2 := hall e he h1.1
 rw [h1.2] at h2
 have h3 := (mem_ready.1 hri).1
 rcases Nat.lt_or_ge i listed.size with h' | h'
 . simp [h'] at h2 h3; rw [h2] at h3; cases h3
 . simp [Array.getElem?_eq_none h'] at h3
def fitsD (md : Region.Mode) (l : List Oper) (z : Nat) : List Nat -> Array Bool -> Bool
 | [], listed => (Region.ready md l.toArray listed).isEmpty
 | k :: ks, listed => decide (k < l.length) && fitsD md l z ks (listed.setIfInBounds k true) &&
     (if k == z then Region.ready md l.toArray listed == [k]
      else if plainOp (opAt l k).op then (Region.ready md l.toArray listed).contains k && Region.free md l.toArray listed k && (blindOp (opAt l k).op || (!(listed.getD z false) && aheadB md l.toArray k z))
      else Region.ready md l.toArray listed == [k])
def wpOrd (P : Program) (l : List Oper) (C : World -> Prop) (z : Nat) (Q : Act -> World -> Prop) : List Nat -> Act -> World -> Prop
 | [], a, w => Q a w
 | k :: ks, a, w =>
   if k = z then wpList P l.toArray (onlyNormal fun a w => wpOrd P l C z Q ks a w) [opAt l k] a w
   else if plainOp (opAt l k).op then wpQuiet P l.toArray (if blindOp (opAt l k).op then fun _ => True else C) (fun a' => wpOrd P l C z Q ks a' w) [opAt l k] a
   else wpList P l.toArray (onlyNormal fun a w => C w /\ wpOrd P l C z Q ks a w) [opAt l k] a w
theorem wpAnyD_of_ord {Q : Act -> World -> Prop} {l : List Oper} (hs : Region.noSelect l.toArray = true) : ∀ (ks : List Nat) (listed : Array Bool) (a : Act) (w : World), listed.size = l.length -> (listed.getD z false = false -> C w) ->
 fitsD md l z ks listed = true -> wpOrd P l C z Q ks a w -> wpAnyD P md l.toArray C z Q ks.length listed a w := by
 intro ks
 induction ks with
 | nil => exact fun _ _ _ _ _ hB h => ⟨by simpa [fitsD] using hB, h⟩
 | cons k ks ih =>
   intro listed a w hsz hC hB h
   simp only [fitsD, Bool.and_eq_true, decide_eq_true_eq] at hB
   obtain ⟨⟨hk, hB'⟩, hcase⟩ := hB
   have hsz' : (listed.setIfInBounds k true).size = l.length := by simpa using hsz
   simp only [wpOrd] at h
   by_cases hkz : k = z
   . subst hkz
     simp only [beq_self_eq_true, if_true, beq_iff_eq] at hcase h
     refine ⟨fun h0 => (by rw [hcase] at h0; cases h0), fun i hi => ?_⟩
     rw [hcase] at hi
     obtain rfl : i = k := by simpa using hi
     have hlisted : (listed.setIfInBounds i true).getD i false = true := by simp [hsz, hk]
     exact wpOpM_mono (fun a' w' hh => ⟨fun h0 => (by rw [hlisted] at h0; cases h0), ih _ a' w' hsz' (fun h0 => (by rw [hlisted] at h0; cases h0)) hB' hh⟩) (wpOpM_of_list (opAt_some hk) h)
   . have hbeq : (k == z) = false := by simpa using hkz
     rw [if_neg hkz] at h
     rw [hbeq] at hcase
     simp only [Bool.false_eq_true, if_false] at hcase
     by_cases hp : plainOp (opAt l k).op = true
     . rw [if_pos hp] at h hcase
       simp only [Bool.and_eq_true, Bool.or_eq_true] at hcase
       obtain ⟨⟨hr, hf⟩, hor⟩ := hcase
       have h0 := opAt_some hk
       have hq : qOp P l.toArray (if blindOp (opAt l k).op then fun _ => True else C) k (fun a' => wpOrd P l C z Q ks a' w) a := by
        unfold qOp
        simp only [h0]
        simp only [wpQuiet] at h
        exact h
       obtain ⟨v, hy, hK⟩ := yieldsIn_of_qOp h0 hq
       have hy' := pure_of_quiet hp hy
       have hC' : (listed.setIfInBounds k true).getD z false = false -> C w := fun h0 => hC (by rwa [getD_set_ne false hkz] at h0)
       have hnext := ih (listed.setIfInBounds k true) (a.put (opAt l k).dst v) w hsz' hC' hB' hK
       by_cases hb : blindOp (opAt l k).op = true
       . rw [if_pos hb] at hy'
         exact wpAnyD_first (fun _ => True) (fun _ => True) (fun _ _ _ _ _ _ => trivial) (fun _ _ _ _ => trivial) hkz h0 (Region.noSelect_spec hs) ks.length listed a w hC trivial (Region.free_spec h0 hf) (by simpa using hr) hy' hnext
       . rw [if_neg hb] at hy'
         have hor' := hor.resolve_left hb
         simp only [Bool.and_eq_true, Bool.not_eq_true'] at hor'
         exact wpAnyD_first C (fun L => L.getD z false = false) (fun L j hL hi hj hji => by
          have hjz : j ≠ z := fun e => ahead_spec hor'.2 hi (by rw [<- e]; exact hj)
          show (L.setIfInBounds j true).getD z false = false
          rw [getD_set_ne false hjz]; exact hL) (fun L w hL h => h hL) hkz h0 (Region.noSelect_spec hs) ks.length listed a w hC hor'.1 (Region.free_spec h0 hf) (by simpa using hr) hy' hnext
     . rw [if_neg hp] at h hcase
       simp only [beq_iff_eq] at hcase
       refine ⟨fun h0 => (by rw [hcase] at h0; cases h0), fun i hi => ?_⟩
       rw [hcase] at hi
       obtain rfl : i = k := by simpa using hi
       exact wpOpM_mono (fun a' w' hh => ⟨fun _ => hh.1, ih _ a' w' hsz' (fun _ => hh.1) hB' hh.2⟩) (wpOpM_of_list (opAt_some hk) h)
theorem blind_run {o : Oper} (h : blindOp o.op = true) (ρ : Operand -> Value) : (∃ v, ∀ w, (execOp ρ o).run P w = .ok (.value v) w) ∨ (∀ w, ∃ x w', (execOp ρ o).run P w = .halt x w') := by
 obtain ⟨dst, op, ty, pos, after, guard⟩ := o
 cases op <;> simp only [blindOp, Bool.false_eq_true] at h
 case move x => exact .inl ⟨ρ x, fun w => by simp [execOp, go_sem]⟩
 case assign x => exact .inl ⟨ρ x, fun w => by simp [execOp, go_sem]⟩
 case extract x i =>
  cases hx : ρ x
  case tuple vs =>
   cases hy : vs[i]?
   case some v => exact .inl ⟨v, fun w => by simp [execOp, hx, hy, go_sem]⟩
   case none => exact .inr fun w => ⟨_, w, by simp [execOp, hx, hy, go_sem]; exact rfl⟩
  all_goals exact .inr fun w => ⟨_, w, by simp [execOp, hx, go_sem]; exact rfl⟩
theorem quiet_blind {o : Oper} (hb : blindOp o.op = true) {a : Act} {W : World} {K : Act -> Prop} (h : ∀ v, (execOp a.eval o).run P W = .ok (.value v) W -> K (a.put o.dst v)) (hh : ∀ x w', (execOp a.eval o).run P W ≠ .halt x w') :
 o.quiet P a (fun _ => True) K := by
 rcases blind_run (P := P) hb a.eval with ⟨v, hv⟩ | hx
 . exact ⟨v, fun w _ => by unfold Oper.quietAt; rw [hv w]; exact ⟨rfl, rfl⟩, h v (hv W)⟩
 . obtain ⟨x, w', hx⟩ := hx W
   exact absurd hx (hh x w')
theorem wpQuiet_blind_up {o : Oper} (hb : blindOp o.op = true) {W : World} {Q : Act -> Prop} {a : Act} (h : wpQuiet P ops (fun w => w = W) Q [o] a) : wpQuiet P ops (fun _ => True) Q [o] a := by
 simp only [wpQuiet] at h ⊢
 split
 . rename_i hw
   rw [if_pos hw] at h
   obtain ⟨v, hv, hn⟩ := h
   have h1 := hv W rfl
   unfold Oper.quietAt at h1
   refine quiet_blind hb (W := W) (fun u hu => ?_) (fun x w' hx => ?_)
   . rw [hu] at h1; rw [h1.2]; exact hn
   . rw [hx] at h1; exact h1
 . rename_i hw; rw [if_neg hw] at h; exact h
theorem wpList_parts {o : Oper} {rest : List Oper} {Q : Act -> World -> Prop} {a : Act} {w : World} (h : wpList P ops (onlyNormal Q) (o :: rest) a w) :
 if Region.wanted o (yielded ops a.tmps) then o.wp P a w (wpList P ops (onlyNormal Q) rest) NoQ else wpList P ops (onlyNormal Q) rest (a.put o.dst undef) w := by
 unfold wpList at h
 split
 . rename_i hw
   rw [if_pos hw] at h
   rcases h with h | ⟨_, _, _, h⟩
   . exact wp_of_onlyNormal h
   . exact absurd h (by simp [onlyNormal])
 . rename_i hw; rw [if_neg hw] at h; exact h
theorem wpOrd_rest {l : List Oper} {Q : Act -> World -> Prop} : ∀ (ks : List Nat) (a : Act) (w : World), (∀ k ∈ ks, k ≠ z /\ blindOp (opAt l k).op = true) ->
 wpList P l.toArray (onlyNormal Q) (ks.map (opAt l)) a w -> wpOrd P l C z Q ks a w := by
 intro ks
 induction ks with
 | nil => exact fun a w _ h => h
 | cons k ks ih =>
   intro a w hk h
   obtain ⟨hz, hb⟩ := hk k (by simp)
   have hp : plainOp (opAt l k).op = true := by
    revert hb; cases (opAt l k).op <;> simp [blindOp, plainOp]
   simp only [wpOrd]
   rw [if_neg hz, if_pos hp, if_pos hb]
   have h1 := wpList_parts h
   simp only [wpQuiet]
   split
   . rename_i hw
     rw [if_pos hw] at h1
     unfold Oper.wp at h1
     refine quiet_blind hb (W := w) (fun v hv => ?_) (fun x w' hx => ?_)
     . rw [hv] at h1
       exact ih _ _ (fun k' hk' => hk k' (by simp [hk'])) h1
     . rw [hx] at h1
       cases x <;> simp only [Oper.upon, NoQ] at h1
   . rename_i hw
     rw [if_neg hw] at h1
     exact ih _ _ (fun k' hk' => hk k' (by simp [hk'])) h1
theorem wpOrd_of_still {l : List Oper} {W : World} {Q : Act -> World -> Prop} {R : Act -> Prop} {tl : List Nat} (hR : ∀ a, R a -> wpOrd P l (fun w => w = W) z Q tl a W) :
 ∀ (ks : List Nat) (a : Act), (∀ k ∈ ks, k ≠ z) -> wpStill P l.toArray W R (ks.map (opAt l)) a -> wpOrd P l (fun w => w = W) z Q (ks ++ tl) a W := by
 intro ks
 induction ks with
 | nil => exact fun a _ h => hR a h
 | cons k ks ih =>
   intro a hk h
   have hz := hk k (by simp)
   have ih' := fun a => ih a (fun k' hk' => hk k' (by simp [hk']))
   simp only [List.map_cons, wpStill] at h
   simp only [List.cons_append, wpOrd]
   rw [if_neg hz]
   have hst : wpStill P l.toArray W (fun a' => wpOrd P l (fun w => w = W) z Q (ks ++ tl) a' W) [opAt l k] a := by
    simp only [wpStill]
    split
    . rename_i hw; rw [if_pos hw] at h; exact Oper.still_mono (fun a' ha => ih' a' ha) h
    . rename_i hw; rw [if_neg hw] at h; exact ih' _ h
   split
   . split
     . rename_i hb; exact wpQuiet_blind_up hb (wpQuiet_of_still _ _ hst)
     . exact wpQuiet_of_still _ _ hst
   . simp only [wpStill] at hst
     exact wpList_of_still (fun a' ha => ⟨rfl, ha⟩) hst
def storeB (l : List Oper) (z : Nat) (ks rest : List Nat) : Bool :=
 Region.noSelect l.toArray && fitsD .any l z (ks ++ z :: rest) (Array.replicate l.length false) && (ks ++ z :: rest).length == l.length && ks.all (fun k => k != z) && rest.all (fun k => k != z && blindOp (opAt l k).op)
theorem wp_region_store {id : Nat} {Q : Exit -> Act -> World -> Prop} {a : Act} {w : World} {l : List Oper} (ks : List Nat) (z : Nat) (rest : List Nat) (hm : P.follows .mixedOrders = true) (hB : storeB l z ks rest = true)
 (h : wpStill P l.toArray w.drew (fun a' => wpList P l.toArray (onlyNormal fun a w => Q .normal a w) ((z :: rest).map (opAt l)) a' w.drew) (ks.map (opAt l)) a) : (Code.region id l.toArray true).wp P Q a w := by
 simp only [storeB, Bool.and_eq_true, beq_iff_eq, List.all_eq_true, bne_iff_ne] at hB
 obtain ⟨⟨⟨⟨h1, h2⟩, h3⟩, h4⟩, h5⟩ := hB
 refine wp_region_any hm (wpAny_of_D (Q := fun a' w' => Q .normal a' w') (C := fun w' => w' = w.drew) (z := z) (fun _ _ h => h) _ _ _ _ ?_)
 have := wpAnyD_of_ord (P := P) (C := fun w' => w' = w.drew) (md := .any) (z := z) (Q := fun a' w' => Q .normal a' w') h1 (ks ++ z :: rest) (Array.replicate l.length false) a w.drew (by simp) (fun _ => rfl) h2
  (wpOrd_of_still (fun a' ha => by
    simp only [wpOrd, if_true]
    have h6 := wpList_parts ha
    unfold wpList
    split
    . rename_i hw
      rw [if_pos hw] at h6
      exact .inl (wp_weaken (fun a2 w2 h7 => wpOrd_rest rest a2 w2 h5 h7) h6)
    . rename_i hw
      rw [if_neg hw] at h6
      exact wpOrd_rest rest _ _ h5 h6) ks a h4 h)
 rw [h3] at this
 simpa using this
end
end
end Go.Proofs.YtkdnebalpdebeaaGreatDoor
