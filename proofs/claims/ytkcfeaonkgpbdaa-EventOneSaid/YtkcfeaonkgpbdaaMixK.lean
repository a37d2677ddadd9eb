import Derived.Test.YtkcfeaonkgpbdaaMixT
/-! As 'wp_region_tree', where the last operation of the region stores into what the others read: behind it nothing need be known of the class. -/
namespace Go.Proofs.Ytkcfeaonkgpbdaa
open Go
set_option linter.unusedVariables false
set_option linter.unusedSimpArgs false
section
variable {P : Program} {ops : Array Oper} {md : Region.Mode} {C : World → Prop} {z : Nat}
def wpAnyK (P : Program) (md : Region.Mode) (ops : Array Oper) (C : World → Prop) (z : Nat) (Q : Act → World → Prop) : Nat → Array Bool → Act → World → Prop
  | 0, listed, a, w => Region.ready md ops listed = [] ∧ Q a w
  | fuel + 1, listed, a, w => (Region.ready md ops listed = [] → Q a w) ∧
    ∀ i ∈ Region.ready md ops listed, wpOpM P ops i (fun a w => (i ≠ z → C w) ∧ wpAnyK P md ops C z Q fuel (listed.setIfInBounds i true) a w) a w
theorem wpAny_of_K {Q : Act → World → Prop} {Q' : Exit → Act → World → Prop} (hQ : ∀ a w, Q a w → Q' .normal a w) : ∀ (fuel : Nat) (listed : Array Bool) (a : Act) (w : World),
    wpAnyK P md ops C z Q fuel listed a w → wpAny P md ops Q' fuel listed a w
  | 0, _, _, _, h => ⟨h.1, hQ _ _ h.2⟩
  | fuel + 1, _, _, _, h => ⟨fun h0 => hQ _ _ (h.1 h0), fun i hi => wpOp_of_M (fun a' w' hk => wpAny_of_K hQ fuel _ a' w' hk.2) (h.2 i hi)⟩
/-- the last operation stands behind every other one -/
def lastB (md : Region.Mode) (ops : Array Oper) (z : Nat) : Bool := match ops[z]? with
  | none => false
  | some o => (List.range ops.size).all fun i => i == z || o.after.any fun e => Region.binds md e && e.on == i
theorem last_spec (h : lastB md ops z = true) {listed : Array Bool} (hz : z ∈ Region.ready md ops listed) {i : Nat} (hi : i < ops.size) (hne : i ≠ z) : i ∉ Region.ready md ops listed := by
  intro hri
  unfold lastB at h
  obtain ⟨_, o, ho, hall⟩ := mem_ready.1 hz
  rw [ho] at h
  simp only [List.all_eq_true, List.mem_range, Bool.or_eq_true, beq_iff_eq, Array.any_eq_true'] at h
  rcases h i hi with h1 | ⟨e, he, h1⟩
  · exact hne h1
  · simp only [Bool.and_eq_true, beq_iff_eq] at h1
    have h2 := hall e he h1.1
    rw [h1.2] at h2
    have h3 := (mem_ready.1 hri).1
    rcases Nat.lt_or_ge i listed.size with h' | h'
    · simp [h'] at h2 h3; rw [h2] at h3; cases h3
    · simp [Array.getElem?_eq_none h'] at h3
theorem wpAnyK_first {Q : Act → World → Prop} {i : Nat} {oi : Oper} {v : Value} (hz : lastB md ops z = true) (hiz : i ≠ z) (hi : ops[i]? = some oi) (hsel : ∀ (j : Nat) (o : Oper) cs b, ops[j]? = some o → o.op ≠ .select cs b) :
    ∀ (fuel : Nat) (listed : Array Bool) (a : Act) (w : World), C w →
      (∀ j oj, ops[j]? = some oj → j ≠ i → listed.getD j true = false → (∀ e ∈ oj.after, Region.binds md e = true → e.on ≠ i) → oi.apart ops oj = true) →
      i ∈ Region.ready md ops listed → PureIn P ops C oi v a →
      wpAnyK P md ops C z Q fuel (listed.setIfInBounds i true) (a.put oi.dst v) w → wpAnyK P md ops C z Q (fuel + 1) listed a w := by
  intro fuel
  induction fuel with
  | zero =>
    intro listed a w hC _ hr hy H
    refine ⟨fun h => (by rw [h] at hr; cases hr), fun j hj => ?_⟩
    by_cases hji : j = i
    · subst hji; exact hy.wpOpM hi hC ⟨fun _ => hC, H⟩
    · have := ready_mono hj hji
      rw [H.1] at this
      cases this
  | succ fuel ih =>
    intro listed a w hC hfree hr hy H
    refine ⟨fun h => (by rw [h] at hr; cases hr), fun j hj => ?_⟩
    by_cases hji : j = i
    · subst hji; exact hy.wpOpM hi hC ⟨fun _ => hC, H⟩
    · have hjz : j ≠ z := by
        intro e
        subst e
        exact last_spec hz hj (Array.getElem?_eq_some_iff.1 hi).1 hiz hr
      have h1 := H.2 j (ready_mono hj hji)
      obtain ⟨hjun, oj, hoj, hall⟩ := mem_ready.1 hj
      have hnot : ∀ e ∈ oj.after, Region.binds md e = true → e.on ≠ i := fun e he hb heq => by
        have h1 := hall e he hb
        have h0 := (mem_ready.1 hr).1
        rw [heq] at h1
        rcases Nat.lt_or_ge i listed.size with h' | h'
        · simp [h'] at h0 h1; rw [h0] at h1; cases h1
        · simp [Array.getElem?_eq_none h'] at h1
      have h2 := wpOpM_put hoj (hfree j oj hoj hji hjun hnot) (fun cs b => hsel i oi cs b hi) (fun cs b => hsel j oj cs b hoj) hy h1
      have hfree' : ∀ k ok, ops[k]? = some ok → k ≠ i → (listed.setIfInBounds j true).getD k true = false →
          (∀ e ∈ ok.after, Region.binds md e = true → e.on ≠ i) → oi.apart ops ok = true := fun k ok hk hki hun hno => by
        refine hfree k ok hk hki ?_ hno
        by_cases hjk : j = k
        · subst hjk; exact hjun
        · rw [getD_set_ne true hjk] at hun; exact hun
      refine wpOpM_mono (fun a' w' h3 => ⟨fun _ => h3.2.1 hjz, ih (listed.setIfInBounds j true) a' w' (h3.2.1 hjz) hfree' (ready_mono hr (Ne.symm hji)) h3.1 ?_⟩) h2
      rw [Array.setIfInBounds_comm _ _ hji]
      exact h3.2.2
inductive PlanK where
  | nil
  | last
  | seg (ks : List Nat) (p : PlanK)
  | turn (k : Nat) (p : PlanK)
  | fork (i : Nat) (p : PlanK) (j : Nat) (q : PlanK)
def PlanK.len : PlanK → Nat
  | .nil => 0
  | .last => 1
  | .seg ks p => ks.length + p.len
  | .turn _ p => p.len + 1
  | .fork _ p _ _ => p.len + 1
def PlanK.fits (md : Region.Mode) (ops : Array Oper) (z : Nat) : PlanK → Array Bool → Bool
  | .nil, listed => (Region.ready md ops listed).isEmpty
  | .last, listed => decide (z < ops.size) && (Region.ready md ops listed == [z] && (Region.ready md ops (listed.setIfInBounds z true)).isEmpty)
  | .seg ks p, listed => ks.all (fun k => decide (k < ops.size) && k != z) && (match segB md ops ks listed with | some l => p.fits md ops z l | none => false)
  | .turn k p, listed => (decide (k < ops.size) && k != z) && (Region.ready md ops listed == [k] && p.fits md ops z (listed.setIfInBounds k true))
  | .fork i p j q, listed => (decide (i < ops.size) && i != z) && ((decide (j < ops.size) && j != z) && (Region.ready md ops listed == [i, j] && (p.len == q.len && (p.fits md ops z (listed.setIfInBounds i true) && q.fits md ops z (listed.setIfInBounds j true)))))
def wpPlanK (P : Program) (l : List Oper) (C : World → Prop) (z : Nat) (Q : Act → World → Prop) : PlanK → Act → World → Prop
  | .nil, a, w => Q a w
  | .last, a, w => wpList P l.toArray (onlyNormal fun a w => Q a w) [opAt l z] a w
  | .seg ks p, a, w => wpQuiet P l.toArray C (fun a' => wpPlanK P l C z Q p a' w) (ks.map (opAt l)) a
  | .turn k p, a, w => wpList P l.toArray (onlyNormal fun a w => C w ∧ wpPlanK P l C z Q p a w) [opAt l k] a w
  | .fork i p j q, a, w => wpList P l.toArray (onlyNormal fun a w => C w ∧ wpPlanK P l C z Q p a w) [opAt l i] a w ∧ wpList P l.toArray (onlyNormal fun a w => C w ∧ wpPlanK P l C z Q q a w) [opAt l j] a w
theorem wpAnyK_of_seg {Q : Act → World → Prop} {l : List Oper} (hs : Region.noSelect l.toArray = true) (hz : lastB md l.toArray z = true) {n : Nat} {G : Act → Prop} {w : World} (hC : C w) : ∀ (ks : List Nat) (listed listed' : Array Bool) (a : Act),
    (∀ k ∈ ks, k < l.length ∧ k ≠ z) → segB md l.toArray ks listed = some listed' → (∀ a', G a' → wpAnyK P md l.toArray C z Q n listed' a' w) → wpQuiet P l.toArray C G (ks.map (opAt l)) a → wpAnyK P md l.toArray C z Q (ks.length + n) listed a w
  | [], listed, listed', a, _, hB, hG, h => by
    simp only [segB, Option.some.injEq] at hB
    subst hB
    simpa using hG a h
  | k :: ks, listed, listed', a, hk, hB, hG, h => by
    simp only [segB] at hB
    split at hB
    case isFalse => cases hB
    rename_i hc
    simp only [Bool.and_eq_true] at hc
    obtain ⟨⟨hr, hf⟩, hp⟩ := hc
    have h0 := opAt_some (hk k (by simp)).1
    rw [h0] at hp
    have hq : qOp P l.toArray C k (fun a' => wpQuiet P l.toArray C G (ks.map (opAt l)) a') a := by
      unfold qOp
      simp only [h0]
      simp only [List.map_cons, wpQuiet] at h
      exact h
    obtain ⟨v, hy, hK⟩ := yieldsIn_of_qOp h0 hq
    rw [show (k :: ks).length + n = (ks.length + n) + 1 from by simp; omega]
    exact wpAnyK_first hz (hk k (by simp)).2 h0 (Region.noSelect_spec hs) (ks.length + n) listed a w hC (Region.free_spec h0 hf) (by simpa using hr) (pure_of_quiet (by simpa using hp) hy)
      (wpAnyK_of_seg hs hz hC ks _ _ _ (fun k' hk' => hk k' (by simp [hk'])) hB hG hK)
theorem wpAnyK_of_plan {Q : Act → World → Prop} {l : List Oper} (hs : Region.noSelect l.toArray = true) (hz : lastB md l.toArray z = true) : ∀ (p : PlanK) (listed : Array Bool) (a : Act) (w : World), C w →
    p.fits md l.toArray z listed = true → wpPlanK P l C z Q p a w → wpAnyK P md l.toArray C z Q p.len listed a w
  | .nil, _, _, _, _, hB, h => ⟨by simpa [PlanK.fits] using hB, h⟩
  | .last, listed, a, w, hC, hB, h => by
    simp only [PlanK.fits, Bool.and_eq_true, beq_iff_eq, decide_eq_true_eq] at hB
    obtain ⟨hk, hr, hB'⟩ := hB
    refine ⟨fun h0 => (by rw [hr] at h0; cases h0), fun i hi => ?_⟩
    rw [hr] at hi
    obtain rfl : i = z := by simpa using hi
    exact wpOpM_mono (fun a' w' hk => ⟨fun h0 => absurd rfl h0, by simpa using hB', hk⟩) (wpOpM_of_list (opAt_some (by simpa using hk)) h)
  | .seg ks p, listed, a, w, hC, hB, h => by
    simp only [PlanK.fits, Bool.and_eq_true, List.all_eq_true, decide_eq_true_eq, bne_iff_ne] at hB
    obtain ⟨hk, hB⟩ := hB
    split at hB
    case h_2 => cases hB
    rename_i l' hl
    exact wpAnyK_of_seg hs hz hC ks listed l' a (fun k hk' => ⟨by simpa using (hk k hk').1, (hk k hk').2⟩) hl (fun a' ha => wpAnyK_of_plan hs hz p l' a' w hC hB ha) h
  | .turn k p, listed, a, w, hC, hB, h => by
    simp only [PlanK.fits, Bool.and_eq_true, beq_iff_eq, decide_eq_true_eq, bne_iff_ne] at hB
    obtain ⟨⟨hk, hkz⟩, hr, hB'⟩ := hB
    refine ⟨fun h0 => (by rw [hr] at h0; cases h0), fun i hi => ?_⟩
    rw [hr] at hi
    obtain rfl : i = k := by simpa using hi
    exact wpOpM_mono (fun a' w' hk => ⟨fun _ => hk.1, wpAnyK_of_plan hs hz p _ a' w' hk.1 hB' hk.2⟩) (wpOpM_of_list (opAt_some (by simpa using hk)) h)
  | .fork i p j q, listed, a, w, hC, hB, h => by
    simp only [PlanK.fits, Bool.and_eq_true, beq_iff_eq, decide_eq_true_eq, bne_iff_ne] at hB
    obtain ⟨⟨hi', hiz⟩, ⟨hj', hjz⟩, hr, hlen, hp, hq⟩ := hB
    refine ⟨fun h0 => (by rw [hr] at h0; cases h0), fun m hm => ?_⟩
    rw [hr] at hm
    simp only [List.mem_cons, List.not_mem_nil, or_false] at hm
    rcases hm with rfl | rfl
    · exact wpOpM_mono (fun a' w' hk => ⟨fun _ => hk.1, wpAnyK_of_plan hs hz p _ a' w' hk.1 hp hk.2⟩) (wpOpM_of_list (opAt_some (by simpa using hi')) h.1)
    · exact wpOpM_mono (fun a' w' hk => ⟨fun _ => hk.1, by have := wpAnyK_of_plan hs hz q _ a' w' hk.1 hq hk.2; rwa [← hlen] at this⟩) (wpOpM_of_list (opAt_some (by simpa using hj')) h.2)
def mixK (l : List Oper) (z : Nat) (p : PlanK) : Bool := Region.noSelect l.toArray && (lastB .any l.toArray z && (p.fits .any l.toArray z (Array.replicate l.toArray.size false) && p.len == l.length))
theorem wp_region_treeK {id : Nat} {Q : Exit → Act → World → Prop} {a : Act} {w : World} {l : List Oper} (z : Nat) (p : PlanK) (hm : P.follows .mixedOrders = true) (hB : mixK l z p = true)
    (hC : C w.drew) (h : wpPlanK P l C z (fun a' w' => Q .normal a' w') p a w.drew) : (Code.region id l.toArray true).wp P Q a w := by
  simp only [mixK, Bool.and_eq_true, beq_iff_eq] at hB
  obtain ⟨h1, hz, h2, h3⟩ := hB
  refine wp_region_any hm (wpAny_of_K (Q := fun a' w' => Q .normal a' w') (C := C) (z := z) (fun _ _ h => h) _ _ _ _ ?_)
  have := wpAnyK_of_plan (P := P) (C := C) (md := .any) (Q := fun a' w' => Q .normal a' w') h1 hz p _ a w.drew hC h2 h
  rw [h3] at this
  simpa using this
end
end Go.Proofs.Ytkcfeaonkgpbdaa
