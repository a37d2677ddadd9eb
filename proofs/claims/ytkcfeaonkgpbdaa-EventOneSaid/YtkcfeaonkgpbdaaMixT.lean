import Derived.Test.YtkcfeaonkgpbdaaMix
/-! As 'wp_region_mix', for regions in which two operations that turn the world are ready at once: the plan forks. -/
namespace Go.Proofs.Ytkcfeaonkgpbdaa
open Go
set_option linter.unusedVariables false
set_option linter.unusedSimpArgs false
inductive Plan where
  | nil
  | seg (ks : List Nat) (p : Plan)
  | turn (k : Nat) (p : Plan)
  | fork (i : Nat) (p : Plan) (j : Nat) (q : Plan)
def Plan.len : Plan → Nat
  | .nil => 0
  | .seg ks p => ks.length + p.len
  | .turn _ p => p.len + 1
  | .fork _ p _ _ => p.len + 1
section
variable {P : Program} {ops : Array Oper} {md : Region.Mode} {C : World → Prop}
def segB (md : Region.Mode) (ops : Array Oper) : List Nat → Array Bool → Option (Array Bool)
  | [], listed => some listed
  | k :: r, listed => if (Region.ready md ops listed).contains k && Region.free md ops listed k && ((ops[k]?).map (plainOp ·.op)).getD false then segB md ops r (listed.setIfInBounds k true) else none
def Plan.fits (md : Region.Mode) (ops : Array Oper) : Plan → Array Bool → Bool
  | .nil, listed => (Region.ready md ops listed).isEmpty
  | .seg ks p, listed => ks.all (fun k => decide (k < ops.size)) && (match segB md ops ks listed with | some l => p.fits md ops l | none => false)
  | .turn k p, listed => decide (k < ops.size) && (Region.ready md ops listed == [k] && p.fits md ops (listed.setIfInBounds k true))
  | .fork i p j q, listed => decide (i < ops.size) && (decide (j < ops.size) && (Region.ready md ops listed == [i, j] && (p.len == q.len && (p.fits md ops (listed.setIfInBounds i true) && q.fits md ops (listed.setIfInBounds j true)))))
def wpPlan (P : Program) (l : List Oper) (C : World → Prop) (Q : Act → World → Prop) : Plan → Act → World → Prop
  | .nil, a, w => Q a w
  | .seg ks p, a, w => wpQuiet P l.toArray C (fun a' => wpPlan P l C Q p a' w) (ks.map (opAt l)) a
  | .turn k p, a, w => wpList P l.toArray (onlyNormal fun a w => C w ∧ wpPlan P l C Q p a w) [opAt l k] a w
  | .fork i p j q, a, w => wpList P l.toArray (onlyNormal fun a w => C w ∧ wpPlan P l C Q p a w) [opAt l i] a w ∧ wpList P l.toArray (onlyNormal fun a w => C w ∧ wpPlan P l C Q q a w) [opAt l j] a w
theorem opAt_some {l : List Oper} {k : Nat} (h : k < l.length) : l.toArray[k]? = some (opAt l k) := by simp [opAt, h]
theorem wpAnyM_of_seg {Q : Act → World → Prop} {l : List Oper} (hs : Region.noSelect l.toArray = true) {n : Nat} {G : Act → Prop} {w : World} (hC : C w) : ∀ (ks : List Nat) (listed listed' : Array Bool) (a : Act),
    (∀ k ∈ ks, k < l.length) → segB md l.toArray ks listed = some listed' → (∀ a', G a' → wpAnyM P md l.toArray C Q n listed' a' w) → wpQuiet P l.toArray C G (ks.map (opAt l)) a → wpAnyM P md l.toArray C Q (ks.length + n) listed a w
  | [], listed, listed', a, _, hB, hG, h => by
    simp only [segB, Option.some.injEq] at hB
    subst hB
    simpa using hG a h
  | k :: ks, listed, listed', a, hk, hB, hG, h => by
    simp only [segB] at hB
    split at hB
    case isFalse => cases hB
    rename_i hc
    simp only [Bool.and_eq_true] at hc
    obtain ⟨⟨hr, hf⟩, hp⟩ := hc
    have h0 := opAt_some (hk k (by simp))
    rw [h0] at hp
    have hq : qOp P l.toArray C k (fun a' => wpQuiet P l.toArray C G (ks.map (opAt l)) a') a := by
      unfold qOp
      simp only [h0]
      simp only [List.map_cons, wpQuiet] at h
      exact h
    obtain ⟨v, hy, hK⟩ := yieldsIn_of_qOp h0 hq
    rw [show (k :: ks).length + n = (ks.length + n) + 1 from by simp; omega]
    exact wpAnyM_first h0 (Region.noSelect_spec hs) (ks.length + n) listed a w hC (Region.free_spec h0 hf) (by simpa using hr) (pure_of_quiet (by simpa using hp) hy)
      (wpAnyM_of_seg hs hC ks _ _ _ (fun k' hk' => hk k' (by simp [hk'])) hB hG hK)
theorem wpAnyM_of_plan {Q : Act → World → Prop} {l : List Oper} (hs : Region.noSelect l.toArray = true) : ∀ (p : Plan) (listed : Array Bool) (a : Act) (w : World), C w →
    p.fits md l.toArray listed = true → wpPlan P l C Q p a w → wpAnyM P md l.toArray C Q p.len listed a w
  | .nil, _, _, _, _, hB, h => ⟨by simpa [Plan.fits] using hB, h⟩
  | .seg ks p, listed, a, w, hC, hB, h => by
    simp only [Plan.fits, Bool.and_eq_true, List.all_eq_true, decide_eq_true_eq] at hB
    obtain ⟨hk, hB⟩ := hB
    split at hB
    case h_2 => cases hB
    rename_i l' hl
    exact wpAnyM_of_seg hs hC ks listed l' a (fun k hk' => by simpa using hk k hk') hl (fun a' ha => wpAnyM_of_plan hs p l' a' w hC hB ha) h
  | .turn k p, listed, a, w, hC, hB, h => by
    simp only [Plan.fits, Bool.and_eq_true, beq_iff_eq, decide_eq_true_eq] at hB
    obtain ⟨hk, hr, hB'⟩ := hB
    refine ⟨fun h0 => (by rw [hr] at h0; cases h0), fun i hi => ?_⟩
    rw [hr] at hi
    obtain rfl : i = k := by simpa using hi
    exact wpOpM_mono (fun a' w' hk => ⟨hk.1, wpAnyM_of_plan hs p _ a' w' hk.1 hB' hk.2⟩) (wpOpM_of_list (opAt_some (by simpa using hk)) h)
  | .fork i p j q, listed, a, w, hC, hB, h => by
    simp only [Plan.fits, Bool.and_eq_true, beq_iff_eq, decide_eq_true_eq] at hB
    obtain ⟨hi', hj', hr, hlen, hp, hq⟩ := hB
    refine ⟨fun h0 => (by rw [hr] at h0; cases h0), fun m hm => ?_⟩
    rw [hr] at hm
    simp only [List.mem_cons, List.not_mem_nil, or_false] at hm
    rcases hm with rfl | rfl
    · exact wpOpM_mono (fun a' w' hk => ⟨hk.1, wpAnyM_of_plan hs p _ a' w' hk.1 hp hk.2⟩) (wpOpM_of_list (opAt_some (by simpa using hi')) h.1)
    · exact wpOpM_mono (fun a' w' hk => ⟨hk.1, by have := wpAnyM_of_plan hs q _ a' w' hk.1 hq hk.2; rwa [← hlen] at this⟩) (wpOpM_of_list (opAt_some (by simpa using hj')) h.2)
def mixT (l : List Oper) (p : Plan) : Bool := Region.noSelect l.toArray && (p.fits .any l.toArray (Array.replicate l.toArray.size false) && p.len == l.length)
theorem wp_region_tree {id : Nat} {Q : Exit → Act → World → Prop} {a : Act} {w : World} {l : List Oper} (p : Plan) (hm : P.follows .mixedOrders = true) (hB : mixT l p = true)
    (hC : C w.drew) (h : wpPlan P l C (fun a' w' => Q .normal a' w') p a w.drew) : (Code.region id l.toArray true).wp P Q a w := by
  simp only [mixT, Bool.and_eq_true, beq_iff_eq] at hB
  obtain ⟨h1, h2, h3⟩ := hB
  refine wp_region_any hm (wpAny_of_M (Q := fun a' w' => Q .normal a' w') (C := C) (fun _ _ h => h) _ _ _ _ ?_)
  have := wpAnyM_of_plan (P := P) (C := C) (md := .any) (Q := fun a' w' => Q .normal a' w') h1 p _ a w.drew hC h2 h
  rw [h3] at this
  simpa using this
end
end Go.Proofs.Ytkcfeaonkgpbdaa
