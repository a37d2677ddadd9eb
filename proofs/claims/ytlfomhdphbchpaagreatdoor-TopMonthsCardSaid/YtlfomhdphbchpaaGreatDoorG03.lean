/- Lemmas of a claim, several texts in one: MixO, MixD, Cls -/
import Derived.Test.YtlfomhdphbchpaaGreatDoorG02
import Derived.StillTailTactics
import Derived.Laws.Rows
/-! A region that draws its order and leaves the world as it is but for one last store: one walk, in an order of our own. -/
namespace Go.Proofs.YtlfomhdphbchpaaGreatDoor
open Go
set_option linter.unusedVariables false
set_option linter.unusedSimpArgs false
section
variable {P : Program}
theorem wpQuiet_of_still {ops : Array Oper} {W : World} {Q : Act → Prop} : ∀ (l : List Oper) (a : Act), wpStill P ops W Q l a → wpQuiet P ops (fun w => w = W) Q l a
  | [], _, h => h
  | o :: l, a, h => by
    simp only [wpStill, wpQuiet] at h ⊢
    split
    · rename_i hw
      rw [if_pos hw] at h
      unfold Oper.still at h
      unfold Oper.quiet
      generalize hr : (execOp a.eval o).run P W = r at h
      cases r with
      | ok n w' =>
        cases n <;> simp only [Oper.stillUpon] at h
        case value u => exact ⟨u, fun w hw => by subst hw; unfold Oper.quietAt; rw [hr]; exact ⟨h.1, rfl⟩, wpQuiet_of_still l _ h.2⟩
        case skip => exact ⟨undef, fun w hw => by subst hw; unfold Oper.quietAt; rw [hr]; exact ⟨h.1, rfl⟩, wpQuiet_of_still l _ h.2⟩
        case enter f args =>
          obtain ⟨h1, v, hc, hn⟩ := h
          exact ⟨v, fun w hw => by subst hw; unfold Oper.quietAt; rw [hr]; exact ⟨h1, hc⟩, wpQuiet_of_still l _ hn⟩
      | halt x w' => simp only [Oper.stillUpon] at h
    · rename_i hw
      rw [if_neg hw] at h
      exact wpQuiet_of_still l _ h
/-- the plan of an order; 'z': the last store, or none -/
def planO (l : List Oper) (z : Option Nat) : List Nat → PlanK
  | [] => match z with | some _ => .last | none => .nil
  | k :: ks => if plainOp (opAt l k).op then .seg [k] (planO l z ks) else .turn k (planO l z ks)
theorem wpList_of_still {ops : Array Oper} {W : World} {K : Act → Prop} {Q : Act → World → Prop} {o : Oper} {a : Act} (hK : ∀ a, K a → Q a W)
    (h : if Region.wanted o (yielded ops a.tmps) then o.still P a W K else K (a.put o.dst undef)) : wpList P ops (onlyNormal Q) [o] a W := by
  unfold wpList
  split
  · rename_i hw
    rw [if_pos hw] at h
    exact .inl (Oper.wp_of_still (fun a' ha => hK a' ha) h)
  · rename_i hw
    rw [if_neg hw] at h
    exact hK _ h
theorem wpPlanK_of_still {l : List Oper} {z : Nat} {zo : Option Nat} {W : World} {Q : Act → World → Prop} {R : Act → Prop} (hR : ∀ a, R a → wpPlanK P l (fun w => w = W) z Q (planO l zo []) a W) :
    ∀ (ks : List Nat) (a : Act), wpStill P l.toArray W R (ks.map (opAt l)) a → wpPlanK P l (fun w => w = W) z Q (planO l zo ks) a W
  | [], a, h => hR a h
  | k :: ks, a, h => by
    simp only [List.map_cons, wpStill] at h
    have ih := wpPlanK_of_still hR ks
    unfold planO
    split
    · simp only [wpPlanK, List.map_cons, List.map_nil]
      refine wpQuiet_of_still [opAt l k] a ?_
      simp only [wpStill]
      split
      · rename_i hw; rw [if_pos hw] at h; exact Oper.still_mono (fun a' ha => ih a' ha) h
      · rename_i hw; rw [if_neg hw] at h; exact ih _ h
    · simp only [wpPlanK]
      exact wpList_of_still (fun a' ha => ⟨rfl, ih a' ha⟩) h
/-- **One walk in an order of our own; the last operation may store.** -/
theorem wp_region_last {id : Nat} {Q : Exit → Act → World → Prop} {a : Act} {w : World} {l : List Oper} (ks : List Nat) (z : Nat) (hm : P.follows .mixedOrders = true) (hB : mixK l z (planO l (some z) ks) = true)
    (h : wpStill P l.toArray w.drew (fun a' => wpList P l.toArray (onlyNormal fun a w => Q .normal a w) [opAt l z] a' w.drew) (ks.map (opAt l)) a) : (Code.region id l.toArray true).wp P Q a w :=
  wp_region_treeK (C := fun w' => w' = w.drew) z (planO l (some z) ks) hm hB rfl (wpPlanK_of_still (fun _ h => h) ks a h)
end
end Go.Proofs.YtlfomhdphbchpaaGreatDoor

/-! A region that draws its order, with one store behind which blind operations may still come: one walk in an order of our own. -/
namespace Go.Proofs.YtlfomhdphbchpaaGreatDoor
open Go
set_option linter.unusedVariables false
set_option linter.unusedSimpArgs false
section
variable {P : Program} {ops : Array Oper} {md : Region.Mode} {C : World → Prop} {z : Nat}
/-- operations that neither read nor turn the world -/
def blindOp (o : Op) : Bool := match o with | .move _ | .assign _ | .extract .. => true | _ => false
theorem blind_any {o : Oper} (h : blindOp o.op = true) {ρ : Operand → Value} {w : World} {v : Value} (hv : pureUpon w v ((execOp ρ o).run P w)) (w' : World) : pureUpon w' v ((execOp ρ o).run P w') := by
  obtain ⟨dst, op, ty, pos, after, guard⟩ := o
  cases op <;> simp only [blindOp, Bool.false_eq_true] at h
  case move x => simp [execOp, pureUpon, go_sem] at hv ⊢; exact hv
  case assign x => simp [execOp, pureUpon, go_sem] at hv ⊢; exact hv
  case extract x i =>
    simp only [execOp] at hv ⊢
    cases hx : ρ x <;> simp [hx, pureUpon, go_sem] at hv ⊢
    rename_i vs
    cases hy : vs[i]? <;> simp [hy, go_sem] at hv ⊢
    exact hv
def wpAnyD (P : Program) (md : Region.Mode) (ops : Array Oper) (C : World → Prop) (z : Nat) (Q : Act → World → Prop) : Nat → Array Bool → Act → World → Prop
  | 0, listed, a, w => Region.ready md ops listed = [] ∧ Q a w
  | fuel + 1, listed, a, w => (Region.ready md ops listed = [] → Q a w) ∧
    ∀ i ∈ Region.ready md ops listed, wpOpM P ops i (fun a w => ((listed.setIfInBounds i true).getD z false = false → C w) ∧ wpAnyD P md ops C z Q fuel (listed.setIfInBounds i true) a w) a w
theorem wpAny_of_D {Q : Act → World → Prop} {Q' : Exit → Act → World → Prop} (hQ : ∀ a w, Q a w → Q' .normal a w) : ∀ (fuel : Nat) (listed : Array Bool) (a : Act) (w : World),
    wpAnyD P md ops C z Q fuel listed a w → wpAny P md ops Q' fuel listed a w
  | 0, _, _, _, h => ⟨h.1, hQ _ _ h.2⟩
  | fuel + 1, _, _, _, h => ⟨fun h0 => hQ _ _ (h.1 h0), fun i hi => wpOp_of_M (fun a' w' hk => wpAny_of_D hQ fuel _ a' w' hk.2) (h.2 i hi)⟩
theorem wpAnyD_first {Q : Act → World → Prop} {i : Nat} {oi : Oper} {v : Value} (C' : World → Prop) (G : Array Bool → Prop)
    (hG : ∀ listed j, G listed → i ∈ Region.ready md ops listed → j ∈ Region.ready md ops listed → j ≠ i → G (listed.setIfInBounds j true))
    (hGC : ∀ listed w, G listed → (listed.getD z false = false → C w) → C' w)
    (hiz : i ≠ z) (hi : ops[i]? = some oi) (hsel : ∀ (j : Nat) (o : Oper) cs b, ops[j]? = some o → o.op ≠ .select cs b) :
    ∀ (fuel : Nat) (listed : Array Bool) (a : Act) (w : World), (listed.getD z false = false → C w) → G listed →
      (∀ j oj, ops[j]? = some oj → j ≠ i → listed.getD j true = false → (∀ e ∈ oj.after, Region.binds md e = true → e.on ≠ i) → oi.apart ops oj = true) →
      i ∈ Region.ready md ops listed → PureIn P ops C' oi v a →
      wpAnyD P md ops C z Q fuel (listed.setIfInBounds i true) (a.put oi.dst v) w → wpAnyD P md ops C z Q (fuel + 1) listed a w := by
  intro fuel
  induction fuel with
  | zero =>
    intro listed a w hC hg _ hr hy H
    refine ⟨fun h => (by rw [h] at hr; cases hr), fun j hj => ?_⟩
    by_cases hji : j = i
    · subst hji; exact hy.wpOpM hi (hGC _ _ hg hC) ⟨fun h => hC (by rwa [getD_set_ne false hiz] at h), H⟩
    · have := ready_mono hj hji
      rw [H.1] at this
      cases this
  | succ fuel ih =>
    intro listed a w hC hg hfree hr hy H
    refine ⟨fun h => (by rw [h] at hr; cases hr), fun j hj => ?_⟩
    by_cases hji : j = i
    · subst hji; exact hy.wpOpM hi (hGC _ _ hg hC) ⟨fun h => hC (by rwa [getD_set_ne false hiz] at h), H⟩
    · have h1 := H.2 j (ready_mono hj hji)
      obtain ⟨hjun, oj, hoj, hall⟩ := mem_ready.1 hj
      have hnot : ∀ e ∈ oj.after, Region.binds md e = true → e.on ≠ i := fun e he hb heq => by
        have h1 := hall e he hb
        have h0 := (mem_ready.1 hr).1
        rw [heq] at h1
        rcases Nat.lt_or_ge i listed.size with h' | h'
        · simp [h'] at h0 h1; rw [h0] at h1; cases h1
        · simp [Array.getElem?_eq_none h'] at h1
      have h2 := wpOpM_put hoj (hfree j oj hoj hji hjun hnot) (fun cs b => hsel i oi cs b hi) (fun cs b => hsel j oj cs b hoj) hy h1
      have hfree' : ∀ k ok, ops[k]? = some ok → k ≠ i → (listed.setIfInBounds j true).getD k true = false →
          (∀ e ∈ ok.after, Region.binds md e = true → e.on ≠ i) → oi.apart ops ok = true := fun k ok hk hki hun hno => by
        refine hfree k ok hk hki ?_ hno
        by_cases hjk : j = k
        · subst hjk; exact hjun
        · rw [getD_set_ne true hjk] at hun; exact hun
      have hcomm := Array.setIfInBounds_comm (xs := listed) true true hji
      refine wpOpM_mono (fun a' w' h3 => ?_) h2
      have hC3 : (listed.setIfInBounds j true).getD z false = false → C w' := fun h => h3.2.1 (by
        rw [← hcomm, getD_set_ne false hiz]; exact h)
      exact ⟨hC3, ih (listed.setIfInBounds j true) a' w' hC3 (hG _ _ hg hr hj hji) hfree' (ready_mono hr (Ne.symm hji)) h3.1 (by
        rw [hcomm]; exact h3.2.2)⟩
/-- an operation stands ahead of the store by an edge -/
def aheadB (md : Region.Mode) (ops : Array Oper) (i z : Nat) : Bool := match ops[z]? with
  | none => false
  | some o => o.after.any fun e => Region.binds md e && e.on == i
theorem ahead_spec {i : Nat} (h : aheadB md ops i z = true) {listed : Array Bool} (hri : i ∈ Region.ready md ops listed) : z ∉ Region.ready md ops listed := by
  intro hz
  unfold aheadB at h
  obtain ⟨_, o, ho, hall⟩ := mem_ready.1 hz
  rw [ho] at h
  simp only [Array.any_eq_true'] at h
  obtain ⟨e, he, h1⟩ := h
  simp only [Bool.and_eq_true, beq_iff_eq] at h1
  have h2 := hall e he h1.1
  rw [h1.2] at h2
  have h3 := (mem_ready.1 hri).1
  rcases Nat.lt_or_ge i listed.size with h' | h'
  · simp [h'] at h2 h3; rw [h2] at h3; cases h3
  · simp [Array.getElem?_eq_none h'] at h3
def fitsD (md : Region.Mode) (l : List Oper) (z : Nat) : List Nat → Array Bool → Bool
  | [], listed => (Region.ready md l.toArray listed).isEmpty
  | k :: ks, listed => decide (k < l.length) && fitsD md l z ks (listed.setIfInBounds k true) &&
      (if k == z then Region.ready md l.toArray listed == [k]
       else if plainOp (opAt l k).op then (Region.ready md l.toArray listed).contains k && Region.free md l.toArray listed k && (blindOp (opAt l k).op || (!(listed.getD z false) && aheadB md l.toArray k z))
       else Region.ready md l.toArray listed == [k])
def wpOrd (P : Program) (l : List Oper) (C : World → Prop) (z : Nat) (Q : Act → World → Prop) : List Nat → Act → World → Prop
  | [], a, w => Q a w
  | k :: ks, a, w =>
    if k = z then wpList P l.toArray (onlyNormal fun a w => wpOrd P l C z Q ks a w) [opAt l k] a w
    else if plainOp (opAt l k).op then wpQuiet P l.toArray (if blindOp (opAt l k).op then fun _ => True else C) (fun a' => wpOrd P l C z Q ks a' w) [opAt l k] a
    else wpList P l.toArray (onlyNormal fun a w => C w ∧ wpOrd P l C z Q ks a w) [opAt l k] a w
theorem wpAnyD_of_ord {Q : Act → World → Prop} {l : List Oper} (hs : Region.noSelect l.toArray = true) : ∀ (ks : List Nat) (listed : Array Bool) (a : Act) (w : World), listed.size = l.length → (listed.getD z false = false → C w) →
    fitsD md l z ks listed = true → wpOrd P l C z Q ks a w → wpAnyD P md l.toArray C z Q ks.length listed a w := by
  intro ks
  induction ks with
  | nil => exact fun _ _ _ _ _ hB h => ⟨by simpa [fitsD] using hB, h⟩
  | cons k ks ih =>
    intro listed a w hsz hC hB h
    simp only [fitsD, Bool.and_eq_true, decide_eq_true_eq] at hB
    obtain ⟨⟨hk, hB'⟩, hcase⟩ := hB
    have hsz' : (listed.setIfInBounds k true).size = l.length := by simpa using hsz
    simp only [wpOrd] at h
    by_cases hkz : k = z
    · subst hkz
      simp only [beq_self_eq_true, if_true, beq_iff_eq] at hcase h
      refine ⟨fun h0 => (by rw [hcase] at h0; cases h0), fun i hi => ?_⟩
      rw [hcase] at hi
      obtain rfl : i = k := by simpa using hi
      have hlisted : (listed.setIfInBounds i true).getD i false = true := by simp [hsz, hk]
      exact wpOpM_mono (fun a' w' hh => ⟨fun h0 => (by rw [hlisted] at h0; cases h0), ih _ a' w' hsz' (fun h0 => (by rw [hlisted] at h0; cases h0)) hB' hh⟩) (wpOpM_of_list (opAt_some hk) h)
    · have hbeq : (k == z) = false := by simpa using hkz
      rw [if_neg hkz] at h
      rw [hbeq] at hcase
      simp only [Bool.false_eq_true, if_false] at hcase
      by_cases hp : plainOp (opAt l k).op = true
      · rw [if_pos hp] at h hcase
        simp only [Bool.and_eq_true, Bool.or_eq_true] at hcase
        obtain ⟨⟨hr, hf⟩, hor⟩ := hcase
        have h0 := opAt_some hk
        have hq : qOp P l.toArray (if blindOp (opAt l k).op then fun _ => True else C) k (fun a' => wpOrd P l C z Q ks a' w) a := by
          unfold qOp
          simp only [h0]
          simp only [wpQuiet] at h
          exact h
        obtain ⟨v, hy, hK⟩ := yieldsIn_of_qOp h0 hq
        have hy' := pure_of_quiet hp hy
        have hC' : (listed.setIfInBounds k true).getD z false = false → C w := fun h0 => hC (by rwa [getD_set_ne false hkz] at h0)
        have hnext := ih (listed.setIfInBounds k true) (a.put (opAt l k).dst v) w hsz' hC' hB' hK
        by_cases hb : blindOp (opAt l k).op = true
        · rw [if_pos hb] at hy'
          exact wpAnyD_first (fun _ => True) (fun _ => True) (fun _ _ _ _ _ _ => trivial) (fun _ _ _ _ => trivial) hkz h0 (Region.noSelect_spec hs) ks.length listed a w hC trivial (Region.free_spec h0 hf) (by simpa using hr) hy' hnext
        · rw [if_neg hb] at hy'
          have hor' := hor.resolve_left hb
          simp only [Bool.and_eq_true, Bool.not_eq_true'] at hor'
          exact wpAnyD_first C (fun L => L.getD z false = false) (fun L j hL hi hj hji => by
              have hjz : j ≠ z := fun e => ahead_spec hor'.2 hi (by rw [← e]; exact hj)
              show (L.setIfInBounds j true).getD z false = false
              rw [getD_set_ne false hjz]; exact hL) (fun L w hL h => h hL) hkz h0 (Region.noSelect_spec hs) ks.length listed a w hC hor'.1 (Region.free_spec h0 hf) (by simpa using hr) hy' hnext
      · rw [if_neg hp] at h hcase
        simp only [beq_iff_eq] at hcase
        refine ⟨fun h0 => (by rw [hcase] at h0; cases h0), fun i hi => ?_⟩
        rw [hcase] at hi
        obtain rfl : i = k := by simpa using hi
        exact wpOpM_mono (fun a' w' hh => ⟨fun _ => hh.1, ih _ a' w' hsz' (fun _ => hh.1) hB' hh.2⟩) (wpOpM_of_list (opAt_some hk) h)
theorem blind_run {o : Oper} (h : blindOp o.op = true) (ρ : Operand → Value) : (∃ v, ∀ w, (execOp ρ o).run P w = .ok (.value v) w) ∨ (∀ w, ∃ x w', (execOp ρ o).run P w = .halt x w') := by
  obtain ⟨dst, op, ty, pos, after, guard⟩ := o
  cases op <;> simp only [blindOp, Bool.false_eq_true] at h
  case move x => exact .inl ⟨ρ x, fun w => by simp [execOp, go_sem]⟩
  case assign x => exact .inl ⟨ρ x, fun w => by simp [execOp, go_sem]⟩
  case extract x i =>
    cases hx : ρ x
    case tuple vs =>
      cases hy : vs[i]?
      case some v => exact .inl ⟨v, fun w => by simp [execOp, hx, hy, go_sem]⟩
      case none => exact .inr fun w => ⟨_, w, by simp [execOp, hx, hy, go_sem]; exact rfl⟩
    all_goals exact .inr fun w => ⟨_, w, by simp [execOp, hx, go_sem]; exact rfl⟩
theorem quiet_blind {o : Oper} (hb : blindOp o.op = true) {a : Act} {W : World} {K : Act → Prop} (h : ∀ v, (execOp a.eval o).run P W = .ok (.value v) W → K (a.put o.dst v)) (hh : ∀ x w', (execOp a.eval o).run P W ≠ .halt x w') :
    o.quiet P a (fun _ => True) K := by
  rcases blind_run (P := P) hb a.eval with ⟨v, hv⟩ | hx
  · exact ⟨v, fun w _ => by unfold Oper.quietAt; rw [hv w]; exact ⟨rfl, rfl⟩, h v (hv W)⟩
  · obtain ⟨x, w', hx⟩ := hx W
    exact absurd hx (hh x w')
theorem wpQuiet_blind_up {o : Oper} (hb : blindOp o.op = true) {W : World} {Q : Act → Prop} {a : Act} (h : wpQuiet P ops (fun w => w = W) Q [o] a) : wpQuiet P ops (fun _ => True) Q [o] a := by
  simp only [wpQuiet] at h ⊢
  split
  · rename_i hw
    rw [if_pos hw] at h
    obtain ⟨v, hv, hn⟩ := h
    have h1 := hv W rfl
    unfold Oper.quietAt at h1
    refine quiet_blind hb (W := W) (fun u hu => ?_) (fun x w' hx => ?_)
    · rw [hu] at h1; rw [h1.2]; exact hn
    · rw [hx] at h1; exact h1
  · rename_i hw; rw [if_neg hw] at h; exact h
theorem wpList_parts {o : Oper} {rest : List Oper} {Q : Act → World → Prop} {a : Act} {w : World} (h : wpList P ops (onlyNormal Q) (o :: rest) a w) :
    if Region.wanted o (yielded ops a.tmps) then o.wp P a w (wpList P ops (onlyNormal Q) rest) NoQ else wpList P ops (onlyNormal Q) rest (a.put o.dst undef) w := by
  unfold wpList at h
  split
  · rename_i hw
    rw [if_pos hw] at h
    rcases h with h | ⟨_, _, _, h⟩
    · exact wp_of_onlyNormal h
    · exact absurd h (by simp [onlyNormal])
  · rename_i hw; rw [if_neg hw] at h; exact h
theorem wpOrd_rest {l : List Oper} {Q : Act → World → Prop} : ∀ (ks : List Nat) (a : Act) (w : World), (∀ k ∈ ks, k ≠ z ∧ blindOp (opAt l k).op = true) →
    wpList P l.toArray (onlyNormal Q) (ks.map (opAt l)) a w → wpOrd P l C z Q ks a w := by
  intro ks
  induction ks with
  | nil => exact fun a w _ h => h
  | cons k ks ih =>
    intro a w hk h
    obtain ⟨hz, hb⟩ := hk k (by simp)
    have hp : plainOp (opAt l k).op = true := by
      revert hb; cases (opAt l k).op <;> simp [blindOp, plainOp]
    simp only [wpOrd]
    rw [if_neg hz, if_pos hp, if_pos hb]
    have h1 := wpList_parts h
    simp only [wpQuiet]
    split
    · rename_i hw
      rw [if_pos hw] at h1
      unfold Oper.wp at h1
      refine quiet_blind hb (W := w) (fun v hv => ?_) (fun x w' hx => ?_)
      · rw [hv] at h1
        exact ih _ _ (fun k' hk' => hk k' (by simp [hk'])) h1
      · rw [hx] at h1
        cases x <;> simp only [Oper.upon, NoQ] at h1
    · rename_i hw
      rw [if_neg hw] at h1
      exact ih _ _ (fun k' hk' => hk k' (by simp [hk'])) h1
theorem wpOrd_of_still {l : List Oper} {W : World} {Q : Act → World → Prop} {R : Act → Prop} {tl : List Nat} (hR : ∀ a, R a → wpOrd P l (fun w => w = W) z Q tl a W) :
    ∀ (ks : List Nat) (a : Act), (∀ k ∈ ks, k ≠ z) → wpStill P l.toArray W R (ks.map (opAt l)) a → wpOrd P l (fun w => w = W) z Q (ks ++ tl) a W := by
  intro ks
  induction ks with
  | nil => exact fun a _ h => hR a h
  | cons k ks ih =>
    intro a hk h
    have hz := hk k (by simp)
    have ih' := fun a => ih a (fun k' hk' => hk k' (by simp [hk']))
    simp only [List.map_cons, wpStill] at h
    simp only [List.cons_append, wpOrd]
    rw [if_neg hz]
    have hst : wpStill P l.toArray W (fun a' => wpOrd P l (fun w => w = W) z Q (ks ++ tl) a' W) [opAt l k] a := by
      simp only [wpStill]
      split
      · rename_i hw; rw [if_pos hw] at h; exact Oper.still_mono (fun a' ha => ih' a' ha) h
      · rename_i hw; rw [if_neg hw] at h; exact ih' _ h
    split
    · split
      · rename_i hb; exact wpQuiet_blind_up hb (wpQuiet_of_still _ _ hst)
      · exact wpQuiet_of_still _ _ hst
    · simp only [wpStill] at hst
      exact wpList_of_still (fun a' ha => ⟨rfl, ha⟩) hst
def storeB (l : List Oper) (z : Nat) (ks rest : List Nat) : Bool :=
  Region.noSelect l.toArray && fitsD .any l z (ks ++ z :: rest) (Array.replicate l.length false) && (ks ++ z :: rest).length == l.length && ks.all (fun k => k != z) && rest.all (fun k => k != z && blindOp (opAt l k).op)
/-- **One walk in an order of our own: what reads stands ahead of the one store, what is blind may come behind it.** -/
theorem wp_region_store {id : Nat} {Q : Exit → Act → World → Prop} {a : Act} {w : World} {l : List Oper} (ks : List Nat) (z : Nat) (rest : List Nat) (hm : P.follows .mixedOrders = true) (hB : storeB l z ks rest = true)
    (h : wpStill P l.toArray w.drew (fun a' => wpList P l.toArray (onlyNormal fun a w => Q .normal a w) ((z :: rest).map (opAt l)) a' w.drew) (ks.map (opAt l)) a) : (Code.region id l.toArray true).wp P Q a w := by
  simp only [storeB, Bool.and_eq_true, beq_iff_eq, List.all_eq_true, bne_iff_ne] at hB
  obtain ⟨⟨⟨⟨h1, h2⟩, h3⟩, h4⟩, h5⟩ := hB
  refine wp_region_any hm (wpAny_of_D (Q := fun a' w' => Q .normal a' w') (C := fun w' => w' = w.drew) (z := z) (fun _ _ h => h) _ _ _ _ ?_)
  have := wpAnyD_of_ord (P := P) (C := fun w' => w' = w.drew) (md := .any) (z := z) (Q := fun a' w' => Q .normal a' w') h1 (ks ++ z :: rest) (Array.replicate l.length false) a w.drew (by simp) (fun _ => rfl) h2
    (wpOrd_of_still (fun a' ha => by
      simp only [wpOrd, if_true]
      have h6 := wpList_parts ha
      unfold wpList
      split
      · rename_i hw
        rw [if_pos hw] at h6
        exact .inl (wp_weaken (fun a2 w2 h7 => wpOrd_rest rest a2 w2 h5 h7) h6)
      · rename_i hw
        rw [if_neg hw] at h6
        exact wpOrd_rest rest _ _ h5 h6) ks a h4 h)
  rw [h3] at this
  simpa using this
end
end Go.Proofs.YtlfomhdphbchpaaGreatDoor

/-! A region that draws its order, whose operations (calls that make memory among them) each come to one value in every world of a class, and stay in the class: one walk in an order of our own; at the end some world of the class. A last operation behind all others may do what it will. -/
namespace Go.Proofs.YtlfomhdphbchpaaGreatDoor
open Go Go.RowKit
set_option linter.unusedVariables false
set_option linter.unusedSimpArgs false
section
variable {P : Program} {ops : Array Oper} {C : World → Prop}
def comesTo (P : Program) (C : World → Prop) (v : Value) : Result Next → Prop
  | .ok (.value u) w' => u = v ∧ C w'
  | .ok .skip w' => v = undef ∧ C w'
  | .ok (.enter f args) w' => Calls P f args w' fun e w'' => e = .returned v ∧ C w''
  | _ => False
/-- in state a, in every world of the class, o comes to v, and the class is kept -/
def StableIn (P : Program) (ops : Array Oper) (C : World → Prop) (o : Oper) (v : Value) (a : Act) : Prop :=
  (Region.wanted o (yielded ops a.tmps) = true ∧ ∀ w, C w → comesTo P C v ((execOp a.eval o).run P w)) ∨ (Region.wanted o (yielded ops a.tmps) = false ∧ v = undef)
theorem StableIn.of_same {o : Oper} {v : Value} {a a' : Act} (hy : StableIn P ops C o v a) (he : execOp a'.eval o = execOp a.eval o)
    (hw : Region.wanted o (yielded ops a'.tmps) = Region.wanted o (yielded ops a.tmps)) : StableIn P ops C o v a' := by
  unfold StableIn at *; rw [he, hw]; exact hy
theorem StableIn.wpOpM {i : Nat} {o : Oper} {v : Value} {a : Act} {w : World} (hi : ops[i]? = some o) (hy : StableIn P ops C o v a) (hC : C w) {K : Act → World → Prop} (h : ∀ w', C w' → K (a.put o.dst v) w') : wpOpM P ops i K a w := by
  unfold Go.Proofs.YtlfomhdphbchpaaGreatDoor.wpOpM
  simp only [hi]
  rcases hy with ⟨hw, hv⟩ | ⟨hw, rfl⟩
  · simp only [hw, if_true]
    have h1 := hv w hC
    unfold Oper.wp
    generalize (execOp a.eval o).run P w = r at *
    cases r with
    | halt x w' => cases h1
    | ok n w' =>
      cases n <;> simp only [comesTo, Oper.upon] at h1 ⊢
      case value u => obtain ⟨rfl, hc⟩ := h1; exact h _ hc
      case skip => obtain ⟨rfl, hc⟩ := h1; exact h _ hc
      case enter f args => exact Calls.mono h1 (fun e w'' he => by obtain ⟨rfl, hc⟩ := he; exact h _ hc)
  · simp only [hw]; exact h _ hC
def edgeB (md : Region.Mode) (l : List Oper) (i j : Nat) : Bool := (opAt l j).after.any fun e => Region.binds md e && e.on == i
def pairB (md : Region.Mode) (l : List Oper) (k j : Nat) : Bool := (edgeB md l k j || (opAt l k).apart l.toArray (opAt l j)) && !edgeB md l j k
def pairsB (md : Region.Mode) (l : List Oper) : List Nat → Bool
  | [] => true
  | k :: ks => ks.all (fun j => pairB md l k j && !(j == k)) && (!edgeB md l k k && pairsB md l ks)
def wpCls (P : Program) (ops : Array Oper) (C : World → Prop) (Q : Act → World → Prop) : List Oper → Act → Prop
  | [], a => ∀ w, C w → Q a w
  | o :: os, a => ∃ v, StableIn P ops C o v a ∧ wpCls P ops C Q os (a.put o.dst v)
theorem wpCls_swap {Q : Act → World → Prop} {x y : Oper} {os : List Oper} {a : Act} (hap : x.apart ops y = true) (hx : ∀ cs b, x.op ≠ .select cs b) (hy : ∀ cs b, y.op ≠ .select cs b)
    (h : wpCls P ops C Q (x :: y :: os) a) : wpCls P ops C Q (y :: x :: os) a := by
  obtain ⟨v, h1, u, h2, h3⟩ := h
  obtain ⟨a1, a2, a3⟩ := Oper.apart_spec hap
  have k2 : StableIn P ops C y u a := h2.of_same (execOp_put y hy a x.dst v a1).symm (wanted_put y a x.dst v a1).symm
  have k1 : StableIn P ops C x v (a.put y.dst u) := h1.of_same (execOp_put x hx a y.dst u a3) (wanted_put x a y.dst u a3)
  exact ⟨u, k2, v, k1, by rw [← Act.put_comm a v u a2]; exact h3⟩
theorem wpCls_cons {Q : Act → World → Prop} {o : Oper} {os os' : List Oper} (h : ∀ a, wpCls P ops C Q os a → wpCls P ops C Q os' a) {a : Act} (hh : wpCls P ops C Q (o :: os) a) : wpCls P ops C Q (o :: os') a := by
  obtain ⟨v, h1, h2⟩ := hh; exact ⟨v, h1, h _ h2⟩
theorem wpCls_front {Q : Act → World → Prop} {y : Oper} {k2 : List Oper} (hy : ∀ cs b, y.op ≠ .select cs b) : ∀ (k1 : List Oper) (a : Act), (∀ x ∈ k1, x.apart ops y = true ∧ ∀ cs b, x.op ≠ .select cs b) →
    wpCls P ops C Q (k1 ++ y :: k2) a → wpCls P ops C Q (y :: (k1 ++ k2)) a
  | [], _, _, h => h
  | x :: k1, a, hap, h => by
    have h1 : wpCls P ops C Q (x :: y :: (k1 ++ k2)) a := wpCls_cons (fun a h => wpCls_front hy k1 a (fun z hz => hap z (List.mem_cons_of_mem _ hz)) h) h
    exact wpCls_swap (hap x List.mem_cons_self).1 (hap x List.mem_cons_self).2 hy h1
theorem pairsB_spec {md : Region.Mode} {l : List Oper} : ∀ {ks : List Nat}, pairsB md l ks = true → ks.Pairwise (fun k j => pairB md l k j = true ∧ j ≠ k) ∧ ∀ k ∈ ks, edgeB md l k k = false
  | [], _ => ⟨.nil, fun _ h => by cases h⟩
  | k :: ks, h => by
    simp only [pairsB, Bool.and_eq_true, List.all_eq_true, Bool.not_eq_true'] at h
    obtain ⟨h1, h2, h3⟩ := h
    obtain ⟨i1, i2⟩ := pairsB_spec h3
    refine ⟨List.pairwise_cons.2 ⟨fun j hj => ?_, i1⟩, fun j hj => ?_⟩
    · have := h1 j hj
      exact ⟨this.1, by have h := this.2; intro e; simp [e] at h⟩
    · rcases List.mem_cons.1 hj with rfl | hj
      · exact h2
      · exact i2 j hj
theorem edge_of {md : Region.Mode} {l : List Oper} {i j : Nat} {o : Oper} (ho : l[j]? = some o) {e : Edge} (he : e ∈ o.after) (hb : Region.binds md e = true) (h : e.on = i) : edgeB md l i j = true := by
  have : opAt l j = o := by simp [opAt, ho]
  rw [edgeB, this, Array.any_eq_true']
  exact ⟨e, he, by simp [hb, h]⟩
theorem opAt_toArray {l : List Oper} {k : Nat} (h : k < l.length) : l.toArray[k]? = some (opAt l k) := by simp [opAt, h]
theorem edge_ready {md : Region.Mode} {l : List Oper} {i j : Nat} {listed : Array Bool} (hlt : j < l.length) (h : edgeB md l i j = true) (hr : j ∈ Region.ready md l.toArray listed) : listed.getD i false = true := by
  obtain ⟨_, o, ho, hall⟩ := mem_ready.1 hr
  rw [opAt_toArray hlt] at ho
  cases ho
  rw [edgeB, Array.any_eq_true'] at h
  obtain ⟨e, he, h⟩ := h
  simp only [Bool.and_eq_true, beq_iff_eq] at h
  rw [← h.2]; exact hall e he h.1
theorem getD_two {listed : Array Bool} {k : Nat} (h : listed.getD k true = false) : listed.getD k false = false := by
  rcases Nat.lt_or_ge k listed.size with h' | h' <;> simp_all
theorem wpAnyM_of_cls {md : Region.Mode} {l : List Oper} {Q G : Act → World → Prop} {m : Nat} (hsel : ∀ (j : Nat) (o : Oper) cs b, l.toArray[j]? = some o → o.op ≠ .select cs b)
    (hin : ∀ (j : Nat) (o : Oper), l[j]? = some o → ∀ e ∈ o.after, Region.binds md e = true → e.on < l.length) :
    ∀ (ks : List Nat) (listed : Array Bool) (a : Act) (w : World), listed.size = l.length → (∀ k ∈ ks, k < l.length ∧ listed.getD k true = false) →
      (∀ j, j < l.length → listed.getD j true = false → j ∉ ks → ∀ k ∈ ks, edgeB md l k j = true) →
      (∀ k ∈ ks, ∀ j, j < l.length → listed.getD j true = false → j ∉ ks → edgeB md l j k = false) →
      ks.Pairwise (fun k j => pairB md l k j = true ∧ j ≠ k) → (∀ k ∈ ks, edgeB md l k k = false) → C w →
      (∀ (listed' : Array Bool) (a : Act) (w : World), C w → G a w → listed'.size = l.length → (∀ j, listed'.getD j true = false ↔ (listed.getD j true = false ∧ j ∉ ks)) → wpAnyM P md l.toArray (fun _ => True) Q m listed' a w) →
      wpCls P l.toArray C G (ks.map (opAt l)) a → wpAnyM P md l.toArray (fun _ => True) Q (ks.length + m) listed a w := by
  intro ks
  generalize hn : ks.length = n
  induction n generalizing ks with
  | zero =>
    intro listed a w hs _ _ _ _ _ hC hG h
    have : ks = [] := List.length_eq_zero_iff.1 hn
    subst this
    rw [Nat.zero_add]
    exact hG listed a w hC (h w hC) hs (fun j => by simp)
  | succ n ih =>
    intro listed a w hs hks hout hout2 hpw hself hC hG h
    rw [Nat.add_right_comm]
    have hready : Region.ready md l.toArray listed ≠ [] := by
      cases ks with
      | nil => simp at hn
      | cons k ks' =>
        intro h0
        have hk := hks k List.mem_cons_self
        have : k ∈ Region.ready md l.toArray listed := mem_ready.2 ⟨hk.2, opAt l k, opAt_toArray hk.1, fun e he hb => by
          have hko : l[k]? = some (opAt l k) := by simp [opAt, hk.1]
          have hlt := hin k _ hko e he hb
          cases hl : listed.getD e.on false with
          | true => rfl
          | false =>
            have hl' : listed.getD e.on true = false := by
              have h1 : e.on < listed.size := by omega
              simp [h1] at hl ⊢; exact hl
            have hedge := edge_of hko he hb rfl
            by_cases hmem : e.on ∈ k :: ks'
            · rcases List.mem_cons.1 hmem with e1 | e1
              · rw [e1] at hedge; exact absurd hedge (by simp [hself k List.mem_cons_self])
              · have := (List.pairwise_cons.1 hpw).1 _ e1
                simp only [pairB, Bool.and_eq_true, Bool.not_eq_true'] at this
                rw [this.1.2] at hedge; cases hedge
            · have := hout2 k List.mem_cons_self e.on hlt hl' hmem
              rw [this] at hedge; cases hedge⟩
        rw [h0] at this
        cases this
    refine ⟨fun h0 => absurd h0 hready, fun i hi => ?_⟩
    obtain ⟨hun, o, ho, hall⟩ := mem_ready.1 hi
    have hlt : i < l.length := by
      rcases Nat.lt_or_ge i l.length with h' | h'
      · exact h'
      · rw [Array.getElem?_eq_none (by simpa using h')] at ho; cases ho
    have hik : i ∈ ks := by
      rcases Classical.em (i ∈ ks) with h' | h'
      · exact h'
      · cases ks with
        | nil => simp at hn
        | cons k ks' =>
          have := edge_ready hlt (hout i hlt hun h' k List.mem_cons_self) hi
          have h2 := getD_two (hks k List.mem_cons_self).2
          rw [this] at h2; cases h2
    obtain ⟨k1, k2, rfl⟩ := List.append_of_mem hik
    have hap : ∀ x ∈ k1.map (opAt l), x.apart l.toArray (opAt l i) = true ∧ ∀ cs b, x.op ≠ .select cs b := fun x hx => by
      obtain ⟨k, hk, rfl⟩ := List.mem_map.1 hx
      have hk' := hks k (by simp [hk])
      refine ⟨?_, fun cs b => hsel k _ cs b (opAt_toArray hk'.1)⟩
      have hp := (List.pairwise_append.1 hpw).2.2 k hk i List.mem_cons_self
      simp only [pairB, Bool.and_eq_true, Bool.or_eq_true] at hp
      rcases hp.1.1 with he | he
      · have := edge_ready hlt he hi
        have h2 := getD_two hk'.2
        rw [this] at h2; cases h2
      · exact he
    have hfr := wpCls_front (P := P) (C := C) (Q := G) (y := opAt l i) (k2 := k2.map (opAt l)) (fun cs b => hsel i _ cs b (opAt_toArray hlt)) (k1.map (opAt l)) a hap (by simpa using h)
    obtain ⟨v, hst, hrest⟩ := hfr
    refine hst.wpOpM (opAt_toArray hlt) hC fun w' hC' => ⟨trivial, ?_⟩
    have hnd : ∀ j, j ∈ k1 ++ k2 → j ≠ i := fun j hj e => by
      subst e
      rcases List.mem_append.1 hj with hj | hj
      · exact ((List.pairwise_append.1 hpw).2.2 j hj j List.mem_cons_self).2 rfl
      · exact ((List.pairwise_cons.1 (List.pairwise_append.1 hpw).2.1).1 j hj).2 rfl
    have hgd : ∀ j, (listed.setIfInBounds i true).getD j true = false ↔ (listed.getD j true = false ∧ j ≠ i) := fun j => by
      by_cases hji : i = j
      · subst hji; simp [hs, hlt]
      · rw [getD_set_ne true hji]; exact ⟨fun h => ⟨h, fun e => hji e.symm⟩, fun h => h.1⟩
    have hmem : ∀ j, j ∈ k1 ++ i :: k2 ↔ (j ∈ k1 ++ k2 ∨ j = i) := fun j => by
      simp only [List.mem_append, List.mem_cons]
      constructor
      · rintro (h | rfl | h)
        · exact .inl (.inl h)
        · exact .inr rfl
        · exact .inl (.inr h)
      · rintro ((h | h) | rfl)
        · exact .inl h
        · exact .inr (.inr h)
        · exact .inr (.inl rfl)
    refine ih (k1 ++ k2) (by simp at hn ⊢; omega) (listed.setIfInBounds i true) _ w' (by simp [hs]) (fun k hk => ?_) (fun j hj hl hjk k hk => ?_) (fun k hk j hj hl hjk => ?_) ?_ (fun k hk => hself k ((hmem k).2 (.inl hk))) hC' ?_ (by rw [List.map_append]; exact hrest)
    · exact ⟨(hks k ((hmem k).2 (.inl hk))).1, (hgd k).2 ⟨(hks k ((hmem k).2 (.inl hk))).2, hnd k hk⟩⟩
    · have := (hgd j).1 hl
      exact hout j hj this.1 (fun h => by rcases (hmem j).1 h with h | h; exact hjk h; exact this.2 h) k ((hmem k).2 (.inl hk))
    · have := (hgd j).1 hl
      exact hout2 k ((hmem k).2 (.inl hk)) j hj this.1 (fun h => by rcases (hmem j).1 h with h | h; exact hjk h; exact this.2 h)
    · exact hpw.sublist ((List.sublist_cons_self i k2).append_left k1)
    · intro listed' a' w'' hc hg hsz hl
      refine hG listed' a' w'' hc hg hsz (fun j => ?_)
      rw [hl j, hgd j]
      constructor
      · rintro ⟨⟨h1, h2⟩, h3⟩; exact ⟨h1, fun h => by rcases (hmem j).1 h with h | h; exact h3 h; exact h2 h⟩
      · rintro ⟨h1, h2⟩; exact ⟨⟨h1, fun e => h2 ((hmem j).2 (.inr e))⟩, fun h => h2 ((hmem j).2 (.inl h))⟩
/-- what the kernel checks of a plan: ks in our order, z behind all -/
def clsB (l : List Oper) (ks : List Nat) (z : Option Nat) : Bool :=
  Region.noSelect l.toArray && (l.all (fun o => o.after.all fun e => !Region.binds .any e || decide (e.on < l.length)) && (ks.all (fun k => decide (k < l.length)) && (pairsB .any l ks &&
    (match z with
    | none => ks.length == l.length && (List.range l.length).all fun j => ks.contains j
    | some z => decide (z < l.length) && (ks.length + 1 == l.length && (!ks.contains z && (ks.all (fun k => edgeB .any l k z && !edgeB .any l z k) && (!edgeB .any l z z && (List.range l.length).all fun j => ks.contains j || j == z))))))))
theorem wp_region_cls {id : Nat} {Q : Exit → Act → World → Prop} {a : Act} {w : World} {l : List Oper} (C : World → Prop) (ks : List Nat) (hm : P.follows .mixedOrders = true) (hB : clsB l ks none = true)
    (hC : C w.drew) (h : wpCls P l.toArray C (fun a' w' => Q .normal a' w') (ks.map (opAt l)) a) : (Code.region id l.toArray true).wp P Q a w := by
  simp only [clsB, Bool.and_eq_true, List.all_eq_true, Array.all_eq_true_iff_forall_mem, decide_eq_true_eq, beq_iff_eq, List.contains_iff_mem, List.mem_range, Bool.or_eq_true, Bool.not_eq_true'] at hB
  obtain ⟨h1, h2, h3, h4, h5, h6⟩ := hB
  obtain ⟨p1, p2⟩ := pairsB_spec h4
  refine wp_region_any hm (wpAny_of_M (Q := fun a' w' => Q .normal a' w') (C := fun _ => True) (fun _ _ h => h) _ _ _ _ ?_)
  have hrep : ∀ k : Nat, k < l.length → (Array.replicate l.length false).getD k true = false := fun k hk => by simp [hk]
  have := wpAnyM_of_cls (P := P) (C := C) (md := .any) (l := l) (Q := fun a' w' => Q .normal a' w') (G := fun a' w' => Q .normal a' w') (m := 0) (fun j o cs b ho => Region.noSelect_spec h1 j o cs b ho)
    (fun j o ho e he hb => by rcases h2 o (List.mem_of_getElem? ho) e he with h | h; rw [hb] at h; cases h; exact h)
    ks (Array.replicate l.length false) a w.drew (by simp) (fun k hk => ⟨h3 k hk, hrep k (h3 k hk)⟩) (fun j hj _ hn => absurd (h6 j hj) hn) (fun _ _ j hj _ hn => absurd (h6 j hj) hn) p1 p2 hC
    (fun listed' a' w' _ hg hsz hl => ⟨?_, hg⟩) h
  · rw [h5] at this; simpa using this
  · refine List.eq_nil_iff_forall_not_mem.2 fun i hi => ?_
    obtain ⟨hun, o, ho, _⟩ := mem_ready.1 hi
    have hlt : i < l.length := by
      rcases Nat.lt_or_ge i l.length with h' | h'
      · exact h'
      · rw [Array.getElem?_eq_none (by simpa using h')] at ho; cases ho
    exact ((hl i).1 hun).2 (h6 i hlt)
theorem wp_region_clsZ {id : Nat} {Q : Exit → Act → World → Prop} {a : Act} {w : World} {l : List Oper} (C : World → Prop) (ks : List Nat) (z : Nat) (hm : P.follows .mixedOrders = true) (hB : clsB l ks (some z) = true)
    (hC : C w.drew) (h : wpCls P l.toArray C (fun a' w' => wpList P l.toArray (onlyNormal fun a w => Q .normal a w) [opAt l z] a' w') (ks.map (opAt l)) a) : (Code.region id l.toArray true).wp P Q a w := by
  simp only [clsB, Bool.and_eq_true, List.all_eq_true, Array.all_eq_true_iff_forall_mem, decide_eq_true_eq, beq_iff_eq, List.contains_iff_mem, List.mem_range, Bool.or_eq_true, Bool.not_eq_true'] at hB
  obtain ⟨h1, h2, h3, h4, hz, h5, hzn, h7, hzz, h6⟩ := hB
  obtain ⟨p1, p2⟩ := pairsB_spec h4
  refine wp_region_any hm (wpAny_of_M (Q := fun a' w' => Q .normal a' w') (C := fun _ => True) (fun _ _ h => h) _ _ _ _ ?_)
  have hrep : ∀ k : Nat, k < l.length → (Array.replicate l.length false).getD k true = false := fun k hk => by simp [hk]
  have hzn' : z ∉ ks := fun h => by have := List.elem_eq_true_of_mem h; simp_all
  have hj6 : ∀ j, j < l.length → j ∉ ks → j = z := fun j hj hn => (h6 j hj).resolve_left hn
  have := wpAnyM_of_cls (P := P) (C := C) (md := .any) (l := l) (Q := fun a' w' => Q .normal a' w') (G := fun a' w' => wpList P l.toArray (onlyNormal fun a w => Q .normal a w) [opAt l z] a' w') (m := 1) (fun j o cs b ho => Region.noSelect_spec h1 j o cs b ho)
    (fun j o ho e he hb => by rcases h2 o (List.mem_of_getElem? ho) e he with h | h; rw [hb] at h; cases h; exact h)
    ks (Array.replicate l.length false) a w.drew (by simp) (fun k hk => ⟨h3 k hk, hrep k (h3 k hk)⟩) (fun j hj _ hn k hk => by rw [hj6 j hj hn]; exact (h7 k hk).1) (fun k hk j hj _ hn => by rw [hj6 j hj hn]; exact (h7 k hk).2) p1 p2 hC
    (fun listed' a' w' _ hg hsz hl => ?_) h
  · rw [h5] at this; simpa using this
  · have hzl : l.toArray[z]? = some (opAt l z) := opAt_toArray hz
    have hzr : ∀ i, i ∈ Region.ready .any l.toArray listed' → i = z := fun i hi => by
      obtain ⟨hun, o, ho, _⟩ := mem_ready.1 hi
      have hlt : i < l.length := by
        rcases Nat.lt_or_ge i l.length with h' | h'
        · exact h'
        · rw [Array.getElem?_eq_none (by simpa using h')] at ho; cases ho
      exact hj6 i hlt ((hl i).1 hun).2
    have hzin : z ∈ Region.ready .any l.toArray listed' := mem_ready.2 ⟨(hl z).2 ⟨hrep z hz, hzn'⟩, _, hzl, fun e he hb => by
      have hlt : e.on < l.length := by
        rcases h2 _ (List.mem_of_getElem? (by simp [opAt, hz] : l[z]? = some (opAt l z))) e he with h | h
        · rw [hb] at h; cases h
        · exact h
      cases hg : listed'.getD e.on false with
      | true => rfl
      | false =>
        have hg' : listed'.getD e.on true = false := by
          have h1 : e.on < listed'.size := by omega
          simp [h1] at hg ⊢; exact hg
        have := hj6 _ hlt ((hl _).1 hg').2
        have he2 := edge_of (md := .any) (by simp [opAt, hz] : l[z]? = some (opAt l z)) he hb this
        rw [hzz] at he2; cases he2⟩
    refine ⟨fun h0 => (by rw [h0] at hzin; cases hzin), fun i hi => ?_⟩
    obtain rfl := hzr i hi
    refine wpOpM_mono (fun a w hq => ⟨trivial, ?_, hq⟩) (wpOpM_of_list hzl hg)
    refine List.eq_nil_iff_forall_not_mem.2 fun j hj => ?_
    have hun := (mem_ready.1 hj).1
    obtain ⟨o, ho, _⟩ := (mem_ready.1 hj).2
    by_cases hji : i = j
    · subst hji
      have hi' : i < listed'.size := by omega
      simp [hi'] at hun
    · rw [getD_set_ne true hji] at hun
      have hlt : j < l.length := by
        rcases Nat.lt_or_ge j l.length with h' | h'
        · exact h'
        · rw [Array.getElem?_eq_none (by simpa using h')] at ho; cases ho
      exact hji (hj6 j hlt ((hl j).1 hun).2).symm
/-! the walk's words are the kit's: 'wpQuiet' -/
theorem comes_of_quiet {w : World} {v : Value} {r : Result Next} (hC : C w) (h : Oper.quietUpon P C w v r) : comesTo P C v r := by
  unfold Oper.quietUpon at h
  split at h
  · obtain ⟨rfl, rfl⟩ := h; exact ⟨rfl, hC⟩
  · obtain ⟨rfl, rfl⟩ := h; exact ⟨rfl, hC⟩
  · obtain ⟨rfl, h⟩ := h; exact h
  · exact h.elim
theorem wpCls_of_quiet {G : Act → Prop} {Q : Act → World → Prop} (hG : ∀ a, G a → ∀ w, C w → Q a w) : ∀ (os : List Oper) (a : Act), wpQuiet P ops C G os a → wpCls P ops C Q os a
  | [], a, h => hG a h
  | o :: os, a, h => by
    unfold wpQuiet at h
    split at h
    · rename_i hw
      obtain ⟨v, h1, h2⟩ := h
      exact ⟨v, .inl ⟨hw, fun w hC => comes_of_quiet hC (h1 w hC)⟩, wpCls_of_quiet hG os _ h2⟩
    · rename_i hw
      exact ⟨undef, .inr ⟨by simpa using hw, rfl⟩, wpCls_of_quiet hG os _ h⟩
/-- one walk in the lexical order (or another one of ours); then whatever world of the class -/
theorem wp_region_class {id : Nat} {Q : Exit → Act → World → Prop} {a : Act} {w : World} {l : List Oper} (C : World → Prop) (ks : List Nat) (hm : P.follows .mixedOrders = true) (hB : clsB l ks none = true)
    (hC : C w.drew) (h : wpQuiet P l.toArray C (fun a' => ∀ w', C w' → Q .normal a' w') (ks.map (opAt l)) a) : (Code.region id l.toArray true).wp P Q a w :=
  wp_region_cls C ks hm hB hC (wpCls_of_quiet (fun _ h => h) _ _ h)
theorem wp_region_classZ {id : Nat} {Q : Exit → Act → World → Prop} {a : Act} {w : World} {l : List Oper} (C : World → Prop) (ks : List Nat) (z : Nat) (hm : P.follows .mixedOrders = true) (hB : clsB l ks (some z) = true)
    (hC : C w.drew) (h : wpQuiet P l.toArray C (fun a' => ∀ w', C w' → wpList P l.toArray (onlyNormal fun a w => Q .normal a w) [opAt l z] a' w') (ks.map (opAt l)) a) : (Code.region id l.toArray true).wp P Q a w :=
  wp_region_clsZ C ks z hm hB hC (wpCls_of_quiet (fun _ h => h) _ _ h)
theorem wpQuiet_val {Q : Act → Prop} {rest : List Oper} {o : Oper} {a : Act} (v : Value) (hw : Region.wanted o (yielded ops a.tmps) = true)
    (h : ∀ w, C w → (execOp a.eval o).run P w = .ok (.value v) w) (h2 : ∀ K : Act → Prop, (∀ a, wpQuiet P ops C Q rest a → K a) → K (a.put o.dst v)) : wpQuiet P ops C Q (o :: rest) a := by
  simp only [wpQuiet, hw, if_true]
  exact ⟨v, fun w hC => by unfold Oper.quietAt; rw [h w hC]; exact ⟨rfl, rfl⟩, h2 _ (fun _ q => q)⟩
/-- a row that is loaded whole -/
theorem wpQuiet_row {Q : Act → Prop} {rest : List Oper} {o : Oper} {a : Act} (ty : TypeId) (x : Operand) (ho : o.op = .load ty x) (hw : Region.wanted o (yielded ops a.tmps) = true)
    (g : Nat) (hx : a.eval x = .pointer (some ⟨g, 0, none⟩)) (t : TypeId) (cs : Array Value) (d : TypeDesc) (hg : ∀ w, C w → w.heap[g]? = some (.cells cs t (0, 0)))
    (hu : P.underlying ty = some d) (hd : (match d with | .struct _ | .array _ _ => true | _ => false) = true) (hi : (P.info? ty).map (·.size) = some cs.size)
    (h2 : ∀ K : Act → Prop, (∀ a, wpQuiet P ops C Q rest a → K a) → K (a.put o.dst (.agg cs))) : wpQuiet P ops C Q (o :: rest) a := by
  refine wpQuiet_val (.agg cs) hw (fun w hC => ?_) h2
  unfold execOp
  simp only [ho, hx, Instr.loadAt, Instr.sureAddr, Sem.run_bind, Sem.run_pure, Result.andThen_ok, run_loadVar_row w g t ty cs (0, 0) d (hg w hC) hu hd hi]
/-- a cell that is loaded -/
theorem wpQuiet_cell {Q : Act → Prop} {rest : List Oper} {o : Oper} {a : Act} (ty : TypeId) (x : Operand) (ho : o.op = .load ty x) (hw : Region.wanted o (yielded ops a.tmps) = true)
    (ad : Addr) (hx : a.eval x = .pointer (some ad)) (v : Value) (d : TypeDesc) (hg : ∀ w, C w → w.cell? ad = some v)
    (hu : P.underlying ty = some d) (hd : (match d with | .struct _ | .array _ _ => false | _ => true) = true)
    (h2 : ∀ K : Act → Prop, (∀ a, wpQuiet P ops C Q rest a → K a) → K (a.put o.dst v)) : wpQuiet P ops C Q (o :: rest) a := by
  refine wpQuiet_val v hw (fun w hC => ?_) h2
  unfold execOp
  have hagg : (isAgg ty).run P w = .ok false w := by
    unfold isAgg
    rw [Sem.run_bind, run_underlying hu w]
    cases d <;> simp_all
  simp only [ho, hx, Instr.loadAt, Instr.sureAddr, Sem.run_bind, Sem.run_pure, Result.andThen_ok]
  simp [loadVar, Sem.run_bind, hagg, hg w hC, go_sem]
end
end Go.Proofs.YtlfomhdphbchpaaGreatDoor
