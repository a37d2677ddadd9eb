/- Lemmas of a claim, several texts in one: Mix, MixT, MixK -/
import Derived.Deep.QuietTactic
import Derived.BigQuiet
import Derived.Tactics
/-! A region that draws its order and holds calls that make memory: one walk serves every order, where the operations that turn the world come up in one forced order and all others yield one value in every world of a class C.
A plan: the operations in an order of our own; 'true': it only reckons (one value in every world of C), 'false': it may turn the world, and when its turn comes nothing else is ready. -/
namespace Go.Proofs.YtlfomhdphbchpaaGreatDoor
open Go
set_option linter.unusedVariables false
set_option linter.unusedSimpArgs false

section
variable {P : Program} {ops : Array Oper} {md : Region.Mode} {C : World → Prop}

theorem noEnter_v (s : Sem Value) (w : World) (f : FuncId) (args : Array Value) (w' : World) : (do let x ← s; pure (Next.value x) : Sem Next).run P w ≠ .ok (.enter f args) w' := by
  simp only [Sem.run_bind]
  cases h : s.run P w with
  | ok v w1 => simp [Result.andThen]
  | halt x w1 => simp [Result.andThen]

/-- Operations that enter no Go function. -/
def plainOp (o : Op) : Bool :=
  match o with
  | .move _ | .assign _ | .pick .. | .binOp .. | .unOp .. | .convert .. | .extract .. | .slice .. | .fieldAddr .. | .field .. | .indexAddr .. | .index .. | .load .. | .build .. => true
  | .nilCheck _ => true
  | .call { callee := .builtin .len, .. } | .call { callee := .builtin .min, .. } | .call { callee := .builtin .max, .. } | .call { callee := .builtin .cap, .. } => true
  | _ => false

theorem noEnter {o : Oper} (h : plainOp o.op = true) (ρ : Operand → Value) (w : World) (f : FuncId) (args : Array Value) (w' : World) : (execOp ρ o).run P w ≠ .ok (.enter f args) w' := by
  obtain ⟨dst, op, ty, pos, after, guard⟩ := o
  cases op <;> (try simp only [plainOp, Bool.false_eq_true] at h)
  case call c =>
    obtain ⟨callee, cargs, at_⟩ := c
    cases callee <;> (try simp only [plainOp, Bool.false_eq_true] at h)
    rename_i b
    cases b <;> (try simp only [plainOp, Bool.false_eq_true] at h)
    all_goals
      simp only [execOp, resolve, invoke, builtin]
      exact noEnter_v _ w f args w'
  case pick c a b =>
    simp only [execOp, Sem.run_bind]
    cases (asBool (ρ c)).run P w with
    | ok v w1 => simp [Result.andThen]
    | halt x w1 => simp [Result.andThen]
  case nilCheck x =>
    intro hh
    simp only [execOp] at hh
    split at hh
    · simp [go_sem] at hh
    · simp [go_sem] at hh
    · simp [go_sem] at hh
    · split at hh
      · simp [go_sem] at hh
      · simp only [Sem.run_bind] at hh
        cases h1 : (program : Sem Program).run P w with
        | ok p w1 =>
          rw [h1] at hh
          simp only [Result.andThen_ok] at hh
          generalize hz : (nilAhead _ _ _ _).run P w1 = z at hh
          cases z with
          | ok b w2 =>
            simp only [Result.andThen_ok] at hh
            split at hh
            · simp [go_sem] at hh
            · simp [go_sem] at hh
          | halt x w2 => simp [Result.andThen] at hh
        | halt x w1 => rw [h1] at hh; simp [Result.andThen] at hh
      · simp [go_sem] at hh
    · simp [go_sem] at hh
  all_goals first
    | (simp only [execOp]; exact noEnter_v _ w f args w')
    | (simp [execOp]; done)

def pureUpon (w : World) (v : Value) : Result Next → Prop
  | .ok (.value u) w' => w' = w ∧ u = v
  | .ok .skip w' => w' = w ∧ v = undef
  | _ => False
/-- In state a, in every world of the class, o leaves v in its temporary, and the world alone. -/
def PureIn (P : Program) (ops : Array Oper) (C : World → Prop) (o : Oper) (v : Value) (a : Act) : Prop :=
  (Region.wanted o (yielded ops a.tmps) = true ∧ ∀ w, C w → pureUpon w v ((execOp a.eval o).run P w)) ∨ (Region.wanted o (yielded ops a.tmps) = false ∧ v = undef)
def NoQ : Exit → Act → World → Prop := fun _ _ _ => False
def wpOpM (P : Program) (ops : Array Oper) (i : Nat) (K : Act → World → Prop) (a : Act) (w : World) : Prop :=
  match ops[i]? with
  | none => K a w
  | some o => if Region.wanted o (yielded ops a.tmps) then o.wp P a w K NoQ else K (a.put o.dst undef) w
def wpAnyM (P : Program) (md : Region.Mode) (ops : Array Oper) (C : World → Prop) (Q : Act → World → Prop) : Nat → Array Bool → Act → World → Prop
  | 0, listed, a, w => Region.ready md ops listed = [] ∧ Q a w
  | fuel + 1, listed, a, w => (Region.ready md ops listed = [] → Q a w) ∧
    ∀ i ∈ Region.ready md ops listed, wpOpM P ops i (fun a w => C w ∧ wpAnyM P md ops C Q fuel (listed.setIfInBounds i true) a w) a w

theorem wp_weaken {o : Oper} {a : Act} {w : World} {K K' : Act → World → Prop} {Q' : Exit → Act → World → Prop} (h : ∀ a w, K a w → K' a w) (hh : o.wp P a w K NoQ) : o.wp P a w K' Q' := by
  unfold Oper.wp at *
  generalize (execOp a.eval o).run P w = r at *
  cases r with
  | ok n w' =>
    cases n <;> simp only [Oper.upon] at hh ⊢
    case enter f args =>
      exact Calls.mono hh (fun e w'' he => by
        cases e with
        | returned v => exact h _ _ he
        | panicked c => exact absurd he (by simp [NoQ])
        | outgrown => obtain ⟨_, _, h0⟩ := he; exact absurd h0 (by simp [NoQ]))
    case row r args => exact Rows.mono hh (fun _ _ he => h _ _ he)
    all_goals exact h _ _ hh
  | halt x w' => cases x <;> simp only [Oper.upon, NoQ] at hh
theorem wpOp_of_M {i : Nat} {K K' : Act → World → Prop} {Q' : Exit → Act → World → Prop} {a : Act} {w : World} (h : ∀ a w, K a w → K' a w) (hh : wpOpM P ops i K a w) : wpOp P ops Q' i K' a w := by
  unfold wpOpM at hh
  unfold wpOp
  split
  · rename_i ho; simp only [ho] at hh; exact h _ _ hh
  · rename_i o ho
    simp only [ho] at hh
    split
    · rename_i hw; simp only [hw, if_true] at hh; exact .inl (wp_weaken h hh)
    · rename_i hw; simp only [hw] at hh; exact h _ _ hh
theorem wpOpM_mono {i : Nat} {K K' : Act → World → Prop} {a : Act} {w : World} (h : ∀ a w, K a w → K' a w) (hh : wpOpM P ops i K a w) : wpOpM P ops i K' a w := by
  unfold wpOpM at *
  split
  · rename_i ho; simp only [ho] at hh; exact h _ _ hh
  · rename_i o ho
    simp only [ho] at hh
    split
    · rename_i hw; simp only [hw, if_true] at hh; exact wp_weaken h hh
    · rename_i hw; simp only [hw] at hh; exact h _ _ hh
theorem wpAny_of_M {Q : Act → World → Prop} {Q' : Exit → Act → World → Prop} (hQ : ∀ a w, Q a w → Q' .normal a w) : ∀ (fuel : Nat) (listed : Array Bool) (a : Act) (w : World),
    wpAnyM P md ops C Q fuel listed a w → wpAny P md ops Q' fuel listed a w
  | 0, _, _, _, h => ⟨h.1, hQ _ _ h.2⟩
  | fuel + 1, _, _, _, h => ⟨fun h0 => hQ _ _ (h.1 h0), fun i hi => wpOp_of_M (fun a' w' hk => wpAny_of_M hQ fuel _ a' w' hk.2) (h.2 i hi)⟩
theorem PureIn.wpOpM {i : Nat} {o : Oper} {v : Value} {a : Act} {w : World} (hi : ops[i]? = some o) (hy : PureIn P ops C o v a) (hC : C w) {K : Act → World → Prop} (h : K (a.put o.dst v) w) : wpOpM P ops i K a w := by
  unfold Go.Proofs.YtlfomhdphbchpaaGreatDoor.wpOpM
  simp only [hi]
  rcases hy with ⟨hw, hv⟩ | ⟨hw, rfl⟩
  · simp only [hw, if_true]
    have h1 := hv w hC
    unfold Oper.wp
    generalize (execOp a.eval o).run P w = r at *
    cases r with
    | ok n w' =>
      cases n <;> simp only [pureUpon] at h1 <;> simp only [Oper.upon]
      case value u => obtain ⟨rfl, rfl⟩ := h1; exact h
      case skip => obtain ⟨rfl, rfl⟩ := h1; exact h
    | halt x w' => simp only [pureUpon] at h1
  · simp only [hw, Bool.false_eq_true, if_false]; exact h
theorem PureIn.of_same {o : Oper} {v : Value} {a a' : Act} (hy : PureIn P ops C o v a) (he : execOp a'.eval o = execOp a.eval o)
    (hw : Region.wanted o (yielded ops a'.tmps) = Region.wanted o (yielded ops a.tmps)) : PureIn P ops C o v a' := by
  unfold PureIn at *
  rw [he, hw]
  exact hy
theorem wpOpM_put {j : Nat} {oi oj : Oper} {v : Value} (hj : ops[j]? = some oj) (hap : oi.apart ops oj = true)
    (hsi : ∀ cs b, oi.op ≠ .select cs b) (hsj : ∀ cs b, oj.op ≠ .select cs b) {K : Act → World → Prop} {a : Act} {w : World}
    (hy : PureIn P ops C oi v a) (h : wpOpM P ops j K (a.put oi.dst v) w) :
    wpOpM P ops j (fun a' w' => PureIn P ops C oi v a' ∧ K (a'.put oi.dst v) w') a w := by
  obtain ⟨h1, h2, h3⟩ := Oper.apart_spec hap
  have keep : ∀ (a : Act), PureIn P ops C oi v a → ∀ u, PureIn P ops C oi v (a.put oj.dst u) := fun a hy u =>
    hy.of_same (execOp_put oi hsi a oj.dst u h3) (wanted_put oi a oj.dst u h3)
  unfold wpOpM at *
  simp only [hj] at *
  rw [wanted_put oj a oi.dst v h1] at h
  split
  · rename_i hw
    simp only [hw, if_true] at h
    unfold Oper.wp at *
    rw [execOp_put oj hsj a oi.dst v h1] at h
    generalize (execOp a.eval oj).run P w = r at *
    cases r with
    | ok n w' =>
      cases n <;> simp only [Oper.upon] at h ⊢
      case value u => exact ⟨keep a hy u, by rw [← Act.put_comm a v u h2]; exact h⟩
      case skip => exact ⟨keep a hy _, by rw [← Act.put_comm a v undef h2]; exact h⟩
      case enter f args =>
        exact Calls.mono h (fun e w'' he => by
          cases e with
          | returned u => exact ⟨keep a hy u, by rw [← Act.put_comm a v u h2]; exact he⟩
          | panicked c => exact absurd he (by simp [NoQ])
          | outgrown => obtain ⟨_, _, h0⟩ := he; exact absurd h0 (by simp [NoQ]))
      case row rr args => exact Rows.mono h (fun u _ he => ⟨keep a hy u, by rw [← Act.put_comm a v u h2]; exact he⟩)
      case defer d =>
        have hd : ∀ x : Act, PureIn P ops C oi v x → PureIn P ops C oi v { x with defers := d :: x.defers } := fun x hx => hx
        refine ⟨keep { a with defers := d :: a.defers } hy _, ?_⟩
        have e : ({ a.put oi.dst v with defers := d :: (a.put oi.dst v).defers } : Act).put oj.dst undef = ((({ a with defers := d :: a.defers } : Act).put oj.dst undef).put oi.dst v) := by
          rw [← Act.put_comm { a with defers := d :: a.defers } v undef h2]
          cases oi.dst <;> rfl
        rw [← e]
        exact h
      all_goals exact h.elim
    | halt x w' => cases x <;> simp only [Oper.upon, NoQ] at h
  · rename_i hw
    simp only [hw] at h
    exact ⟨keep a hy _, by rw [← Act.put_comm a v undef h2]; exact h⟩
theorem wpAnyM_first {Q : Act → World → Prop} {i : Nat} {oi : Oper} {v : Value} (hi : ops[i]? = some oi) (hsel : ∀ (j : Nat) (o : Oper) cs b, ops[j]? = some o → o.op ≠ .select cs b) :
    ∀ (fuel : Nat) (listed : Array Bool) (a : Act) (w : World), C w →
      (∀ j oj, ops[j]? = some oj → j ≠ i → listed.getD j true = false → (∀ e ∈ oj.after, Region.binds md e = true → e.on ≠ i) → oi.apart ops oj = true) →
      i ∈ Region.ready md ops listed → PureIn P ops C oi v a →
      wpAnyM P md ops C Q fuel (listed.setIfInBounds i true) (a.put oi.dst v) w → wpAnyM P md ops C Q (fuel + 1) listed a w := by
  intro fuel
  induction fuel with
  | zero =>
    intro listed a w hC _ hr hy H
    refine ⟨fun h => (by rw [h] at hr; cases hr), fun j hj => ?_⟩
    by_cases hji : j = i
    · subst hji; exact hy.wpOpM hi hC ⟨hC, H⟩
    · have := ready_mono hj hji
      rw [H.1] at this
      cases this
  | succ fuel ih =>
    intro listed a w hC hfree hr hy H
    refine ⟨fun h => (by rw [h] at hr; cases hr), fun j hj => ?_⟩
    by_cases hji : j = i
    · subst hji; exact hy.wpOpM hi hC ⟨hC, H⟩
    · have h1 := H.2 j (ready_mono hj hji)
      obtain ⟨hjun, oj, hoj, hall⟩ := mem_ready.1 hj
      have hnot : ∀ e ∈ oj.after, Region.binds md e = true → e.on ≠ i := fun e he hb heq => by
        have h1 := hall e he hb
        have h0 := (mem_ready.1 hr).1
        rw [heq] at h1
        rcases Nat.lt_or_ge i listed.size with h' | h'
        · simp [h'] at h0 h1; rw [h0] at h1; cases h1
        · simp [Array.getElem?_eq_none h'] at h1
      have h2 := wpOpM_put hoj (hfree j oj hoj hji hjun hnot) (fun cs b => hsel i oi cs b hi) (fun cs b => hsel j oj cs b hoj) hy h1
      have hfree' : ∀ k ok, ops[k]? = some ok → k ≠ i → (listed.setIfInBounds j true).getD k true = false →
          (∀ e ∈ ok.after, Region.binds md e = true → e.on ≠ i) → oi.apart ops ok = true := fun k ok hk hki hun hno => by
        refine hfree k ok hk hki ?_ hno
        by_cases hjk : j = k
        · subst hjk; exact hjun
        · rw [getD_set_ne true hjk] at hun; exact hun
      refine wpOpM_mono (fun a' w' h3 => ⟨h3.2.1, ih (listed.setIfInBounds j true) a' w' h3.2.1 hfree' (ready_mono hr (Ne.symm hji)) h3.1 ?_⟩) h2
      rw [Array.setIfInBounds_comm _ _ hji]
      exact h3.2.2

/-- the plan fits the region's edges -/
def planB (md : Region.Mode) (ops : Array Oper) : List (Bool × Nat) → Array Bool → Bool
  | [], listed => (Region.ready md ops listed).isEmpty
  | (true, k) :: r, listed => (Region.ready md ops listed).contains k && Region.free md ops listed k && ((ops[k]?).map (plainOp ·.op)).getD false && planB md ops r (listed.setIfInBounds k true)
  | (false, k) :: r, listed => Region.ready md ops listed == [k] && planB md ops r (listed.setIfInBounds k true)
def wpFlat (P : Program) (ops : Array Oper) (C : World → Prop) (Q : Act → World → Prop) : List (Bool × Nat) → Act → World → Prop
  | [], a, w => Q a w
  | (true, k) :: r, a, w => qOp P ops C k (fun a' => wpFlat P ops C Q r a' w) a
  | (false, k) :: r, a, w => wpOpM P ops k (fun a w => C w ∧ wpFlat P ops C Q r a w) a w
theorem pure_of_quiet {o : Oper} {a : Act} {v : Value} (hp : plainOp o.op = true) (h : YieldsIn P ops C o v a) : PureIn P ops C o v a := by
  rcases h with ⟨hw, h⟩ | h
  · refine .inl ⟨hw, fun w hC => ?_⟩
    have h1 := h w hC
    unfold Oper.quietAt at h1
    have hne := noEnter (P := P) hp a.eval w
    generalize (execOp a.eval o).run P w = r at *
    cases r with
    | ok n w' =>
      cases n <;> simp only [Oper.quietUpon] at h1 <;> simp only [pureUpon]
      case value u => exact h1
      case skip => exact h1
      case enter f args => exact absurd rfl (hne f args w')
    | halt x w' => simp only [Oper.quietUpon] at h1
  · exact .inr h
theorem wpAnyM_of_flat {Q : Act → World → Prop} (hs : Region.noSelect ops = true) : ∀ (l : List (Bool × Nat)) (listed : Array Bool) (a : Act) (w : World), C w →
    planB md ops l listed = true → wpFlat P ops C Q l a w → wpAnyM P md ops C Q l.length listed a w
  | [], _, _, _, _, hB, h => ⟨by simpa [planB] using hB, h⟩
  | (true, k) :: l, listed, a, w, hC, hB, h => by
    simp only [planB, Bool.and_eq_true] at hB
    obtain ⟨⟨⟨hr, hf⟩, hp⟩, hB'⟩ := hB
    cases h0 : ops[k]? with
    | none => rw [h0] at hp; simp at hp
    | some o =>
      rw [h0] at hp
      obtain ⟨v, hy, hK⟩ := yieldsIn_of_qOp h0 h
      exact wpAnyM_first h0 (Region.noSelect_spec hs) l.length listed a w hC (Region.free_spec h0 hf) (by simpa using hr) (pure_of_quiet (by simpa using hp) hy)
        (wpAnyM_of_flat hs l _ _ w hC hB' hK)
  | (false, k) :: l, listed, a, w, hC, hB, h => by
    simp only [planB, Bool.and_eq_true, beq_iff_eq] at hB
    obtain ⟨hr, hB'⟩ := hB
    refine ⟨fun h0 => (by rw [hr] at h0; cases h0), fun i hi => ?_⟩
    rw [hr] at hi
    obtain rfl : i = k := by simpa using hi
    exact wpOpM_mono (fun a' w' hk => ⟨hk.1, wpAnyM_of_flat hs l _ a' w' hk.1 hB' hk.2⟩) h

/-! ### in the walk's own forms -/
def onlyNormal (K : Act → World → Prop) : Exit → Act → World → Prop
  | .normal, a, w => K a w
  | _, _, _ => False
theorem onlyNormal_normal (K : Act → World → Prop) (a : Act) (w : World) : onlyNormal K .normal a w = K a w := rfl
theorem wp_of_onlyNormal {o : Oper} {a : Act} {w : World} {K K' : Act → World → Prop} (h : o.wp P a w K (onlyNormal K')) : o.wp P a w K NoQ := by
  unfold Oper.wp at *
  generalize (execOp a.eval o).run P w = r at *
  cases r with
  | ok n w' =>
    cases n <;> simp only [Oper.upon] at h ⊢
    case enter f args =>
      exact Calls.mono h (fun e w'' he => by
        cases e with
        | returned u => exact he
        | panicked c => exact absurd he (by simp [onlyNormal])
        | outgrown => obtain ⟨_, _, h0⟩ := he; exact absurd h0 (by simp [onlyNormal]))
    all_goals exact h
  | halt x w' => cases x <;> simp only [Oper.upon, onlyNormal] at h
theorem wpOpM_of_list {k : Nat} {o : Oper} (h0 : ops[k]? = some o) {K : Act → World → Prop} {a : Act} {w : World} (h : wpList P ops (onlyNormal K) [o] a w) : wpOpM P ops k K a w := by
  unfold wpOpM
  simp only [h0]
  unfold wpList at h
  split
  · rename_i hw
    rw [if_pos hw] at h
    rcases h with h | ⟨_, _, _, h⟩
    · exact wp_of_onlyNormal h
    · exact absurd h (by simp [onlyNormal])
  · rename_i hw
    rw [if_neg hw] at h
    exact h
def opAt (l : List Oper) (k : Nat) : Oper := (l[k]?).getD default
def wpSegs (P : Program) (ops : Array Oper) (C : World → Prop) (Q : Act → World → Prop) : List (List Oper × Option Oper) → Act → World → Prop
  | [], a, w => Q a w
  | (seg, none) :: r, a, w => wpQuiet P ops C (fun a' => wpSegs P ops C Q r a' w) seg a
  | (seg, some o) :: r, a, w => wpQuiet P ops C (fun a' => wpList P ops (onlyNormal fun a w => C w ∧ wpSegs P ops C Q r a w) [o] a' w) seg a
def flatOf : List (List Nat × Option Nat) → List (Bool × Nat)
  | [] => []
  | (seg, e) :: r => seg.map (fun k => (true, k)) ++ (e.toList.map (fun k => (false, k)) ++ flatOf r)
theorem wpFlat_of_quiet {Q : Act → World → Prop} {l : List Oper} {r : List (Bool × Nat)} {w : World} : ∀ (seg : List Nat) (a : Act), (∀ k ∈ seg, k < l.length) →
    wpQuiet P l.toArray C (fun a' => wpFlat P l.toArray C Q r a' w) (seg.map (opAt l)) a → wpFlat P l.toArray C Q (seg.map (fun k => (true, k)) ++ r) a w
  | [], a, _, h => h
  | k :: seg, a, hk, h => by
    have h0 : l.toArray[k]? = some (opAt l k) := by
      have := hk k (by simp)
      simp [opAt, this]
    simp only [List.map_cons, List.cons_append, wpFlat]
    unfold qOp
    simp only [h0]
    simp only [List.map_cons, wpQuiet] at h
    split
    · rename_i hw
      rw [if_pos hw] at h
      exact Oper.quiet_mono (fun a' ha => wpFlat_of_quiet seg a' (fun k hk' => hk k (by simp [hk'])) ha) h
    · rename_i hw
      rw [if_neg hw] at h
      exact wpFlat_of_quiet seg _ (fun k hk' => hk k (by simp [hk'])) h
theorem wpQuiet_mono {Q Q' : Act → Prop} (h : ∀ a, Q a → Q' a) : ∀ (l : List Oper) (a : Act), wpQuiet P ops C Q l a → wpQuiet P ops C Q' l a
  | [], a, hq => h _ hq
  | o :: l, a, hq => by
    simp only [wpQuiet] at hq ⊢
    split
    · rename_i hw; rw [if_pos hw] at hq; exact Oper.quiet_mono (fun a' ha => wpQuiet_mono h l a' ha) hq
    · rename_i hw; rw [if_neg hw] at hq; exact wpQuiet_mono h l _ hq
theorem wpFlat_of_segs {Q : Act → World → Prop} {l : List Oper} : ∀ (plan : List (List Nat × Option Nat)) (a : Act) (w : World), (∀ p ∈ flatOf plan, p.2 < l.length) →
    wpSegs P l.toArray C Q (plan.map fun p => (p.1.map (opAt l), p.2.map (opAt l))) a w → wpFlat P l.toArray C Q (flatOf plan) a w
  | [], a, w, _, h => h
  | (seg, none) :: r, a, w, hk, h => by
    simp only [flatOf, Option.toList_none, List.map_nil, List.nil_append]
    refine wpFlat_of_quiet seg a (fun k hk' => hk (true, k) (by simp [flatOf, hk'])) ?_
    simp only [List.map_cons, Option.map_none, wpSegs] at h
    exact wpQuiet_mono (fun a' ha => wpFlat_of_segs r a' w (fun p hp => hk p (by simp [flatOf, hp])) ha) _ _ h
  | (seg, some k) :: r, a, w, hk, h => by
    simp only [flatOf, Option.toList_some, List.map_cons, List.map_nil, List.cons_append, List.nil_append]
    refine wpFlat_of_quiet seg a (fun k hk' => hk (true, k) (by simp [flatOf, hk'])) ?_
    simp only [List.map_cons, Option.map_some, wpSegs] at h
    refine wpQuiet_mono (fun a' ha => ?_) _ _ h
    have hkl := hk (false, k) (by simp [flatOf])
    have h0 : l.toArray[k]? = some (opAt l k) := by simp [opAt, show k < l.length from hkl]
    simp only [wpFlat]
    exact wpOpM_mono (fun a2 w2 h2 => ⟨h2.1, wpFlat_of_segs r a2 w2 (fun p hp => hk p (by simp [flatOf, hp])) h2.2⟩) (wpOpM_of_list h0 ha)
def mixB (l : List Oper) (plan : List (List Nat × Option Nat)) : Bool :=
  Region.noSelect l.toArray && planB .any l.toArray (flatOf plan) (Array.replicate l.toArray.size false) && (flatOf plan).length == l.length && (flatOf plan).all (fun p => decide (p.2 < l.length))
/-- **One walk, in the plan's order, serves every order.** -/
theorem wp_region_mix {id : Nat} {Q : Exit → Act → World → Prop} {a : Act} {w : World} {l : List Oper} (plan : List (List Nat × Option Nat)) (hm : P.follows .mixedOrders = true) (hB : mixB l plan = true)
    (hC : C w.drew) (h : wpSegs P l.toArray C (fun a' w' => Q .normal a' w') (plan.map fun p => (p.1.map (opAt l), p.2.map (opAt l))) a w.drew) : (Code.region id l.toArray true).wp P Q a w := by
  simp only [mixB, Bool.and_eq_true, beq_iff_eq, List.all_eq_true, decide_eq_true_eq] at hB
  obtain ⟨⟨⟨h1, h2⟩, h3⟩, h4⟩ := hB
  refine wp_region_any hm (wpAny_of_M (Q := fun a' w' => Q .normal a' w') (C := C) (fun _ _ h => h) _ _ _ _ ?_)
  have := wpAnyM_of_flat (P := P) (C := C) (md := .any) (Q := fun a' w' => Q .normal a' w') h1 (flatOf plan) _ a w.drew hC h2 (wpFlat_of_segs plan a w.drew h4 h)
  rw [h3] at this
  simpa using this
end
end Go.Proofs.YtlfomhdphbchpaaGreatDoor

/-! As 'wp_region_mix', for regions in which two operations that turn the world are ready at once: the plan forks. -/
namespace Go.Proofs.YtlfomhdphbchpaaGreatDoor
open Go
set_option linter.unusedVariables false
set_option linter.unusedSimpArgs false
inductive Plan where
  | nil
  | seg (ks : List Nat) (p : Plan)
  | turn (k : Nat) (p : Plan)
  | fork (i : Nat) (p : Plan) (j : Nat) (q : Plan)
def Plan.len : Plan → Nat
  | .nil => 0
  | .seg ks p => ks.length + p.len
  | .turn _ p => p.len + 1
  | .fork _ p _ _ => p.len + 1
section
variable {P : Program} {ops : Array Oper} {md : Region.Mode} {C : World → Prop}
def segB (md : Region.Mode) (ops : Array Oper) : List Nat → Array Bool → Option (Array Bool)
  | [], listed => some listed
  | k :: r, listed => if (Region.ready md ops listed).contains k && Region.free md ops listed k && ((ops[k]?).map (plainOp ·.op)).getD false then segB md ops r (listed.setIfInBounds k true) else none
def Plan.fits (md : Region.Mode) (ops : Array Oper) : Plan → Array Bool → Bool
  | .nil, listed => (Region.ready md ops listed).isEmpty
  | .seg ks p, listed => ks.all (fun k => decide (k < ops.size)) && (match segB md ops ks listed with | some l => p.fits md ops l | none => false)
  | .turn k p, listed => decide (k < ops.size) && (Region.ready md ops listed == [k] && p.fits md ops (listed.setIfInBounds k true))
  | .fork i p j q, listed => decide (i < ops.size) && (decide (j < ops.size) && (Region.ready md ops listed == [i, j] && (p.len == q.len && (p.fits md ops (listed.setIfInBounds i true) && q.fits md ops (listed.setIfInBounds j true)))))
def wpPlan (P : Program) (l : List Oper) (C : World → Prop) (Q : Act → World → Prop) : Plan → Act → World → Prop
  | .nil, a, w => Q a w
  | .seg ks p, a, w => wpQuiet P l.toArray C (fun a' => wpPlan P l C Q p a' w) (ks.map (opAt l)) a
  | .turn k p, a, w => wpList P l.toArray (onlyNormal fun a w => C w ∧ wpPlan P l C Q p a w) [opAt l k] a w
  | .fork i p j q, a, w => wpList P l.toArray (onlyNormal fun a w => C w ∧ wpPlan P l C Q p a w) [opAt l i] a w ∧ wpList P l.toArray (onlyNormal fun a w => C w ∧ wpPlan P l C Q q a w) [opAt l j] a w
theorem opAt_some {l : List Oper} {k : Nat} (h : k < l.length) : l.toArray[k]? = some (opAt l k) := by simp [opAt, h]
theorem wpAnyM_of_seg {Q : Act → World → Prop} {l : List Oper} (hs : Region.noSelect l.toArray = true) {n : Nat} {G : Act → Prop} {w : World} (hC : C w) : ∀ (ks : List Nat) (listed listed' : Array Bool) (a : Act),
    (∀ k ∈ ks, k < l.length) → segB md l.toArray ks listed = some listed' → (∀ a', G a' → wpAnyM P md l.toArray C Q n listed' a' w) → wpQuiet P l.toArray C G (ks.map (opAt l)) a → wpAnyM P md l.toArray C Q (ks.length + n) listed a w
  | [], listed, listed', a, _, hB, hG, h => by
    simp only [segB, Option.some.injEq] at hB
    subst hB
    simpa using hG a h
  | k :: ks, listed, listed', a, hk, hB, hG, h => by
    simp only [segB] at hB
    split at hB
    case isFalse => cases hB
    rename_i hc
    simp only [Bool.and_eq_true] at hc
    obtain ⟨⟨hr, hf⟩, hp⟩ := hc
    have h0 := opAt_some (hk k (by simp))
    rw [h0] at hp
    have hq : qOp P l.toArray C k (fun a' => wpQuiet P l.toArray C G (ks.map (opAt l)) a') a := by
      unfold qOp
      simp only [h0]
      simp only [List.map_cons, wpQuiet] at h
      exact h
    obtain ⟨v, hy, hK⟩ := yieldsIn_of_qOp h0 hq
    rw [show (k :: ks).length + n = (ks.length + n) + 1 from by simp; omega]
    exact wpAnyM_first h0 (Region.noSelect_spec hs) (ks.length + n) listed a w hC (Region.free_spec h0 hf) (by simpa using hr) (pure_of_quiet (by simpa using hp) hy)
      (wpAnyM_of_seg hs hC ks _ _ _ (fun k' hk' => hk k' (by simp [hk'])) hB hG hK)
theorem wpAnyM_of_plan {Q : Act → World → Prop} {l : List Oper} (hs : Region.noSelect l.toArray = true) : ∀ (p : Plan) (listed : Array Bool) (a : Act) (w : World), C w →
    p.fits md l.toArray listed = true → wpPlan P l C Q p a w → wpAnyM P md l.toArray C Q p.len listed a w
  | .nil, _, _, _, _, hB, h => ⟨by simpa [Plan.fits] using hB, h⟩
  | .seg ks p, listed, a, w, hC, hB, h => by
    simp only [Plan.fits, Bool.and_eq_true, List.all_eq_true, decide_eq_true_eq] at hB
    obtain ⟨hk, hB⟩ := hB
    split at hB
    case h_2 => cases hB
    rename_i l' hl
    exact wpAnyM_of_seg hs hC ks listed l' a (fun k hk' => by simpa using hk k hk') hl (fun a' ha => wpAnyM_of_plan hs p l' a' w hC hB ha) h
  | .turn k p, listed, a, w, hC, hB, h => by
    simp only [Plan.fits, Bool.and_eq_true, beq_iff_eq, decide_eq_true_eq] at hB
    obtain ⟨hk, hr, hB'⟩ := hB
    refine ⟨fun h0 => (by rw [hr] at h0; cases h0), fun i hi => ?_⟩
    rw [hr] at hi
    obtain rfl : i = k := by simpa using hi
    exact wpOpM_mono (fun a' w' hk => ⟨hk.1, wpAnyM_of_plan hs p _ a' w' hk.1 hB' hk.2⟩) (wpOpM_of_list (opAt_some (by simpa using hk)) h)
  | .fork i p j q, listed, a, w, hC, hB, h => by
    simp only [Plan.fits, Bool.and_eq_true, beq_iff_eq, decide_eq_true_eq] at hB
    obtain ⟨hi', hj', hr, hlen, hp, hq⟩ := hB
    refine ⟨fun h0 => (by rw [hr] at h0; cases h0), fun m hm => ?_⟩
    rw [hr] at hm
    simp only [List.mem_cons, List.not_mem_nil, or_false] at hm
    rcases hm with rfl | rfl
    · exact wpOpM_mono (fun a' w' hk => ⟨hk.1, wpAnyM_of_plan hs p _ a' w' hk.1 hp hk.2⟩) (wpOpM_of_list (opAt_some (by simpa using hi')) h.1)
    · exact wpOpM_mono (fun a' w' hk => ⟨hk.1, by have := wpAnyM_of_plan hs q _ a' w' hk.1 hq hk.2; rwa [← hlen] at this⟩) (wpOpM_of_list (opAt_some (by simpa using hj')) h.2)
def mixT (l : List Oper) (p : Plan) : Bool := Region.noSelect l.toArray && (p.fits .any l.toArray (Array.replicate l.toArray.size false) && p.len == l.length)
theorem wp_region_tree {id : Nat} {Q : Exit → Act → World → Prop} {a : Act} {w : World} {l : List Oper} (p : Plan) (hm : P.follows .mixedOrders = true) (hB : mixT l p = true)
    (hC : C w.drew) (h : wpPlan P l C (fun a' w' => Q .normal a' w') p a w.drew) : (Code.region id l.toArray true).wp P Q a w := by
  simp only [mixT, Bool.and_eq_true, beq_iff_eq] at hB
  obtain ⟨h1, h2, h3⟩ := hB
  refine wp_region_any hm (wpAny_of_M (Q := fun a' w' => Q .normal a' w') (C := C) (fun _ _ h => h) _ _ _ _ ?_)
  have := wpAnyM_of_plan (P := P) (C := C) (md := .any) (Q := fun a' w' => Q .normal a' w') h1 p _ a w.drew hC h2 h
  rw [h3] at this
  simpa using this
end
end Go.Proofs.YtlfomhdphbchpaaGreatDoor

/-! As 'wp_region_tree', where the last operation of the region stores into what the others read: behind it nothing need be known of the class. -/
namespace Go.Proofs.YtlfomhdphbchpaaGreatDoor
open Go
set_option linter.unusedVariables false
set_option linter.unusedSimpArgs false
section
variable {P : Program} {ops : Array Oper} {md : Region.Mode} {C : World → Prop} {z : Nat}
def wpAnyK (P : Program) (md : Region.Mode) (ops : Array Oper) (C : World → Prop) (z : Nat) (Q : Act → World → Prop) : Nat → Array Bool → Act → World → Prop
  | 0, listed, a, w => Region.ready md ops listed = [] ∧ Q a w
  | fuel + 1, listed, a, w => (Region.ready md ops listed = [] → Q a w) ∧
    ∀ i ∈ Region.ready md ops listed, wpOpM P ops i (fun a w => (i ≠ z → C w) ∧ wpAnyK P md ops C z Q fuel (listed.setIfInBounds i true) a w) a w
theorem wpAny_of_K {Q : Act → World → Prop} {Q' : Exit → Act → World → Prop} (hQ : ∀ a w, Q a w → Q' .normal a w) : ∀ (fuel : Nat) (listed : Array Bool) (a : Act) (w : World),
    wpAnyK P md ops C z Q fuel listed a w → wpAny P md ops Q' fuel listed a w
  | 0, _, _, _, h => ⟨h.1, hQ _ _ h.2⟩
  | fuel + 1, _, _, _, h => ⟨fun h0 => hQ _ _ (h.1 h0), fun i hi => wpOp_of_M (fun a' w' hk => wpAny_of_K hQ fuel _ a' w' hk.2) (h.2 i hi)⟩
/-- the last operation stands behind every other one -/
def lastB (md : Region.Mode) (ops : Array Oper) (z : Nat) : Bool := match ops[z]? with
  | none => false
  | some o => (List.range ops.size).all fun i => i == z || o.after.any fun e => Region.binds md e && e.on == i
theorem last_spec (h : lastB md ops z = true) {listed : Array Bool} (hz : z ∈ Region.ready md ops listed) {i : Nat} (hi : i < ops.size) (hne : i ≠ z) : i ∉ Region.ready md ops listed := by
  intro hri
  unfold lastB at h
  obtain ⟨_, o, ho, hall⟩ := mem_ready.1 hz
  rw [ho] at h
  simp only [List.all_eq_true, List.mem_range, Bool.or_eq_true, beq_iff_eq, Array.any_eq_true'] at h
  rcases h i hi with h1 | ⟨e, he, h1⟩
  · exact hne h1
  · simp only [Bool.and_eq_true, beq_iff_eq] at h1
    have h2 := hall e he h1.1
    rw [h1.2] at h2
    have h3 := (mem_ready.1 hri).1
    rcases Nat.lt_or_ge i listed.size with h' | h'
    · simp [h'] at h2 h3; rw [h2] at h3; cases h3
    · simp [Array.getElem?_eq_none h'] at h3
theorem wpAnyK_first {Q : Act → World → Prop} {i : Nat} {oi : Oper} {v : Value} (hz : lastB md ops z = true) (hiz : i ≠ z) (hi : ops[i]? = some oi) (hsel : ∀ (j : Nat) (o : Oper) cs b, ops[j]? = some o → o.op ≠ .select cs b) :
    ∀ (fuel : Nat) (listed : Array Bool) (a : Act) (w : World), C w →
      (∀ j oj, ops[j]? = some oj → j ≠ i → listed.getD j true = false → (∀ e ∈ oj.after, Region.binds md e = true → e.on ≠ i) → oi.apart ops oj = true) →
      i ∈ Region.ready md ops listed → PureIn P ops C oi v a →
      wpAnyK P md ops C z Q fuel (listed.setIfInBounds i true) (a.put oi.dst v) w → wpAnyK P md ops C z Q (fuel + 1) listed a w := by
  intro fuel
  induction fuel with
  | zero =>
    intro listed a w hC _ hr hy H
    refine ⟨fun h => (by rw [h] at hr; cases hr), fun j hj => ?_⟩
    by_cases hji : j = i
    · subst hji; exact hy.wpOpM hi hC ⟨fun _ => hC, H⟩
    · have := ready_mono hj hji
      rw [H.1] at this
      cases this
  | succ fuel ih =>
    intro listed a w hC hfree hr hy H
    refine ⟨fun h => (by rw [h] at hr; cases hr), fun j hj => ?_⟩
    by_cases hji : j = i
    · subst hji; exact hy.wpOpM hi hC ⟨fun _ => hC, H⟩
    · have hjz : j ≠ z := by
        intro e
        subst e
        exact last_spec hz hj (Array.getElem?_eq_some_iff.1 hi).1 hiz hr
      have h1 := H.2 j (ready_mono hj hji)
      obtain ⟨hjun, oj, hoj, hall⟩ := mem_ready.1 hj
      have hnot : ∀ e ∈ oj.after, Region.binds md e = true → e.on ≠ i := fun e he hb heq => by
        have h1 := hall e he hb
        have h0 := (mem_ready.1 hr).1
        rw [heq] at h1
        rcases Nat.lt_or_ge i listed.size with h' | h'
        · simp [h'] at h0 h1; rw [h0] at h1; cases h1
        · simp [Array.getElem?_eq_none h'] at h1
      have h2 := wpOpM_put hoj (hfree j oj hoj hji hjun hnot) (fun cs b => hsel i oi cs b hi) (fun cs b => hsel j oj cs b hoj) hy h1
      have hfree' : ∀ k ok, ops[k]? = some ok → k ≠ i → (listed.setIfInBounds j true).getD k true = false →
          (∀ e ∈ ok.after, Region.binds md e = true → e.on ≠ i) → oi.apart ops ok = true := fun k ok hk hki hun hno => by
        refine hfree k ok hk hki ?_ hno
        by_cases hjk : j = k
        · subst hjk; exact hjun
        · rw [getD_set_ne true hjk] at hun; exact hun
      refine wpOpM_mono (fun a' w' h3 => ⟨fun _ => h3.2.1 hjz, ih (listed.setIfInBounds j true) a' w' (h3.2.1 hjz) hfree' (ready_mono hr (Ne.symm hji)) h3.1 ?_⟩) h2
      rw [Array.setIfInBounds_comm _ _ hji]
      exact h3.2.2
inductive PlanK where
  | nil
  | last
  | seg (ks : List Nat) (p : PlanK)
  | turn (k : Nat) (p : PlanK)
  | fork (i : Nat) (p : PlanK) (j : Nat) (q : PlanK)
def PlanK.len : PlanK → Nat
  | .nil => 0
  | .last => 1
  | .seg ks p => ks.length + p.len
  | .turn _ p => p.len + 1
  | .fork _ p _ _ => p.len + 1
def PlanK.fits (md : Region.Mode) (ops : Array Oper) (z : Nat) : PlanK → Array Bool → Bool
  | .nil, listed => (Region.ready md ops listed).isEmpty
  | .last, listed => decide (z < ops.size) && (Region.ready md ops listed == [z] && (Region.ready md ops (listed.setIfInBounds z true)).isEmpty)
  | .seg ks p, listed => ks.all (fun k => decide (k < ops.size) && k != z) && (match segB md ops ks listed with | some l => p.fits md ops z l | none => false)
  | .turn k p, listed => (decide (k < ops.size) && k != z) && (Region.ready md ops listed == [k] && p.fits md ops z (listed.setIfInBounds k true))
  | .fork i p j q, listed => (decide (i < ops.size) && i != z) && ((decide (j < ops.size) && j != z) && (Region.ready md ops listed == [i, j] && (p.len == q.len && (p.fits md ops z (listed.setIfInBounds i true) && q.fits md ops z (listed.setIfInBounds j true)))))
def wpPlanK (P : Program) (l : List Oper) (C : World → Prop) (z : Nat) (Q : Act → World → Prop) : PlanK → Act → World → Prop
  | .nil, a, w => Q a w
  | .last, a, w => wpList P l.toArray (onlyNormal fun a w => Q a w) [opAt l z] a w
  | .seg ks p, a, w => wpQuiet P l.toArray C (fun a' => wpPlanK P l C z Q p a' w) (ks.map (opAt l)) a
  | .turn k p, a, w => wpList P l.toArray (onlyNormal fun a w => C w ∧ wpPlanK P l C z Q p a w) [opAt l k] a w
  | .fork i p j q, a, w => wpList P l.toArray (onlyNormal fun a w => C w ∧ wpPlanK P l C z Q p a w) [opAt l i] a w ∧ wpList P l.toArray (onlyNormal fun a w => C w ∧ wpPlanK P l C z Q q a w) [opAt l j] a w
theorem wpAnyK_of_seg {Q : Act → World → Prop} {l : List Oper} (hs : Region.noSelect l.toArray = true) (hz : lastB md l.toArray z = true) {n : Nat} {G : Act → Prop} {w : World} (hC : C w) : ∀ (ks : List Nat) (listed listed' : Array Bool) (a : Act),
    (∀ k ∈ ks, k < l.length ∧ k ≠ z) → segB md l.toArray ks listed = some listed' → (∀ a', G a' → wpAnyK P md l.toArray C z Q n listed' a' w) → wpQuiet P l.toArray C G (ks.map (opAt l)) a → wpAnyK P md l.toArray C z Q (ks.length + n) listed a w
  | [], listed, listed', a, _, hB, hG, h => by
    simp only [segB, Option.some.injEq] at hB
    subst hB
    simpa using hG a h
  | k :: ks, listed, listed', a, hk, hB, hG, h => by
    simp only [segB] at hB
    split at hB
    case isFalse => cases hB
    rename_i hc
    simp only [Bool.and_eq_true] at hc
    obtain ⟨⟨hr, hf⟩, hp⟩ := hc
    have h0 := opAt_some (hk k (by simp)).1
    rw [h0] at hp
    have hq : qOp P l.toArray C k (fun a' => wpQuiet P l.toArray C G (ks.map (opAt l)) a') a := by
      unfold qOp
      simp only [h0]
      simp only [List.map_cons, wpQuiet] at h
      exact h
    obtain ⟨v, hy, hK⟩ := yieldsIn_of_qOp h0 hq
    rw [show (k :: ks).length + n = (ks.length + n) + 1 from by simp; omega]
    exact wpAnyK_first hz (hk k (by simp)).2 h0 (Region.noSelect_spec hs) (ks.length + n) listed a w hC (Region.free_spec h0 hf) (by simpa using hr) (pure_of_quiet (by simpa using hp) hy)
      (wpAnyK_of_seg hs hz hC ks _ _ _ (fun k' hk' => hk k' (by simp [hk'])) hB hG hK)
theorem wpAnyK_of_plan {Q : Act → World → Prop} {l : List Oper} (hs : Region.noSelect l.toArray = true) (hz : lastB md l.toArray z = true) : ∀ (p : PlanK) (listed : Array Bool) (a : Act) (w : World), C w →
    p.fits md l.toArray z listed = true → wpPlanK P l C z Q p a w → wpAnyK P md l.toArray C z Q p.len listed a w
  | .nil, _, _, _, _, hB, h => ⟨by simpa [PlanK.fits] using hB, h⟩
  | .last, listed, a, w, hC, hB, h => by
    simp only [PlanK.fits, Bool.and_eq_true, beq_iff_eq, decide_eq_true_eq] at hB
    obtain ⟨hk, hr, hB'⟩ := hB
    refine ⟨fun h0 => (by rw [hr] at h0; cases h0), fun i hi => ?_⟩
    rw [hr] at hi
    obtain rfl : i = z := by simpa using hi
    exact wpOpM_mono (fun a' w' hk => ⟨fun h0 => absurd rfl h0, by simpa using hB', hk⟩) (wpOpM_of_list (opAt_some (by simpa using hk)) h)
  | .seg ks p, listed, a, w, hC, hB, h => by
    simp only [PlanK.fits, Bool.and_eq_true, List.all_eq_true, decide_eq_true_eq, bne_iff_ne] at hB
    obtain ⟨hk, hB⟩ := hB
    split at hB
    case h_2 => cases hB
    rename_i l' hl
    exact wpAnyK_of_seg hs hz hC ks listed l' a (fun k hk' => ⟨by simpa using (hk k hk').1, (hk k hk').2⟩) hl (fun a' ha => wpAnyK_of_plan hs hz p l' a' w hC hB ha) h
  | .turn k p, listed, a, w, hC, hB, h => by
    simp only [PlanK.fits, Bool.and_eq_true, beq_iff_eq, decide_eq_true_eq, bne_iff_ne] at hB
    obtain ⟨⟨hk, hkz⟩, hr, hB'⟩ := hB
    refine ⟨fun h0 => (by rw [hr] at h0; cases h0), fun i hi => ?_⟩
    rw [hr] at hi
    obtain rfl : i = k := by simpa using hi
    exact wpOpM_mono (fun a' w' hk => ⟨fun _ => hk.1, wpAnyK_of_plan hs hz p _ a' w' hk.1 hB' hk.2⟩) (wpOpM_of_list (opAt_some (by simpa using hk)) h)
  | .fork i p j q, listed, a, w, hC, hB, h => by
    simp only [PlanK.fits, Bool.and_eq_true, beq_iff_eq, decide_eq_true_eq, bne_iff_ne] at hB
    obtain ⟨⟨hi', hiz⟩, ⟨hj', hjz⟩, hr, hlen, hp, hq⟩ := hB
    refine ⟨fun h0 => (by rw [hr] at h0; cases h0), fun m hm => ?_⟩
    rw [hr] at hm
    simp only [List.mem_cons, List.not_mem_nil, or_false] at hm
    rcases hm with rfl | rfl
    · exact wpOpM_mono (fun a' w' hk => ⟨fun _ => hk.1, wpAnyK_of_plan hs hz p _ a' w' hk.1 hp hk.2⟩) (wpOpM_of_list (opAt_some (by simpa using hi')) h.1)
    · exact wpOpM_mono (fun a' w' hk => ⟨fun _ => hk.1, by have := wpAnyK_of_plan hs hz q _ a' w' hk.1 hq hk.2; rwa [← hlen] at this⟩) (wpOpM_of_list (opAt_some (by simpa using hj')) h.2)
def mixK (l : List Oper) (z : Nat) (p : PlanK) : Bool := Region.noSelect l.toArray && (lastB .any l.toArray z && (p.fits .any l.toArray z (Array.replicate l.toArray.size false) && p.len == l.length))
theorem wp_region_treeK {id : Nat} {Q : Exit → Act → World → Prop} {a : Act} {w : World} {l : List Oper} (z : Nat) (p : PlanK) (hm : P.follows .mixedOrders = true) (hB : mixK l z p = true)
    (hC : C w.drew) (h : wpPlanK P l C z (fun a' w' => Q .normal a' w') p a w.drew) : (Code.region id l.toArray true).wp P Q a w := by
  simp only [mixK, Bool.and_eq_true, beq_iff_eq] at hB
  obtain ⟨h1, hz, h2, h3⟩ := hB
  refine wp_region_any hm (wpAny_of_K (Q := fun a' w' => Q .normal a' w') (C := C) (z := z) (fun _ _ h => h) _ _ _ _ ?_)
  have := wpAnyK_of_plan (P := P) (C := C) (md := .any) (Q := fun a' w' => Q .normal a' w') h1 hz p _ a w.drew hC h2 h
  rw [h3] at this
  simpa using this
end
end Go.Proofs.YtlfomhdphbchpaaGreatDoor
