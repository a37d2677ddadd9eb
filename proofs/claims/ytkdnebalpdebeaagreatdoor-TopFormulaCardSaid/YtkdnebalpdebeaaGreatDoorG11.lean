/- Lemmas of a claim: RegF -/
import Derived.Test.YtkdnebalpdebeaaGreatDoorG07
set_option linter.unusedVariables false
set_option linter.unusedSimpArgs false
set_option maxHeartbeats 16000000
set_option maxRecDepth 100000
namespace Go.Proofs.YtkdnebalpdebeaaGreatDoor
section
open Go Go.RowKit
section
variable {P : Program} {ops : Array Oper} {C D : World -> Prop}
theorem PureIn.stable {o : Oper} {v : Value} {a : Act} (hCD : ∀ w, C w -> D w) (h : PureIn P ops D o v a) : StableB P ops C o v a := by
 rcases h with ⟨hw, hv⟩ | h
 . refine .inl ⟨hw, fun w hC => ?_⟩
   have := hv w (hCD w hC)
   generalize (execOp a.eval o).run P w = r at *
   cases r with
   | halt x w' => exact this.elim
   | ok n w' =>
     cases n with
     | value u => exact ⟨this.2, this.1⟩
     | skip => exact ⟨this.2, this.1⟩
     | _ => exact this.elim
 . exact .inr h
def wpX (P : Program) (ops : Array Oper) (C D : World -> Prop) (Q : Act -> Prop) : List (Bool × Oper) -> Act -> Prop
 | [], a => Q a
 | (false, o) :: os, a => ∃ v, StableB P ops C o v a /\ wpX P ops C D Q os (a.put o.dst v)
 | (true, o) :: os, a => ∃ v, PureIn P ops D o v a /\ wpX P ops C D Q os (a.put o.dst v)
def StabX (P : Program) (ops : Array Oper) (C D : World -> Prop) (x : Bool × Oper) (v : Value) (a : Act) : Prop := match x.1 with
 | false => StableB P ops C x.2 v a
 | true => PureIn P ops D x.2 v a
theorem wpX_cons {Q : Act -> Prop} {x : Bool × Oper} {os : List (Bool × Oper)} {a : Act} : wpX P ops C D Q (x :: os) a ↔ ∃ v, StabX P ops C D x v a /\ wpX P ops C D Q os (a.put x.2.dst v) := by
 obtain ⟨b, o⟩ := x; cases b <;> exact Iff.rfl
theorem StabX.of_same {x : Bool × Oper} {v : Value} {a a' : Act} (hy : StabX P ops C D x v a) (he : execOp a'.eval x.2 = execOp a.eval x.2)
 (hw : Region.wanted x.2 (yielded ops a'.tmps) = Region.wanted x.2 (yielded ops a.tmps)) : StabX P ops C D x v a' := by
 obtain ⟨b, o⟩ := x
 cases b
 . exact StableB.of_same hy he hw
 . exact PureIn.of_same hy he hw
theorem StabX.stable {x : Bool × Oper} {v : Value} {a : Act} (hCD : ∀ w, C w -> D w) (h : StabX P ops C D x v a) : StableB P ops C x.2 v a := by
 obtain ⟨b, o⟩ := x
 cases b
 . exact h
 . exact PureIn.stable hCD h
theorem wpX_mono {Q Q' : Act -> Prop} (h : ∀ a, Q a -> Q' a) : ∀ (os : List (Bool × Oper)) (a : Act), wpX P ops C D Q os a -> wpX P ops C D Q' os a
 | [], a, hh => h a hh
 | _ :: os, a, hh => by
   obtain ⟨v, h1, h2⟩ := wpX_cons.1 hh
   exact wpX_cons.2 ⟨v, h1, wpX_mono h os _ h2⟩
theorem wpX_front {Q : Act -> Prop} {y : Bool × Oper} {k2 : List (Bool × Oper)} (hy : ∀ cs b, y.2.op ≠ .select cs b) : ∀ (k1 : List (Bool × Oper)) (a : Act), (∀ x ∈ k1, x.2.apart ops y.2 = true /\ ∀ cs b, x.2.op ≠ .select cs b) ->
 wpX P ops C D Q (k1 ++ y :: k2) a -> wpX P ops C D Q (y :: (k1 ++ k2)) a
 | [], _, _, h => h
 | x :: k1, a, hap, h => by
   obtain ⟨v, h1, h2⟩ := wpX_cons.1 h
   obtain ⟨u, h3, h4⟩ := wpX_cons.1 (wpX_front hy k1 _ (fun z hz => hap z (List.mem_cons_of_mem _ hz)) h2)
   obtain ⟨b1, b2⟩ := hap x List.mem_cons_self
   obtain ⟨a1, a2, a3⟩ := Oper.apart_spec b1
   refine wpX_cons.2 ⟨u, h3.of_same (execOp_put y.2 hy a x.2.dst v a1).symm (wanted_put y.2 a x.2.dst v a1).symm, wpX_cons.2 ⟨v, h1.of_same (execOp_put x.2 b2 a y.2.dst u a3) (wanted_put x.2 a y.2.dst u a3), ?_⟩⟩
   rw [<- Act.put_comm a v u a2]; exact h4
theorem wpX_put {Q : Act -> Prop} (d : Option Tmp) (p : Value) : ∀ (os : List (Bool × Oper)) (a : Act), (∀ o ∈ os, (∀ t, d = some t -> t ∉ o.2.looksAt ops) /\ (∀ t, d = some t -> o.2.dst ≠ some t) /\ ∀ cs b, o.2.op ≠ .select cs b) ->
 wpX P ops C D Q os a -> wpX P ops C D (fun a' => ∃ a'', a' = a''.put d p /\ Q a'') os (a.put d p)
 | [], a, _, h => ⟨a, rfl, h⟩
 | o :: os, a, hap, h => by
   obtain ⟨v, h1, h2⟩ := wpX_cons.1 h
   obtain ⟨b1, b2, b3⟩ := hap o List.mem_cons_self
   refine wpX_cons.2 ⟨v, h1.of_same (execOp_put o.2 b3 a d p b1) (wanted_put o.2 a d p b1), ?_⟩
   rw [Act.put_comm a p v b2]
   exact wpX_put d p os _ (fun x hx => hap x (List.mem_cons_of_mem _ hx)) h2
def wpTail (P : Program) (l : List Oper) (D : World -> Prop) (Q : Act -> World -> Prop) : List Nat -> Act -> World -> Prop
 | [], a, w => Q a w
 | z :: zs, a, w => wpList P l.toArray (onlyNormal fun a w => D w /\ wpTail P l D Q zs a w) [opAt l z] a w
def wpTailC (c : Prop) (P : Program) (l : List Oper) (D : World -> Prop) (Q : Act -> World -> Prop) : List Nat -> Act -> World -> Prop
 | [], a, w => Q a w
 | z :: zs, a, w => wpList P l.toArray (onlyNormal fun a w => ((zs ≠ [] ∨ c) -> D w) /\ wpTailC c P l D Q zs a w) [opAt l z] a w
theorem tailC_true (l : List Oper) (Q : Act -> World -> Prop) (zs : List Nat) : wpTailC True P l D Q zs = wpTail P l D Q zs := by
 induction zs with
 | nil => rfl
 | cons z zs ih => funext a w; simp only [wpTailC, wpTail, ih, or_true, true_implies]
theorem wpX_tail {l : List Oper} {z : Nat} {K : Act -> World -> Prop} {w : World} (hz : z < l.length) (hsz : ∀ cs b, (opAt l z).op ≠ .select cs b) : ∀ (fs : List (Bool × Oper)) (a : Act),
 (∀ x ∈ fs, x.1 = true /\ x.2.apart l.toArray (opAt l z) = true /\ ∀ cs b, x.2.op ≠ .select cs b) ->
 wpX P l.toArray C D (fun a' => wpOpM P l.toArray z K a' w) fs a -> wpOpM P l.toArray z (fun a1 w1 => wpX P l.toArray C D (fun a' => K a' w1) fs a1) a w
 | [], a, _, h => wpOpM_mono (fun _ _ h => h) h
 | (b, o) :: fs, a, hap, h => by
   obtain ⟨h1, h2, h3⟩ := hap _ List.mem_cons_self
   have h1' : b = true := h1
   subst h1'
   obtain ⟨v, hv, h4⟩ := h
   have ih := wpX_tail hz hsz fs (a.put o.dst v) (fun x hx => hap x (List.mem_cons_of_mem _ hx)) h4
   exact wpOpM_mono (fun a' w' h => ⟨v, h.1, h.2⟩) (wpOpM_put (C := D) (opAt_toArray hz) h2 h3 hsz hv ih)
theorem wpAnyM_tail {c : Prop} {md : Region.Mode} {l : List Oper} {Q : Act -> World -> Prop} {fl : Nat -> Bool} (hCD : ∀ w, C w -> D w)
 (hsel : ∀ (j : Nat) (o : Oper) cs b, l.toArray[j]? = some o -> o.op ≠ .select cs b)
 (hin : ∀ (j : Nat) (o : Oper), l[j]? = some o -> ∀ e ∈ o.after, Region.binds md e = true -> e.on < l.length) :
 ∀ (m : Nat) (fs zs : List Nat) (listed : Array Bool) (a : Act) (w : World), fs.length + zs.length = m -> listed.size = l.length -> (∀ z ∈ zs, z < l.length) -> zs.Nodup -> (∀ k ∈ fs, k < l.length /\ k ∉ zs /\ fl k = true /\ edgeB md l k k = false) ->
   (∀ j, listed.getD j true = false ↔ (j < l.length /\ (j ∈ fs ∨ j ∈ zs))) -> fs.Pairwise (fun k j => pairB md l k j = true /\ j ≠ k) ->
   (∀ z ∈ zs, ∀ k ∈ fs, edgeB md l z k = false /\ (edgeB md l k z = true ∨ (opAt l k).apart l.toArray (opAt l z) = true)) -> chainB md l zs = true -> (fs ≠ [] -> D w) -> (c ∨ ∀ zl, zs.getLast? = some zl -> ∀ k ∈ fs, edgeB md l k zl = true) ->
   wpX P l.toArray C D (fun a' => wpTailC c P l D Q zs a' w) (fs.map fun k => (fl k, opAt l k)) a -> wpAnyM P md l.toArray (fun _ => True) Q m listed a w := by
 intro m
 induction m with
 | zero =>
   intro fs zs listed a w hm hs _ _ _ hl _ _ _ _ _ h
   have hf0 : fs = [] := List.length_eq_zero_iff.1 (by omega)
   have hz0 : zs = [] := List.length_eq_zero_iff.1 (by omega)
   subst hf0 hz0
   refine ⟨List.eq_nil_iff_forall_not_mem.2 fun i hi => ?_, h⟩
   have := (hl i).1 (lt_of_ready hi).2
   simp at this
 | succ m ih =>
   intro fs zs listed a w hm hs hzl hznd hfs hl hpw hzf hc hD hlast h
   have hready : Region.ready md l.toArray listed ≠ [] := by
    cases fs with
    | cons k fs' =>
      intro h0
      have hk := hfs k List.mem_cons_self
      have := ready_of hs hin hk.1 ((hl k).2 ⟨hk.1, .inl List.mem_cons_self⟩) (fun i hi hu => by
       rcases ((hl i).1 hu).2 with hm | hm
       . rcases List.mem_cons.1 hm with rfl | hm
         . exact hk.2.2.2
         . have := ((List.pairwise_cons.1 hpw).1 i hm).1
           simp only [pairB, Bool.and_eq_true, Bool.not_eq_true'] at this
           exact this.2
       . exact (hzf i hm k List.mem_cons_self).1)
      rw [h0] at this; cases this
    | nil =>
      cases zs with
      | nil => simp at hm
      | cons z zs' =>
        intro h0
        simp only [chainB, Bool.and_eq_true, Bool.not_eq_true', List.all_eq_true] at hc
        have := ready_of hs hin (hzl z List.mem_cons_self) ((hl z).2 ⟨hzl z List.mem_cons_self, .inr List.mem_cons_self⟩) (fun i hi hu => by
         rcases ((hl i).1 hu).2 with hm | hm
         . cases hm
         . rcases List.mem_cons.1 hm with rfl | hm
           . exact hc.1
           . exact hc.2.1.1 i hm)
        rw [h0] at this; cases this
   refine ⟨fun h0 => absurd h0 hready, fun i hi => ?_⟩
   obtain ⟨hil, hiu⟩ := lt_of_ready hi
   have hs' : (listed.setIfInBounds i true).size = l.length := by simp [hs]
   rcases ((hl i).1 hiu).2 with hif | hiz
   . obtain ⟨k1, k2, rfl⟩ := List.append_of_mem hif
     have hap : ∀ x ∈ k1.map (fun k => (fl k, opAt l k)), x.2.apart l.toArray (opAt l i) = true /\ ∀ cs b, x.2.op ≠ .select cs b := fun x hx => by
      obtain ⟨k, hk, rfl⟩ := List.mem_map.1 hx
      have hk' := hfs k (by simp [hk])
      refine ⟨?_, fun cs b => hsel k _ cs b (opAt_toArray hk'.1)⟩
      have hp := ((List.pairwise_append.1 hpw).2.2 k hk i List.mem_cons_self).1
      simp only [pairB, Bool.and_eq_true, Bool.or_eq_true] at hp
      rcases hp.1 with he | he
      . exact (unl ((hl k).2 ⟨hk'.1, .inl (by simp [hk])⟩) (edge_ready hil he hi)).elim
      . exact he
     have hff := wpX_front (P := P) (C := C) (D := D) (y := (fl i, opAt l i)) (k2 := k2.map (fun k => (fl k, opAt l k))) (fun cs b => hsel i _ cs b (opAt_toArray hil)) (k1.map (fun k => (fl k, opAt l k))) a hap (by simpa using h)
     have hfi : fl i = true := (hfs i hif).2.2.1
     rw [hfi] at hff
     obtain ⟨v, hst, hrest⟩ := hff
     refine hst.wpOpM (opAt_toArray hil) (hD (by simp)) ⟨trivial, ?_⟩
     have hnd' : ∀ j, j ∈ k1 ++ k2 -> j ≠ i := fun j hj e => by
      subst e
      rcases List.mem_append.1 hj with hj | hj
      . exact ((List.pairwise_append.1 hpw).2.2 j hj j List.mem_cons_self).2 rfl
      . exact ((List.pairwise_cons.1 (List.pairwise_append.1 hpw).2.1).1 j hj).2 rfl
     have hmem : ∀ j, j ∈ k1 ++ i :: k2 ↔ (j ∈ k1 ++ k2 ∨ j = i) := fun j => by
      simp only [List.mem_append, List.mem_cons]
      constructor
      . rintro (h | rfl | h)
        . exact .inl (.inl h)
        . exact .inr rfl
        . exact .inl (.inr h)
      . rintro ((h | h) | rfl)
        . exact .inl h
        . exact .inr (.inr h)
        . exact .inr (.inl rfl)
     refine ih (k1 ++ k2) zs (listed.setIfInBounds i true) _ w (by simp at hm ⊢; omega) hs' hzl hznd (fun k hk => hfs k ((hmem k).2 (.inl hk))) (fun j => ?_) (hpw.sublist ((List.sublist_cons_self i k2).append_left k1)) (fun z hz k hk => hzf z hz k ((hmem k).2 (.inl hk))) hc (fun _ => hD (by simp)) (hlast.imp id fun hlast zl hz k hk => hlast zl hz k ((hmem k).2 (.inl hk))) (by rw [List.map_append]; exact hrest)
     rw [set_unl hs hil j, hl j, hmem j]
     constructor
     . rintro ⟨⟨h1, (h2 | h2) | h2⟩, h3⟩
       . exact ⟨h1, .inl h2⟩
       . exact absurd h2 h3
       . exact ⟨h1, .inr h2⟩
     . rintro ⟨h1, h2 | h2⟩
       . exact ⟨⟨h1, .inl (.inl h2)⟩, hnd' j h2⟩
       . exact ⟨⟨h1, .inr h2⟩, fun e => (hfs i hif).2.1 (e ▸ h2)⟩
   . cases zs with
     | nil => cases hiz
     | cons z zs =>
       have hc0 := hc
       simp only [chainB, Bool.and_eq_true, Bool.not_eq_true', List.all_eq_true] at hc
       obtain ⟨c1, ⟨c2, c3⟩, c4⟩ := hc
       have hizz : i = z := by
        rcases List.mem_cons.1 hiz with e | hm'
        . exact e
        . exfalso
          have key : ∀ (zs : List Nat) (z : Nat), (match zs with | [] => true | y :: _ => edgeB md l z y) = true -> chainB md l zs = true -> i ∈ zs -> ∃ p, p ∈ z :: zs /\ edgeB md l p i = true := by
           intro zs
           induction zs with
           | nil => intro z _ _ h; cases h
           | cons y ys ih =>
             intro z he hc hm
             rcases List.mem_cons.1 hm with rfl | hm
             . exact ⟨z, List.mem_cons_self, he⟩
             . simp only [chainB, Bool.and_eq_true] at hc
               obtain ⟨p, hp, hpe⟩ := ih y hc.2.1.2 hc.2.2 hm
               exact ⟨p, List.mem_cons_of_mem _ hp, hpe⟩
          obtain ⟨p, hp, hpe⟩ := key zs z c3 c4 hm'
          exact unl ((hl p).2 ⟨hzl p hp, .inr hp⟩) (edge_ready hil hpe hi)
       subst hizz
       have hst := wpX_tail (P := P) (C := C) (D := D) (K := fun a w => ((zs ≠ [] ∨ c) -> D w) /\ wpTailC c P l D Q zs a w) (w := w) hil (fun cs b => hsel i _ cs b (opAt_toArray hil)) (fs.map fun k => (fl k, opAt l k)) a (fun x hx => by
        obtain ⟨k, hk, rfl⟩ := List.mem_map.1 hx
        have hk' := hfs k hk
        refine ⟨hk'.2.2.1, ?_, fun cs b => hsel k _ cs b (opAt_toArray hk'.1)⟩
        rcases (hzf i List.mem_cons_self k hk).2 with he | he
        . exact (unl ((hl k).2 ⟨hk'.1, .inl hk⟩) (edge_ready hil he hi)).elim
        . exact he) (wpX_mono (fun a' h => wpOpM_of_list (opAt_toArray hil) h) _ _ h)
       refine wpOpM_mono (fun a1 w1 hq => ⟨trivial, ?_⟩) hst
       have hfD : (fs ≠ [] -> D w1) /\ wpX P l.toArray C D (fun a' => wpTailC c P l D Q zs a' w1) (fs.map fun k => (fl k, opAt l k)) a1 := by
        refine ⟨fun hne => ?_, wpX_mono (fun _ h => h.2) _ _ hq⟩
        have hzne : zs ≠ [] ∨ c := by
         rcases hlast with hc0 | hlast
         . exact .inr hc0
         refine .inl ?_
         rintro rfl
         cases fs with
         | nil => exact hne rfl
         | cons k fs' => exact unl ((hl k).2 ⟨(hfs k List.mem_cons_self).1, .inl List.mem_cons_self⟩) (edge_ready hil (hlast i rfl k List.mem_cons_self) hi)
        have : ∀ (fs : List (Bool × Oper)) (a1 : Act), wpX P l.toArray C D (fun a' => ((zs ≠ [] ∨ c) -> D w1) /\ wpTailC c P l D Q zs a' w1) fs a1 -> D w1 := fun fs => by
         induction fs with
         | nil => intro a1 h; exact h.1 hzne
         | cons x fs ih => intro a1 h; obtain ⟨v, _, h⟩ := wpX_cons.1 h; exact ih _ h
        exact this _ _ hq
       refine ih fs zs (listed.setIfInBounds i true) a1 w1 (by simp at hm ⊢; omega) hs' (fun z hz => hzl z (List.mem_cons_of_mem _ hz)) (List.nodup_cons.1 hznd).2 (fun k hk => ⟨(hfs k hk).1, fun h => (hfs k hk).2.1 (List.mem_cons_of_mem _ h), (hfs k hk).2.2⟩) (fun j => ?_) hpw (fun z hz => hzf z (List.mem_cons_of_mem _ hz)) c4 hfD.1 (hlast.imp id fun hlast zl hz k hk => hlast zl (by cases zs with | nil => cases hz | cons y ys => rw [List.getLast?_cons_cons]; exact hz) k hk) hfD.2
       rw [set_unl hs hil j, hl j]
       constructor
       . rintro ⟨⟨h1, h2 | h2⟩, h3⟩
         . exact ⟨h1, .inl h2⟩
         . exact ⟨h1, .inr ((List.mem_cons.1 h2).resolve_left h3)⟩
       . rintro ⟨h1, h2 | h2⟩
         . exact ⟨⟨h1, .inl h2⟩, fun e => (hfs j h2).2.1 (e ▸ List.mem_cons_self)⟩
         . exact ⟨⟨h1, .inr (List.mem_cons_of_mem _ h2)⟩, fun e => (List.nodup_cons.1 hznd).1 (e ▸ h2)⟩
theorem wpAnyM_of_regC {c : Prop} {fl : Nat -> Bool} (hCD : ∀ w, C w -> D w) {md : Region.Mode} {l : List Oper} {Q : Act -> World -> Prop} {tz : Nat -> TypeId × Array Value} {N : Nat} {all zs : List Nat} {n : Nat}
 (hCB : ∀ w w', C w -> Below w.heap.size w w' -> C w')
 (hsel : ∀ (j : Nat) (o : Oper) cs b, l.toArray[j]? = some o -> o.op ≠ .select cs b)
 (hin : ∀ (j : Nat) (o : Oper), l[j]? = some o -> ∀ e ∈ o.after, Region.binds md e = true -> e.on < l.length)
 (hzl : ∀ z ∈ zs, z < l.length) (hznd : zs.Nodup) (hzc : chainB md l zs = true) (hLE : c ∨ ∀ zl, zs.getLast? = some zl -> ∀ k, fl k = true -> edgeB md l k zl = true) (hal : ∀ k ∈ all, AllocB P l.toArray (opAt l k) (tz k).1 (tz k).2) :
 ∀ (m : Nat) (ks bs : List Nat) (listed : Array Bool) (a : Act) (w : World) (gs0 : Nat -> Nat), ks.length + bs.length = m -> listed.size = l.length -> Closed md l listed ->
   (∀ k ∈ ks, k < l.length /\ k ∉ bs /\ k ∉ zs /\ edgeB md l k k = false) -> (∀ k ∈ bs, k < l.length /\ k ∉ zs /\ k ∈ all /\ edgeB md l k k = false) -> bs.Nodup ->
   (∀ j, listed.getD j true = false ↔ (j < l.length /\ (j ∈ ks ∨ j ∈ bs ∨ j ∈ zs))) ->
   ks.Pairwise (fun k j => pairB md l k j = true /\ j ≠ k) -> (∀ k ∈ ks, ∀ j ∈ bs, loose md l k j = true) -> (∀ k ∈ bs, ∀ j ∈ bs, k ≠ j -> loose md l k j = true) ->
   (∀ z ∈ zs, ∀ k, k ∈ ks ∨ k ∈ bs -> edgeB md l z k = false /\ (k ∈ bs ∨ fl k = false -> pathB md l n k z = true) /\ (edgeB md l k z = true ∨ (opAt l k).apart l.toArray (opAt l z) = true)) -> C w -> N <= w.heap.size ->
   (∀ k ∈ all, k ∉ bs -> N <= gs0 k /\ Blk w (gs0 k) (tz k).1 (tz k).2) -> (∀ j ∈ all, ∀ k ∈ all, j ∉ bs -> k ∉ bs -> j ≠ k -> gs0 j ≠ gs0 k) ->
   wpX P l.toArray C D (fun a' => ∀ (gs : Nat -> Nat) (w' : World), C w' -> (∀ k ∈ all, k ∉ bs -> gs k = gs0 k) -> Made tz N all gs w' -> wpTailC c P l D Q zs (putAll l gs bs a') w') (ks.map fun k => (fl k, opAt l k)) a ->
   wpAnyM P md l.toArray (fun _ => True) Q (m + zs.length) listed a w := by
 intro m
 induction m with
 | zero =>
   intro ks bs listed a w gs0 hm hs hcl hks has hnd hl hpw hla haa hz hC hN hd hdd h
   have hk0 : ks = [] := List.length_eq_zero_iff.1 (by omega)
   have ha0 : bs = [] := List.length_eq_zero_iff.1 (by omega)
   subst hk0 ha0
   have := wpAnyM_tail (P := P) (C := C) (D := D) (md := md) (Q := Q) (fl := fl) hCD hsel hin (0 + zs.length) [] zs listed a w (by simp) hs hzl hznd (fun k hk => by cases hk) (fun j => by simpa using hl j) .nil (fun z _ k hk => by cases hk) hzc (fun _ => hCD _ hC) (hLE.imp id fun hLE zl hz k hk => hLE zl hz k (by first | (cases hk; done) | exact hfl k hk))
    (h gs0 w hC (fun _ _ _ => rfl) ⟨fun k hk => hd k hk (by simp), fun j hj k hk => hdd j hj k hk (by simp) (by simp)⟩)
   exact this
 | succ m ih =>
   intro ks bs listed a w gs0 hm hs hcl hks has hnd hl hpw hla haa hz hC hN hd hdd h
   by_cases hrem : (∃ k ∈ ks, fl k = false) ∨ bs ≠ []
   case neg =>
    have hb0 : bs = [] := Classical.byContradiction fun h => hrem (.inr h)
    subst hb0
    have hfl : ∀ k ∈ ks, fl k = true := fun k hk => by
     cases hf : fl k with
     | true => rfl
     | false => exact (hrem (.inl ⟨k, hk, hf⟩)).elim
    refine wpAnyM_tail (P := P) (C := C) (D := D) (md := md) (Q := Q) (fl := fl) hCD hsel hin (m + 1 + zs.length) ks zs listed a w (by simp at hm; omega) hs hzl hznd (fun k hk => ⟨(hks k hk).1, (hks k hk).2.2.1, hfl k hk, (hks k hk).2.2.2⟩) (fun j => by simpa using hl j) hpw (fun z hz' k hk => ⟨(hz z hz' k (.inl hk)).1, (hz z hz' k (.inl hk)).2.2⟩) hzc (fun _ => hCD _ hC) (hLE.imp id fun hLE zl hz k hk => hLE zl hz k (by first | (cases hk; done) | exact hfl k hk))
     (wpX_mono (fun a' hq => hq gs0 w hC (fun _ _ _ => rfl) ⟨fun k hk => hd k hk (by simp), fun j hj k hk => hdd j hj k hk (by simp) (by simp)⟩) _ _ h)
   case pos =>
    rw [Nat.add_right_comm]
    have hloose : ∀ {i j : Nat}, loose md l i j = true -> (opAt l i).apart l.toArray (opAt l j) = true /\ (opAt l j).apart l.toArray (opAt l i) = true /\ edgeB md l i j = false /\ edgeB md l j i = false := fun h => by
     simpa [loose, Bool.and_eq_true] using h
    have hready : Region.ready md l.toArray listed ≠ [] := by
     cases ks with
     | cons k ks' =>
       intro h0
       have hk := hks k List.mem_cons_self
       have := ready_of hs hin hk.1 ((hl k).2 ⟨hk.1, .inl List.mem_cons_self⟩) (fun i hi hu => by
        rcases ((hl i).1 hu).2 with hm | hm | hm
        . rcases List.mem_cons.1 hm with rfl | hm
          . exact hk.2.2.2
          . have := ((List.pairwise_cons.1 hpw).1 i hm).1
            simp only [pairB, Bool.and_eq_true, Bool.not_eq_true'] at this
            exact this.2
        . exact (hloose (hla k List.mem_cons_self i hm)).2.2.2
        . exact (hz i hm k (.inl List.mem_cons_self)).1)
       rw [h0] at this; cases this
     | nil =>
       cases bs with
       | nil => simp at hm
       | cons k bs' =>
         intro h0
         have hk := has k List.mem_cons_self
         have := ready_of hs hin hk.1 ((hl k).2 ⟨hk.1, .inr (.inl List.mem_cons_self)⟩) (fun i hi hu => by
          rcases ((hl i).1 hu).2 with hm | hm | hm
          . cases hm
          . by_cases hik : i = k
            . subst hik; exact hk.2.2.2
            . exact (hloose (haa i hm k List.mem_cons_self hik)).2.2.1
          . exact (hz i hm k (.inr List.mem_cons_self)).1)
         rw [h0] at this; cases this
    refine ⟨fun h0 => absurd h0 hready, fun i hi => ?_⟩
    obtain ⟨hil, hiu⟩ := lt_of_ready hi
    have hcl' := hcl.step hi
    have hs' : (listed.setIfInBounds i true).size = l.length := by simp [hs]
    rcases ((hl i).1 hiu).2 with hik | hia | hiz
    . obtain ⟨k1, k2, rfl⟩ := List.append_of_mem hik
      have hap : ∀ x ∈ k1.map (fun k => (fl k, opAt l k)), x.2.apart l.toArray (opAt l i) = true /\ ∀ cs b, x.2.op ≠ .select cs b := fun x hx => by
       obtain ⟨k, hk, rfl⟩ := List.mem_map.1 hx
       have hk' := hks k (by simp [hk])
       refine ⟨?_, fun cs b => hsel k _ cs b (opAt_toArray hk'.1)⟩
       have hp := ((List.pairwise_append.1 hpw).2.2 k hk i List.mem_cons_self).1
       simp only [pairB, Bool.and_eq_true, Bool.or_eq_true] at hp
       rcases hp.1 with he | he
       . exact (unl ((hl k).2 ⟨hk'.1, .inl (by simp [hk])⟩) (edge_ready hil he hi)).elim
       . exact he
      obtain ⟨v, hst, hrest⟩ := wpX_cons.1 (wpX_front (P := P) (C := C) (D := D) (y := (fl i, opAt l i)) (k2 := k2.map (fun k => (fl k, opAt l k))) (fun cs b => hsel i _ cs b (opAt_toArray hil)) (k1.map (fun k => (fl k, opAt l k))) a hap (by simpa using h))
      refine (hst.stable hCD).wpOpM (opAt_toArray hil) hC fun w' hb => ⟨trivial, ?_⟩
      have hnd' : ∀ j, j ∈ k1 ++ k2 -> j ≠ i := fun j hj e => by
       subst e
       rcases List.mem_append.1 hj with hj | hj
       . exact ((List.pairwise_append.1 hpw).2.2 j hj j List.mem_cons_self).2 rfl
       . exact ((List.pairwise_cons.1 (List.pairwise_append.1 hpw).2.1).1 j hj).2 rfl
      have hmem : ∀ j, j ∈ k1 ++ i :: k2 ↔ (j ∈ k1 ++ k2 ∨ j = i) := fun j => by
       simp only [List.mem_append, List.mem_cons]
       constructor
       . rintro (h | rfl | h)
         . exact .inl (.inl h)
         . exact .inr rfl
         . exact .inl (.inr h)
       . rintro ((h | h) | rfl)
         . exact .inl h
         . exact .inr (.inr h)
         . exact .inr (.inl rfl)
      have hii := hks i hik
      refine ih (k1 ++ k2) bs (listed.setIfInBounds i true) _ w' gs0 (by simp at hm ⊢; omega) hs' hcl' (fun k hk => hks k ((hmem k).2 (.inl hk))) has hnd (fun j => ?_) (hpw.sublist ((List.sublist_cons_self i k2).append_left k1)) (fun k hk => hla k ((hmem k).2 (.inl hk))) haa
       (fun z hz' k hk => hz z hz' k (hk.imp (fun h => (hmem k).2 (.inl h)) id)) (hCB _ _ hC hb) (Nat.le_trans hN hb.size) (fun k hk hn => ⟨(hd k hk hn).1, (hd k hk hn).2.step hb⟩) hdd (by rw [List.map_append]; exact hrest)
      rw [set_unl hs hil j, hl j, hmem j]
      constructor
      . rintro ⟨⟨h1, (h2 | h2) | h2⟩, h3⟩
        . exact ⟨h1, .inl h2⟩
        . exact absurd h2 h3
        . exact ⟨h1, .inr h2⟩
      . rintro ⟨h1, h2 | h2 | h2⟩
        . exact ⟨⟨h1, .inl (.inl h2)⟩, hnd' j h2⟩
        . exact ⟨⟨h1, .inr (.inl h2)⟩, fun e => hii.2.1 (e ▸ h2)⟩
        . exact ⟨⟨h1, .inr (.inr h2)⟩, fun e => hii.2.2.1 (e ▸ h2)⟩
    . obtain ⟨a1, a2, rfl⟩ := List.append_of_mem hia
      have hai := has i hia
      obtain ⟨hg, hrun⟩ := hal i hai.2.2.1
      have hmem : ∀ j, j ∈ a1 ++ i :: a2 ↔ (j ∈ a1 ++ a2 ∨ j = i) := fun j => by
       simp only [List.mem_append, List.mem_cons]
       constructor
       . rintro (h | rfl | h)
         . exact .inl (.inl h)
         . exact .inr rfl
         . exact .inl (.inr h)
       . rintro ((h | h) | rfl)
         . exact .inl h
         . exact .inr (.inr h)
         . exact .inr (.inl rfl)
      have hni : i ∉ a1 ++ a2 := fun h => by
       have := List.nodup_append.1 hnd
       rcases List.mem_append.1 h with h | h
       . exact (this.2.2 i h i List.mem_cons_self) rfl
       . exact (List.nodup_cons.1 this.2.1).1 h
      have hnd2 : (a1 ++ a2).Nodup := hnd.sublist ((List.sublist_cons_self i a2).append_left a1)
      unfold wpOpM
      rw [opAt_toArray hil]
      have hw : Region.wanted (opAt l i) (yielded l.toArray a.tmps) = true := by simp [Region.wanted, hg]
      simp only [hw, if_true]
      unfold Oper.wp
      rw [hrun a w]
      show True /\ _
      refine ⟨trivial, ?_⟩
      have hb : Below w.heap.size w (w.alloc (.cells (tz i).2 (tz i).1)) := (Below.refl _ _).alloc (Nat.le_refl _) _
      have hput := wpX_put (P := P) (C := C) (D := D) (opAt l i).dst (.pointer (some ⟨w.heap.size, 0, none⟩)) (ks.map (fun k => (fl k, opAt l k))) a (fun o ho => by
       obtain ⟨k, hk, rfl⟩ := List.mem_map.1 ho
       have hlo := hloose (hla k hk i hia)
       obtain ⟨b1, b2, b3⟩ := Oper.apart_spec hlo.2.1
       exact ⟨b1, b2, fun cs b => hsel k _ cs b (opAt_toArray (hks k hk).1)⟩) h
      refine ih ks (a1 ++ a2) (listed.setIfInBounds i true) _ _ (fun j => if j = i then w.heap.size else gs0 j) (by simp at hm ⊢; omega) hs' hcl' (fun k hk => ?_) (fun k hk => has k ((hmem k).2 (.inl hk))) hnd2 (fun j => ?_) hpw (fun k hk j hj => hla k hk j ((hmem j).2 (.inl hj)))
       (fun k hk j hj => haa k ((hmem k).2 (.inl hk)) j ((hmem j).2 (.inl hj))) (fun z hz' k hk => ⟨(hz z hz' k (hk.imp id (fun h => (hmem k).2 (.inl h)))).1, fun hq => (hz z hz' k (hk.imp id (fun h => (hmem k).2 (.inl h)))).2.1 (hq.imp (fun h => (hmem k).2 (.inl h)) id), (hz z hz' k (hk.imp id (fun h => (hmem k).2 (.inl h)))).2.2⟩) (hCB _ _ hC hb) (Nat.le_trans hN hb.size) (fun k hk hn => ?_) (fun j hj k hk hjn hkn hjk => ?_) (wpX_mono ?_ _ _ hput)
      . have := hks k hk
        exact ⟨this.1, fun hk' => this.2.1 ((hmem k).2 (.inl hk')), this.2.2⟩
      . rw [set_unl hs hil j, hl j, hmem j]
        constructor
        . rintro ⟨⟨h1, h2 | (h2 | h2) | h2⟩, h3⟩
          . exact ⟨h1, .inl h2⟩
          . exact ⟨h1, .inr (.inl h2)⟩
          . exact absurd h2 h3
          . exact ⟨h1, .inr (.inr h2)⟩
        . rintro ⟨h1, h2 | h2 | h2⟩
          . exact ⟨⟨h1, .inl h2⟩, fun e => (hks j h2).2.1 (e ▸ hia)⟩
          . exact ⟨⟨h1, .inr (.inl (.inl h2))⟩, fun e => hni (e ▸ h2)⟩
          . exact ⟨⟨h1, .inr (.inr h2)⟩, fun e => hai.2.1 (e ▸ h2)⟩
      . by_cases hki : k = i
        . subst hki; rw [if_pos rfl]; exact ⟨hN, Blk.new w _ _⟩
        . rw [if_neg hki]
          have := hd k hk (fun hm => by rcases (hmem k).1 hm with h | h; exact hn h; exact hki h)
          exact ⟨this.1, this.2.step hb⟩
      . have hlt : ∀ k, k ∈ all -> k ∉ a1 ++ a2 -> k ≠ i -> gs0 k ≠ w.heap.size := fun k hk hn hki => by
         have := hd k hk (fun hm => by rcases (hmem k).1 hm with h | h; exact hn h; exact hki h)
         exact Nat.ne_of_lt this.2.lt
        by_cases hji : j = i
        . subst hji
          rw [if_pos rfl, if_neg (fun e => hjk e.symm)]
          exact fun e => hlt k hk hkn (fun e => hjk e.symm) e.symm
        . rw [if_neg hji]
          by_cases hki : k = i
          . subst hki; rw [if_pos rfl]; exact hlt j hj hjn hji
          . rw [if_neg hki]
            exact hdd j hj k hk (fun hm => by rcases (hmem j).1 hm with h | h; exact hjn h; exact hji h) (fun hm => by rcases (hmem k).1 hm with h | h; exact hkn h; exact hki h) hjk
      . rintro a' ⟨a'', rfl, hq⟩ gs w' hC' hgs hmade
        have hgi : gs i = w.heap.size := by rw [hgs i hai.2.2.1 hni, if_pos rfl]
        have := hq gs w' hC' (fun k hk hn => by
         rw [hgs k hk (fun hm => hn ((hmem k).2 (.inl hm))), if_neg (fun e : k = i => hn (by rw [e]; exact hia))]) hmade
        rw [putAll_mid i a1 a2 a'' (fun j hj t ht => by
         have hji : j ≠ i := fun e => hni (List.mem_append_left _ (e ▸ hj))
         exact (Oper.apart_spec (hloose (haa i hia j ((hmem j).2 (.inl (List.mem_append_left _ hj))) (Ne.symm hji))).1).2.1 t ht), hgi] at this
        exact this
    . exfalso
      have hex : ∃ k, (k ∈ ks /\ fl k = false) ∨ k ∈ bs := by
       rcases hrem with ⟨k, hk, hf⟩ | hb
       . exact ⟨k, .inl ⟨hk, hf⟩⟩
       . cases bs with
         | nil => exact absurd rfl hb
         | cons k bs' => exact ⟨k, .inr List.mem_cons_self⟩
      obtain ⟨k, hk⟩ := hex
      have hkl : k < l.length := by rcases hk with h | h; exact (hks k h.1).1; exact (has k h).1
      exact unl ((hl k).2 ⟨hkl, by rcases hk with h | h; exact .inl h.1; exact .inr (.inl h)⟩) (hcl.path hs hil hi n k ((hz i hiz k (hk.imp (fun h => h.1) id)).2.1 (hk.symm.imp id (fun h => h.2))))
def regFB (l : List Oper) (ks bs zs fs : List Nat) : Bool :=
 Region.noSelect l.toArray && (l.all (fun o => o.after.all fun e => !Region.binds .any e || decide (e.on < l.length)) && (
  (ks ++ (bs ++ zs)).all (fun k => decide (k < l.length)) && ((ks ++ (bs ++ zs)).length == l.length && ((List.range l.length).all (fun j => (ks ++ (bs ++ zs)).contains j) && (
  ks.all (fun k => !bs.contains k && (!zs.contains k && !edgeB .any l k k)) && (bs.all (fun k => !zs.contains k && !edgeB .any l k k) && (
  pairsB .any l ks && (ks.all (fun k => bs.all fun j => loose .any l k j) && (bs.all (fun k => bs.all fun j => k == j || loose .any l k j) && (
  zs.all (fun z => (ks ++ bs).all fun k => !edgeB .any l z k && ((fs.contains k && !bs.contains k || pathB .any l 3 k z) && (edgeB .any l k z || (opAt l k).apart l.toArray (opAt l z)))) && chainB .any l zs))))))))))
theorem wp_region_regC {c : Prop} {id : Nat} {Q : Exit -> Act -> World -> Prop} {a : Act} {w : World} {l : List Oper} (C D : World -> Prop) (tz : Nat -> TypeId × Array Value) (ks bs zs fs : List Nat) (hm : P.follows .mixedOrders = true)
 (hB : (regFB l ks bs zs fs && (nodupB bs && nodupB zs)) = true) (hL : c ∨ ∀ zl, zs.getLast? = some zl -> ∀ k ∈ fs, edgeB .any l k zl = true) (hCD : ∀ w, C w -> D w) (hCB : ∀ w w', C w -> Below w.heap.size w w' -> C w') (hC : C w.drew) (hal : ∀ k ∈ bs, AllocB P l.toArray (opAt l k) (tz k).1 (tz k).2)
 (h : wpX P l.toArray C D (fun a' => ∀ (gs : Nat -> Nat) (w' : World), C w' -> Made tz w.heap.size bs gs w' -> wpTailC c P l D (fun a w => Q .normal a w) zs (putAll l gs bs a') w') (ks.map fun k => (fs.contains k, opAt l k)) a) :
 (Code.region id l.toArray true).wp P Q a w := by
 rw [Bool.and_eq_true, Bool.and_eq_true] at hB
 obtain ⟨hB, n1, n2⟩ := hB
 simp only [regFB, Bool.and_eq_true, List.all_eq_true, Array.all_eq_true_iff_forall_mem, decide_eq_true_eq, beq_iff_eq, List.contains_iff_mem, List.mem_range, Bool.or_eq_true, Bool.not_eq_true', List.mem_append] at hB
 obtain ⟨h1, h2, h3, h4, h5, h6, h7, h8, h9, h10, h11, h12⟩ := hB
 obtain ⟨p1, p2⟩ := pairsB_spec h8
 refine wp_region_any hm (wpAny_of_M (Q := fun a' w' => Q .normal a' w') (C := fun _ => True) (fun _ _ h => h) _ _ _ _ ?_)
 have hrep : ∀ k : Nat, (Array.replicate l.length false).getD k true = false ↔ k < l.length := fun k => by
  by_cases hk : k < l.length
  . simp [hk]
  . simp [hk]
 have := wpAnyM_of_regC (c := c) (P := P) (C := C) (D := D) (fl := fun k => fs.contains k) (md := .any) (l := l) (Q := fun a' w' => Q .normal a' w') (tz := tz) (N := w.heap.size) (all := bs) (zs := zs) (n := 3) hCD hCB (fun j o cs b ho => Region.noSelect_spec h1 j o cs b ho)
  (fun j o ho e he hb => by rcases h2 o (List.mem_of_getElem? ho) e he with h | h; rw [hb] at h; cases h; exact h)
  (fun z hz => h3 z (.inr (.inr hz))) (nodupB_spec n2) h12 (hL.imp (fun h => h) fun hL zl hz k hk => hL zl hz k (by simpa using hk)) hal (ks.length + bs.length) ks bs (Array.replicate l.length false) a w.drew (fun _ => 0) rfl (by simp)
  (fun i j hj he hl => by rw [(hrep j).2 hj] at hl; cases hl)
  (fun k hk => ⟨h3 k (.inl hk), not_contains (h6 k hk).1, not_contains (h6 k hk).2.1, (h6 k hk).2.2⟩) (fun k hk => ⟨h3 k (.inr (.inl hk)), not_contains (h7 k hk).1, hk, (h7 k hk).2⟩) (nodupB_spec n1)
  (fun j => by rw [hrep j]; exact ⟨fun hj => ⟨hj, h5 j hj⟩, fun h => h.1⟩) p1 h9 (fun k hk j hj hkj => (h10 k hk j hj).resolve_left hkj) (fun z hz k hk => by
    have := h11 z hz k hk
    refine ⟨this.1, fun hq => ?_, this.2.2⟩
    rcases this.2.1 with ⟨hf, hb⟩ | hp
    . rcases hq with hq | hq
      . exact absurd hq (not_contains hb)
      . exact absurd hf (not_contains hq)
    . exact hp) hC (Nat.le_refl _)
  (fun k hk hn => absurd hk hn) (fun j hj k hk hjn => absurd hj hjn) (wpX_mono (fun a' hq gs w' hC' _ hmade => hq gs w' hC' hmade) _ _ h)
 have hlen : ks.length + bs.length + zs.length = l.length := by rw [<- h4]; simp; omega
 rw [hlen] at this
 simpa using this
theorem wp_region_regF {id : Nat} {Q : Exit -> Act -> World -> Prop} {a : Act} {w : World} {l : List Oper} (C D : World -> Prop) (tz : Nat -> TypeId × Array Value) (ks bs zs fs : List Nat) (hm : P.follows .mixedOrders = true)
 (hB : (regFB l ks bs zs fs && (nodupB bs && nodupB zs)) = true) (hCD : ∀ w, C w -> D w) (hCB : ∀ w w', C w -> Below w.heap.size w w' -> C w') (hC : C w.drew) (hal : ∀ k ∈ bs, AllocB P l.toArray (opAt l k) (tz k).1 (tz k).2)
 (h : wpX P l.toArray C D (fun a' => ∀ (gs : Nat -> Nat) (w' : World), C w' -> Made tz w.heap.size bs gs w' -> wpTail P l D (fun a w => Q .normal a w) zs (putAll l gs bs a') w') (ks.map fun k => (fs.contains k, opAt l k)) a) :
 (Code.region id l.toArray true).wp P Q a w :=
 wp_region_regC (c := True) C D tz ks bs zs fs hm hB (.inl trivial) hCD hCB hC hal (by simpa only [tailC_true] using h)
theorem wpX_nil {Q : Act -> Prop} {a : Act} (h : Q a) : wpX P ops C D Q [] a := h
theorem wpX_pure {Q : Act -> Prop} {rest : List (Bool × Oper)} {o : Oper} {a : Act} (h0 : plainOp o.op = true) (h : wpQuiet P ops C (fun a' => wpX P ops C D Q rest a') [o] a) : wpX P ops C D Q ((false, o) :: rest) a := by
 obtain ⟨v, h1, h2⟩ := (wpB_pure (P := P) (ops := ops) (C := C) (Q := fun a' => wpX P ops C D Q rest a') (rest := []) h0 h : wpB P ops C (fun a' => wpX P ops C D Q rest a') [o] a)
 exact ⟨v, h1, h2⟩
theorem wpX_float {Q : Act -> Prop} {rest : List (Bool × Oper)} {o : Oper} {a : Act} (h0 : plainOp o.op = true) (h : wpQuiet P ops D (fun a' => wpX P ops C D Q rest a') [o] a) : wpX P ops C D Q ((true, o) :: rest) a := by
 simp only [wpQuiet] at h
 split at h
 . rename_i hw
   obtain ⟨v, h1, h2⟩ := h
   exact ⟨v, pure_of_quiet h0 (.inl ⟨hw, h1⟩), h2⟩
 . rename_i hw
   exact ⟨undef, .inr ⟨by simpa using hw, rfl⟩, h⟩
theorem wpX_call {Q : Act -> Prop} {rest : List (Bool × Oper)} {o : Oper} {a : Act} (v : Value) (f : FuncId) (args : Array Value) (hw : Region.wanted o (yielded ops a.tmps) = true)
 (hr : ∀ w, (execOp a.eval o).run P w = .ok (.enter f args) w) (h : ∀ w, C w -> Calls P f args w fun e w' => e = .returned v /\ Below w.heap.size w w')
 (h2 : ∀ K : Act -> Prop, (∀ a, wpX P ops C D Q rest a -> K a) -> K (a.put o.dst v)) : wpX P ops C D Q ((false, o) :: rest) a :=
 ⟨v, .inl ⟨hw, fun w hC => by rw [hr w]; exact ⟨rfl, h w hC⟩⟩, h2 _ (fun _ q => q)⟩
end
end
end Go.Proofs.YtkdnebalpdebeaaGreatDoor
