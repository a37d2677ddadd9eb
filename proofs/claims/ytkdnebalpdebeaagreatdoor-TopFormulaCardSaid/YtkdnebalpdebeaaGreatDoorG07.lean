/- Lemmas of a claim: Reg, DecD -/
import Derived.Test.YtkdnebalpdebeaaGreatDoorG06
set_option linter.unusedVariables false
set_option linter.unusedSimpArgs false
set_option maxHeartbeats 16000000
set_option maxRecDepth 100000
namespace Go.Proofs.YtkdnebalpdebeaaGreatDoor
section
open Go Go.RowKit
section
variable {P : Program} {ops : Array Oper} {C : World -> Prop}
def comesB (P : Program) (w : World) (v : Value) : Result Next -> Prop
 | .ok (.value u) w' => u = v /\ w' = w
 | .ok .skip w' => v = undef /\ w' = w
 | .ok (.enter f args) w' => w' = w /\ Calls P f args w fun e w'' => e = .returned v /\ Below w.heap.size w w''
 | _ => False
def StableB (P : Program) (ops : Array Oper) (C : World -> Prop) (o : Oper) (v : Value) (a : Act) : Prop :=
 (Region.wanted o (yielded ops a.tmps) = true /\ ∀ w, C w -> comesB P w v ((execOp a.eval o).run P w)) ∨ (Region.wanted o (yielded ops a.tmps) = false /\ v = undef)
theorem StableB.of_same {o : Oper} {v : Value} {a a' : Act} (hy : StableB P ops C o v a) (he : execOp a'.eval o = execOp a.eval o)
 (hw : Region.wanted o (yielded ops a'.tmps) = Region.wanted o (yielded ops a.tmps)) : StableB P ops C o v a' := by
 unfold StableB at *; rw [he, hw]; exact hy
theorem StableB.wpOpM {i : Nat} {o : Oper} {v : Value} {a : Act} {w : World} (hi : ops[i]? = some o) (hy : StableB P ops C o v a) (hC : C w) {K : Act -> World -> Prop} (h : ∀ w', Below w.heap.size w w' -> K (a.put o.dst v) w') : wpOpM P ops i K a w := by
 unfold Go.Proofs.YtkdnebalpdebeaaGreatDoor.wpOpM
 simp only [hi]
 rcases hy with ⟨hw, hv⟩ | ⟨hw, rfl⟩
 . simp only [hw, if_true]
   have h1 := hv w hC
   unfold Oper.wp
   generalize (execOp a.eval o).run P w = r at *
   cases r with
   | halt x w' => cases h1
   | ok n w' =>
     cases n <;> simp only [comesB, Oper.upon] at h1 ⊢
     case value u => obtain ⟨rfl, rfl⟩ := h1; exact h _ (Below.refl _ _)
     case skip => obtain ⟨rfl, rfl⟩ := h1; exact h _ (Below.refl _ _)
     case enter f args => obtain ⟨rfl, h1⟩ := h1; exact Calls.mono h1 (fun e w'' he => by obtain ⟨rfl, hc⟩ := he; exact h _ hc)
 . simp only [hw]; exact h _ (Below.refl _ _)
def wpB (P : Program) (ops : Array Oper) (C : World -> Prop) (Q : Act -> Prop) : List Oper -> Act -> Prop
 | [], a => Q a
 | o :: os, a => ∃ v, StableB P ops C o v a /\ wpB P ops C Q os (a.put o.dst v)
theorem wpB_mono {Q Q' : Act -> Prop} (h : ∀ a, Q a -> Q' a) : ∀ (os : List Oper) (a : Act), wpB P ops C Q os a -> wpB P ops C Q' os a
 | [], a, hh => h a hh
 | _ :: os, a, hh => let ⟨v, h1, h2⟩ := hh; ⟨v, h1, wpB_mono h os _ h2⟩
theorem wpB_swap {Q : Act -> Prop} {x y : Oper} {os : List Oper} {a : Act} (hap : x.apart ops y = true) (hx : ∀ cs b, x.op ≠ .select cs b) (hy : ∀ cs b, y.op ≠ .select cs b)
 (h : wpB P ops C Q (x :: y :: os) a) : wpB P ops C Q (y :: x :: os) a := by
 obtain ⟨v, h1, u, h2, h3⟩ := h
 obtain ⟨a1, a2, a3⟩ := Oper.apart_spec hap
 exact ⟨u, h2.of_same (execOp_put y hy a x.dst v a1).symm (wanted_put y a x.dst v a1).symm, v, h1.of_same (execOp_put x hx a y.dst u a3) (wanted_put x a y.dst u a3), by rw [<- Act.put_comm a v u a2]; exact h3⟩
theorem wpB_front {Q : Act -> Prop} {y : Oper} {k2 : List Oper} (hy : ∀ cs b, y.op ≠ .select cs b) : ∀ (k1 : List Oper) (a : Act), (∀ x ∈ k1, x.apart ops y = true /\ ∀ cs b, x.op ≠ .select cs b) ->
 wpB P ops C Q (k1 ++ y :: k2) a -> wpB P ops C Q (y :: (k1 ++ k2)) a
 | [], _, _, h => h
 | x :: k1, a, hap, h => by
   have h1 : wpB P ops C Q (x :: y :: (k1 ++ k2)) a := by
    obtain ⟨v, h1, h2⟩ := h
    exact ⟨v, h1, wpB_front hy k1 _ (fun z hz => hap z (List.mem_cons_of_mem _ hz)) h2⟩
   exact wpB_swap (hap x List.mem_cons_self).1 (hap x List.mem_cons_self).2 hy h1
theorem wpB_put {Q : Act -> Prop} (d : Option Tmp) (p : Value) : ∀ (os : List Oper) (a : Act), (∀ o ∈ os, (∀ t, d = some t -> t ∉ o.looksAt ops) /\ (∀ t, d = some t -> o.dst ≠ some t) /\ ∀ cs b, o.op ≠ .select cs b) ->
 wpB P ops C Q os a -> wpB P ops C (fun a' => ∃ a'', a' = a''.put d p /\ Q a'') os (a.put d p)
 | [], a, _, h => ⟨a, rfl, h⟩
 | o :: os, a, hap, h => by
   obtain ⟨v, h1, h2⟩ := h
   obtain ⟨b1, b2, b3⟩ := hap o List.mem_cons_self
   refine ⟨v, h1.of_same (execOp_put o b3 a d p b1) (wanted_put o a d p b1), ?_⟩
   rw [Act.put_comm a p v b2]
   exact wpB_put d p os _ (fun x hx => hap x (List.mem_cons_of_mem _ hx)) h2
def AllocB (P : Program) (ops : Array Oper) (o : Oper) (t : TypeId) (z : Array Value) : Prop :=
 o.guard = none /\ ∀ (a : Act) (w : World), (execOp a.eval o).run P w = .ok (.value (.pointer (some ⟨w.heap.size, 0, none⟩))) (w.alloc (.cells z t))
def putAll (l : List Oper) (gs : Nat -> Nat) : List Nat -> Act -> Act
 | [], a => a
 | k :: ks, a => putAll l gs ks (a.put (opAt l k).dst (.pointer (some ⟨gs k, 0, none⟩)))
theorem putAll_mid {l : List Oper} {gs : Nat -> Nat} (k : Nat) : ∀ (k1 k2 : List Nat) (a : Act), (∀ j ∈ k1, ∀ t, (opAt l k).dst = some t -> (opAt l j).dst ≠ some t) -> putAll l gs (k1 ++ k :: k2) a = putAll l gs (k1 ++ k2) (a.put (opAt l k).dst (.pointer (some ⟨gs k, 0, none⟩)))
 | [], _, _, _ => rfl
 | j :: k1, k2, a, h => by
   show putAll l gs (k1 ++ k :: k2) (a.put _ _) = putAll l gs (k1 ++ k2) ((a.put _ _).put _ _)
   rw [putAll_mid k k1 k2 _ (fun i hi => h i (List.mem_cons_of_mem _ hi)), Act.put_comm a _ _ (h j List.mem_cons_self)]
def loose (md : Region.Mode) (l : List Oper) (i j : Nat) : Bool := (opAt l i).apart l.toArray (opAt l j) && ((opAt l j).apart l.toArray (opAt l i) && (!edgeB md l i j && !edgeB md l j i))
def pathB (md : Region.Mode) (l : List Oper) : Nat -> Nat -> Nat -> Bool
 | 0, i, j => edgeB md l i j
 | n + 1, i, j => edgeB md l i j || (List.range l.length).any fun m => edgeB md l i m && pathB md l n m j
def chainB (md : Region.Mode) (l : List Oper) : List Nat -> Bool
 | [] => true
 | z :: zs => !edgeB md l z z && (zs.all (fun x => !edgeB md l x z) && (match zs with | [] => true | y :: _ => edgeB md l z y) && chainB md l zs)
def Closed (md : Region.Mode) (l : List Oper) (listed : Array Bool) : Prop := ∀ i j, j < l.length -> edgeB md l i j = true -> listed.getD j true = true -> listed.getD i false = true
theorem Closed.step {md : Region.Mode} {l : List Oper} {listed : Array Bool} (h : Closed md l listed) {i : Nat} (hi : i ∈ Region.ready md l.toArray listed) : Closed md l (listed.setIfInBounds i true) := by
 intro j k hk he hl
 by_cases hik : i = k
 . subst hik; exact getD_set_true (edge_ready hk he hi)
 . rw [getD_set_ne true hik] at hl; exact getD_set_true (h j k hk he hl)
theorem Closed.path {md : Region.Mode} {l : List Oper} {listed : Array Bool} (h : Closed md l listed) (hsz : listed.size = l.length) {z : Nat} (hz : z < l.length) (hr : z ∈ Region.ready md l.toArray listed) : ∀ (n i : Nat), pathB md l n i z = true -> listed.getD i false = true
 | 0, i, hp => edge_ready hz hp hr
 | n + 1, i, hp => by
   simp only [pathB, Bool.or_eq_true, List.any_eq_true, List.mem_range, Bool.and_eq_true] at hp
   rcases hp with hp | ⟨m, hm, he, hp⟩
   . exact edge_ready hz hp hr
   . have := Closed.path h hsz hz hr n m hp
     refine h i m hm he ?_
     have h1 : m < listed.size := by omega
     simp [h1] at this ⊢; exact this
theorem wpOpM_of_cons {k : Nat} {o : Oper} {rest : List Oper} (h0 : ops[k]? = some o) {K : Act -> World -> Prop} {a : Act} {w : World} (h : wpList P ops (onlyNormal K) (o :: rest) a w) : wpOpM P ops k (fun a w => wpList P ops (onlyNormal K) rest a w) a w := by
 unfold wpOpM
 simp only [h0]
 unfold wpList at h
 split
 . rename_i hw
   rw [if_pos hw] at h
   rcases h with h | ⟨_, _, _, h⟩
   . exact wp_of_onlyNormal h
   . exact absurd h (by simp [onlyNormal])
 . rename_i hw
   rw [if_neg hw] at h
   exact h
theorem unl {listed : Array Bool} {k : Nat} (h : listed.getD k true = false) (h' : listed.getD k false = true) : False := by
 rw [getD_two h] at h'; cases h'
theorem ready_of {md : Region.Mode} {l : List Oper} {listed : Array Bool} (hsz : listed.size = l.length) (hin : ∀ (j : Nat) (o : Oper), l[j]? = some o -> ∀ e ∈ o.after, Region.binds md e = true -> e.on < l.length) {k : Nat} (hk : k < l.length) (hu : listed.getD k true = false)
 (h : ∀ i, i < l.length -> listed.getD i true = false -> edgeB md l i k = false) : k ∈ Region.ready md l.toArray listed := mem_ready.2 ⟨hu, opAt l k, opAt_toArray hk, fun e he hb => by
 have hko : l[k]? = some (opAt l k) := by simp [opAt, hk]
 have hlt := hin k _ hko e he hb
 cases hl : listed.getD e.on false with
 | true => rfl
 | false =>
   have hl' : listed.getD e.on true = false := by
    have h1 : e.on < listed.size := by omega
    simp [h1] at hl ⊢; exact hl
   have h1 := h e.on hlt hl'
   rw [edge_of hko he hb rfl] at h1; cases h1⟩
theorem set_unl {listed : Array Bool} {n i : Nat} (hs : listed.size = n) (hlt : i < n) (j : Nat) : (listed.setIfInBounds i true).getD j true = false ↔ (listed.getD j true = false /\ j ≠ i) := by
 by_cases hji : i = j
 . subst hji; simp [hs, hlt]
 . rw [getD_set_ne true hji]; exact ⟨fun h => ⟨h, fun e => hji e.symm⟩, fun h => h.1⟩
theorem lt_of_ready {md : Region.Mode} {l : List Oper} {listed : Array Bool} {i : Nat} (hi : i ∈ Region.ready md l.toArray listed) : i < l.length /\ listed.getD i true = false := by
 obtain ⟨hun, o, ho, _⟩ := mem_ready.1 hi
 refine ⟨?_, hun⟩
 rcases Nat.lt_or_ge i l.length with h' | h'
 . exact h'
 . rw [Array.getElem?_eq_none (by simpa using h')] at ho; cases ho
theorem wpAnyM_chain {md : Region.Mode} {l : List Oper} {Q : Act -> World -> Prop} (hin : ∀ (j : Nat) (o : Oper), l[j]? = some o -> ∀ e ∈ o.after, Region.binds md e = true -> e.on < l.length) :
 ∀ (zs : List Nat) (listed : Array Bool) (a : Act) (w : World), listed.size = l.length -> (∀ z ∈ zs, z < l.length) -> zs.Nodup -> (∀ j, listed.getD j true = false ↔ (j < l.length /\ j ∈ zs)) -> chainB md l zs = true ->
   wpList P l.toArray (onlyNormal fun a w => Q a w) (zs.map (opAt l)) a w -> wpAnyM P md l.toArray (fun _ => True) Q zs.length listed a w
 | [], listed, a, w, hs, _, _, hl, _, h => by
   refine ⟨List.eq_nil_iff_forall_not_mem.2 fun i hi => ?_, h⟩
   have := (hl i).1 (lt_of_ready hi).2
   exact absurd this.2 (by simp)
 | z :: zs, listed, a, w, hs, hlt, hnd, hl, hc, h => by
   simp only [chainB, Bool.and_eq_true, Bool.not_eq_true', List.all_eq_true] at hc
   obtain ⟨c1, ⟨c2, c3⟩, c4⟩ := hc
   have hz := hlt z List.mem_cons_self
   have hr : z ∈ Region.ready md l.toArray listed := ready_of hs hin hz ((hl z).2 ⟨hz, List.mem_cons_self⟩) (fun i hi hu => by
    rcases List.mem_cons.1 ((hl i).1 hu).2 with rfl | hm
    . exact c1
    . exact c2 i hm)
   refine ⟨fun h0 => (by rw [h0] at hr; cases hr), fun i hi => ?_⟩
   have hiz : i = z := by
    obtain ⟨hil, hiu⟩ := lt_of_ready hi
    rcases List.mem_cons.1 ((hl i).1 hiu).2 with e | hm
    . exact e
    . exfalso
      have key : ∀ (zs : List Nat) (z : Nat), (match zs with | [] => true | y :: _ => edgeB md l z y) = true -> chainB md l zs = true -> i ∈ zs -> ∃ p, p ∈ z :: zs /\ edgeB md l p i = true := by
       intro zs
       induction zs with
       | nil => intro z _ _ h; cases h
       | cons y ys ih =>
         intro z he hc hm
         rcases List.mem_cons.1 hm with rfl | hm
         . exact ⟨z, List.mem_cons_self, he⟩
         . simp only [chainB, Bool.and_eq_true] at hc
           obtain ⟨p, hp, hpe⟩ := ih y hc.2.1.2 hc.2.2 hm
           exact ⟨p, List.mem_cons_of_mem _ hp, hpe⟩
      obtain ⟨p, hp, hpe⟩ := key zs z c3 c4 hm
      exact unl ((hl p).2 ⟨hlt p hp, hp⟩) (edge_ready hil hpe hi)
   subst hiz
   refine wpOpM_mono (fun a' w' hq => ⟨trivial, ?_⟩) (wpOpM_of_cons (opAt_toArray hz) h)
   refine wpAnyM_chain hin zs (listed.setIfInBounds i true) a' w' (by simp [hs]) (fun z hz => hlt z (List.mem_cons_of_mem _ hz)) (List.nodup_cons.1 hnd).2 (fun j => ?_) c4 hq
   rw [set_unl hs hz j, hl j]
   constructor
   . rintro ⟨⟨h1, h2⟩, h3⟩; exact ⟨h1, (List.mem_cons.1 h2).resolve_left h3⟩
   . rintro ⟨h1, h2⟩; exact ⟨⟨h1, List.mem_cons_of_mem _ h2⟩, fun e => (List.nodup_cons.1 hnd).1 (e ▸ h2)⟩
def Made (tz : Nat -> TypeId × Array Value) (N : Nat) (bs : List Nat) (gs : Nat -> Nat) (w : World) : Prop :=
 (∀ k ∈ bs, N <= gs k /\ Blk w (gs k) (tz k).1 (tz k).2) /\ ∀ j ∈ bs, ∀ k ∈ bs, j ≠ k -> gs j ≠ gs k
theorem wpAnyM_of_reg {md : Region.Mode} {l : List Oper} {Q : Act -> World -> Prop} {tz : Nat -> TypeId × Array Value} {N : Nat} {all zs : List Nat} {n : Nat}
 (hCB : ∀ w w', C w -> Below w.heap.size w w' -> C w')
 (hsel : ∀ (j : Nat) (o : Oper) cs b, l.toArray[j]? = some o -> o.op ≠ .select cs b)
 (hin : ∀ (j : Nat) (o : Oper), l[j]? = some o -> ∀ e ∈ o.after, Region.binds md e = true -> e.on < l.length)
 (hzl : ∀ z ∈ zs, z < l.length) (hznd : zs.Nodup) (hzc : chainB md l zs = true) (hal : ∀ k ∈ all, AllocB P l.toArray (opAt l k) (tz k).1 (tz k).2) :
 ∀ (m : Nat) (ks bs : List Nat) (listed : Array Bool) (a : Act) (w : World) (gs0 : Nat -> Nat), ks.length + bs.length = m -> listed.size = l.length -> Closed md l listed ->
   (∀ k ∈ ks, k < l.length /\ k ∉ bs /\ k ∉ zs /\ edgeB md l k k = false) -> (∀ k ∈ bs, k < l.length /\ k ∉ zs /\ k ∈ all /\ edgeB md l k k = false) -> bs.Nodup ->
   (∀ j, listed.getD j true = false ↔ (j < l.length /\ (j ∈ ks ∨ j ∈ bs ∨ j ∈ zs))) ->
   ks.Pairwise (fun k j => pairB md l k j = true /\ j ≠ k) -> (∀ k ∈ ks, ∀ j ∈ bs, loose md l k j = true) -> (∀ k ∈ bs, ∀ j ∈ bs, k ≠ j -> loose md l k j = true) ->
   (∀ z ∈ zs, ∀ k, k ∈ ks ∨ k ∈ bs -> edgeB md l z k = false /\ pathB md l n k z = true) -> C w -> N <= w.heap.size ->
   (∀ k ∈ all, k ∉ bs -> N <= gs0 k /\ Blk w (gs0 k) (tz k).1 (tz k).2) -> (∀ j ∈ all, ∀ k ∈ all, j ∉ bs -> k ∉ bs -> j ≠ k -> gs0 j ≠ gs0 k) ->
   wpB P l.toArray C (fun a' => ∀ (gs : Nat -> Nat) (w' : World), C w' -> (∀ k ∈ all, k ∉ bs -> gs k = gs0 k) -> Made tz N all gs w' -> wpList P l.toArray (onlyNormal fun a w => Q a w) (zs.map (opAt l)) (putAll l gs bs a') w') (ks.map (opAt l)) a ->
   wpAnyM P md l.toArray (fun _ => True) Q (m + zs.length) listed a w := by
 intro m
 induction m with
 | zero =>
   intro ks bs listed a w gs0 hm hs hcl hks has hnd hl hpw hla haa hz hC hN hd hdd h
   have hk0 : ks = [] := List.length_eq_zero_iff.1 (by omega)
   have ha0 : bs = [] := List.length_eq_zero_iff.1 (by omega)
   subst hk0 ha0
   rw [Nat.zero_add]
   refine wpAnyM_chain hin zs listed a w hs hzl hznd (fun j => by simpa using hl j) hzc (h gs0 w hC (fun _ _ _ => rfl) ⟨fun k hk => hd k hk (by simp), fun j hj k hk => hdd j hj k hk (by simp) (by simp)⟩)
 | succ m ih =>
   intro ks bs listed a w gs0 hm hs hcl hks has hnd hl hpw hla haa hz hC hN hd hdd h
   rw [Nat.add_right_comm]
   have hloose : ∀ {i j : Nat}, loose md l i j = true -> (opAt l i).apart l.toArray (opAt l j) = true /\ (opAt l j).apart l.toArray (opAt l i) = true /\ edgeB md l i j = false /\ edgeB md l j i = false := fun h => by
    simpa [loose, Bool.and_eq_true] using h
   have hready : Region.ready md l.toArray listed ≠ [] := by
    cases ks with
    | cons k ks' =>
      intro h0
      have hk := hks k List.mem_cons_self
      have := ready_of hs hin hk.1 ((hl k).2 ⟨hk.1, .inl List.mem_cons_self⟩) (fun i hi hu => by
       rcases ((hl i).1 hu).2 with hm | hm | hm
       . rcases List.mem_cons.1 hm with rfl | hm
         . exact hk.2.2.2
         . have := ((List.pairwise_cons.1 hpw).1 i hm).1
           simp only [pairB, Bool.and_eq_true, Bool.not_eq_true'] at this
           exact this.2
       . exact (hloose (hla k List.mem_cons_self i hm)).2.2.2
       . exact (hz i hm k (.inl List.mem_cons_self)).1)
      rw [h0] at this; cases this
    | nil =>
      cases bs with
      | nil => simp at hm
      | cons k bs' =>
        intro h0
        have hk := has k List.mem_cons_self
        have := ready_of hs hin hk.1 ((hl k).2 ⟨hk.1, .inr (.inl List.mem_cons_self)⟩) (fun i hi hu => by
         rcases ((hl i).1 hu).2 with hm | hm | hm
         . cases hm
         . by_cases hik : i = k
           . subst hik; exact hk.2.2.2
           . exact (hloose (haa i hm k List.mem_cons_self hik)).2.2.1
         . exact (hz i hm k (.inr List.mem_cons_self)).1)
        rw [h0] at this; cases this
   refine ⟨fun h0 => absurd h0 hready, fun i hi => ?_⟩
   obtain ⟨hil, hiu⟩ := lt_of_ready hi
   have hcl' := hcl.step hi
   have hs' : (listed.setIfInBounds i true).size = l.length := by simp [hs]
   rcases ((hl i).1 hiu).2 with hik | hia | hiz
   . obtain ⟨k1, k2, rfl⟩ := List.append_of_mem hik
     have hap : ∀ x ∈ k1.map (opAt l), x.apart l.toArray (opAt l i) = true /\ ∀ cs b, x.op ≠ .select cs b := fun x hx => by
      obtain ⟨k, hk, rfl⟩ := List.mem_map.1 hx
      have hk' := hks k (by simp [hk])
      refine ⟨?_, fun cs b => hsel k _ cs b (opAt_toArray hk'.1)⟩
      have hp := ((List.pairwise_append.1 hpw).2.2 k hk i List.mem_cons_self).1
      simp only [pairB, Bool.and_eq_true, Bool.or_eq_true] at hp
      rcases hp.1 with he | he
      . exact (unl ((hl k).2 ⟨hk'.1, .inl (by simp [hk])⟩) (edge_ready hil he hi)).elim
      . exact he
     obtain ⟨v, hst, hrest⟩ := wpB_front (P := P) (C := C) (y := opAt l i) (k2 := k2.map (opAt l)) (fun cs b => hsel i _ cs b (opAt_toArray hil)) (k1.map (opAt l)) a hap (by simpa using h)
     refine hst.wpOpM (opAt_toArray hil) hC fun w' hb => ⟨trivial, ?_⟩
     have hnd' : ∀ j, j ∈ k1 ++ k2 -> j ≠ i := fun j hj e => by
      subst e
      rcases List.mem_append.1 hj with hj | hj
      . exact ((List.pairwise_append.1 hpw).2.2 j hj j List.mem_cons_self).2 rfl
      . exact ((List.pairwise_cons.1 (List.pairwise_append.1 hpw).2.1).1 j hj).2 rfl
     have hmem : ∀ j, j ∈ k1 ++ i :: k2 ↔ (j ∈ k1 ++ k2 ∨ j = i) := fun j => by
      simp only [List.mem_append, List.mem_cons]
      constructor
      . rintro (h | rfl | h)
        . exact .inl (.inl h)
        . exact .inr rfl
        . exact .inl (.inr h)
      . rintro ((h | h) | rfl)
        . exact .inl h
        . exact .inr (.inr h)
        . exact .inr (.inl rfl)
     have hii := hks i hik
     refine ih (k1 ++ k2) bs (listed.setIfInBounds i true) _ w' gs0 (by simp at hm ⊢; omega) hs' hcl' (fun k hk => hks k ((hmem k).2 (.inl hk))) has hnd (fun j => ?_) (hpw.sublist ((List.sublist_cons_self i k2).append_left k1)) (fun k hk => hla k ((hmem k).2 (.inl hk))) haa
      (fun z hz' k hk => hz z hz' k (hk.imp (fun h => (hmem k).2 (.inl h)) id)) (hCB _ _ hC hb) (Nat.le_trans hN hb.size) (fun k hk hn => ⟨(hd k hk hn).1, (hd k hk hn).2.step hb⟩) hdd (by rw [List.map_append]; exact hrest)
     rw [set_unl hs hil j, hl j, hmem j]
     constructor
     . rintro ⟨⟨h1, (h2 | h2) | h2⟩, h3⟩
       . exact ⟨h1, .inl h2⟩
       . exact absurd h2 h3
       . exact ⟨h1, .inr h2⟩
     . rintro ⟨h1, h2 | h2 | h2⟩
       . exact ⟨⟨h1, .inl (.inl h2)⟩, hnd' j h2⟩
       . exact ⟨⟨h1, .inr (.inl h2)⟩, fun e => hii.2.1 (e ▸ h2)⟩
       . exact ⟨⟨h1, .inr (.inr h2)⟩, fun e => hii.2.2.1 (e ▸ h2)⟩
   . obtain ⟨a1, a2, rfl⟩ := List.append_of_mem hia
     have hai := has i hia
     obtain ⟨hg, hrun⟩ := hal i hai.2.2.1
     have hmem : ∀ j, j ∈ a1 ++ i :: a2 ↔ (j ∈ a1 ++ a2 ∨ j = i) := fun j => by
      simp only [List.mem_append, List.mem_cons]
      constructor
      . rintro (h | rfl | h)
        . exact .inl (.inl h)
        . exact .inr rfl
        . exact .inl (.inr h)
      . rintro ((h | h) | rfl)
        . exact .inl h
        . exact .inr (.inr h)
        . exact .inr (.inl rfl)
     have hni : i ∉ a1 ++ a2 := fun h => by
      have := List.nodup_append.1 hnd
      rcases List.mem_append.1 h with h | h
      . exact (this.2.2 i h i List.mem_cons_self) rfl
      . exact (List.nodup_cons.1 this.2.1).1 h
     have hnd2 : (a1 ++ a2).Nodup := hnd.sublist ((List.sublist_cons_self i a2).append_left a1)
     unfold wpOpM
     rw [opAt_toArray hil]
     have hw : Region.wanted (opAt l i) (yielded l.toArray a.tmps) = true := by simp [Region.wanted, hg]
     simp only [hw, if_true]
     unfold Oper.wp
     rw [hrun a w]
     show True /\ _
     refine ⟨trivial, ?_⟩
     have hb : Below w.heap.size w (w.alloc (.cells (tz i).2 (tz i).1)) := (Below.refl _ _).alloc (Nat.le_refl _) _
     have hput := wpB_put (P := P) (C := C) (opAt l i).dst (.pointer (some ⟨w.heap.size, 0, none⟩)) (ks.map (opAt l)) a (fun o ho => by
      obtain ⟨k, hk, rfl⟩ := List.mem_map.1 ho
      have hlo := hloose (hla k hk i hia)
      obtain ⟨b1, b2, b3⟩ := Oper.apart_spec hlo.2.1
      exact ⟨b1, b2, fun cs b => hsel k _ cs b (opAt_toArray (hks k hk).1)⟩) h
     refine ih ks (a1 ++ a2) (listed.setIfInBounds i true) _ _ (fun j => if j = i then w.heap.size else gs0 j) (by simp at hm ⊢; omega) hs' hcl' (fun k hk => ?_) (fun k hk => has k ((hmem k).2 (.inl hk))) hnd2 (fun j => ?_) hpw (fun k hk j hj => hla k hk j ((hmem j).2 (.inl hj)))
      (fun k hk j hj => haa k ((hmem k).2 (.inl hk)) j ((hmem j).2 (.inl hj))) (fun z hz' k hk => hz z hz' k (hk.imp id (fun h => (hmem k).2 (.inl h)))) (hCB _ _ hC hb) (Nat.le_trans hN hb.size) (fun k hk hn => ?_) (fun j hj k hk hjn hkn hjk => ?_) (wpB_mono ?_ _ _ hput)
     . have := hks k hk
       exact ⟨this.1, fun hk' => this.2.1 ((hmem k).2 (.inl hk')), this.2.2⟩
     . rw [set_unl hs hil j, hl j, hmem j]
       constructor
       . rintro ⟨⟨h1, h2 | (h2 | h2) | h2⟩, h3⟩
         . exact ⟨h1, .inl h2⟩
         . exact ⟨h1, .inr (.inl h2)⟩
         . exact absurd h2 h3
         . exact ⟨h1, .inr (.inr h2)⟩
       . rintro ⟨h1, h2 | h2 | h2⟩
         . exact ⟨⟨h1, .inl h2⟩, fun e => (hks j h2).2.1 (e ▸ hia)⟩
         . exact ⟨⟨h1, .inr (.inl (.inl h2))⟩, fun e => hni (e ▸ h2)⟩
         . exact ⟨⟨h1, .inr (.inr h2)⟩, fun e => hai.2.1 (e ▸ h2)⟩
     . by_cases hki : k = i
       . subst hki; rw [if_pos rfl]; exact ⟨hN, Blk.new w _ _⟩
       . rw [if_neg hki]
         have := hd k hk (fun hm => by rcases (hmem k).1 hm with h | h; exact hn h; exact hki h)
         exact ⟨this.1, this.2.step hb⟩
     . have hlt : ∀ k, k ∈ all -> k ∉ a1 ++ a2 -> k ≠ i -> gs0 k ≠ w.heap.size := fun k hk hn hki => by
        have := hd k hk (fun hm => by rcases (hmem k).1 hm with h | h; exact hn h; exact hki h)
        exact Nat.ne_of_lt this.2.lt
       by_cases hji : j = i
       . subst hji
         rw [if_pos rfl, if_neg (fun e => hjk e.symm)]
         exact fun e => hlt k hk hkn (fun e => hjk e.symm) e.symm
       . rw [if_neg hji]
         by_cases hki : k = i
         . subst hki; rw [if_pos rfl]; exact hlt j hj hjn hji
         . rw [if_neg hki]
           exact hdd j hj k hk (fun hm => by rcases (hmem j).1 hm with h | h; exact hjn h; exact hji h) (fun hm => by rcases (hmem k).1 hm with h | h; exact hkn h; exact hki h) hjk
     . rintro a' ⟨a'', rfl, hq⟩ gs w' hC' hgs hmade
       have hgi : gs i = w.heap.size := by rw [hgs i hai.2.2.1 hni, if_pos rfl]
       have := hq gs w' hC' (fun k hk hn => by
        rw [hgs k hk (fun hm => hn ((hmem k).2 (.inl hm))), if_neg (fun e : k = i => hn (by rw [e]; exact hia))]) hmade
       rw [putAll_mid i a1 a2 a'' (fun j hj t ht => by
        have hji : j ≠ i := fun e => hni (List.mem_append_left _ (e ▸ hj))
        exact (Oper.apart_spec (hloose (haa i hia j ((hmem j).2 (.inl (List.mem_append_left _ hj))) (Ne.symm hji))).1).2.1 t ht), hgi] at this
       exact this
   . exfalso
     have hex : ∃ k, k ∈ ks ∨ k ∈ bs := by
      cases ks with
      | cons k ks' => exact ⟨k, .inl List.mem_cons_self⟩
      | nil =>
        cases bs with
        | cons k bs' => exact ⟨k, .inr List.mem_cons_self⟩
        | nil => simp at hm
     obtain ⟨k, hk⟩ := hex
     have hkl : k < l.length := by rcases hk with h | h; exact (hks k h).1; exact (has k h).1
     exact unl ((hl k).2 ⟨hkl, by rcases hk with h | h; exact .inl h; exact .inr (.inl h)⟩) (hcl.path hs hil hi n k (hz i hiz k hk).2)
def regB (l : List Oper) (ks bs zs : List Nat) : Bool :=
 Region.noSelect l.toArray && (l.all (fun o => o.after.all fun e => !Region.binds .any e || decide (e.on < l.length)) && (
  (ks ++ (bs ++ zs)).all (fun k => decide (k < l.length)) && ((ks ++ (bs ++ zs)).length == l.length && ((List.range l.length).all (fun j => (ks ++ (bs ++ zs)).contains j) && (
  ks.all (fun k => !bs.contains k && (!zs.contains k && !edgeB .any l k k)) && (bs.all (fun k => !zs.contains k && !edgeB .any l k k) && (
  pairsB .any l ks && (ks.all (fun k => bs.all fun j => loose .any l k j) && (bs.all (fun k => bs.all fun j => k == j || loose .any l k j) && (
  zs.all (fun z => (ks ++ bs).all fun k => !edgeB .any l z k && pathB .any l 3 k z) && chainB .any l zs))))))))))
def nodupB : List Nat -> Bool
 | [] => true
 | k :: ks => !ks.contains k && nodupB ks
theorem nodupB_spec : ∀ {ks : List Nat}, nodupB ks = true -> ks.Nodup
 | [], _ => .nil
 | k :: ks, h => by
   simp only [nodupB, Bool.and_eq_true, Bool.not_eq_true'] at h
   refine List.nodup_cons.2 ⟨fun hm => ?_, nodupB_spec h.2⟩
   have := List.elem_eq_true_of_mem hm
   rw [List.elem_eq_contains] at this
   rw [this] at h; cases h.1
theorem not_contains {l : List Nat} {k : Nat} (h : l.contains k = false) : k ∉ l := fun hm => by
 have := List.elem_eq_true_of_mem hm
 rw [List.elem_eq_contains] at this
 rw [this] at h; cases h
theorem wp_region_reg {id : Nat} {Q : Exit -> Act -> World -> Prop} {a : Act} {w : World} {l : List Oper} (C : World -> Prop) (tz : Nat -> TypeId × Array Value) (ks bs zs : List Nat) (hm : P.follows .mixedOrders = true)
 (hB : (regB l ks bs zs && (nodupB bs && nodupB zs)) = true) (hCB : ∀ w w', C w -> Below w.heap.size w w' -> C w') (hC : C w.drew) (hal : ∀ k ∈ bs, AllocB P l.toArray (opAt l k) (tz k).1 (tz k).2)
 (h : wpB P l.toArray C (fun a' => ∀ (gs : Nat -> Nat) (w' : World), C w' -> Made tz w.heap.size bs gs w' -> wpList P l.toArray (onlyNormal fun a w => Q .normal a w) (zs.map (opAt l)) (putAll l gs bs a') w') (ks.map (opAt l)) a) :
 (Code.region id l.toArray true).wp P Q a w := by
 rw [Bool.and_eq_true, Bool.and_eq_true] at hB
 obtain ⟨hB, n1, n2⟩ := hB
 simp only [regB, Bool.and_eq_true, List.all_eq_true, Array.all_eq_true_iff_forall_mem, decide_eq_true_eq, beq_iff_eq, List.contains_iff_mem, List.mem_range, Bool.or_eq_true, Bool.not_eq_true', List.mem_append] at hB
 obtain ⟨h1, h2, h3, h4, h5, h6, h7, h8, h9, h10, h11, h12⟩ := hB
 obtain ⟨p1, p2⟩ := pairsB_spec h8
 refine wp_region_any hm (wpAny_of_M (Q := fun a' w' => Q .normal a' w') (C := fun _ => True) (fun _ _ h => h) _ _ _ _ ?_)
 have hrep : ∀ k : Nat, (Array.replicate l.length false).getD k true = false ↔ k < l.length := fun k => by
  by_cases hk : k < l.length
  . simp [hk]
  . simp [hk]
 have := wpAnyM_of_reg (P := P) (C := C) (md := .any) (l := l) (Q := fun a' w' => Q .normal a' w') (tz := tz) (N := w.heap.size) (all := bs) (zs := zs) (n := 3) hCB (fun j o cs b ho => Region.noSelect_spec h1 j o cs b ho)
  (fun j o ho e he hb => by rcases h2 o (List.mem_of_getElem? ho) e he with h | h; rw [hb] at h; cases h; exact h)
  (fun z hz => h3 z (.inr (.inr hz))) (nodupB_spec n2) h12 hal (ks.length + bs.length) ks bs (Array.replicate l.length false) a w.drew (fun _ => 0) rfl (by simp)
  (fun i j hj he hl => by rw [(hrep j).2 hj] at hl; cases hl)
  (fun k hk => ⟨h3 k (.inl hk), not_contains (h6 k hk).1, not_contains (h6 k hk).2.1, (h6 k hk).2.2⟩) (fun k hk => ⟨h3 k (.inr (.inl hk)), not_contains (h7 k hk).1, hk, (h7 k hk).2⟩) (nodupB_spec n1)
  (fun j => by rw [hrep j]; exact ⟨fun hj => ⟨hj, h5 j hj⟩, fun h => h.1⟩) p1 h9 (fun k hk j hj hkj => (h10 k hk j hj).resolve_left hkj) (fun z hz k hk => h11 z hz k hk) hC (Nat.le_refl _)
  (fun k hk hn => absurd hk hn) (fun j hj k hk hjn => absurd hj hjn) (wpB_mono (fun a' hq gs w' hC' _ hmade => hq gs w' hC' hmade) _ _ h)
 have hlen : ks.length + bs.length + zs.length = l.length := by rw [<- h4]; simp; omega
 rw [hlen] at this
 simpa using this
theorem wpB_nil {Q : Act -> Prop} {a : Act} (h : Q a) : wpB P ops C Q [] a := h
theorem wpB_pure {Q : Act -> Prop} {rest : List Oper} {o : Oper} {a : Act} (h0 : plainOp o.op = true) (h : wpQuiet P ops C (fun a' => wpB P ops C Q rest a') [o] a) : wpB P ops C Q (o :: rest) a := by
 simp only [wpQuiet] at h
 split at h
 . rename_i hw
   obtain ⟨v, h1, h2⟩ := h
   refine ⟨v, .inl ⟨hw, fun w hC => ?_⟩, h2⟩
   have h3 := h1 w hC
   have hne := noEnter (P := P) h0 a.eval w
   unfold Oper.quietAt at h3
   generalize hr : (execOp a.eval o).run P w = r at *
   cases r with
   | halt x w' => exact h3.elim
   | ok n w' =>
     cases n with
     | value u => exact ⟨h3.2, h3.1⟩
     | skip => exact ⟨h3.2, h3.1⟩
     | enter f args => exact (hne f args w' rfl).elim
     | _ => exact h3.elim
 . rename_i hw
   exact ⟨undef, .inr ⟨by simpa using hw, rfl⟩, h⟩
theorem wpB_call {Q : Act -> Prop} {rest : List Oper} {o : Oper} {a : Act} (v : Value) (f : FuncId) (args : Array Value) (hw : Region.wanted o (yielded ops a.tmps) = true)
 (hr : ∀ w, (execOp a.eval o).run P w = .ok (.enter f args) w) (h : ∀ w, C w -> Calls P f args w fun e w' => e = .returned v /\ Below w.heap.size w w')
 (h2 : ∀ K : Act -> Prop, (∀ a, wpB P ops C Q rest a -> K a) -> K (a.put o.dst v)) : wpB P ops C Q (o :: rest) a :=
 ⟨v, .inl ⟨hw, fun w hC => by rw [hr w]; exact ⟨rfl, h w hC⟩⟩, h2 _ (fun _ q => q)⟩
end
end
namespace Dec
open Go.RowKit Go.Deep Wide
theorem tog_no (m : Bool) (n : Nat) (s : Int) (hn : ¬ n < T) (hP6 : n < P 6) (W : World) :
 Calls Tryz.prog 47 #[.agg (numE m n s)] W fun e w' => e = .returned (.tuple #[.agg (decE 0 0), .int .i64 4]) /\ Below W.heap.size W w' := by
 have CL := Hd (fun W' => lenL_ok n hP6 W')
 have hL : decide ((127 : Int) < (Go.bitLen n : Nat)) = true := by simpa using len_lt.2 hn
 obtain ⟨L, hLe⟩ : ∃ L, L = Go.bitLen n := ⟨_, rfl⟩
 rw [<- hLe] at CL hL
 rw [numE]
 clear hLe hn hP6
 go_enter Tryz.func47, Tryz.ntmps47
 go_wp2_with fail
 refine (CL.o _).mono ?_
 rintro e w1 ⟨rfl, hb1⟩
 have H0 : Has W [(W.heap.size + 1, 56, #[.int .i64 0, .int .u64 0, .int .i64 0])] w1 := by
  refine Has.step (Has.cons ?_ (Has.nil ?_)) hb1
  . exact Blk.new' (by simp)
  . exact Below.al (Below.al (Below.refl _ _) _) _
 have H1 := Hd H0
 clear hb1 H0
 go_wp2_with (refine wpList_put rfl 56 (.tmp 2) (.tmp 10) rfl (W.heap.size + 1) #[.int .i64 0, .int .u64 0, .int .i64 0] rfl rfl 56 _ (H1.o.get 0 rfl) (by kernel_rfl) rfl (by rw [Array.all_eq_true']; simp [Value.oneCell']) ?_
              intro W6 HB6 hfar6 hbel6 hsz6 hcell6)
 have H6 := hbel6 W.heap.size W (by omega) H1.o.below
 exact bodyPost_ret (results_row_tmp rfl _ W6 (W.heap.size + 1) 56 _ _ _ rfl HB6 Tryz.underlying56 rfl (by kernel_rfl) rfl) rfl ⟨rfl, H6⟩
def togC (m : Bool) (n : Nat) : Int := if n < T then coef m n else 0
def togS (n : Nat) (s : Int) : Int := if n < T then s else 0
def togE (n : Nat) : Int := if n < T then 0 else 4
theorem tog_all (m : Bool) (n : Nat) (s : Int) (hP6 : n < P 6) (W : World) :
 Calls Tryz.prog 47 #[.agg (numE m n s)] W fun e w' => e = .returned (.tuple #[.agg (decE (togC m n) (togS n s)), .int .i64 (togE n)]) /\ Below W.heap.size W w' := by
 unfold togC togS togE
 by_cases h : n < T
 . rw [if_pos h, if_pos h, if_pos h]; exact tog_ok m n s h W
 . rw [if_neg h, if_neg h, if_neg h]; exact tog_no m n s h hP6 W
theorem num_part (m : Bool) (n : Nat) (s : Int) : ∀ (j : Nat) (v : Value), (enc n).toList[j]? = some v -> (numE m n s)[1 + j]? = some v := by
 intro j v h
 have hj : j < 6 := by
  have := (List.getElem?_eq_some_iff.1 h).1
  simpa [enc_size] using this
 have : j = 0 ∨ j = 1 ∨ j = 2 ∨ j = 3 ∨ j = 4 ∨ j = 5 := by omega
 rcases this with rfl | rfl | rfl | rfl | rfl | rfl <;> exact h
theorem num_splice (m : Bool) (n k : Nat) (s : Int) : splice (numE m n s) 1 (enc k) = numE m k s := rfl
theorem to_ok (m : Bool) (n : Nat) (s u : Int) (hn : n < P 6) (h0 : 0 <= s) (h1 : s <= u) (h2 : u <= 36) (W : World) :
 Calls Tryz.prog 185 #[.agg (numE m n s), .int .i64 u] W fun e w' => e = .returned (.agg (numE m (n * 10 ^ (u - s).toNat) u)) /\ Below W.heap.size W w' := by
 obtain ⟨k, hk⟩ : ∃ k : Nat, k = (u - s).toNat := ⟨_, rfl⟩
 have hks : u - s = (k : Int) := by omega
 rw [<- hk]
 have hk36 : k <= 100 := by omega
 have es : IntKind.i64.wrap (u - s) = (k : Int) := by rw [hks]; exact IntWalk.i64_in _ (by omega)
 have CT := Hd (fun W' => ten_ok k hk36 W')
 have CM := Hd (fun W' => mul_ok n (10 ^ k) hn W')
 have HS := Hd hks
 clear hk hks
 go_enter Tryz.func185, Tryz.ntmps185
 go_wp2_with fail
 refine wp_region_classZ (fun w' => Has W [(W.heap.size, 118, numE m n s), (W.heap.size + 1, 118, numE false 0 0)] w') [0, 1, 2, 3, 4, 5, 6, 7, 8] 9 (by kernel_rfl) (by kernel_rfl) ?_ ?_
 . refine Has.drew (Has.cons ?_ (Has.cons ?_ (Has.nil ?_)))
   . exact (Blk.new _ _ _).alloc _
   . exact Blk.new' (by simp)
   . exact Below.al (Below.al (Below.refl _ _) _) _
 simp only [List.map_cons, List.map_nil, opAt, List.getElem?_cons_succ, List.getElem?_cons_zero, Option.getD_some]
 repeat (go_big_quiet_step ((intro _; rfl)))
 refine wpQuiet_part 115 (.tmp 5) rfl rfl W.heap.size 1 rfl 118 (numE m n s) (enc n) _ (fun w hw => hw.get 0 rfl) (num_part m n s) Tryz.underlying115 rfl (by first | kernel_rfl | (rw [enc_size]; kernel_rfl)) (fun K1 k1 => ?_)
 go_simp
 refine k1 _ ?_
 clear k1 K1
 repeat (go_big_quiet_step ((intro _; rfl)))
 refine wpQuiet_cell 3 (.tmp 8) rfl rfl ⟨W.heap.size, 7, none⟩ rfl (.int .i64 s) _ (fun w hw => (hw.get 0 rfl).cell 7) Tryz.underlying3 rfl (fun K1 k1 => ?_)
 go_simp
 refine k1 _ ?_
 clear k1 K1
 repeat (go_big_quiet_step ((intro _; rfl)))
 go_big_quiet_step ((intro hw; exact (CT.o _).mono fun e w' h => ⟨h.1, hw.step h.2⟩))
 go_big_quiet_step ((intro hw; exact (CM.o _).mono fun e w' h => ⟨h.1, hw.step h.2⟩))
 repeat (go_big_quiet_step ((intro _; rfl)))
 refine wpQuiet_nil ?_
 intro w1 H1
 refine wpList_putP rfl 115 (.tmp 13) (.tmp 12) rfl W.heap.size 1 (enc (n * 10 ^ k)) rfl rfl 118 _ (numE m (n * 10 ^ k) s) (H1.get 0 rfl) (by first | kernel_rfl | (rw [enc_size]; kernel_rfl)) (by first | decide | (simp [enc_size, numE_size]; done) | (simp [enc_size]; done)) (enc_all _) (num_splice m n _ s) ?_
 intro W2 HB2 hfar2 hbel2 hsz2 hcell2
 have H2 := H1.upd 0 rfl (Nat.le_refl _) (by simp) HB2 hfar2 hbel2
 have c7 := (H2.get 0 rfl).cell 7
 have f7 := (H2.get 0 rfl).frozen 7
 have H3 := Hd (H2.setAt 0 rfl (Nat.le_refl _) (by simp) 7 (.int .i64 u))
 clear H1 H2 HB2 hfar2 hbel2 hsz2 hcell2
 go_wp2_with fail
 rw [onlyNormal_normal]
 go_wp2_with (first
  | (refine wpList_load_row rfl 118 (.tmp 2) rfl W.heap.size rfl 118 (numE m (n * 10 ^ k) u) (0, 0) _ (H3.o.get 0 rfl) Tryz.underlying118 rfl (by first | kernel_rfl | (rw [enc_size]; kernel_rfl)) ?_)
  | (refine wpList_put rfl 118 (.tmp 4) (.tmp 16) rfl (W.heap.size + 1) (numE m (n * 10 ^ k) u) rfl rfl 118 _ (H3.o.get 1 rfl) (by first | kernel_rfl | (rw [enc_size]; kernel_rfl)) (by first | rfl | (rw [enc_size]; rfl)) (numE_all _ _ _) ?_
     intro W4 HB4 hfar4 hbel4 hsz4 hcell4))
 exact bodyPost_ret (results_cell_row rfl _ W4 (W.heap.size + 1) 118 (numE m (n * 10 ^ k) u) (0, 0) _ rfl HB4 Tryz.underlying118 rfl (by kernel_rfl)) rfl ⟨rfl, hbel4 _ _ (by omega) H3.o.below⟩
def plusM (m : Bool) (a : Nat) (k : Bool) (b : Nat) : Bool := if m = k then m else if b <= a then m else k
def plusN (m : Bool) (a : Nat) (k : Bool) (b : Nat) : Nat := if m = k then a + b else if b <= a then a - b else b - a
theorem plus_val (m : Bool) (a : Nat) (k : Bool) (b : Nat) : coef (plusM m a k b) (plusN m a k b) = coef m a + coef k b := by
 unfold coef plusM plusN
 by_cases h : m = k
 . subst h; simp only [if_true]; cases m <;> simp <;> omega
 . simp only [if_neg h]
   by_cases h2 : b <= a
   . simp only [if_pos h2]; cases m <;> cases k <;> simp at h ⊢ <;> omega
   . simp only [if_neg h2]; cases m <;> cases k <;> simp at h ⊢ <;> omega
theorem plus_ok (m : Bool) (a : Nat) (k : Bool) (b : Nat) (s u : Int) (ha : a < P 6) (hb : b < P 6) (W : World) :
 Calls Tryz.prog 186 #[.agg (numE m a s), .agg (numE k b u)] W fun e w' => e = .returned (.agg (numE (plusM m a k b) (plusN m a k b) s)) /\ Below W.heap.size W w' := by
 have hinit : ∀ w1, w1 = ((W.alloc (.cells (numE m a s) 118)).alloc (.cells (numE k b u) 118)).alloc (.cells #[.bool false, .int .u64 0, .int .u64 0, .int .u64 0, .int .u64 0, .int .u64 0, .int .u64 0, .int .i64 0] 118) ->
  Has W [(W.heap.size, 118, numE m a s), (W.heap.size + 1, 118, numE k b u), (W.heap.size + 2, 118, numE false 0 0)] w1 := fun w1 e => by
  subst e
  refine Has.cons ?_ (Has.cons ?_ (Has.cons ?_ (Has.nil ?_)))
  . exact ((Blk.new _ _ _).alloc _).alloc _
  . exact (Blk.new' (by simp)).alloc _
  . exact Blk.new' (by simp)
  . exact Below.al (Below.al (Below.al (Below.refl _ _) _) _) _
 by_cases hmk : m = k
 . subst hmk
   have e1 : plusM m a m b = m := by simp [plusM]
   have e2 : plusN m a m b = a + b := by simp [plusN]
   rw [e1, e2]
   clear e1 e2
   rw [numE, numE]
   go_enter Tryz.func186, Tryz.ntmps186
   go_wp2_with fail
   refine (add_ok a b _).mono ?_
   rintro e w1 ⟨rfl, hb1⟩
   have H1 := Hd ((hinit _ rfl).step hb1)
   clear hb1 hinit
   go_wp2_with (first
    | (refine wpList_putP rfl 115 (.tmp 25) (.tmp 24) rfl W.heap.size 1 (enc (a + b)) rfl rfl 118 _ (numE m (a + b) s) (H1.o.get 0 rfl) (by first | kernel_rfl | (rw [enc_size]; kernel_rfl)) (by first | decide | (simp [enc_size, numE_size]; done) | (simp [enc_size]; done)) (enc_all _) (num_splice m a _ s) ?_
       intro W2 HB2 hfar2 hbel2 hsz2 hcell2
       have H2 := Hd (H1.o.upd 0 rfl (Nat.le_refl _) (by simp) HB2 hfar2 hbel2)
       clear H1 HB2 hfar2 hbel2 hsz2 hcell2)
    | (refine wpList_load_row rfl 118 (.tmp 2) rfl W.heap.size rfl 118 (numE m (a + b) s) (0, 0) _ (H2.o.get 0 rfl) Tryz.underlying118 rfl (by first | kernel_rfl | (rw [enc_size]; kernel_rfl)) ?_)
    | (refine wpList_put rfl 118 (.tmp 4) (.tmp 39) rfl (W.heap.size + 2) (numE m (a + b) s) rfl rfl 118 _ (H2.o.get 2 rfl) (by first | kernel_rfl | (rw [enc_size]; kernel_rfl)) (by first | rfl | (rw [enc_size]; rfl)) (numE_all _ _ _) ?_
       intro W4 HB4 hfar4 hbel4 hsz4 hcell4))
   exact bodyPost_ret (results_cell_row rfl _ W4 (W.heap.size + 2) 118 (numE m (a + b) s) (0, 0) _ rfl HB4 Tryz.underlying118 rfl (by kernel_rfl)) rfl ⟨rfl, hbel4 _ _ (by omega) H2.o.below⟩
 . have e0 : (m == k) = false := beq_eq_false_iff_ne.2 hmk
   by_cases hab : b <= a
   . have e1 : plusM m a k b = m := by simp [plusM, hmk, hab]
     have e2 : plusN m a k b = a - b := by simp [plusN, hmk, hab]
     rw [e1, e2]
     have hcv : (0 : Int) <= cmpv a b := cmpv_ge.2 hab
     clear e1 e2 hmk
     rw [numE, numE]
     go_enter Tryz.func186, Tryz.ntmps186
     go_wp2_with fail
     refine (cmp_ok a b ha hb _).mono ?_
     rintro e w0 ⟨rfl, hb0⟩
     have H0 := Hd ((hinit _ rfl).step hb0)
     clear hb0 hinit
     go_wp2_with (first
      | (refine wpList_load_part rfl 115 (.tmp 33) rfl W.heap.size 1 rfl 118 (numE m a s) (enc a) _ (H0.o.get 0 rfl) (num_part m a s) Tryz.underlying115 rfl (by first | kernel_rfl | (rw [enc_size]; kernel_rfl)) ?_)
      | (refine wpList_load_part rfl 115 (.tmp 35) rfl (W.heap.size + 1) 1 rfl 118 (numE k b u) (enc b) _ (H0.o.get 1 rfl) (num_part k b u) Tryz.underlying115 rfl (by first | kernel_rfl | (rw [enc_size]; kernel_rfl)) ?_))
     refine (sub_ok a b hab _).mono ?_
     rintro e w1 ⟨rfl, hb1⟩
     have H1 := Hd (H0.o.step hb1)
     clear hb1 H0
     go_wp2_with (first
      | (refine wpList_putP rfl 115 (.tmp 38) (.tmp 37) rfl W.heap.size 1 (enc (a - b)) rfl rfl 118 _ (numE m (a - b) s) (H1.o.get 0 rfl) (by first | kernel_rfl | (rw [enc_size]; kernel_rfl)) (by first | decide | (simp [enc_size, numE_size]; done) | (simp [enc_size]; done)) (enc_all _) (num_splice m a _ s) ?_
         intro W2 HB2 hfar2 hbel2 hsz2 hcell2
         have H2 := Hd (H1.o.upd 0 rfl (Nat.le_refl _) (by simp) HB2 hfar2 hbel2)
         clear H1 HB2 hfar2 hbel2 hsz2 hcell2)
      | (refine wpList_load_row rfl 118 (.tmp 2) rfl W.heap.size rfl 118 (numE m (a - b) s) (0, 0) _ (H2.o.get 0 rfl) Tryz.underlying118 rfl (by first | kernel_rfl | (rw [enc_size]; kernel_rfl)) ?_)
      | (refine wpList_put rfl 118 (.tmp 4) (.tmp 39) rfl (W.heap.size + 2) (numE m (a - b) s) rfl rfl 118 _ (H2.o.get 2 rfl) (by first | kernel_rfl | (rw [enc_size]; kernel_rfl)) (by first | rfl | (rw [enc_size]; rfl)) (numE_all _ _ _) ?_
         intro W4 HB4 hfar4 hbel4 hsz4 hcell4))
     exact bodyPost_ret (results_cell_row rfl _ W4 (W.heap.size + 2) 118 (numE m (a - b) s) (0, 0) _ rfl HB4 Tryz.underlying118 rfl (by kernel_rfl)) rfl ⟨rfl, hbel4 _ _ (by omega) H2.o.below⟩
   . have e1 : plusM m a k b = k := by simp [plusM, hmk, hab]
     have e2 : plusN m a k b = b - a := by simp [plusN, hmk, hab]
     rw [e1, e2]
     have hcv : cmpv a b < 0 := by have := mt cmpv_ge.1 hab; omega
     have hba : a <= b := by omega
     clear e1 e2 hmk hab
     rw [numE, numE]
     go_enter Tryz.func186, Tryz.ntmps186
     go_wp2_with fail
     refine (cmp_ok a b ha hb _).mono ?_
     rintro e w0 ⟨rfl, hb0⟩
     have H0 := Hd ((hinit _ rfl).step hb0)
     clear hb0 hinit
     go_wp2_with fail
     refine wp_region_tree (C := fun w' => Has W [(W.heap.size + 1, 118, numE k b u)] w') (.seg [0, 1, 2, 5, 6] (.turn 3 (.turn 4 (.turn 7 (.turn 8 (.turn 9 (.turn 10 .nil))))))) (by kernel_rfl) (by kernel_rfl) (H0.o.drew.of_mem (by simp)) ?_
     simp only [wpPlan, List.map_cons, List.map_nil, opAt, List.getElem?_cons_succ, List.getElem?_cons_zero, Option.getD_some]
     repeat (go_big_quiet_step ((intro _; rfl)))
     refine wpQuiet_part 115 (.tmp 5) rfl rfl (W.heap.size + 1) 1 rfl 118 (numE k b u) (enc b) _ (fun w hw => hw.get 0 rfl) (num_part k b u) Tryz.underlying115 rfl (by first | kernel_rfl | (rw [enc_size]; kernel_rfl)) (fun K1 k1 => ?_)
     go_simp
     refine k1 _ ?_
     clear k1 K1
     repeat (go_big_quiet_step ((intro _; rfl)))
     refine wpQuiet_cell 4 (.tmp 10) rfl rfl ⟨(W.heap.size + 1), 0, none⟩ rfl (.bool k) _ (fun w hw => (hw.get 0 rfl).cell 0) Tryz.underlying4 rfl (fun K1 k1 => ?_)
     go_simp
     refine k1 _ ?_
     clear k1 K1
     repeat (go_big_quiet_step ((intro _; rfl)))
     refine wpQuiet_nil ?_
     have HD := Hd H0.o.drew
     (refine wpList_load_part rfl 115 (.tmp 7) rfl W.heap.size 1 rfl 118 (numE m a s) (enc a) _ (HD.o.get 0 rfl) (num_part m a s) Tryz.underlying115 rfl (by first | kernel_rfl | (rw [enc_size]; kernel_rfl)) ?_)
     go_wp2_with fail
     refine ⟨HD.o.of_mem (by simp), ?_⟩
     go_wp2_with fail
     refine (sub_ok b a hba _).mono ?_
     rintro e w1 ⟨rfl, hb1⟩
     have H1 := HD.o.step hb1
     clear hb1 HD H0
     go_wp2_with fail
     refine ⟨H1.of_mem (by simp), ?_⟩
     go_wp2_with fail
     refine ⟨H1.of_mem (by simp), ?_⟩
     refine wpList_putP rfl 115 (.tmp 12) (.tmp 9) rfl W.heap.size 1 (enc (b - a)) rfl rfl 118 _ (numE m (b - a) s) (H1.get 0 rfl) (by first | kernel_rfl | (rw [enc_size]; kernel_rfl)) (by first | decide | (simp [enc_size, numE_size]; done) | (simp [enc_size]; done)) (enc_all _) (num_splice m a _ s) ?_
     intro W2 HB2 hfar2 hbel2 hsz2 hcell2
     have H2 := H1.upd 0 rfl (Nat.le_refl _) (by simp) HB2 hfar2 hbel2
     have c0 := (H2.get 0 rfl).cell 0
     have f0 := (H2.get 0 rfl).frozen 0
     have H3 := Hd (H2.setAt 0 rfl (Nat.le_refl _) (by simp) 0 (.bool k))
     have H2' := Hd H2
     clear H1 H2 HB2 hfar2 hbel2 hsz2 hcell2
     go_wp2_with fail
     refine ⟨H2'.o.of_mem (by simp), ?_⟩
     go_wp2_with fail
     refine ⟨H2'.o.of_mem (by simp), ?_⟩
     go_wp2_with fail
     refine ⟨H3.o.of_mem (by simp), ?_⟩
     go_wp2_with (first
      | (refine wpList_load_row rfl 118 (.tmp 2) rfl W.heap.size rfl 118 (numE k (b - a) s) (0, 0) _ (H3.o.get 0 rfl) Tryz.underlying118 rfl (by first | kernel_rfl | (rw [enc_size]; kernel_rfl)) ?_)
      | (refine wpList_put rfl 118 (.tmp 4) (.tmp 39) rfl (W.heap.size + 2) (numE k (b - a) s) rfl rfl 118 _ (H3.o.get 2 rfl) (by first | kernel_rfl | (rw [enc_size]; kernel_rfl)) (by first | rfl | (rw [enc_size]; rfl)) (numE_all _ _ _) ?_
         intro W4 HB4 hfar4 hbel4 hsz4 hcell4))
     exact bodyPost_ret (results_cell_row rfl _ W4 (W.heap.size + 2) 118 (numE k (b - a) s) (0, 0) _ rfl HB4 Tryz.underlying118 rfl (by kernel_rfl)) rfl ⟨rfl, hbel4 _ _ (by omega) H3.o.below⟩
end Dec
end Go.Proofs.YtkdnebalpdebeaaGreatDoor
