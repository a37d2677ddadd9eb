/- Lemmas of a claim: BkM -/
import Derived.Test.YtkdnebalpdebeaaGreatDoorG42
import Derived.Test.YtkdnebalpdebeaaGreatDoorG27
set_option linter.unusedVariables false
set_option linter.unusedSimpArgs false
set_option maxHeartbeats 16000000
set_option maxRecDepth 100000
namespace Go.Proofs.YtkdnebalpdebeaaGreatDoor
namespace Bk
open Go.RowKit Go.Deep Go.Shelf Mp Mo
open Pr (Below.of_grown Keep.of_grown)
open Sha (rowB rowB_size rowB_one toI toI_length)
open Pack (Fresh)
open Cal (results_one results_two results_three)
theorem evInfo : ∃ i, Tryz.prog.info? 34 = some i /\ i.zero = some (.agg evZ) /\ i.size = 11 /\ i.bytes = 104 := ⟨_, rfl, by kernel_rfl, by kernel_rfl, by kernel_rfl⟩
def LNx (L : List (UInt8 × Value)) (nx : Int) : Prop := (L = [] /\ nx = 1) ∨ (∃ u, L = [(48, u)] /\ 2 <= nx /\ nx <= 5) ∨ ∃ u v, L = [(48, u), (49, v)] /\ 6 <= nx /\ nx <= 8
def kOf (nx : Int) : Int := (nx - 1).tdiv 4
def dOf (nx : Int) : UInt8 := if kOf nx = 0 then 48 else 49
theorem LNx.ok {L : List (UInt8 × Value)} {nx : Int} (h : LNx L nx) (hn : nx <= 7) : OkN L (dOf nx) /\ (kOf nx = 0 ∨ kOf nx = 1) := by
 rcases h with ⟨rfl, rfl⟩ | ⟨u, rfl, h1, h2⟩ | ⟨u, v, rfl, h1, h2⟩
 . exact ⟨.inl ⟨rfl, rfl⟩, .inl rfl⟩
 . have : nx = 2 ∨ nx = 3 ∨ nx = 4 ∨ nx = 5 := by omega
   rcases this with rfl | rfl | rfl | rfl
   . exact ⟨.inr (.inl ⟨u, rfl, rfl⟩), .inl rfl⟩
   . exact ⟨.inr (.inl ⟨u, rfl, rfl⟩), .inl rfl⟩
   . exact ⟨.inr (.inl ⟨u, rfl, rfl⟩), .inl rfl⟩
   . exact ⟨.inr (.inr (.inl ⟨u, rfl, rfl⟩)), .inr rfl⟩
 . have : nx = 6 ∨ nx = 7 := by omega
   rcases this with rfl | rfl
   . exact ⟨.inr (.inr (.inr ⟨u, v, rfl, .inr rfl⟩)), .inr rfl⟩
   . exact ⟨.inr (.inr (.inr ⟨u, v, rfl, .inr rfl⟩)), .inr rfl⟩
theorem LNx.next {L : List (UInt8 × Value)} {nx : Int} (h : LNx L nx) (hn : nx <= 7) (x y : Value) : LNx (setN (setN L (dOf nx) x) (dOf nx) y) (nx + 1) /\ usedL (setN (setN L (dOf nx) x) (dOf nx) y) + lenV (getN L (dOf nx)) = usedL L + lenV y := by
 rcases h with ⟨rfl, rfl⟩ | ⟨u, rfl, h1, h2⟩ | ⟨u, v, rfl, h1, h2⟩
 . exact ⟨.inr (.inl ⟨y, rfl, by omega, by omega⟩), by show lenV y + 0 + 0 = 0 + lenV y; omega⟩
 . have : nx = 2 ∨ nx = 3 ∨ nx = 4 ∨ nx = 5 := by omega
   rcases this with rfl | rfl | rfl | rfl
   . exact ⟨.inr (.inl ⟨y, rfl, by omega, by omega⟩), by show lenV y + 0 + lenV u = lenV u + 0 + lenV y; omega⟩
   . exact ⟨.inr (.inl ⟨y, rfl, by omega, by omega⟩), by show lenV y + 0 + lenV u = lenV u + 0 + lenV y; omega⟩
   . exact ⟨.inr (.inl ⟨y, rfl, by omega, by omega⟩), by show lenV y + 0 + lenV u = lenV u + 0 + lenV y; omega⟩
   . exact ⟨.inr (.inr ⟨u, y, rfl, by omega, by omega⟩), by show lenV u + (lenV y + 0) + 0 = lenV u + 0 + lenV y; omega⟩
 . have : nx = 6 ∨ nx = 7 := by omega
   rcases this with rfl | rfl
   . exact ⟨.inr (.inr ⟨u, y, rfl, by omega, by omega⟩), by show lenV u + (lenV y + 0) + lenV v = lenV u + (lenV v + 0) + lenV y; omega⟩
   . exact ⟨.inr (.inr ⟨u, y, rfl, by omega, by omega⟩), by show lenV u + (lenV y + 0) + lenV v = lenV u + (lenV v + 0) + lenV y; omega⟩
def Bs (W0 : World) (n gd bf gl gb : Nat) (nx : Int) (ev : Value) (M : World -> Prop) (w : World) : Prop :=
 (W0.heap.size <= gd /\ W0.heap.size <= bf /\ W0.heap.size <= gl /\ W0.heap.size <= gb /\ W0.heap.size <= n /\ gd < n /\ bf < n) /\ Below W0.heap.size W0 w /\ w.heap[gb]? = some (.cells (bankE gd gl (n + 7) ev) 133) /\
 (∃ (qs : List Nat) (ops : Int) (L : List (UInt8 × Value)), qs.length = 32 /\ Byt (toI qs) /\ w.heap[gl]? = some (.cells (logE gd 4 nx (rowB qs 32)) 192) /\ Dk gd bf 100 ops L w /\ (0 <= ops /\ ops <= 2 * nx) /\ LNx L nx /\ (usedL L : Int) <= 13 * (nx - 1)) /\
 (∃ (k : Nat) (xs : List Value), w.ownsRow W0.heap.size 34 11 ev k xs /\ (∀ u ∈ xs, u.oneCell' = true) /\ (k : Int) <= nx) /\ M w
theorem own_keepS {w w' : World} {base size n : Nat} {e : TypeId} {v : Value} {xs : List Value} {S : List Nat} (h : w.ownsRow base e size v n xs) (hk : Keep S w w') (hS : ∀ r, v.ownBlock = some r -> r ∉ S) : w'.ownsRow base e size v n xs := by
 obtain ⟨h1, h2 | ⟨g, c, cur, rfl, hb, hg, h4⟩⟩ := h
 . exact ⟨h1, .inl h2⟩
 . exact ⟨h1, .inr ⟨g, c, cur, rfl, hb, (hk.block g (obj_lt hg) (hS g rfl)).trans hg, h4⟩⟩
theorem own_type {w : World} {base size n : Nat} {e : TypeId} {v : Value} {xs : List Value} (h : w.ownsRow base e size v n xs) : ∀ r, v.ownBlock = some r -> base <= r /\ ∃ cur, w.heap[r]? = some (.cells cur e) := by
 intro r hr
 obtain ⟨h1, h2 | ⟨g, c, cur, rfl, hb, hg, h4⟩⟩ := h
 . rw [h2.1] at hr; cases hr
 . cases hr; exact ⟨hb, _, hg⟩
theorem Bs.step {W0 : World} {n gd bf gl gb : Nat} {nx : Int} {ev : Value} {M : World -> Prop} {w w' : World} (h : Bs W0 n gd bf gl gb nx ev M w) (hM : M w -> M w') (hb : Below w.heap.size w w') : Bs W0 n gd bf gl gb nx ev M w' := by
 obtain ⟨h1, h2, h3, ⟨qs, ops, L, q1, q2, q3, q4, q5⟩, ⟨k, xs, k1, k2⟩, h6⟩ := h
 exact ⟨h1, h2.trans (hb.mono h2.size), (hb.block _ (obj_lt h3)).trans h3, ⟨qs, ops, L, q1, q2, (hb.block _ (obj_lt q3)).trans q3, q4.step hb, q5⟩, ⟨k, xs, own_below k1 hb, k2⟩, hM h6⟩
theorem Bs.own {W0 : World} {n gd bf gl gb : Nat} {nx : Int} {ev : Value} {M M' : World -> Prop} {own : List Nat} {w w' : World} (h : Bs W0 n gd bf gl gb nx ev M w) (ho : OwnM n own w) (hk : Keep own w w') (hM : M' w') : Bs W0 n gd bf gl gb nx ev M' w' := by
 obtain ⟨h1, h2, h3, ⟨qs, ops, L, q1, q2, q3, q4, q5⟩, ⟨k, xs, k1, k2⟩, h6⟩ := h
 refine ⟨h1, ((Keep.of_below (S := []) h2).trans hk (fun k hm => .inr (by have := (ho k hm).1; omega))).below, (hk.block _ (obj_lt h3) (ho.not_mem h3 rfl)).trans h3, ⟨qs, ops, L, q1, q2, (hk.block _ (obj_lt q3) (ho.not_mem q3 rfl)).trans q3, q4.keep hk (ho.not_mem q4.1 rfl) (fun hm => by have := (ho bf hm).1; omega) (ho.cells rfl), q5⟩, ⟨k, xs, own_keepS k1 hk (fun r hr => ?_), k2⟩, hM⟩
 obtain ⟨_, cur, hc⟩ := own_type k1 r hr
 exact ho.not_mem hc rfl
theorem Bs.logged {W0 : World} {n gd bf gl gb : Nat} {nx : Int} {ev : Value} {M : World -> Prop} {w w' : World} (h : Bs W0 n gd bf gl gb nx ev M w) (hk : Keep [gl, gd, bf] w w') (hM : M w') {qs : List Nat} {ops : Int} {L : List (UInt8 × Value)} (q1 : qs.length = 32) (q2 : Byt (toI qs))
 (q3 : w'.heap[gl]? = some (.cells (logE gd 4 (nx + 1) (rowB qs 32)) 192)) (q4 : Dk gd bf 100 ops L w') (q5 : 0 <= ops /\ ops <= 2 * (nx + 1)) (q6 : LNx L (nx + 1)) (q7 : (usedL L : Int) <= 13 * nx) : Bs W0 n gd bf gl gb (nx + 1) ev M w' := by
 obtain ⟨h1, h2, h3, ⟨qs0, ops0, L0, r1, r2, r3, r4, r5⟩, ⟨k, xs, k1, k2, k3⟩, h6⟩ := h
 refine ⟨h1, ((Keep.of_below (S := []) h2).trans hk (fun k hm => .inr (by simp only [List.mem_cons, List.not_mem_nil, or_false] at hm; omega))).below, (hk.block _ (obj_lt h3) ?_).trans h3, ⟨qs, ops, L, q1, q2, q3, q4, q5, q6, by omega⟩, ⟨k, xs, own_keepS k1 hk (fun r hr => ?_), k2, by omega⟩, hM⟩
 . simp only [List.mem_cons, List.not_mem_nil, or_false, not_or]
   exact ⟨ne_alike r3 h3 rfl, ne_alike r4.1 h3 rfl, ne_alike r4.2.1 h3 rfl⟩
 . obtain ⟨_, cur, hc⟩ := own_type k1 r hr
   simp only [List.mem_cons, List.not_mem_nil, or_false, not_or]
   exact ⟨ne_alike r3 hc rfl, ne_alike r4.1 hc rfl, ne_alike r4.2.1 hc rfl⟩
theorem Bs.events {W0 : World} {n gd bf gl gb : Nat} {nx : Int} {ev ev' : Value} {M : World -> Prop} {w w' w'' : World} {k' : Nat} {xs' : List Value} (h : Bs W0 n gd bf gl gb nx ev M w) (hg : w.grownBy w' ev.ownBlock) (ho : w'.ownsRow W0.heap.size 34 11 ev' k' xs')
 (hx : ∀ u ∈ xs', u.oneCell' = true) (hk' : (k' : Int) <= nx) (ht : Turn w' gb (.cells (bankE gd gl (n + 7) ev') 133) w'') (hM : ∀ S, FarM n w S -> Keep S w w'' -> M w'') : Bs W0 n gd bf gl gb nx ev' M w'' := by
 obtain ⟨h1, h2, h3, ⟨qs, ops, L, q1, q2, q3, q4, q5⟩, ⟨k, xs, k1, k2⟩, h6⟩ := h
 have hty := own_type k1
 have hk1 : Keep ev.ownBlock.toList w w' := Keep.of_grown hg (fun r e => .inl (by rw [e]; simp))
 have hin : ∀ r ∈ ev.ownBlock.toList, W0.heap.size <= r /\ ∃ cur, w.heap[r]? = some (.cells cur 34) := fun r hr => hty r (by simpa using hr)
 have hk2 : Keep (gb :: ev.ownBlock.toList) w w'' := (hk1.mono (fun k hm => .inl (List.mem_cons_of_mem _ hm))).trans ht.keep (fun k hm => .inl (by simp only [List.mem_singleton] at hm; subst hm; exact List.mem_cons_self))
 have hfar : FarM n w (gb :: ev.ownBlock.toList) := by
  intro k hm
  rcases List.mem_cons.1 hm with rfl | hm
  . exact .inr ⟨_, _, h3, rfl⟩
  . obtain ⟨_, cur, hc⟩ := hin k hm
    exact .inr ⟨_, _, hc, rfl⟩
 have hge : gb ∉ ev.ownBlock.toList := fun hm => by
  obtain ⟨_, cur, hc⟩ := hin gb hm
  rw [h3] at hc; cases hc
 have hgl : gl ∉ gb :: ev.ownBlock.toList := by
  intro hm
  rcases List.mem_cons.1 hm with rfl | hm
  . rw [h3] at q3; cases q3
  . obtain ⟨_, cur, hc⟩ := hin gl hm
    rw [q3] at hc; cases hc
 have hgd : gd ∉ gb :: ev.ownBlock.toList := by
  intro hm
  rcases List.mem_cons.1 hm with rfl | hm
  . have := q4.1; rw [h3] at this; cases this
  . obtain ⟨_, cur, hc⟩ := hin gd hm
    rw [q4.1] at hc; cases hc
 have hbf : bf ∉ gb :: ev.ownBlock.toList := by
  intro hm
  rcases List.mem_cons.1 hm with rfl | hm
  . have := q4.2.1; rw [h3] at this; cases this
  . obtain ⟨_, cur, hc⟩ := hin bf hm
    rw [q4.2.1] at hc; cases hc
 refine ⟨h1, ((Keep.of_below (S := []) h2).trans hk2 (fun k hm => .inr ?_)).below, ht.at_, ⟨qs, ops, L, q1, q2, (hk2.block _ (obj_lt q3) hgl).trans q3, q4.keep hk2 hgd hbf ?_, q5⟩, ⟨k', xs', own_keepS ho ht.keep (fun r hr hm => ?_), hx, hk'⟩, hM _ hfar hk2⟩
 . rcases List.mem_cons.1 hm with rfl | hm
   . exact h1.2.2.2.1
   . exact (hin k hm).1
 . intro k hm cur hc
   rcases List.mem_cons.1 hm with rfl | hm
   . rw [h3] at hc; cases hc
   . obtain ⟨_, cur', hc'⟩ := hin k hm
     rw [hc'] at hc; cases hc
 . simp only [List.mem_singleton] at hm
   subst hm
   obtain ⟨_, cur, hc⟩ := own_type ho r hr
   rw [(hk1.block _ (obj_lt h3) hge).trans h3] at hc; cases hc
def Kb (S : List Nat) (ev : Value) (W : World) (ev' : Value) (w' : World) : Prop := Keep (S ++ ev.ownBlock.toList) W w' /\ ∀ r, ev'.ownBlock = some r -> ev.ownBlock = some r ∨ W.heap.size <= r
theorem Kb.refl (S : List Nat) (ev : Value) (W : World) : Kb S ev W ev W := ⟨Keep.refl _ _, fun r h => .inl h⟩
theorem Kb.step {S : List Nat} {ev ev' : Value} {W w w' : World} (h : Kb S ev W ev' w) (hb : Below w.heap.size w w') : Kb S ev W ev' w' := ⟨h.1.step hb, h.2⟩
theorem Kb.trans {S T : List Nat} {ev ev' ev'' : Value} {W w w' : World} (h : Kb S ev W ev' w) (h' : Kb T ev' w ev'' w') (hT : ∀ k ∈ T, k ∈ S ∨ W.heap.size <= k) : Kb S ev W ev'' w' := by
 refine ⟨h.1.trans h'.1 (fun k hk => ?_), fun r hr => ?_⟩
 . rcases List.mem_append.1 hk with hk | hk
   . rcases hT k hk with hk | hk
     . exact .inl (List.mem_append.2 (.inl hk))
     . exact .inr hk
   . rcases h.2 k (by simpa using hk) with hk | hk
     . exact .inl (List.mem_append.2 (.inr (by simpa using hk)))
     . exact .inr hk
 . rcases h'.2 r hr with hr | hr
   . exact h.2 r hr
   . exact .inr (Nat.le_trans h.1.size hr)
theorem Kb.from_ {S : List Nat} {ev ev' : Value} {W0 W w' : World} (hb : Below W0.heap.size W0 W) (h : Kb S ev W ev' w') : Kb S ev W0 ev' w' := ⟨(Keep.of_below (S := S ++ ev.ownBlock.toList) hb).trans h.1 (fun k hk => .inl hk), fun r hr => (h.2 r hr).imp id (Nat.le_trans hb.size)⟩
structure Acts (n : Nat) (own : List Nat) (E : Array Value) (M M' : World -> Prop) : Prop where
 step : ∀ w w', M w -> Below w.heap.size w w' -> M w'
 far : ∀ w w' S, M w -> Keep S w w' -> FarM n w S -> M w'
 step' : ∀ w w', M' w -> Below w.heap.size w w' -> M' w'
 far' : ∀ w w' S, M' w -> Keep S w w' -> FarM n w S -> M' w'
 ownm : ∀ w, M w -> OwnM n own w
 write : ∀ w, M w -> Calls Tryz.prog 161 #[.agg E] w fun x w' => ∃ v ps, x = .returned (.tuple #[v, .int .i64 0]) /\ Fresh w w' v ps /\ 1 <= ps.length /\ ps.length <= 261 /\ Byt ps
 appl : ∀ w, M w -> Calls Tryz.prog 7 #[.pointer (some ⟨n + 7, 0, none⟩), .agg E] w fun x w' => x = .returned (.int .i64 0) /\ Keep own w w' /\ M' w'
theorem happens_ok (W0 : World) (n gd bf gl gb : Nat) (own : List Nat) (nx : Int) (hnx : 1 <= nx /\ nx <= 6) (ev : Value) (M M' : World -> Prop) (op n0 n1 n2 n3 n4 n5 n6 n7 : Int) (A : Option Addr) (k c : Nat) (hA : Acts n own (evE op n0 n1 n2 n3 n4 n5 n6 n7 (.slice A k c)) M M') (W : World) (h : Bs W0 n gd bf gl gb nx ev M W) :
 Calls Tryz.prog 110 #[.pointer (some ⟨gb, 0, none⟩), .agg (evE op n0 n1 n2 n3 n4 n5 n6 n7 (.slice A k c))] W fun x w' => x = .returned (.int .i64 0) /\ ∃ ev', Kb ([gl, gd, bf, gb] ++ own) ev W ev' w' /\ Bs W0 n gd bf gl gb (nx + 1) ev' M' w' := by
 obtain ⟨hn1, hn2⟩ := hnx
 have HA := Hd hA
 have hlt : gb < W.heap.size := obj_lt h.2.2.1
 have HBW := Hd h
 have H1 : Hi (HasO [] W [(W.heap.size, .cells (evE op n0 n1 n2 n3 n4 n5 n6 n7 (.slice A k c)) 34), (gb, .cells (bankE gd gl (n + 7) ev) 133)] _) := Hd ((HasO.cons h.2.2.1 (HasO.start [] W)).new (g := W.heap.size) rfl (.cells (evE op n0 n1 n2 n3 n4 n5 n6 n7 (.slice A k c)) 34))
 have HEB : Hi (∀ r, ev.ownBlock = some r -> r < W.heap.size) := Hd (by
  obtain ⟨_, _, _, _, ⟨kk, xs, k1, _⟩, _⟩ := h
  intro r hr
  obtain ⟨_, cur, hc⟩ := own_type k1 r hr
  exact obj_lt hc)
 clear h hA
 rw [evE]
 go_enter Tryz.func110, Tryz.ntmps110
 go_wp2_with (refine wpListG_row rfl 34 (.tmp 3) rfl W.heap.size rfl 34 (evE op n0 n1 n2 n3 n4 n5 n6 n7 (.slice A k c)) _ (H1.o.get 0 rfl) Tryz.underlying34 rfl (by kernel_rfl) ?_)
 have hB1 := HBW.o.step (fun hm => HA.o.step _ _ hm (Below.al (Below.refl _ W) (.cells (evE op n0 n1 n2 n3 n4 n5 n6 n7 (.slice A k c)) 34))) (Below.al (Below.refl _ _) _)
 refine (HA.o.write _ hB1.2.2.2.2.2).mono ?_
 rintro e w2 ⟨v, ps, rfl, hf, hp1, hp2, hpb⟩
 have HB2 := Hd (hB1.step (fun hm => HA.o.step _ _ hm hf.2) hf.2)
 have H2 := Hd (H1.o.step hf.2)
 obtain ⟨_, h2 | ⟨g, c', cur, rfl, hb0, hg, h4⟩⟩ := id hf.1
 . have := h2.2; omega
 have HRI := Hd (Event.fresh_ri hf)
 have HEV : Hi (∃ (A0 : Option Addr) (kk c0 : Nat), ev = .slice A0 kk c0 /\ (kk : Int) <= nx) := Hd (by
  obtain ⟨_, _, _, _, ⟨kk, xs, k1, _, k3⟩, _⟩ := HB2.o
  obtain ⟨A0, c0, he⟩ := own_slice k1
  exact ⟨A0, kk, c0, he, k3⟩)
 have HPB := Hd hpb
 obtain ⟨hb, _, hgb, ⟨qs, ops, L, q1, q2, hgl, hdk, hops, hL, hus⟩, _, _⟩ := id HB2.o
 obtain ⟨hok, hk1⟩ := hL.ok (by omega)
 have CL := Hd (logAppend_ok gl gd bf g c' 100 ops nx (kOf nx) (dOf nx) rfl hk1 rfl (by omega) (by omega) L hok qs q1 q2 ps (by omega) hpb (by omega) (by omega) w2 hgl hdk HRI.o)
 have hfar : FarM n w2 [gl, gd, bf] := by
  intro k hk
  simp only [List.mem_cons, List.not_mem_nil, or_false] at hk
  rcases hk with rfl | rfl | rfl
  . exact .inr ⟨_, _, hgl, rfl⟩
  . exact .inr ⟨_, _, hdk.1, rfl⟩
  . exact .inl ⟨hb.2.2.2.2.2.2, _, _, hdk.2.1⟩
 have hne : gb ∉ [gl, gd, bf] := by
  simp only [List.mem_cons, List.not_mem_nil, or_false, not_or]
  exact ⟨ne_alike hgl hgb rfl, ne_alike hdk.1 hgb rfl, ne_alike hdk.2.1 hgb rfl⟩
 have HFAR := Hd hfar
 have HNE := Hd hne
 have HLN := Hd (And.intro hL (And.intro hus hops))
 have hg3 : W.heap.size ∉ [gl, gd, bf] := by
  obtain ⟨_, _, _, ⟨_, _, _, _, _, x1, x2, _⟩, _⟩ := HBW.o
  have := obj_lt x1
  have := obj_lt x2.1
  have := obj_lt x2.2.1
  simp only [List.mem_cons, List.not_mem_nil, or_false, not_or]
  omega
 have HG3' := Hd hg3
 have hcb := Blk.cell (t := 133) (cs := bankE gd gl (n + 7) ev) hgb 1
 simp only [bankE, List.getElem?_toArray, List.getElem?_cons_succ, List.getElem?_cons_zero] at hcb
 clear hf h4 hb0 hg hpb hgl hdk hfar hne hL hus hops hok hk1 hg3 hgb hb q1 q2 hB1 H1
 go_wp2_with fail
 refine CL.o.mono ?_
 rintro e w3 ⟨rfl, hk3, qs', v1, v2, q1', q2', hgl', hlv, hdk'⟩
 have hM3 := HA.o.far _ _ _ HB2.o.2.2.2.2.2 hk3 HFAR.o
 have hln := HLN.o.1.next (by omega) v1 v2
 have HB3 := Hd (HB2.o.logged hk3 hM3 q1' q2' hgl' hdk' (by have := HLN.o.2.2; omega) hln.1 (by have := HLN.o.2.1; omega))
 have H3 : Hi (HasO [gl, gd, bf] W [(W.heap.size, .cells (evE op n0 n1 n2 n3 n4 n5 n6 n7 (.slice A k c)) 34), (gb, .cells (bankE gd gl (n + 7) ev) 133)] w3) := Hd ((H2.o.re' (T := [gl, gd, bf]) (by simp)).call hk3 (by simp) (by
  intro f hf
  simp only [List.mem_cons, List.not_mem_nil, or_false] at hf
  rcases hf with rfl | rfl
  . exact HG3'.o
  . exact HNE.o))
 clear hk3 q1' q2' hgl' hlv hdk' hln hM3 HB2 H2 CL hcb HPB HRI HFAR HLN
 go_wp2_with fail
 refine wp_region_regF (fun w' => HasO [] w3 [(W.heap.size, .cells (evE op n0 n1 n2 n3 n4 n5 n6 n7 (.slice A k c)) 34), (gb, .cells (bankE gd gl (n + 7) ev) 133)] w') (fun w' => HasO own w3 [] w') (fun _ => (0, #[])) [0, 1, 2, 3, 4] [] [5] [] (by kernel_rfl) (by kernel_rfl) ?_ (fun w w' h hb => h.step hb) ?_ (fun k hk => by cases hk) ?_
 . exact fun w h => ⟨h.1.mono (by simp), by simp⟩
 . exact (HasO.re H3.o).drew
 simp only [List.map_cons, List.map_nil, opAt, List.getElem?_cons_succ, List.getElem?_cons_zero, Option.getD_some, List.contains_cons, List.contains_nil, Nat.reduceBEq, Bool.or_false, Bool.or_true, Bool.true_or, Bool.false_or]
 repeat (refine wpX_pure rfl ?_; go_big_quiet_step ((intro _; rfl)); refine wpQuiet_nil ?_)
 refine wpX_pure rfl ?_
 refine wpQuiet_cell 25 (.tmp 42) rfl rfl ⟨gb, 2, none⟩ rfl (.pointer (some ⟨n + 7, 0, none⟩)) _ (fun w hw => (hw.get 1 rfl).cell 2) Tryz.underlying25 rfl (fun K1 k1 => ?_)
 go_simp
 refine k1 _ ?_
 clear k1 K1
 refine wpQuiet_nil ?_
 refine wpX_pure rfl ?_
 refine wpQuiet_row 34 (.tmp 3) rfl rfl W.heap.size rfl 34 (evE op n0 n1 n2 n3 n4 n5 n6 n7 (.slice A k c)) _ (fun w hw => hw.get 0 rfl) Tryz.underlying34 rfl (by kernel_rfl) (fun K1 k1 => ?_)
 go_simp
 refine k1 _ ?_
 clear k1 K1
 refine wpQuiet_nil ?_
 refine wpX_nil ?_
 intro gs w4 H4
 intro hmade
 simp only [putAll, wpTail, opAt, List.getElem?_cons_succ, List.getElem?_cons_zero, Option.getD_some, Act.put]
 have H4 := Hd H4
 have HB4 := Hd (HB3.o.step (fun hm => HA.o.step _ _ hm H4.o.below) H4.o.below)
 clear hmade HB3
 go_wp2_with fail
 refine (HA.o.appl w4 HB4.o.2.2.2.2.2).mono ?_
 rintro e w5 ⟨rfl, hk5, hm5⟩
 have hown := HA.o.ownm w4 HB4.o.2.2.2.2.2
 have HB5 := Hd (HB4.o.own hown hk5 hm5)
 have hk35 : Keep own w3 w5 := (H4.o.1.mono (T := own) (by simp)).trans hk5 (fun k hk => .inl hk)
 have H5 : Hi (HasO own w3 [(W.heap.size, .cells (evE op n0 n1 n2 n3 n4 n5 n6 n7 (.slice A k c)) 34), (gb, .cells (bankE gd gl (n + 7) ev) 133)] w5) := Hd ⟨hk35, fun f hf => by
  refine (hk5.block f.1 (obj_lt (H4.o.2 f hf)) ?_).trans (H4.o.2 f hf)
  simp only [List.mem_cons, List.not_mem_nil, or_false] at hf
  rcases hf with rfl | rfl
  . exact hown.not_mem (H4.o.obj 0 rfl) rfl
  . exact hown.not_mem (H4.o.obj 1 rfl) rfl⟩
 have HKA : Hi (Keep ([gl, gd, bf, gb] ++ own ++ ev.ownBlock.toList) W w5) := Hd ((H3.o.1.mono (fun k hk => .inl (by simp only [List.mem_cons, List.not_mem_nil, or_false, List.mem_append] at hk ⊢; omega))).trans hk35 (fun k hk => .inl (by simp only [List.mem_append]; exact .inl (.inr hk))))
 clear hk5 hm5 hown hk35 HB4 H4 H3
 go_wp2_with fail
 refine ⟨⟨H5.o.1, by simp⟩, ?_⟩
 go_wp2_with fail
 refine wp_region_regL (fun w' => HasO [] w5 [(W.heap.size, .cells (evE op n0 n1 n2 n3 n4 n5 n6 n7 (.slice A k c)) 34), (gb, .cells (bankE gd gl (n + 7) ev) 133)] w') (fun w' => HasO ev.ownBlock.toList w5 [(W.heap.size, .cells (evE op n0 n1 n2 n3 n4 n5 n6 n7 (.slice A k c)) 34), (gb, .cells (bankE gd gl (n + 7) ev) 133)] w') (fun _ => (0, #[])) [0, 1, 2, 3, 4, 5] [] [6, 7, 8, 9, 10] [0, 1, 2, 3, 4] (by kernel_rfl) (by kernel_rfl) ?_ (fun w w' h hb => h.step hb) ?_ (fun k hk => by cases hk) ?_
 . exact fun w h => ⟨h.1.mono (by simp), h.2⟩
 . exact (HasO.re H5.o).drew
 simp only [List.map_cons, List.map_nil, opAt, List.getElem?_cons_succ, List.getElem?_cons_zero, Option.getD_some, List.contains_cons, List.contains_nil, Nat.reduceBEq, Bool.or_false, Bool.or_true, Bool.true_or, Bool.false_or]
 repeat (refine wpX_float rfl ?_; go_big_quiet_step ((intro _; rfl)); refine wpQuiet_nil ?_)
 refine wpX_float rfl ?_
 refine wpQuiet_cell 35 (.tmp 49) rfl rfl ⟨gb, 3, none⟩ rfl (ev) _ (fun w hw => (hw.get 1 rfl).cell 3) Tryz.underlying35 rfl (fun K1 k1 => ?_)
 go_simp
 refine k1 _ ?_
 clear k1 K1
 refine wpQuiet_nil ?_
 refine wpX_pure rfl ?_
 refine wpQuiet_row 34 (.tmp 3) rfl rfl W.heap.size rfl 34 (evE op n0 n1 n2 n3 n4 n5 n6 n7 (.slice A k c)) _ (fun w hw => hw.get 0 rfl) Tryz.underlying34 rfl (by kernel_rfl) (fun K1 k1 => ?_)
 go_simp
 refine k1 _ ?_
 clear k1 K1
 refine wpQuiet_nil ?_
 repeat (refine wpX_pure rfl ?_; go_big_quiet_step ((intro _; rfl)); refine wpQuiet_nil ?_)
 refine wpX_nil ?_
 intro gs w6 H6
 intro hmade
 simp only [putAll, wpTailL, opAt, List.getElem?_cons_succ, List.getElem?_cons_zero, Option.getD_some, Act.put]
 have H6 := Hd H6
 have HB6 := Hd (HB5.o.step (fun hm => HA.o.step' _ _ hm H6.o.below) H6.o.below)
 clear hmade HB5
 simp only [evE]
 go_wp2_with fail
 have H7 : Hi (HasO [] w5 [(W.heap.size, .cells (evE op n0 n1 n2 n3 n4 n5 n6 n7 (.slice A k c)) 34), (gb, .cells (bankE gd gl (n + 7) ev) 133)] (w6.alloc (.cells (evE op n0 n1 n2 n3 n4 n5 n6 n7 (.slice A k c)) 34))) := Hd (H6.o.alloc _)
 refine ⟨fun _ => ⟨H7.o.1.mono (by simp), H7.o.2⟩, ?_⟩
 have HB7 : Hi (Bs W0 n gd bf gl gb (nx + 1) ev M' (w6.alloc (.cells (evE op n0 n1 n2 n3 n4 n5 n6 n7 (.slice A k c)) 34))) := Hd (HB6.o.step (fun hm => HA.o.step' _ _ hm (Below.al (Below.refl _ _) _)) (Below.al (Below.refl _ _) _))
 obtain ⟨_, _, _, _, ⟨kk, xs, hox, hx1, hkk⟩, _⟩ := id HB7.o
 obtain ⟨i0, hi0, hz0, hz1, hz2⟩ := evInfo
 obtain ⟨A0, c0, rfl⟩ := own_slice hox
 have HOX := Hd hox
 have HX1 := Hd hx1
 clear hox hx1
 go_wp2_with (at_builtin
              refine wpList_append_any _ rfl (.tmp 50) (.tmp 52) 35 rfl W0.heap.size 34 i0 (.agg evZ) 11 104 Tryz.underlying35 hi0 hz0 hz1 hz2 rfl (by omega) (.slice A0 kk c0) kk xs rfl HOX.o (w6.heap.size + 1) (some ⟨w6.heap.size, 0, none⟩) 1 1 ((evE op n0 n1 n2 n3 n4 n5 n6 n7 (.slice A k c))).toList rfl (reads_new (cs := (evE op n0 n1 n2 n3 n4 n5 n6 n7 (.slice A k c))) rfl) (by intro u hu; simp only [evE, List.mem_cons, List.not_mem_nil, or_false] at hu; rcases hu with rfl | rfl | rfl | rfl | rfl | rfl | rfl | rfl | rfl | rfl | rfl <;> rfl) (by simp only [maxLen]; omega) (by omega) (by have := HB7.o.2.1.size; exact this) ?_
              intro v8 w8 hown8 hg8 hat8
              obtain ⟨A8, c8, rfl⟩ := own_slice hown8)
 have HG8 := Hd hg8
 have HO8 := Hd hown8
 have hgb7 : gb ∉ (Value.slice A0 kk c0).ownBlock.toList := fun hm => by
  obtain ⟨_, cur, hc⟩ := own_type HOX.o gb (by simpa using hm)
  rw [HB7.o.2.2.1] at hc; cases hc
 have hW8 : HasO (Value.slice A0 kk c0).ownBlock.toList w5 [(W.heap.size, .cells (evE op n0 n1 n2 n3 n4 n5 n6 n7 (.slice A k c)) 34), (gb, .cells (bankE gd gl (n + 7) (.slice A0 kk c0)) 133)] w8 := (H7.o.re' (T := (Value.slice A0 kk c0).ownBlock.toList) (by simp)).call (Keep.of_grown hg8 (fun r e => .inl (by rw [e]; simp))) (fun k hm => .inl hm) (by
  intro f hf hm
  simp only [List.mem_cons, List.not_mem_nil, or_false] at hf
  rcases hf with rfl | rfl
  . have := HEB.o W.heap.size (by simpa using hm); omega
  . exact hgb7 hm)
 have HW8 := Hd hW8
 obtain ⟨A1, k1, c1, he1, hk1⟩ := HEV.o
 have hkk1 : (kk : Int) <= nx := by injection he1 with e1 e2 e3; rw [e2]; exact hk1
 have HAT8 := Hd hat8
 clear hg8 hown8 hat8 hgb7 hW8 he1 hk1
 refine ⟨HW8.o, ?_⟩
 go_wp2_with fail
 refine ⟨HW8.o, ?_⟩
 go_wp2_with fail
 refine ⟨HW8.o, ?_⟩
 go_wp2_with (refine wpList_turn rfl 35 (.tmp 55) (.tmp 53) rfl gb 3 (.slice A8 (kk + 1) c8) rfl rfl 133 (bankE gd gl (n + 7) (.slice A0 kk c0)) (bankE gd gl (n + 7) (.slice A8 (kk + 1) c8)) (HW8.o.get 1 rfl) (by kernel_rfl) (by simp [Value.cells, bankE]) (by simp [Value.cells, Value.oneCell', bankE]) rfl ?_; intro W9 HT9)
 have hk8 : Keep (Value.slice A0 kk c0).ownBlock.toList w5 w8 := HW8.o.1
 have hkf := (HKA.o.trans hk8 (fun k hk => .inl (by simp only [List.mem_append]; exact .inr hk))).trans HT9.keep (fun k hk => .inl (by simp only [List.mem_singleton] at hk; subst hk; simp))
 rw [onlyNormal_normal]
 go_wp2_with fail
 refine bodyPost_ret (results_one rfl _ _ rfl) rfl ⟨rfl, .slice A8 (kk + 1) c8, ⟨hkf, fun r hr => ?_⟩, HB7.o.events HG8.o HO8.o ?_ (by omega) HT9 (fun S hS hk => HA.o.far' _ _ S HB7.o.2.2.2.2.2 hk hS)⟩
 . rcases HAT8.o with h | h
   . exact .inl (h ▸ hr)
   . rw [h] at hr
     cases hr
     exact .inr (Nat.le_trans HKA.o.size H7.o.size)
 intro u hu
 rcases List.mem_append.1 hu with hu | hu
 . exact HX1.o u hu
 . simp only [evE, List.mem_cons, List.not_mem_nil, or_false] at hu
   rcases hu with rfl | rfl | rfl | rfl | rfl | rfl | rfl | rfl | rfl | rfl | rfl <;> rfl
end Bk
end Go.Proofs.YtkdnebalpdebeaaGreatDoor
