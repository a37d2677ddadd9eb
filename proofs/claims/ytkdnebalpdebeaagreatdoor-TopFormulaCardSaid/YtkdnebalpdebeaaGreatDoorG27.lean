/- Lemmas of a claim: BkR, FoP, BkL -/
import Derived.Test.YtkdnebalpdebeaaGreatDoorG26
set_option linter.unusedVariables false
set_option linter.unusedSimpArgs false
set_option maxHeartbeats 16000000
set_option maxRecDepth 100000
namespace Go.Proofs.YtkdnebalpdebeaaGreatDoor
namespace Bk
open Go.RowKit Go.Deep Mp Mo
open Pr (TS)
open Ch (Led)
def bankT (t : TypeId) : Bool := t == 127 || t == 192 || t == 133 || t == 34 || t == 258 || t == 70
def FarM (n : Nat) (W : World) (S : List Nat) : Prop := ∀ k ∈ S, (k < n /\ ∃ es cl, W.heap[k]? = some (.map es cl)) ∨ ∃ cur t, W.heap[k]? = some (.cells cur t) /\ bankT t = true
def okM (n : Nat) (f : Nat × Obj) : Prop := match f.2 with
 | .cells _ t _ => bankT t = false
 | .map _ _ => n <= f.1
 | _ => True
theorem FarM.cells {n : Nat} {W : World} {S : List Nat} (h : FarM n W S) {t : TypeId} (ht : bankT t = false) : ∀ k ∈ S, ∀ cur, W.heap[k]? ≠ some (.cells cur t) := by
 intro k hk cur hc
 rcases h k hk with ⟨_, es, cl, h⟩ | ⟨cur', t', h, h'⟩
 . rw [h] at hc; cases hc
 . rw [h] at hc; cases hc; rw [ht] at h'; cases h'
theorem FarM.not_mem {n : Nat} {W : World} {S : List Nat} (h : FarM n W S) {g : Nat} {o : Obj} (hg : W.heap[g]? = some o) (ho : okM n (g, o)) : g ∉ S := by
 intro hm
 rcases h g hm with ⟨hl, es, cl, h⟩ | ⟨cur, t, h, h'⟩
 . rw [h] at hg; cases hg
   have : n <= g := ho
   omega
 . rw [h] at hg; cases hg
   have : bankT t = false := ho
   rw [this] at h'; cases h'
theorem hasO_far {n : Nat} {W w : World} {fs : List (Nat × Obj)} {S : List Nat} (h : HasO [] W fs W) (hk : Keep S W w) (hf : FarM n W S) (ho : ∀ f ∈ fs, okM n f) : HasO [] w fs w :=
 ⟨Keep.refl _ _, fun f hm => (hk.block f.1 (obj_lt (h.2 f hm)) (hf.not_mem (h.2 f hm) (ho f hm))).trans (h.2 f hm)⟩
theorem led_far {f : Int -> Int} {n : Nat} {W w : World} {S : List Nat} (h : Led f (n + 6) W) (hk : Keep S W w) (hf : FarM n W S) : Led f (n + 6) w := by
 refine h.keep hk ?_ ?_
 . obtain ⟨b, cl, L, m, h, _⟩ := h
   exact hf.not_mem h rfl
 . intro k hm
   rcases hf k hm with ⟨hl, _⟩ | ⟨cur, t, h, _⟩
   . left; omega
   . right; intro es cl hc; rw [h] at hc; cases hc
theorem cat_far {q : Qd} {n : Nat} {W w : World} {S : List Nat} (h : CatQ q (n + 1) W) (hk : Keep S W w) (hf : FarM n W S) : CatQ q (n + 1) w := by
 refine cat1_keep h hk ?_ (hf.cells rfl) (hf.cells rfl)
 obtain ⟨gL, cap, cur, s, m, hg, _⟩ := h
 exact hf.not_mem hg rfl
theorem ts_far {r : Int} {n : Nat} {W w : World} {S : List Nat} {s : Value} (h : TS r W s) (hk : Keep S W w) (hf : FarM n W S) : TS r w s := h.keep hk (hf.cells rfl)
theorem st0_far {n : Nat} {day : Int} {W w : World} {S : List Nat} (h : St0 n day W) (hk : Keep S W w) (hf : FarM n W S) : St0 n day w := by
 refine ⟨hasO_far h.1 hk hf ?_, led_far h.2 hk hf⟩
 simp only [List.forall_mem_cons]
 refine ⟨rfl, rfl, ?_, ?_, ?_, by simp⟩
 . show n <= n; omega
 . show n <= n + 2; omega
 . show n <= n + 4; omega
theorem st1_far {q : Qd} {n : Nat} {day : Int} {W w : World} {S : List Nat} (h : St1 q n day W) (hk : Keep S W w) (hf : FarM n W S) : St1 q n day w := by
 refine ⟨hasO_far h.1 hk hf ?_, cat_far h.2.1 hk hf, led_far h.2.2 hk hf⟩
 simp only [List.forall_mem_cons]
 refine ⟨rfl, ?_, ?_, by simp⟩
 . show n <= n + 2; omega
 . show n <= n + 4; omega
theorem st2_far {q : Qd} {n ga bh : Nat} {day seq b a cs : Int} {run : Bool} {ks : List Int} {W w : World} {S : List Nat} (h : StX q n ga bh day seq b a cs run ks W) (hk : Keep S W w) (hf : FarM n W S) : StX q n ga bh day seq b a cs run ks w := by
 obtain ⟨st, h1, h2, h3, h4, h5⟩ := h
 refine ⟨st, hasO_far h1 hk hf ?_, cat_far h2 hk hf, led_far h3 hk hf, h4.keep hk (hf.cells rfl), h5⟩
 simp only [List.forall_mem_cons]
 refine ⟨rfl, ?_, rfl, ?_, by simp⟩
 . show n <= n + 2; omega
 . show n <= n + 4; omega
def OwnM (n : Nat) (S : List Nat) (w : World) : Prop := ∀ k ∈ S, n <= k /\ ∀ cur t, w.heap[k]? = some (.cells cur t) -> bankT t = false
theorem ownM_one {n g : Nat} {w : World} {o : Obj} (h : w.heap[g]? = some o) (hn : n <= g) (ho : match o with | .cells _ t _ => bankT t = false | _ => True) : n <= g /\ ∀ cur t, w.heap[g]? = some (.cells cur t) -> bankT t = false :=
 ⟨hn, fun cur t hc => by rw [h] at hc; cases hc; exact ho⟩
theorem OwnM.not_mem {n : Nat} {w : World} {S : List Nat} (h : OwnM n S w) {g : Nat} {cur : Array Value} {t : TypeId} (hg : w.heap[g]? = some (.cells cur t)) (ht : bankT t = true) : g ∉ S := by
 intro hm
 have := (h g hm).2 _ _ hg
 rw [ht] at this; cases this
theorem OwnM.cells {n : Nat} {w : World} {S : List Nat} (h : OwnM n S w) {t : TypeId} (ht : bankT t = true) : ∀ k ∈ S, ∀ cur, w.heap[k]? ≠ some (.cells cur t) := fun k hk cur hc => h.not_mem hc ht hk
theorem led_own {f : Int -> Int} {n : Nat} {w : World} (h : Led f (n + 6) w) : n <= n + 6 /\ ∀ cur t, w.heap[n + 6]? = some (.cells cur t) -> bankT t = false := by
 obtain ⟨b, cl, L, m, h, _⟩ := h
 exact ownM_one h (by omega) rfl
theorem st0_own {n : Nat} {day : Int} {w : World} (h : St0 n day w) : OwnM n (own0 n) w := by
 unfold OwnM own0
 simp only [List.forall_mem_cons]
 exact ⟨ownM_one (h.1.obj 2 rfl) (by omega) trivial, ownM_one (h.1.obj 1 rfl) (by omega) rfl, ownM_one (h.1.obj 3 rfl) (by omega) trivial, led_own h.2, ownM_one (h.1.obj 0 rfl) (by omega) rfl, by simp⟩
theorem st1_own {q : Qd} {n : Nat} {day : Int} {w : World} (h : St1 q n day w) : OwnM n (ownO n) w := by
 unfold OwnM ownO
 simp only [List.forall_mem_cons]
 exact ⟨ownM_one (h.1.obj 1 rfl) (by omega) trivial, ownM_one (h.1.obj 0 rfl) (by omega) rfl, by simp⟩
theorem st2_own {q : Qd} {n ga bh : Nat} {day seq b a cs : Int} {run : Bool} {ks : List Int} {w : World} (h : StX q n ga bh day seq b a cs run ks w) : OwnM n (own2 n ga) w := by
 obtain ⟨st, h1, h2, h3, h4, h5⟩ := h
 unfold OwnM own2
 simp only [List.forall_mem_cons]
 exact ⟨led_own h3, ownM_one (h1.obj 0 rfl) (by omega) rfl, ownM_one (h1.obj 2 rfl) (by omega) rfl, by simp⟩
end Bk
namespace Bk
open Go.RowKit Go.Deep Mp Mo
def micV (q : Qd) (dep d : Int) : Nat -> Int
 | 0 => 0
 | i + 1 => micV q dep d i + Acc.dayG dep q.rate (Bas.partN q.how (d + i)) (Bas.partD q.how) q.mo
theorem day_in {q : Qd} {dep x : Int} (hdep : 0 <= dep /\ dep <= 10000000000000) (hx : 1 <= x /\ x < 3652059) : 0 <= Acc.dayG dep q.rate (Bas.partN q.how x) (Bas.partD q.how) q.mo /\ Acc.dayG dep q.rate (Bas.partN q.how x) (Bas.partD q.how) q.mo <= 100000000000000001 := by
 obtain ⟨n0, n1⟩ := Bas.part_in (h := q.how) hx
 exact Acc.dayG_in hdep q.ok.rate n0 n1 (Bas.partD_in q.how).1 (Bas.part_ratio hx)
theorem mic_in {q : Qd} {dep d : Int} (hdep : 0 <= dep /\ dep <= 10000000000000) (hd : 1 <= d /\ d <= 3600000) : ∀ (i : Nat), i <= 32 -> 0 <= micV q dep d i /\ micV q dep d i <= 100000000000000001 * i
 | 0, _ => by show (0 : Int) <= 0 /\ (0 : Int) <= _; omega
 | i + 1, h => by
   have h1 := mic_in (q := q) hdep hd i (by omega)
   have h2 := day_in (q := q) (x := d + i) hdep (by omega)
   unfold micV
   omega
def whV (q : Qd) (dep d : Int) (i : Nat) : Int := Acc.payX (micV q dep d (i + 1)) (10000000000000 - dep)
def rsV (q : Qd) (dep d : Int) (i : Nat) : Int := Acc.payY (micV q dep d (i + 1)) (10000000000000 - dep)
theorem wh_in {q : Qd} {dep d : Int} {i : Nat} (hdep : 0 <= dep /\ dep <= 1000000000000) (hd : 1 <= d /\ d <= 3600000) (hi : i <= 31) :
 whV q dep d i = micV q dep d (i + 1) / 1000000 /\ rsV q dep d i = micV q dep d (i + 1) % 1000000 /\ Acc.payE (micV q dep d (i + 1)) (10000000000000 - dep) = 0 /\ 0 <= whV q dep d i /\ whV q dep d i <= 4000000000000 /\ 0 <= rsV q dep d i /\ rsV q dep d i <= 1000000 := by
 have h := mic_in (q := q) (dep := dep) ⟨hdep.1, by omega⟩ hd (i + 1) (by omega)
 have hb : Acc.payB (micV q dep d (i + 1)) (10000000000000 - dep) = true := by
  unfold Acc.payB
  simp only [decide_eq_true_eq]
  omega
 unfold whV rsV Acc.payX Acc.payY Acc.payE
 rw [if_pos hb, if_pos hb, if_pos hb]
 omega
inductive Pf (e : Bool) (dep m0 m1 wh rs : Int) : List Int -> Int -> Int -> Int -> Prop
 | a1 : e = true -> Pf e dep m0 m1 wh rs [1, 2, 3] 0 dep m0
 | a0 : e = false -> Pf e dep m0 m1 wh rs [1] 0 dep m0
 | b : e = true -> Pf e dep m0 m1 wh rs [2, 3] 0 dep m1
 | c : e = true -> Pf e dep m0 m1 wh rs [3] (wh + 1) (dep + wh) rs
 | d1 : e = true -> Pf e dep m0 m1 wh rs [] (wh + 1) (dep + wh) rs
 | d0 : e = false -> Pf e dep m0 m1 wh rs [] 0 dep m1
theorem Pf.len {e : Bool} {dep m0 m1 wh rs : Int} {ks : List Int} {p b a : Int} (h : Pf e dep m0 m1 wh rs ks p b a) : ks.length <= 3 := by cases h <;> simp
theorem Pf.begin (d : Int) {dep m0 m1 wh rs : Int} : Pf (Cal.endB d) dep m0 m1 wh rs (dueKs d) 0 dep m0 := by
 unfold dueKs
 cases h : Cal.endB d
 . exact .a0 rfl
 . exact .a1 rfl
def Fn (W : World) (q : Qd) (n ga bh : Nat) (dep d : Int) (i : Nat) (w : World) : Prop := Below W.heap.size W w /\ ∃ seq : Int, (0 <= seq /\ seq <= 3 + 6 * i) /\ StX q n ga bh (d + i) seq dep (micV q dep d i) dep false [] w
def Fe (W : World) (q : Qd) (n ga bh : Nat) (dep d : Int) (i : Nat) (w : World) : Prop := Below W.heap.size W w /\ ∃ seq : Int, StX q n ga bh (d + i + 1) seq (dep + whV q dep d i) (rsV q dep d i) dep false [] w
def Fm (W : World) (q : Qd) (n ga bh : Nat) (dep d : Int) (i : Nat) (p : Int) (dn : Bool) (m : Nat) (w : World) : Prop :=
 (dn = false /\ p = 0 /\ m = 6 /\ Fn W q n ga bh dep d i w) ∨
 (∃ ks b a, dn = false /\ Pf (Cal.endB (d + i)) dep (micV q dep d i) (micV q dep d (i + 1)) (whV q dep d i) (rsV q dep d i) ks p b a /\ m = ks.length + 1 /\ Below W.heap.size W w /\ ∃ seq : Int, (0 <= seq /\ seq + ks.length <= 3 + 6 * i + 5) /\ StX q n ga bh (d + i) seq b a dep true ks w) ∨
 (dn = true /\ m = 0 /\ ((Cal.endB (d + i) = false /\ p = 0 /\ Fn W q n ga bh dep d (i + 1) w) ∨ (Cal.endB (d + i) = true /\ p = whV q dep d i + 1 /\ Fe W q n ga bh dep d i w)))
def mu (n : Nat) (dn : Value) (w : World) : Nat := match dn with
 | .bool true => 0
 | _ => match w.cell? ⟨n + 7, 7, none⟩ with
   | some (.bool true) => (match w.cell? ⟨n + 7, 8, none⟩ with
     | some (.slice _ l _) => l + 1
     | _ => 0)
   | _ => 6
theorem stX_cells {q : Qd} {n ga bh : Nat} {day seq b a cs : Int} {run : Bool} {ks : List Int} {w : World} (h : StX q n ga bh day seq b a cs run ks w) : w.cell? ⟨n + 7, 0, none⟩ = some (.int .i64 day) /\ w.cell? ⟨n + 7, 7, none⟩ = some (.bool run) /\ ∃ A c, w.cell? ⟨n + 7, 8, none⟩ = some (.slice A ks.length c) := by
 obtain ⟨st, h1, _, _, h4, _⟩ := h
 obtain ⟨A, c, rfl, _⟩ := h4
 exact ⟨by rw [Blk.cell (h1.get 0 rfl) 0]; rfl, by rw [Blk.cell (h1.get 0 rfl) 7]; rfl, A, c, by rw [Blk.cell (h1.get 0 rfl) 8]; rfl⟩
theorem Fm.mu {W : World} {q : Qd} {n ga bh : Nat} {dep d : Int} {i : Nat} {p : Int} {dn : Bool} {m : Nat} {w : World} (h : Fm W q n ga bh dep d i p dn m w) : m = mu n (.bool dn) w := by
 rcases h with ⟨rfl, _, rfl, _, seq, _, h⟩ | ⟨ks, b, a, rfl, _, rfl, _, seq, _, h⟩ | ⟨rfl, rfl, _⟩
 . obtain ⟨_, c7, _⟩ := stX_cells h
   simp [Bk.mu, c7]
 . obtain ⟨_, c7, A, c, c8⟩ := stX_cells h
   simp [Bk.mu, c7, c8]
 . rfl
theorem Fm.fin {W : World} {q : Qd} {n ga bh : Nat} {dep d : Int} {i : Nat} {p : Int} {m : Nat} {w : World} (h : Fm W q n ga bh dep d i p true m w) : (Cal.endB (d + i) = false /\ p = 0 /\ Fn W q n ga bh dep d (i + 1) w) ∨ (Cal.endB (d + i) = true /\ p = whV q dep d i + 1 /\ Fe W q n ga bh dep d i w) := by
 rcases h with ⟨e, _⟩ | ⟨ks, b, a, e, _⟩ | ⟨_, _, h⟩
 . cases e
 . cases e
 . exact h
theorem Fn.step {W : World} {q : Qd} {n ga bh : Nat} {dep d : Int} {i : Nat} {w w' : World} (h : Fn W q n ga bh dep d i w) (hb : Below w.heap.size w w') : Fn W q n ga bh dep d i w' := by
 obtain ⟨h1, seq, h2, h4⟩ := h
 exact ⟨h1.trans (hb.mono h1.size), seq, h2, h4.step hb⟩
theorem Fe.step {W : World} {q : Qd} {n ga bh : Nat} {dep d : Int} {i : Nat} {w w' : World} (h : Fe W q n ga bh dep d i w) (hb : Below w.heap.size w w') : Fe W q n ga bh dep d i w' := by
 obtain ⟨h1, seq, h4⟩ := h
 exact ⟨h1.trans (hb.mono h1.size), seq, h4.step hb⟩
theorem Fm.step {W : World} {q : Qd} {n ga bh : Nat} {dep d : Int} {i : Nat} {p : Int} {dn : Bool} {m : Nat} {w w' : World} (h : Fm W q n ga bh dep d i p dn m w) (hb : Below w.heap.size w w') : Fm W q n ga bh dep d i p dn m w' := by
 rcases h with ⟨e1, e2, e3, h⟩ | ⟨ks, b, a, e1, e2, e3, h1, seq, h2, h4⟩ | ⟨e1, e2, h⟩
 . exact .inl ⟨e1, e2, e3, h.step hb⟩
 . exact .inr (.inl ⟨ks, b, a, e1, e2, e3, h1.trans (hb.mono h1.size), seq, h2, h4.step hb⟩)
 . refine .inr (.inr ⟨e1, e2, ?_⟩)
   rcases h with ⟨g1, g2, g3⟩ | ⟨g1, g2, g3⟩
   . exact .inl ⟨g1, g2, g3.step hb⟩
   . exact .inr ⟨g1, g2, g3.step hb⟩
theorem below_own2 {W w w' : World} {n : Nat} {own : List Nat} (h : Below W.heap.size W w) (hn : W.heap.size <= n) (ho : OwnM n own w) (hk : Keep own w w') : Below W.heap.size W w' := ((Keep.of_below (S := []) h).trans hk (fun k hm => .inr (by have := (ho k hm).1; omega))).below
theorem Pf.step {e : Bool} {q : Qd} {dep d : Int} {i : Nat} {k : Int} {ks : List Int} {p b a : Int} (h : Pf e dep (micV q dep d i) (micV q dep d (i + 1)) (whV q dep d i) (rsV q dep d i) (k :: ks) p b a) :
 (k = 1 ∨ k = 2 ∨ k = 3) /\ ∃ p', ((k = 2 /\ p' = worthV q (d + i) k b a + 1) ∨ (k ≠ 2 /\ p' = p)) /\ Pf e dep (micV q dep d i) (micV q dep d (i + 1)) (whV q dep d i) (rsV q dep d i) ks p' (stepB k b a (worthV q (d + i) k b a)) (stepA k b a (worthV q (d + i) k b a)) := by
 have k1 : ∀ b a, stepB 1 b a (worthV q (d + i) 1 b a) = b /\ stepA 1 b a (worthV q (d + i) 1 b a) = a + Acc.dayG b q.rate (Bas.partN q.how (d + i)) (Bas.partD q.how) q.mo := fun b a => ⟨rfl, rfl⟩
 have k2 : ∀ b a, stepB 2 b a (worthV q (d + i) 2 b a) = b + Acc.payX a (10000000000000 - b) /\ stepA 2 b a (worthV q (d + i) 2 b a) = Acc.payY a (10000000000000 - b) := fun b a => ⟨rfl, rfl⟩
 have k3 : ∀ b a, stepB 3 b a (worthV q (d + i) 3 b a) = b /\ stepA 3 b a (worthV q (d + i) 3 b a) = a := fun b a => ⟨by show b - 0 = b; omega, rfl⟩
 cases h with
 | a1 h => rw [(k1 _ _).1, (k1 _ _).2]; exact ⟨.inl rfl, 0, .inr ⟨by omega, rfl⟩, .b h⟩
 | a0 h => rw [(k1 _ _).1, (k1 _ _).2]; exact ⟨.inl rfl, 0, .inr ⟨by omega, rfl⟩, .d0 h⟩
 | b h => rw [(k2 _ _).1, (k2 _ _).2]; exact ⟨.inr (.inl rfl), _, .inl ⟨rfl, rfl⟩, .c h⟩
 | c h => rw [(k3 _ _).1, (k3 _ _).2]; exact ⟨.inr (.inr rfl), _, .inr ⟨by omega, rfl⟩, .d1 h⟩
theorem Pf.inb {e : Bool} {q : Qd} {dep d : Int} {i : Nat} {ks : List Int} {p b a : Int} (h : Pf e dep (micV q dep d i) (micV q dep d (i + 1)) (whV q dep d i) (rsV q dep d i) ks p b a) (hdep : 0 <= dep /\ dep <= 1000000000000) (hd : 1 <= d /\ d <= 3600000) (hi : i <= 31) :
 (0 <= b /\ b <= 10000000000000) /\ (0 <= a /\ a <= 4000000000000000000) := by
 have h0 := mic_in (q := q) (dep := dep) ⟨hdep.1, by omega⟩ hd i (by omega)
 have h1 := mic_in (q := q) (dep := dep) ⟨hdep.1, by omega⟩ hd (i + 1) (by omega)
 have h2 := wh_in (q := q) hdep hd hi
 cases h <;> refine ⟨⟨?_, ?_⟩, ?_, ?_⟩ <;> omega
theorem Pf.done {e : Bool} {dep m0 m1 wh rs p b a : Int} (h : Pf e dep m0 m1 wh rs [] p b a) : (e = false /\ p = 0 /\ b = dep /\ a = m1) ∨ (e = true /\ p = wh + 1 /\ b = dep + wh /\ a = rs) := by
 cases h with
 | d1 h => exact .inr ⟨h, rfl, rfl, rfl⟩
 | d0 h => exact .inl ⟨h, rfl, rfl, rfl⟩
theorem Fm.round {W : World} {q : Qd} {n ga bh : Nat} {dep d : Int} {i : Nat} {p : Int} {m : Nat} {w : World} (h : Fm W q n ga bh dep d i p false m w) (hn : W.heap.size <= n) (hi : i <= 31) (hdep : 0 <= dep /\ dep <= 1000000000000) (hd : 1 <= d /\ d <= 3600000) :
 ∃ (op n0 n1 n2 p' : Int) (dn' : Bool) (m' : Nat), (0 <= n2 /\ n2 <= 1000000000000000000) /\ ((op = 13 /\ n1 = 0 /\ p' = p /\ dn' = false) ∨ (op = 14 /\ n1 = 1 /\ p' = p /\ dn' = false) ∨ (op = 14 /\ n1 = 2 /\ p' = n2 + 1 /\ dn' = false) ∨ (op = 14 /\ n1 = 3 /\ p' = p /\ dn' = false) ∨ (op = 15 /\ n1 = 0 /\ p' = p /\ dn' = true)) /\ m' < m /\
   (∀ w1, Below w.heap.size w w1 -> Calls Tryz.prog 11 #[.pointer (some ⟨n + 7, 0, none⟩)] w1 fun e w' => e = .returned (.tuple #[.agg (evE op n0 n1 n2 0 0 0 0 0 (.slice none 0 0)), .int .i64 0]) /\ Below w1.heap.size w1 w') /\
   ∀ w1, Below w.heap.size w w1 -> OwnM n (own2 n ga) w1 /\ Calls Tryz.prog 7 #[.pointer (some ⟨n + 7, 0, none⟩), .agg (evE op n0 n1 n2 0 0 0 0 0 (.slice none 0 0))] w1 fun e w' => e = .returned (.int .i64 0) /\ Keep (own2 n ga) w1 w' /\ Fm W q n ga bh dep d i p' dn' m' w' := by
 rcases h with ⟨_, rfl, rfl, hb, seq, h2, h4⟩ | ⟨ks, b, a, _, hph, rfl, hb, seq, h2, h4⟩ | ⟨e, _⟩
 . refine ⟨13, d + i, 0, 0, 0, false, (dueKs (d + i)).length + 1, by omega, .inl ⟨rfl, rfl, rfl, rfl⟩, by have := (Pf.begin (d + i) (dep := 0) (m0 := 0) (m1 := 0) (wh := 0) (rs := 0)).len; omega, fun w1 hw => nextB_ok q n ga bh (d + i) seq dep (micV q dep d i) dep (by omega) w1 (h4.step hw), fun w1 hw => ⟨st2_own (h4.step hw), ?_⟩⟩
   refine (applyB_ok q n ga bh (d + i) seq dep (micV q dep d i) dep (by omega) (by omega) w1 (h4.step hw)).mono fun e w' he => ⟨he.1, he.2.1, .inr (.inl ⟨dueKs (d + i), _, _, rfl, Pf.begin _, rfl, below_own2 (hb.trans (hw.mono hb.size)) hn (st2_own (h4.step hw)) he.2.1, seq + 1, ?_, he.2.2⟩)⟩
   have := (Pf.begin (d + i) (dep := 0) (m0 := 0) (m1 := 0) (wh := 0) (rs := 0)).len
   omega
 . cases ks with
   | nil =>
     refine ⟨15, d + i + 1, 0, 0, p, true, 0, by omega, .inr (.inr (.inr (.inr ⟨rfl, rfl, rfl, rfl⟩))), by omega, fun w1 hw => nextR_ok q n ga bh (d + i) seq b a dep (by omega) w1 (h4.step hw), fun w1 hw => ⟨st2_own (h4.step hw), ?_⟩⟩
     refine (applyR_ok q n ga bh (d + i) seq b a dep (by simp at h2; omega) (by omega) w1 (h4.step hw)).mono fun e w' he => ⟨he.1, he.2.1, .inr (.inr ⟨rfl, rfl, ?_⟩)⟩
     have hb2 := below_own2 (hb.trans (hw.mono hb.size)) hn (st2_own (h4.step hw)) he.2.1
     rcases hph.done with ⟨g1, g2, rfl, rfl⟩ | ⟨g1, g2, rfl, rfl⟩
     . refine .inl ⟨g1, g2, hb2, seq + 1, ?_, ?_⟩
       . simp at h2; omega
       . rw [show d + ((i + 1 : Nat) : Int) = d + i + 1 by omega]; exact he.2.2
     . exact .inr ⟨g1, g2, hb2, seq + 1, he.2.2⟩
   | cons k ks =>
     obtain ⟨hb1, ha1⟩ := hph.inb hdep hd hi
     obtain ⟨hk, p', hp', hph'⟩ := hph.step
     have hl := hph.len
     have hsq : 0 <= seq /\ seq <= 1000000000 := by simp at h2; omega
     refine ⟨14, 10, k, worthV q (d + i) k b a, p', false, ks.length + 1, worth_in (by omega) hb1 ha1, ?_, by simp, fun w1 hw => nextS_ok q n ga bh (d + i) seq b a dep k ks hk (by omega) hb1 w1 (h4.step hw), fun w1 hw => ⟨st2_own (h4.step hw), ?_⟩⟩
     . rcases hp' with ⟨rfl, rfl⟩ | ⟨h2, rfl⟩
       . exact .inr (.inr (.inl ⟨rfl, rfl, rfl, rfl⟩))
       . rcases hk with rfl | rfl | rfl
         . exact .inr (.inl ⟨rfl, rfl, rfl, rfl⟩)
         . exact absurd rfl h2
         . exact .inr (.inr (.inr (.inl ⟨rfl, rfl, rfl, rfl⟩)))
     . refine (applyS_ok q n ga bh (d + i) seq b a dep k ks hsq hk (by omega) hb1 ha1 w1 (h4.step hw)).mono fun e w' he => ⟨he.1, he.2.1, .inr (.inl ⟨ks, _, _, rfl, hph', rfl, below_own2 (hb.trans (hw.mono hb.size)) hn (st2_own (h4.step hw)) he.2.1, seq + 1, ?_, he.2.2⟩)⟩
       simp at h2
       omega
 . cases e
end Bk
namespace Bk
open Go.RowKit Go.Deep Mp Mo
open Cal (results_one results_two results_three)
theorem seq_ok (gm : Nat) (seq : Int) (W : World) (c6 : W.cell? ⟨gm, 6, none⟩ = some (.int .i64 seq)) : Calls Tryz.prog 55 #[.pointer (some ⟨gm, 0, none⟩)] W fun e w' => e = .returned (.int .i64 seq) /\ w' = W := by
 go_enter Tryz.func55, Tryz.ntmps55
 go_wp2_with fail
 exact bodyPost_ret (results_one rfl _ _ rfl) rfl ⟨rfl, rfl⟩
theorem mday_ok (gm : Nat) (day : Int) (W : World) (c0 : W.cell? ⟨gm, 0, none⟩ = some (.int .i64 day)) : Calls Tryz.prog 8 #[.pointer (some ⟨gm, 0, none⟩)] W fun e w' => e = .returned (.int .i64 day) /\ w' = W := by
 go_enter Tryz.func8, Tryz.ntmps8
 go_wp2_with fail
 exact bodyPost_ret (results_one rfl _ _ rfl) rfl ⟨rfl, rfl⟩
theorem bday_ok (gb gm : Nat) (day : Int) (W : World) (c2 : W.cell? ⟨gb, 2, none⟩ = some (.pointer (some ⟨gm, 0, none⟩))) (c0 : W.cell? ⟨gm, 0, none⟩ = some (.int .i64 day)) : Calls Tryz.prog 21 #[.pointer (some ⟨gb, 0, none⟩)] W fun e w' => e = .returned (.int .i64 day) /\ w' = W := by
 go_enter Tryz.func21, Tryz.ntmps21
 go_wp2_with fail
 refine (mday_ok gm day W c0).mono ?_
 rintro e w' ⟨rfl, hw⟩
 obtain rfl : W = w' := hw.symm
 go_wp2_with fail
 exact bodyPost_ret (results_one rfl _ _ rfl) rfl ⟨rfl, rfl⟩
def tierC : Array Value := #[.int .i64 0, .int .i64 36500000]
def storyC (g : Nat) : Array Value := ((evE 1 1 1 0 1 1 0 0 500 (.slice (some ⟨g, 0, none⟩) 1 1)).toList ++ (evE 2 10 1 0 0 0 0 0 0 (.slice none 0 0)).toList ++ (evE 4 10 1000000 0 0 0 0 0 0 (.slice none 0 0)).toList).toArray
def storyW (W : World) : World := (W.alloc (.cells tierC 31)).alloc (.cells (storyC W.heap.size) 34)
theorem story_ok (W : World) : Calls Tryz.prog 18 #[] W fun e w' => e = .returned (.slice (some ⟨W.heap.size + 1, 0, none⟩) 3 3) /\ w' = storyW W := by
 go_enter Tryz.func18, Tryz.ntmps18
 go_wp2_with fail
 exact bodyPost_ret (results_one rfl _ _ rfl) rfl ⟨by first | rfl | simp, by first | rfl | (unfold storyW storyC tierC evE; simp)⟩
theorem goes_ok (n : Int) (W : World) : Calls Tryz.prog 20 #[.int .i64 n] W fun e w' => e = .returned (.agg (evE 13 n 0 0 0 0 0 0 0 (.slice none 0 0))) /\ Below W.heap.size W w' := by
 go_enter Tryz.func20, Tryz.ntmps20
 go_wp2_with fail
 exact bodyPost_ret (results_cell_row rfl _ _ W.heap.size 34 (evE 13 n 0 0 0 0 0 0 0 (.slice none 0 0)) (0, 0) _ rfl ((Blk.new _ _ _).alloc _) Tryz.underlying34 rfl (by kernel_rfl)) rfl ⟨rfl, Below.al (Below.al (Below.refl _ _) _) _⟩
end Bk
end Go.Proofs.YtkdnebalpdebeaaGreatDoor
