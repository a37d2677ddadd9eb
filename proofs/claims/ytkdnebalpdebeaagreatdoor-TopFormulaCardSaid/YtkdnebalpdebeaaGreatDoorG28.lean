/- Lemmas of a claim: FoQ, TrP, TrA, AcT, FoR -/
import Derived.Test.YtkdnebalpdebeaaGreatDoorG27
set_option linter.unusedVariables false
set_option linter.unusedSimpArgs false
set_option maxHeartbeats 16000000
set_option maxRecDepth 100000
namespace Go.Proofs.YtkdnebalpdebeaaGreatDoor
namespace Bk
open Go.RowKit Go.Deep Mp Mo
open Pr (TS)
theorem below_turnT {W w w' : World} {g : Nat} {o : Obj} (h : Below W.heap.size W w) (ht : Turn w g o w') (hg : W.heap.size <= g) : Below W.heap.size W w' := ((Keep.of_below (S := []) h).trans ht.keep (fun k hk => .inr (by simp only [List.mem_singleton] at hk; subst hk; exact hg))).below
def evP (q : Qd) (g : Nat) : Array Value := evE 1 1 1 0 1 q.how q.mo 0 q.lim (.slice (some ⟨g, 0, none⟩) 1 1)
def evO : Array Value := evE 2 10 1 0 0 0 0 0 0 (.slice none 0 0)
def evD (dep : Int) : Array Value := evE 4 10 dep 0 0 0 0 0 0 (.slice none 0 0)
def evsQ (q : Qd) (dep : Int) (g : Nat) : Array Value := ((evP q g).toList ++ evO.toList ++ (evD dep).toList).toArray
def evQ (q : Qd) (dep : Int) (g : Nat) : Nat -> Array Value
 | 0 => evP q g
 | 1 => evO
 | _ => evD dep
theorem evsQ_part (q : Qd) (dep : Int) (g i : Nat) (h : i <= 2) : ∀ (j : Nat) (v : Value), (evQ q dep g i).toList[j]? = some v -> (evsQ q dep g)[11 * i + j]? = some v := by
 have hi : i = 0 ∨ i = 1 ∨ i = 2 := by omega
 intro j v hv
 have hj : j < 11 := by
  have := (List.getElem?_eq_some_iff.1 hv).1
  rcases hi with rfl | rfl | rfl <;> exact this
 rcases hi with rfl | rfl | rfl <;> (rcases j with _|_|_|_|_|_|_|_|_|_|_|j <;> first | exact hv | omega)
def tierQ (q : Qd) : Array Value := #[.int .i64 0, .int .i64 q.rate]
theorem ts_tierQ {q : Qd} {g : Nat} {w : World} (h : w.heap[g]? = some (.cells (tierQ q) 31)) : TS q.rate w (.slice (some ⟨g, 0, none⟩) 1 1) := ⟨g, 1, _, rfl, h, rfl, rfl⟩
def Tq (q : Qd) (n : Nat) (d dep : Int) (i : Nat) (w : World) : Prop :=
 (i = 0 /\ St0 n d w) ∨ (i = 1 /\ St1 q n d w) ∨ (i = 2 /\ ∃ ga bh, StX q n ga bh d 2 0 0 0 false [] w) ∨ (i = 3 /\ ∃ ga bh, StX q n ga bh d 3 dep 0 dep false [] w)
theorem Tq.step {q : Qd} {n : Nat} {d dep : Int} {i : Nat} {w w' : World} (h : Tq q n d dep i w) (hb : Below w.heap.size w w') : Tq q n d dep i w' := by
 rcases h with ⟨e, h⟩ | ⟨e, h⟩ | ⟨e, ga, bh, h⟩ | ⟨e, ga, bh, h⟩
 . exact .inl ⟨e, h.step hb⟩
 . exact .inr (.inl ⟨e, h.step hb⟩)
 . exact .inr (.inr (.inl ⟨e, ga, bh, h.step hb⟩))
 . exact .inr (.inr (.inr ⟨e, ga, bh, h.step hb⟩))
def Lq (W : World) (q : Qd) (n : Nat) (d dep : Int) (g0 x i : Nat) (w : World) : Prop := Below W.heap.size W w /\ w.heap[x]? = some (.cells (evsQ q dep g0) 34) /\ (i = 0 -> w.heap[g0]? = some (.cells (tierQ q) 31)) /\ Tq q n d dep i w
section
variable {W : World} {q : Qd} {n : Nat} {d dep : Int} {g0 x i : Nat} {w w' : World}
theorem Lq.step (h : Lq W q n d dep g0 x i w) (hb : Below w.heap.size w w') : Lq W q n d dep g0 x i w' :=
 ⟨h.1.trans (hb.mono h.1.size), (hb.block _ (obj_lt h.2.1)).trans h.2.1, fun e => (hb.block _ (obj_lt (h.2.2.1 e))).trans (h.2.2.1 e), h.2.2.2.step hb⟩
theorem Lq.next {own : List Nat} (h : Lq W q n d dep g0 x i w) (hn : W.heap.size <= n) (ho : OwnM n own w) (hk : Keep own w w') (hT : Tq q n d dep (i + 1) w') : Lq W q n d dep g0 x (i + 1) w' :=
 ⟨((Keep.of_below (S := []) h.1).trans hk (fun k hm => .inr (by have := (ho k hm).1; omega))).below, (hk.block _ (obj_lt h.2.1) (ho.not_mem h.2.1 rfl)).trans h.2.1, fun e => by omega, hT⟩
theorem Lq.s0 (h : Lq W q n d dep g0 x 0 w) : St0 n d w := by
 rcases h.2.2.2 with ⟨_, h⟩ | ⟨e, _⟩ | ⟨e, _⟩ | ⟨e, _⟩
 . exact h
 all_goals cases e
theorem Lq.s1 (h : Lq W q n d dep g0 x 1 w) : St1 q n d w := by
 rcases h.2.2.2 with ⟨e, _⟩ | ⟨_, h⟩ | ⟨e, _⟩ | ⟨e, _⟩
 . cases e
 . exact h
 all_goals cases e
theorem Lq.s2 (h : Lq W q n d dep g0 x 2 w) : ∃ ga bh, StX q n ga bh d 2 0 0 0 false [] w := by
 rcases h.2.2.2 with ⟨e, _⟩ | ⟨e, _⟩ | ⟨_, h⟩ | ⟨e, _⟩
 . cases e
 . cases e
 . exact h
 . cases e
theorem Lq.s3 (h : Lq W q n d dep g0 x 3 w) : ∃ ga bh, StX q n ga bh d 3 dep 0 dep false [] w := by
 rcases h.2.2.2 with ⟨e, _⟩ | ⟨e, _⟩ | ⟨e, _⟩ | ⟨_, h⟩
 . cases e
 . cases e
 . cases e
 . exact h
theorem lq_apply0 (hn : W.heap.size <= n) (h : Lq W q n d dep g0 x 0 w) (A : Option Addr) (k c : Nat) (hs : TS q.rate w (.slice A k c)) :
 Calls Tryz.prog 7 #[.pointer (some ⟨n + 7, 0, none⟩), .agg (evE 1 1 1 0 1 q.how q.mo 0 q.lim (.slice A k c))] w fun e w' => e = .returned (.int .i64 0) /\ Lq W q n d dep g0 x 1 w' :=
 (applyP_ok q n d A k c w h.s0 hs).mono fun e w' he => ⟨he.1, h.next hn (st0_own h.s0) he.2.1 (.inr (.inl ⟨rfl, he.2.2⟩))⟩
theorem lq_apply1 (hn : W.heap.size <= n) (hd : 1 <= d /\ d <= 3652059) (h : Lq W q n d dep g0 x 1 w) :
 Calls Tryz.prog 7 #[.pointer (some ⟨n + 7, 0, none⟩), .agg (evE 2 10 1 0 0 0 0 0 0 (.slice none 0 0))] w fun e w' => e = .returned (.int .i64 0) /\ Lq W q n d dep g0 x 2 w' :=
 (applyO_ok q n d hd w h.s1).mono fun e w' he => ⟨he.1, by
   obtain ⟨_, h2, ga, bh, _, h3⟩ := he
   exact h.next hn (st1_own h.s1) h2 (.inr (.inr (.inl ⟨rfl, ga, bh, h3⟩)))⟩
theorem lq_apply2 (hdep : 1 <= dep /\ dep <= 1000000000000) (hn : W.heap.size <= n) (h : Lq W q n d dep g0 x 2 w) :
 Calls Tryz.prog 7 #[.pointer (some ⟨n + 7, 0, none⟩), .agg (evE 4 10 dep 0 0 0 0 0 0 (.slice none 0 0))] w fun e w' => e = .returned (.int .i64 0) /\ Lq W q n d dep g0 x 3 w' := by
 obtain ⟨ga, bh, hs⟩ := h.s2
 refine (applyD_ok q n ga bh d 2 0 0 0 dep (by omega) (by omega) (by omega) (by omega) w hs).mono fun e w' he => ⟨he.1, ?_⟩
 have h3 := he.2.2
 rw [show (0 : Int) + dep = dep by omega] at h3
 exact h.next hn (st2_own hs) he.2.1 (.inr (.inr (.inr ⟨rfl, ga, bh, h3⟩)))
theorem lq_plan0 (h : Lq W q n d dep g0 x 0 w) :
 Calls Tryz.prog 6 #[.pointer (some ⟨n + 7, 0, none⟩), .agg (evP q g0)] w fun e w' => (∃ A' k' c', e = .returned (.tuple #[.agg (evE 1 1 1 0 1 q.how q.mo 0 q.lim (.slice A' k' c')), .int .i64 0, .int .i64 0]) /\ TS q.rate w' (.slice A' k' c')) /\ Below w.heap.size w w' :=
 planP_ok q n d (some ⟨g0, 0, none⟩) 1 1 w h.s0 (ts_tierQ (h.2.2.1 rfl))
theorem lq_plan1 (hd : 1 <= d /\ d <= 3652059) (h : Lq W q n d dep g0 x 1 w) :
 Calls Tryz.prog 6 #[.pointer (some ⟨n + 7, 0, none⟩), .agg evO] w fun e w' => e = .returned (.tuple #[.agg (evE 2 10 1 0 0 0 0 0 0 (.slice none 0 0)), .int .i64 0, .int .i64 0]) /\ Below w.heap.size w w' :=
 (planO_ok q n d hd w h.s1).mono fun e w' he => by
   obtain ⟨⟨A', k', c', h1, h2⟩, h3⟩ := he
   cases h2
   exact ⟨h1, h3⟩
theorem lq_plan2 (hdep : 1 <= dep /\ dep <= 1000000000000) (h : Lq W q n d dep g0 x 2 w) :
 Calls Tryz.prog 6 #[.pointer (some ⟨n + 7, 0, none⟩), .agg (evD dep)] w fun e w' => e = .returned (.tuple #[.agg (evE 4 10 dep 0 0 0 0 0 0 (.slice none 0 0)), .int .i64 dep, .int .i64 0]) /\ Below w.heap.size w w' := by
 obtain ⟨ga, bh, hs⟩ := h.s2
 refine (planD_ok q n ga bh d 2 0 0 0 dep (by omega) (by omega) (by omega) w hs).mono fun e w' he => ?_
 obtain ⟨⟨A', k', c', h1, h2⟩, h3⟩ := he
 cases h2
 exact ⟨h1, h3⟩
end
def Lo (W : World) (q : Qd) (n ga bh : Nat) (dep d : Int) (i : Nat) (p : Int) (w : World) : Prop :=
 (p = 0 /\ i <= 30 /\ (∀ j : Nat, j < i -> Cal.endB (d + j) = false) /\ Fn W q n ga bh dep d i w) ∨ ∃ j : Nat, i = j + 1 /\ j <= 30 /\ p = whV q dep d j + 1 /\ Fe W q n ga bh dep d j w
theorem Lo.start {W : World} {q : Qd} {n ga bh : Nat} {dep d : Int} {w : World} (hb : Below W.heap.size W w) (h : StX q n ga bh d 3 dep 0 dep false [] w) : Lo W q n ga bh dep d 0 0 w :=
 .inl ⟨rfl, by omega, fun j h => absurd h (Nat.not_lt_zero _), hb, 3, by omega, by rw [show d + ((0 : Nat) : Int) = d by simp]; exact h⟩
theorem Lo.next {W : World} {q : Qd} {n ga bh : Nat} {dep d : Int} {i : Nat} {p : Int} {w : World} (hd : 1 <= d /\ d <= 3600000) (hi : i <= 30) (hj : ∀ j : Nat, j < i -> Cal.endB (d + j) = false)
 (h : (Cal.endB (d + i) = false /\ p = 0 /\ Fn W q n ga bh dep d (i + 1) w) ∨ (Cal.endB (d + i) = true /\ p = whV q dep d i + 1 /\ Fe W q n ga bh dep d i w)) : Lo W q n ga bh dep d (i + 1) p w := by
 rcases h with ⟨h1, h2, h3⟩ | ⟨h1, h2, h3⟩
 . have hall : ∀ j : Nat, j < i + 1 -> Cal.endB (d + j) = false := fun j hjj => by
    by_cases e : j = i
    . rw [e]; exact h1
    . exact hj j (by omega)
   refine .inl ⟨h2, ?_, hall, h3⟩
   obtain ⟨k, hk, he⟩ := Cal.month_ends (n := d) (by omega)
   by_cases hki : k < i + 1
   . rw [hall k hki] at he; cases he
   . omega
 . exact .inr ⟨i, rfl, hi, h2, h3⟩
end Bk
namespace Mo
open Go.RowKit Go.Deep Mp Ch
def trC (f : Int -> Int) : Nat -> List Int
 | 0 => []
 | k + 1 => trC f k ++ (if f ((k + 1 : Nat) : Int) ≠ 0 then [((k + 1 : Nat) : Int)] else [])
def trV (f : Int -> Int) (l : List Int) : List Value := l.flatMap (fun c => (lineE c 0 (f c * 1000000000000) 12).toList)
theorem trC_len (f : Int -> Int) : ∀ k, (trC f k).length <= k
 | 0 => by simp [trC]
 | k + 1 => by
   have := trC_len f k
   unfold trC
   split <;> simp <;> omega
theorem trV_app (f : Int -> Int) (l : List Int) (c : Int) : trV f (l ++ [c]) = trV f l ++ (lineE c 0 (f c * 1000000000000) 12).toList := by
 simp [trV]
theorem trV_cons (f : Int -> Int) (l : List Int) (c : Int) : trV f (c :: l) = (lineE c 0 (f c * 1000000000000) 12).toList ++ trV f l := by
 simp [trV]
end Mo
namespace Mo
open Go.RowKit Go.Deep Mp
open Cal (results_one)
open Ch
open Dec (decE InT)
def lineZ : Array Value := #[.int .i64 0, .int .i64 0, .int .i64 0, .int .u64 0, .int .i64 0]
theorem lineInfo : ∃ i, Tryz.prog.info? 58 = some i /\ i.zero = some (.agg lineZ) /\ i.size = 5 /\ i.bytes = 40 := ⟨_, rfl, by kernel_rfl, by kernel_rfl, by kernel_rfl⟩
theorem own_type' {w : World} {base size n : Nat} {e : TypeId} {v : Value} {xs : List Value} (h : w.ownsRow base e size v n xs) : ∀ r, v.ownBlock = some r -> base <= r /\ ∃ cur, w.heap[r]? = some (.cells cur e) := by
 intro r hr
 obtain ⟨h1, h2 | ⟨g, c, cur, rfl, hb, hg, h4⟩⟩ := h
 . rw [h2.1] at hr; cases hr
 . cases hr; exact ⟨hb, _, hg⟩
theorem reads_new' {w : World} {t : TypeId} {cs : Array Value} {n size : Nat} (h : cs.size = n * size) : Reads (w.alloc (.cells cs t)) (w.heap.size + 1) size (some ⟨w.heap.size, 0, none⟩) n cs.toList :=
 ⟨by simpa using h, fun _ => ⟨_, rfl, by simp, fun j u hu => by rw [Addr.add_lit, Nat.zero_add, Blk.cell (t := t) (cs := cs) (heap_alloc_new _ _)]; simpa using hu⟩⟩
theorem atT_ok (f : Int -> Int) (L : List Ent) (hL : LX f L) (x y : Int) (hx : 1 <= x /\ x <= 8) (hy : 0 <= y /\ y <= 3) (b cl : Nat) (W : World) (hm : Map W b L cl) :
 Calls Tryz.prog 87 #[.map (some b), .agg #[.int .i64 x, .int .i64 y]] W fun e w' => e = .returned (amt (if y = 0 then f x else 0)) /\ Below W.heap.size W w' := by
 by_cases h : y = 0
 . subst h
   rw [if_pos rfl]
   exact at_ok L x (f x) (by unfold InR; omega) hL.1 (hL.2 x) b cl W hm
 . rw [if_neg h]
   exact atY_ok L x y 0 (by unfold InR; omega) (by unfold InR; omega) hL.1 (.inl ⟨hL.1.far x h 0, rfl⟩) b cl W hm
theorem trial_ok (f : Int -> Int) (hf : FB 10000000000000000000000 f) (gl : Nat) (W : World) (hl : Led f gl W) :
 Calls Tryz.prog 41 #[.pointer (some ⟨gl, 0, none⟩)] W fun e w' => (∃ v, e = .returned v /\ w'.ownsRow W.heap.size 58 5 v (trC f 8).length (trV f (trC f 8))) /\ Below W.heap.size W w' := by
 obtain ⟨b, cl, L, nn, hgl, hm, hL, hB, _⟩ := hl
 have CA := Hd (fun x y hx hy w hb => atT_ok f L hL x y hx hy b cl w (hm.step hb))
 have HGL := Hd hgl
 have HF := Hd hf
 clear hL hm hf hB hgl
 go_enter Tryz.func41, Tryz.ntmps41
 go_wp2_with fail
 go_loopw [3, 4] (fun v t wr => ∃ (k : Nat) (A : Option Addr) (cc : Nat), k <= 8 /\ t = .int .i64 ((k : Int) + 1) /\ v = .slice A (trC f k).length cc /\ Hi (wr.ownsRow W.heap.size 58 5 (.slice A (trC f k).length cc) (trC f k).length (trV f (trC f k))) /\ Hi (Below W.heap.size W wr)) (fun _ t _ => (9 - intOf t).toNat)
 case atStart => exact ⟨0, none, 0, by omega, rfl, rfl, Hd (World.ownsRow_nil W _ _ _), Hd (Below.refl _ _)⟩
 case round =>
  obtain ⟨k, A, cc, hk, rfl, rfl, HO, HB⟩ := hrel
  by_cases hk8 : k < 8
  . have hlt : decide ((k : Int) + 1 <= 8) = true := by simp; omega
    go_wp2_with fail
    go_loopw [3, 5] (fun v t wx => ∃ (y : Nat) (A : Option Addr) (cc : Nat), y <= 4 /\ t = .int .i64 (y : Int) /\ ∃ l : List Int, Hi (l = if y = 0 then trC f k else trC f (k + 1)) /\ v = .slice A l.length cc /\ Hi (wx.ownsRow W.heap.size 58 5 (.slice A l.length cc) l.length (trV f l)) /\ Hi (Below W.heap.size W wx)) (fun _ t _ => (4 - intOf t).toNat)
    case atStart => exact ⟨0, A, cc, by omega, rfl, trC f k, Hd rfl, rfl, HO, HB⟩
    case round =>
     obtain ⟨y, A1, c1, hy, rfl, l, HL, rfl, HO1, HB1⟩ := hrel
     by_cases hy4 : y < 4
     . have c0 : wr.cell? ⟨gl, 0, none⟩ = some (.map (some b)) := by rw [Blk.cell (t := 147) ((HB1.o.block _ (obj_lt HGL.o)).trans HGL.o) 0]; rfl
       go_wp2_with fail
       refine (CA.o _ _ (by omega) (by omega) _ HB1.o).mono ?_
       rintro e w2 ⟨rfl, hb2⟩
       have HB2 := Hd (HB1.o.trans (hb2.mono HB1.o.size))
       have HO2 := Hd (own_below HO1.o hb2)
       obtain ⟨d, hd⟩ : ∃ d : Int, d = if (y : Int) = 0 then f ((k : Int) + 1) else 0 := ⟨_, rfl⟩
       rw [<- hd]
       have hdb : -10000000000000000000000 <= d /\ d <= 10000000000000000000000 := by
        rw [hd]; split
        . exact HF.o _
        . omega
       obtain ⟨c, hc⟩ : ∃ c : Int, c = d * 1000000000000 := ⟨_, rfl⟩
       have hne := fun w => neqDec (c := c) (by unfold InT; omega) w
       obtain ⟨rb, hrb⟩ : ∃ rb, rb = decide (c ≠ 0) := ⟨_, rfl⟩
       rw [<- hrb] at hne
       have HRB := Hd hrb
       have HNE := Hd hne
       have HD := Hd hd
       have HC := Hd hc
       unfold amt
       rw [<- hc]
       obtain ⟨hv, hhv⟩ : ∃ q, q = c / 18446744073709551616 := ⟨_, rfl⟩
       obtain ⟨lv, hlv⟩ : ∃ q, q = c % 18446744073709551616 := ⟨_, rfl⟩
       have HHV := Hd (And.intro hhv hlv)
       have HE : Hi (decE c 12 = #[.int .i64 hv, .int .u64 lv, .int .i64 12]) := Hd (by rw [hhv, hlv]; rfl)
       rw [HE.o] at HNE ⊢
       clear hb2 hdb hne hrb hd hc hhv hlv c0 HB1 HO1
       go_wp2_with fail
       obtain ⟨W4, hW4⟩ : ∃ W4, W4 = w2.alloc (.cells #[.int .i64 hv, .int .u64 lv, .int .i64 12] 56) := ⟨_, rfl⟩
       have HT4 : Hi (Blk W4 w2.heap.size 56 #[.int .i64 hv, .int .u64 lv, .int .i64 12]) := Hd (by rw [hW4]; exact Blk.new _ _ _)
       have hal : Below w2.heap.size w2 W4 := by rw [hW4]; exact Below.al (Below.refl _ _) _
       have HB4 := Hd (HB2.o.trans (hal.mono HB2.o.size))
       have HO4 := Hd (own_below HO2.o hal)
       rw [<- hW4]
       obtain ⟨g, hg⟩ : ∃ g, g = w2.heap.size := ⟨_, rfl⟩
       rw [<- hg] at HT4 ⊢
       clear hW4 hal HB2 HO2 hg
       refine wp_region_class (fun w' => Below W4.heap.size W4 w') [0, 1, 2] (by kernel_rfl) (by kernel_rfl) (Below.refl _ _).drew ?_
       simp only [List.map_cons, List.map_nil, opAt, List.getElem?_cons_succ, List.getElem?_cons_zero, Option.getD_some]
       refine wpQuiet_row 56 (.tmp 6) rfl rfl g rfl 56 #[.int .i64 hv, .int .u64 lv, .int .i64 12] _ (fun w hw => HT4.o.below hw HT4.o.lt) Tryz.underlying56 rfl (by kernel_rfl) (fun K1 k1 => ?_)
       go_simp
       refine k1 _ ?_
       clear k1 K1
       go_big_quiet_step ((intro hw; exact (nought_ok _).mono fun e w' h => ⟨h.1, hw.trans (h.2.mono hw.size)⟩))
       refine wpQuiet_neq 56 _ (.tmp 25) (.tmp 26) rfl rfl #[.int .i64 hv, .int .u64 lv, .int .i64 12] (decE 0 12) rb rfl rfl (by kernel_rfl) (fun w => HNE.o w) (fun K1 k1 => ?_)
       go_simp
       refine k1 _ ?_
       clear k1 K1
       refine wpQuiet_nil ?_
       intro w5 H5
       have HB5 := Hd (HB4.o.trans (H5.mono HB4.o.size))
       have HO5 := Hd (own_below HO4.o H5)
       have HT5 := Hd (HT4.o.below H5 HT4.o.lt)
       clear H5 HB4 HO4 HT4
       cases rb with
       | true =>
         have hd0 : d ≠ 0 := by
          intro h
          have := of_decide_eq_true HRB.o.symm
          rw [HC.o, h] at this
          exact this (Int.zero_mul _)
         have hy0 : y = 0 := by
          by_cases h : y = 0
          . exact h
          . exact absurd (by rw [HD.o, if_neg (by omega)]) hd0
         subst hy0
         have hl : l = trC f k := by rw [HL.o, if_pos rfl]
         subst hl
         have hd1 : d = f ((k : Int) + 1) := by rw [HD.o]; rfl
         have HLEN := Hd (trC_len f k)
         obtain ⟨i0, hi0, hz0, hz1, hz2⟩ := lineInfo
         go_wp2_with (first
          | (refine wpListG_row rfl 56 (.tmp 6) rfl g rfl 56 #[.int .i64 hv, .int .u64 lv, .int .i64 12] _ HT5.o Tryz.underlying56 rfl (by kernel_rfl) ?_)
          | (at_builtin
             refine wpList_append_any _ rfl (.tmp 28) (.tmp 33) 53 rfl W.heap.size 58 i0 (.agg lineZ) 5 40 Tryz.underlying53 hi0 hz0 hz1 hz2 rfl (by omega) (.slice A1 (trC f k).length c1) (trC f k).length (trV f (trC f k)) rfl (own_below HO5.o (Below.al (Below.refl _ _) (.cells #[.int .i64 ((k : Int) + 1), .int .i64 0, .int .i64 hv, .int .u64 lv, .int .i64 12] 58))) (w5.heap.size + 1) (some ⟨w5.heap.size, 0, none⟩) 1 1 (#[.int .i64 ((k : Int) + 1), .int .i64 0, .int .i64 hv, .int .u64 lv, .int .i64 12] : Array Value).toList rfl (reads_new' (cs := #[.int .i64 ((k : Int) + 1), .int .i64 0, .int .i64 hv, .int .u64 lv, .int .i64 12]) rfl) (by intro u hu; simp only [List.mem_cons, List.not_mem_nil, or_false] at hu; rcases hu with rfl | rfl | rfl | rfl | rfl <;> rfl) (by have := HLEN.o; simp only [maxLen]; omega) (by have := HLEN.o; omega) (by have := HB5.o.size; simp; omega) ?_
             intro v8 w8 hown8 hg8 hat8
             obtain ⟨A8, c8, rfl⟩ := own_slice hown8))
         have hT : trC f (k + 1) = trC f k ++ [(k : Int) + 1] := by
          show trC f k ++ _ = _
          rw [if_pos (by rw [show ((k + 1 : Nat) : Int) = (k : Int) + 1 by omega, <- hd1]; exact hd0)]
          rfl
         have hk8' : Keep (Value.slice A1 (trC f k).length c1).ownBlock.toList (w5.alloc (.cells #[.int .i64 ((k : Int) + 1), .int .i64 0, .int .i64 hv, .int .u64 lv, .int .i64 12] 58)) w8 := Pr.Keep.of_grown hg8 (fun r e => .inl (by rw [e]; simp))
         refine ⟨⟨1, A8, c8, by omega, rfl, trC f (k + 1), Hd (by rw [if_neg (by omega)]), by rw [hT]; simp, Hd ?_, Hd ?_⟩, by simp [intOf]⟩
         . rw [hT, List.length_append, trV_app]
           have hln : lineE ((k : Int) + 1) 0 (f ((k : Int) + 1) * 1000000000000) 12 = #[.int .i64 ((k : Int) + 1), .int .i64 0, .int .i64 hv, .int .u64 lv, .int .i64 12] := by
            rw [<- hd1, <- HC.o, HHV.o.1, HHV.o.2]; rfl
           rw [hln]
           exact hown8
         . exact ((Keep.of_below (S := []) (Below.al HB5.o _)).trans hk8' (fun r hr => .inr (own_type' HO5.o r (by simpa using hr)).1)).below
       | false =>
         have hd0 : d = 0 := by
          have := of_decide_eq_false HRB.o.symm
          rw [HC.o] at this
          omega
         go_wp2_with fail
         go_roundw
         case rel =>
          refine ⟨y + 1, A1, c1, by omega, by go_num, l, Hd ?_, rfl, HO5, HB5⟩
          rw [if_neg (by omega), HL.o]
          by_cases h : y = 0
          . rw [if_pos h]
            have : f ((k + 1 : Nat) : Int) = 0 := by
             have := HD.o
             rw [if_pos (by omega), hd0] at this
             rw [show ((k + 1 : Nat) : Int) = (k : Int) + 1 by omega, <- this]
            show trC f k = trC f k ++ _
            rw [if_neg (by rw [this]; simp), List.append_nil]
          . rw [if_neg h]
         case measure => simp [intOf]; omega
     . obtain rfl : y = 4 := by omega
       have hl : l = trC f (k + 1) := by rw [HL.o, if_neg (by omega)]
       subst hl
       go_wp2_with fail
       go_roundw
       case rel => exact ⟨k + 1, A1, c1, by omega, by go_num, rfl, HO1, HB1⟩
       case measure => simp [intOf]; omega
  . obtain rfl : k = 8 := by omega
    go_wp2_with fail
    exact bodyPost_ret (results_one (v := .slice A (trC f 8).length cc) rfl _ _ rfl) rfl ⟨⟨_, rfl, HO.o⟩, HB.o⟩
end Mo
namespace Mo
open Go.RowKit Go.Deep Mp Pr Ch
open Cal (results_one)
theorem trC_lf {c b : Int} (hc : c ≠ 0) (hb : b ≠ 0) : trC (lf c b) 8 = if b - c = 0 then [1, 2] else [1, 2, 4] := by
 have h1 : lf c b 1 = c := rfl
 have h2 : lf c b 2 = -b := rfl
 have h3 : lf c b 3 = 0 := rfl
 have h4 : lf c b 4 = b - c := rfl
 have h5 : lf c b 5 = 0 := rfl
 have h6 : lf c b 6 = 0 := rfl
 have h7 : lf c b 7 = 0 := rfl
 have h8 : lf c b 8 = 0 := rfl
 have hb' : -b ≠ 0 := by omega
 by_cases h : b - c = 0
 . simp [trC, h1, h2, h3, h4, h5, h6, h7, h8, h, hc, hb']
 . simp [trC, h1, h2, h3, h4, h5, h6, h7, h8, h, hc, hb']
def acctV (b a : Int) : Array Value := #[.int .i64 10, .int .i64 1, .int .i64 0, .int .i64 1, .bool true, .int .i64 b, .int .i64 0, .int .i64 a]
def acctZ : Array Value := #[.int .i64 0, .int .i64 0, .int .i64 0, .int .i64 0, .bool false, .int .i64 0, .int .i64 0, .int .i64 0]
theorem acctV_part (b a : Int) (bh : Nat) : ∀ (j : Nat) (v : Value), (acctV b a).toList[j]? = some v -> (acctE b a bh)[0 + j]? = some v := by
 intro j v hv
 rw [Nat.zero_add]
 rcases j with _|_|_|_|_|_|_|_|j <;> first | exact hv | (simp [acctV] at hv)
theorem accountOf_ok (q : Qd) (n ga bh : Nat) (day seq b a cs : Int) (run : Bool) (ks : List Int) (W : World) (h : StX q n ga bh day seq b a cs run ks W) :
 Calls Tryz.prog 12 #[.pointer (some ⟨n + 7, 0, none⟩), .int .i64 10] W fun e w' => e = .returned (.tuple #[.agg (acctV b a), .int .i64 0]) /\ Below W.heap.size W w' := by
 obtain ⟨st, h1, _⟩ := h
 have H1 := Hd ((HasO.re h1).new (g := W.heap.size) rfl (.cells acctZ 48))
 clear h1
 have hlk := look10 ga (n + 2) _ (H1.o.obj 2 rfl)
 have c1 := (H1.o.get 1 rfl).cell 2
 simp only [modN, modE, acctZ, List.getElem?_toArray, List.getElem?_cons_succ, List.getElem?_cons_zero] at c1 hlk
 go_enter Tryz.func12, Tryz.ntmps12
 go_wp2_with (first
  | (refine wpListG_part rfl 48 (.tmp 25) rfl ga 0 rfl 112 (acctE b a bh) (acctV b a) _ (H1.o.get 3 rfl) (acctV_part b a bh) Tryz.underlying48 rfl (by kernel_rfl) ?_)
  | refine wpList_turn rfl 48 (.tmp 4) (.tmp 26) rfl W.heap.size 0 (.agg (acctV b a)) rfl rfl 48 acctZ (acctV b a) (H1.o.get 0 rfl) (by kernel_rfl) (by simp [Value.cells, acctV, acctZ]) (by simp [Value.cells, Value.oneCell', acctV, acctZ]) rfl ?_; intro W3 HT3)
 have hb := (H1.o.1.trans HT3.keep (S := []) (by intro k hk; simp only [List.mem_singleton] at hk; subst hk; exact .inr (Nat.le_refl _))).below
 exact bodyPost_ret (results_row_tmp rfl _ W3 W.heap.size 48 (acctV b a) _ _ rfl HT3.at_ Tryz.underlying48 rfl (by kernel_rfl) rfl) rfl ⟨rfl, hb⟩
theorem trialOf_ok (q : Qd) (n ga bh : Nat) (day seq b a cs : Int) (hb : b <= 10000000000000) (run : Bool) (ks : List Int) (W : World) (h : StX q n ga bh day seq b a cs run ks W) :
 Calls Tryz.prog 14 #[.pointer (some ⟨n + 7, 0, none⟩)] W fun e w' => (∃ v, e = .returned v /\ w'.ownsRow W.heap.size 58 5 v (trC (lf cs b) 8).length (trV (lf cs b) (trC (lf cs b) 8))) /\ Below W.heap.size W w' := by
 obtain ⟨st, h1, _, h3, _, _, h5, h6⟩ := h
 have CT := Hd (trial_ok (lf cs b) (lf_in ⟨h5, h6, hb⟩) (n + 6) W h3)
 have c5 := (h1.get 0 rfl).cell 5
 simp only [modN, modE, List.getElem?_toArray, List.getElem?_cons_succ, List.getElem?_cons_zero] at c5
 clear h1 h3
 go_enter Tryz.func14, Tryz.ntmps14
 go_wp2_with fail
 refine CT.o.mono ?_
 rintro e w' ⟨⟨v, rfl, ho⟩, hb⟩
 go_wp2_with fail
 exact bodyPost_ret (results_one rfl _ _ rfl) rfl ⟨⟨v, rfl, ho⟩, hb⟩
end Mo
namespace Bk
open Go.RowKit Go.Deep Mp Mo Ch
def evPl (q : Qd) (l : Int) (g : Nat) : Array Value := evE 1 1 1 0 1 q.how q.mo 0 l (.slice (some ⟨g, 0, none⟩) 1 1)
def cmdsW (q : Qd) (l dep : Int) (W : World) : World := (((W.alloc (.cells (tierQ q) 31)).alloc (.cells (evPl q l W.heap.size) 34)).alloc (.cells (evD dep) 34)).alloc (.cells ((evPl q l W.heap.size).toList ++ evO.toList ++ (evD dep).toList).toArray 34)
theorem cmdsW_below (q : Qd) (l dep : Int) (W : World) : Below W.heap.size W (cmdsW q l dep W) := Below.al (Below.al (Below.al (Below.al (Below.refl _ _) _) _) _) _
theorem cmdsW_lq {W w : World} {q : Qd} {n : Nat} {d dep : Int} (hb : Below W.heap.size W w) (h : St0 n d w) : Lq W q n d dep w.heap.size (w.heap.size + 1 + 1 + 1) 0 (cmdsW q q.lim dep w) := by
 refine ⟨hb.trans ((cmdsW_below q q.lim dep w).mono hb.size), ?_, fun _ => ?_, .inl ⟨rfl, h.step (cmdsW_below q q.lim dep w)⟩⟩
 . unfold cmdsW
   rw [show w.heap.size + 1 + 1 + 1 = (((w.alloc (.cells (tierQ q) 31)).alloc (.cells (evPl q q.lim w.heap.size) 34)).alloc (.cells (evD dep) 34)).heap.size by simp]
   exact heap_alloc_new _ _
 . have h1 : (w.alloc (.cells (tierQ q) 31)).heap[w.heap.size]? = some (.cells (tierQ q) 31) := heap_alloc_new _ _
   have hb2 : Below (w.alloc (.cells (tierQ q) 31)).heap.size (w.alloc (.cells (tierQ q) 31)) (cmdsW q q.lim dep w) := Below.al (Below.al (Below.al (Below.refl _ _) _) _) _
   exact (hb2.block _ (obj_lt h1)).trans h1
theorem row_of {w : World} {base size n : Nat} {e : TypeId} {A : Option Addr} {c : Nat} {xs : List Value} (h : w.ownsRow base e size (.slice A n c) n xs) (hn : 0 < n) : ∃ g cur, A = some ⟨g, 0, none⟩ /\ w.heap[g]? = some (.cells cur e) /\ ∀ (k : Nat) (u : Value), xs[k]? = some u -> cur[k]? = some u := by
 obtain ⟨h1, h2 | ⟨g, c', cur, he, hb, hg, hc, hm, hz, hx⟩⟩ := h
 . have := h2.1
   injection this with h3 h4 h5
   omega
 . injection he with h3 h4 h5
   refine ⟨g, cur, h3, hg, fun k u hu => ?_⟩
   rw [<- hx, List.getElem?_take] at hu
   split at hu
   . simpa using hu
   . cases hu
theorem line_of {cur : Array Value} {f : Int -> Int} {l : List Int} (h : ∀ (k : Nat) (u : Value), (trV f l)[k]? = some u -> cur[k]? = some u) : ∀ (i : Nat) (c : Int), l[i]? = some c -> ∀ (j : Nat) (v : Value), (lineE c 0 (f c * 1000000000000) 12).toList[j]? = some v -> cur[5 * i + j]? = some v := by
 intro i c hc j v hv
 refine h _ _ ?_
 clear h
 have hj : j < 5 := (List.getElem?_eq_some_iff.1 hv).1
 induction l generalizing i with
 | nil => simp at hc
 | cons x xs ih =>
   rw [trV_cons]
   cases i with
   | zero =>
     obtain rfl : x = c := by simpa using hc
     rw [Nat.mul_zero, Nat.zero_add, List.getElem?_append_left hj]
     exact hv
   | succ i =>
     have hl : (lineE x 0 (f x * 1000000000000) 12).toList.length = 5 := rfl
     rw [List.getElem?_append_right (by omega), hl, show 5 * (i + 1) + j - 5 = 5 * i + j by omega]
     exact ih i (by simpa using hc)
end Bk
end Go.Proofs.YtkdnebalpdebeaaGreatDoor
