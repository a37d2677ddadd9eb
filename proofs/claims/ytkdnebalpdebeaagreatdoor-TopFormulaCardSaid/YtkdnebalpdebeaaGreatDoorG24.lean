/- Lemmas of a claim: MoK, MoL, MoM -/
import Derived.Test.YtkdnebalpdebeaaGreatDoorG23
set_option linter.unusedVariables false
set_option linter.unusedSimpArgs false
set_option maxHeartbeats 16000000
set_option maxRecDepth 100000
namespace Go.Proofs.YtkdnebalpdebeaaGreatDoor
namespace Mo
open Go.RowKit Go.Deep Wide Dec Mp Pr Ch
def flatS (ks : List Int) : List Value := ks.flatMap fun k => [.int .i64 10, .int .i64 k]
theorem flatS_snoc (ks : List Int) (k : Int) : flatS (ks ++ [k]) = flatS ks ++ [.int .i64 10, .int .i64 k] := by simp [flatS]
theorem flatS_get : ∀ (ks : List Int) (j : Nat) (k : Int), ks[j]? = some k -> (flatS ks)[2 * j]? = some (.int .i64 10) /\ (flatS ks)[2 * j + 1]? = some (.int .i64 k)
 | [], j, k, h => by simp at h
 | x :: ks, 0, k, h => by
   simp only [List.getElem?_cons_zero, Option.some.injEq] at h
   subst h
   exact ⟨rfl, rfl⟩
 | x :: ks, j + 1, k, h => by
   have := flatS_get ks j k (by simpa using h)
   have e : flatS (x :: ks) = .int .i64 10 :: .int .i64 x :: flatS ks := by simp [flatS]
   rw [e, show 2 * (j + 1) = 2 * j + 1 + 1 from by omega]
   simpa using this
def OwnS (B : Nat) (w : World) (v : Value) (ks : List Int) : Prop := w.ownsRow B 107 2 v ks.length (flatS ks)
theorem OwnS.steps {B : Nat} {w : World} {v : Value} {ks : List Int} (h : OwnS B w v ks) : StepsAt w v ks := by
 obtain ⟨_, hn | ⟨g, cap, cu, rfl, _, hh, h1, h2, h3, h4⟩⟩ := h
 . obtain ⟨rfl, hn⟩ := hn
   have : ks = [] := by
    cases ks with
    | nil => rfl
    | cons k ks => simp [flatS] at hn
   subst this
   exact ⟨none, 0, rfl, Nat.le_refl _, Nat.zero_le _, fun h => absurd rfl h⟩
 . refine ⟨some ⟨g, 0, none⟩, cap, rfl, h1, h2, fun _ => ⟨g, 0, cu, rfl, hh, fun j k hj => ?_⟩⟩
   obtain ⟨q0, q1⟩ := flatS_get ks j k hj
   have hlt : j < ks.length := (List.getElem?_eq_some_iff.1 hj).1
   have e : cu.toList.take (ks.length * 2) = flatS ks := by simpa using h4
   constructor
   . rw [<- e, List.getElem?_take, if_pos (by omega)] at q0; simpa using q0
   . rw [<- e, List.getElem?_take, if_pos (by omega)] at q1; simpa using q1
theorem OwnS.slice {B : Nat} {w : World} {v : Value} {ks : List Int} (h : OwnS B w v ks) : ∃ A c, v = .slice A ks.length c := by
 obtain ⟨_, hn | ⟨g, cap, cu, rfl, _⟩⟩ := h
 . exact ⟨none, 0, by rw [hn.1, hn.2]⟩
 . exact ⟨_, _, rfl⟩
theorem OwnS.step {B : Nat} {w w' : World} {v : Value} {ks : List Int} (h : OwnS B w v ks) (hb : Below w.heap.size w w') : OwnS B w' v ks := own_below h hb
section
variable {ops : Array Oper} {rest : List Oper} {o : Oper} {a : Act} {Q : Exit -> Act -> World -> Prop}
theorem wpList_appS (W0 w : World) (hgd : o.guard = none) (s x : Operand) (ho : o.op = .call { callee := .builtin .append, args := #[s, x], argTypes := #[80, 80] })
 (v : Value) (ks : List Int) (k : Int) (hv : OwnS W0.heap.size w v ks) (hb : Below W0.heap.size W0 w) (hl : ks.length <= 1000) (hs : a.eval s = v) (g : Nat) (hx : a.eval x = .slice (some ⟨g, 0, none⟩) 1 1) (hg : w.heap[g]? = some (.cells #[.int .i64 10, .int .i64 k] 107))
 (h : ∀ v' w', OwnS W0.heap.size w' v' (ks ++ [k]) -> Below W0.heap.size W0 w' -> wpList Tryz.prog ops Q rest (a.put o.dst v') w') : wpList Tryz.prog ops Q (o :: rest) a w := by
 obtain ⟨i, hi, h2, h3, h4⟩ : ∃ i, Tryz.prog.info? 107 = some i /\ i.zero = some (.agg #[.int .i64 0, .int .i64 0]) /\ i.size = 2 /\ i.bytes = 16 := ⟨_, rfl, by kernel_rfl, by kernel_rfl, by kernel_rfl⟩
 refine wpList_append_own w hgd s x 80 ho W0.heap.size 107 i (.agg #[.int .i64 0, .int .i64 0]) 2 16 Tryz.underlying80 hi h2 h3 h4 rfl (by omega) v ks.length (flatS ks) hs hv ⟨g, 0, none⟩ 1 1 [.int .i64 10, .int .i64 k] hx rfl (fun j u hj => by rw [Addr.add_lit, Blk.cell (t := 107) hg]; simpa using hj) (by intro u hu; simp only [List.mem_cons, List.not_mem_nil, or_false] at hu; rcases hu with rfl | rfl <;> rfl) (by simp only [maxLen]; omega) (by omega) hb.size ?_
 intro v' w' hown hgr hat
 refine h v' w' ?_ ?_
 . unfold OwnS
   rw [flatS_snoc, List.length_append, List.length_singleton]
   exact hown
 . exact below_own hb hgr hv (Nat.le_refl _) hb.size
end
def dueKs (day : Int) : List Int := if Cal.endB day then [1, 2, 3] else [1]
theorem due_ok (gm gc ba br bk gl ga bh : Nat) (day seq b a : Int) (st : Value) (hd : 1 <= day /\ day < 3652059) (W : World)
 (h : HasO [] W [(gm, .cells (modE day gc ba br bk gl seq false st) 82), (ba, .map #[entA ga] 1), (ga, .cells (acctE b a bh) 112)] W) :
 Calls Tryz.prog 73 #[.pointer (some ⟨gm, 0, none⟩)] W fun e w' => (∃ v, e = .returned v /\ StepsAt w' v (dueKs day)) /\ Below W.heap.size W w' := by
 have CE := Hd (fun w => Cal.monthEnd_ok day (by omega) w)
 have HH := Hd (fun w (hb : Below W.heap.size W w) => h.step hb)
 have c0 := (h.get 0 rfl).cell 0
 have c2 := (h.get 0 rfl).cell 2
 simp only [modE, List.getElem?_toArray, List.getElem?_cons_succ, List.getElem?_cons_zero] at c0 c2
 obtain ⟨be, hbe⟩ : ∃ be, be = Cal.endB day := ⟨_, rfl⟩
 unfold dueKs
 rw [<- hbe] at CE ⊢
 obtain ⟨D, hD⟩ : ∃ D, D = (if be = true then [1, 2, 3] else ([1] : List Int)) := ⟨_, rfl⟩
 rw [<- hD]
 have HD := Hd hD
 clear hbe h hD
 go_enter Tryz.func73, Tryz.ntmps73
 go_wp2_with fail
 refine (CE.o _).mono ?_
 rintro e w1 ⟨rfl, hw⟩
 obtain rfl : W = w1 := hw.symm
 go_wp2_with fail
 refine (keysA_ok (some ba) _).mono ?_
 rintro e w2 ⟨rfl, hw⟩
 have HBA := Hd ((HH.o _ (Below.refl _ _)).obj 1 rfl)
 obtain rfl := hw
 go_wp2_with fail
 refine (sortedA_ok ga ba W HBA.o).mono ?_
 rintro e w3 ⟨⟨gk, ck, cu, rfl, hgk, hck⟩, hb3⟩
 have HB3 := Hd ((Below.al (Below.refl _ _) _).trans (hb3.mono (by simp)) : Below W.heap.size W w3)
 clear hb3 c0 c2 CE HBA
 have HG3 := Hd (HH.o _ HB3.o)
 have ck0 : w3.cell? ⟨gk, 0, none⟩ = some (.int .i64 10) := by rw [Blk.cell (t := 2) (cs := cu) hgk 0]; exact hck
 have c2 := (HG3.o.get 0 rfl).cell 2
 have c4 := (HG3.o.get 2 rfl).cell 4
 have c3 := (HG3.o.get 2 rfl).cell 3
 have hlk := look10 ga ba w3 (HG3.o.obj 1 rfl)
 simp only [modE, acctE, List.getElem?_toArray, List.getElem?_cons_succ, List.getElem?_cons_zero] at c2 c4 c3
 clear hgk hck
 go_wp2_with fail
 go_loopw [5, 24] (fun l i wr => (i = .int .i64 0 /\ l = .slice none 0 0 /\ wr = w3) ∨ (i = .int .i64 1 /\ Hi (StepsAt wr l D /\ Below W.heap.size W wr /\ ∃ A n c, l = .slice A n c))) (fun _ i _ => 1 - (intOf i).toNat)
 case atStart => exact .inl ⟨rfl, rfl, rfl⟩
 case round =>
  rcases hrel with ⟨rfl, rfl, hwr⟩ | ⟨rfl, HR⟩
  . obtain rfl : w3 = wr := hwr.symm
    cases be with
    | false =>
      go_wp2_with (first
      | (refine wpList_appS W _ rfl (.tmp 40) (.tmp 43) rfl (.slice none 0 0) [] 1 (World.ownsRow_nil _ _ _ _) (Below.al HB3.o _) (by simp) rfl w3.heap.size rfl (Blk.new _ _ _) ?_
         intro v4 w4 hv4 hb4
         obtain ⟨A4, k4, rfl⟩ := hv4.slice
         have HV4 := Hd hv4
         have HB4 := Hd hb4
         clear hv4 hb4 c2 c4 c3 hlk ck0))
      go_roundw
      case rel => exact .inr ⟨rfl, Hd ⟨by rw [HD.o]; exact HV4.o.steps, HB4.o, _, _, _, rfl⟩⟩
      case measure => simp [intOf]
    | true =>
      go_wp2_with (first
      | (refine wpList_appS W _ rfl (.tmp 40) (.tmp 43) rfl (.slice none 0 0) [] 1 (World.ownsRow_nil _ _ _ _) (Below.al HB3.o _) (by simp) rfl w3.heap.size rfl (Blk.new _ _ _) ?_
         intro v4 w4 hv4 hb4
         obtain ⟨A4, k4, rfl⟩ := hv4.slice
         have HV4 := Hd hv4
         have HB4 := Hd hb4
         clear hv4 hb4 c2 c4 c3 hlk ck0)
      | (refine wpList_appS W _ rfl (.tmp 46) (.tmp 49) rfl (.slice A4 1 k4) [1] 2 (HV4.o.step (Below.al (Below.refl _ _) _)) (Below.al HB4.o _) (by simp) rfl w4.heap.size rfl (Blk.new _ _ _) ?_
         intro v5 w5 hv5 hb5
         obtain ⟨A5, k5, rfl⟩ := hv5.slice
         have HV5 := Hd hv5
         have HB5 := Hd hb5
         have HG5 := Hd (HH.o _ hb5)
         clear hv5 hb5)
      | (refine wpListG_cell rfl 3 (.tmp 56) rfl ga 3 rfl 112 (acctE b a bh) (.int .i64 1) rfl _ (HG5.o.get 2 rfl) Tryz.underlying3 rfl ?_)
      | (refine wpList_appS W _ rfl (.tmp 60) (.tmp 63) rfl (.slice A5 2 k5) [1, 2] 3 (HV5.o.step (Below.al (Below.refl _ _) _)) (Below.al HB5.o _) (by simp) rfl w5.heap.size rfl (Blk.new _ _ _) ?_
         intro v6 w6 hv6 hb6
         obtain ⟨A6, k6, rfl⟩ := hv6.slice
         have HV6 := Hd hv6
         have HB6 := Hd hb6
         clear hv6 hb6))
      go_roundw
      case rel => exact .inr ⟨rfl, Hd ⟨by rw [HD.o]; exact HV6.o.steps, HB6.o, _, _, _, rfl⟩⟩
      case measure => simp [intOf]
  . obtain ⟨hs, hb, A, n, c, rfl⟩ := HR.o
    have HS := Hd hs
    have HB := Hd hb
    clear hs hb HR c2 c4 c3 hlk ck0
    go_wp2_with fail
    exact bodyPost_ret (v := .slice A n c) (Cal.results_one rfl _ _ rfl) rfl ⟨⟨_, rfl, HS.o⟩, HB.o⟩
end Mo
namespace Mo
open Go.RowKit Go.Deep Wide Dec Mp Pr Ch
theorem happen_begin (gm gc ba br bk gl ga bh : Nat) (day seq b a : Int) (st : Value) (hd : 1 <= day /\ day < 3652059) (W : World)
 (h : HasO [] W [(gm, .cells (modE day gc ba br bk gl seq false st) 82), (ba, .map #[entA ga] 1), (ga, .cells (acctE b a bh) 112)] W) :
 Calls Tryz.prog 28 #[.pointer (some ⟨gm, 0, none⟩), .agg (evE 13 day 0 0 0 0 0 0 0 (.slice none 0 0))] W fun e w' => e = unitR /\ Keep [gm] W w' /\ ∃ st', w'.heap[gm]? = some (.cells (modE day gc ba br bk gl seq true st') 82) /\ StepsAt w' st' (dueKs day) := by
 have H1 : Hi (HasO [] W [(W.heap.size + 1, .cells (nsE day 0 0 0 0 0 0 0) 29), (W.heap.size, .cells (evE 13 day 0 0 0 0 0 0 0 (.slice none 0 0)) 34), (gm, .cells (modE day gc ba br bk gl seq false st) 82), (ba, .map #[entA ga] 1), (ga, .cells (acctE b a bh) 112)] _) := Hd ((h.new (g := W.heap.size) rfl (.cells (evE 13 day 0 0 0 0 0 0 0 (.slice none 0 0)) 34)).new (g := W.heap.size + 1) (by simp) (.cells (nsE day 0 0 0 0 0 0 0) 29))
 have CD := Hd (fun w hw => due_ok gm gc ba br bk gl ga bh day seq b a st hd w hw)
 clear h hd
 rw [evE]
 go_enter Tryz.func28, Tryz.ntmps28
 go_wp2_with fail
 refine wp_region_class (fun w' => HasO [] W _ w') [0, 1, 2, 3, 4, 5, 6, 7, 8, 9, 10, 11, 12, 13, 14, 15] (by kernel_rfl) (by kernel_rfl) (H1.o.drew) ?_
 simp only [List.map_cons, List.map_nil, opAt, List.getElem?_cons_succ, List.getElem?_cons_zero, Option.getD_some]
 repeat (go_big_quiet_step ((intro _; rfl)))
 refine wpQuiet_cell 75 (.tmp 13) rfl rfl ⟨gm, 2, none⟩ rfl (.map (some ba)) _ (fun w hw => (hw.get 2 rfl).cell 2) Tryz.underlying75 rfl (fun K1 k1 => ?_)
 go_simp
 refine k1 _ ?_
 clear k1 K1
 repeat (go_big_quiet_step ((intro _; rfl)))
 refine wpQuiet_cell 2 (.tmp 15) rfl rfl ⟨(W.heap.size + 1), 0, none⟩ rfl (.int .i64 day) _ (fun w hw => (hw.get 0 rfl).cell 0) Tryz.underlying2 rfl (fun K1 k1 => ?_)
 go_simp
 refine k1 _ ?_
 clear k1 K1
 refine wpQuiet_lookup rfl 75 (.tmp 14) (.tmp 16) false rfl ba (.int .i64 day) (lookA day ga) rfl rfl (fun w hw => lookN ga ba _ w (hw.obj 3 rfl)) (fun K1 k1 => ?_)
 go_simp
 refine k1 _ ?_
 clear k1 K1
 repeat (go_big_quiet_step ((intro _; rfl)))
 refine wpQuiet_cell 75 (.tmp 20) rfl rfl ⟨gm, 2, none⟩ rfl (.map (some ba)) _ (fun w hw => (hw.get 2 rfl).cell 2) Tryz.underlying75 rfl (fun K1 k1 => ?_)
 go_simp
 refine k1 _ ?_
 clear k1 K1
 repeat (go_big_quiet_step ((intro _; rfl)))
 refine wpQuiet_cell 2 (.tmp 22) rfl rfl ⟨(W.heap.size + 1), 1, none⟩ rfl (.int .i64 0) _ (fun w hw => (hw.get 0 rfl).cell 1) Tryz.underlying2 rfl (fun K1 k1 => ?_)
 go_simp
 refine k1 _ ?_
 clear k1 K1
 refine wpQuiet_lookup rfl 75 (.tmp 21) (.tmp 23) false rfl ba (.int .i64 0) (lookA 0 ga) rfl rfl (fun w hw => lookN ga ba _ w (hw.obj 3 rfl)) (fun K1 k1 => ?_)
 go_simp
 refine k1 _ ?_
 clear k1 K1
 repeat (go_big_quiet_step ((intro _; rfl)))
 refine wpQuiet_nil ?_
 intro w5 H5
 have H5 := Hd H5
 clear H1
 go_wp2_with (refine wpListG_cell rfl 5 (.tmp 25) rfl W.heap.size 0 rfl 34 (evE 13 day 0 0 0 0 0 0 0 (.slice none 0 0)) (.int .u8 13) rfl _ (H5.o.get 1 rfl) Tryz.underlying5 rfl ?_)
 refine (CD.o _ (HasO.re H5.o).tail.tail).mono ?_
 rintro e w6 ⟨⟨v, rfl, hs⟩, hb6⟩
 have H6 : Hi (HasO [gm] W [(W.heap.size + 1, .cells (nsE day 0 0 0 0 0 0 0) 29), (W.heap.size, .cells (evE 13 day 0 0 0 0 0 0 0 (.slice none 0 0)) 34), (gm, .cells (modE day gc ba br bk gl seq false st) 82), (ba, .map #[entA ga] 1), (ga, .cells (acctE b a bh) 112)] w6) := Hd ⟨(H5.o.step hb6).1.mono (by simp), (H5.o.step hb6).2⟩
 have HS6 := Hd hs
 obtain ⟨A, c, rfl, _⟩ := hs
 obtain ⟨n, hn⟩ : ∃ n, n = (dueKs day).length := ⟨_, rfl⟩
 rw [<- hn] at HS6 ⊢
 clear hb6 H5 CD hn
 go_wp2_with (first
  | (refine wpList_turn rfl 4 (.tmp 296) (.const (.bool true)) rfl gm 7 (.bool true) rfl rfl 82 (modE day gc ba br bk gl seq false st) (modE day gc ba br bk gl seq true st) (H6.o.get 2 rfl) (by kernel_rfl) (by simp [Value.cells, prodQ, prodZ, evE, nsE, evZ, acctE, modE]) (by simp [Value.cells, Value.oneCell', prodQ, prodZ, evE, nsE, evZ, acctE, modE]) rfl ?_; intro W7 HT7
     have H7 := Hd (H6.o.turn 2 rfl HT7 (.inl (by simp)) (H6.o.apart 2 rfl rfl))
     have HS7 := Hd (HS6.o.keep HT7.keep (by intro k hk cur hc; simp only [List.mem_singleton] at hk; subst hk; rw [H6.o.obj 2 rfl] at hc; cases hc)))
  | (refine wpList_turn rfl 80 (.tmp 298) (.tmp 294) rfl gm 8 (.slice A n c) rfl rfl 82 (modE day gc ba br bk gl seq true st) (modE day gc ba br bk gl seq true (.slice A n c)) (H7.o.get 2 rfl) (by kernel_rfl) (by simp [Value.cells, prodQ, prodZ, evE, nsE, evZ, acctE, modE]) (by simp [Value.cells, Value.oneCell', prodQ, prodZ, evE, nsE, evZ, acctE, modE]) rfl ?_; intro W8 HT8
     have HS8 := Hd (HS7.o.keep HT8.keep (by intro k hk cur hc; simp only [List.mem_singleton] at hk; subst hk; rw [H7.o.obj 2 rfl] at hc; cases hc))))
 go_end0
 exact ⟨rfl, H7.o.1.trans HT8.keep (by simp), _, HT8.at_, HS8.o⟩
theorem run_cutS {w : World} {st : Value} {k : Int} {ks : List Int} (h : StepsAt w st (k :: ks)) : ∃ st', (Instr.slice 80 st (some (.int .i64 1)) none none).run Tryz.prog w = .ok st' w /\ StepsAt w st' ks /\ ∃ A n c, st' = .slice A n c := by
 obtain ⟨A, c, rfl, h1, h2, h3⟩ := h
 have hl : (k :: ks).length = ks.length + 1 := rfl
 have hu : Tryz.prog.underlying 80 = some (.slice (Tryz.prog.elem 80)) := by kernel_rfl
 have hs : (sizeOf (Tryz.prog.elem 80)).run Tryz.prog w = .ok 2 w := by kernel_rfl
 have hr := run_slice_l (P := Tryz.prog) (w := w) 80 A (k :: ks).length c hu .i64 (1 : Int) (by omega) (by rw [hl]; omega)
 rw [hs] at hr
 rw [hr]
 refine ⟨_, rfl, ?_⟩
 simp only [sliced]
 obtain ⟨g, off, cur, rfl, hg, hcur⟩ := h3 (by simp)
 by_cases hks : ks = []
 . subst hks
   refine ⟨⟨_, _, rfl, ?_, ?_, fun h => absurd rfl h⟩, _, _, _, rfl⟩
   . simp
   . simp at h1 ⊢; omega
 . have hlen : 1 <= ks.length := by
    cases ks with
    | nil => exact absurd rfl hks
    | cons _ _ => simp
   have hc1 : c ≠ (1 : Int).toNat := by rw [hl] at h1; simp; omega
   rw [if_neg hc1]
   refine ⟨⟨some ⟨g, off + 2, none⟩, c - 1, ?_, ?_, ?_, fun _ => ⟨g, off + 2, cur, rfl, hg, fun j k' hj => ?_⟩⟩, _, _, _, rfl⟩
   . simp [Addr.add_lit]
   . rw [hl] at h1; omega
   . omega
   . have := hcur (j + 1) k' (by simpa using hj)
     rw [show off + 2 * (j + 1) = off + 2 + 2 * j from by omega] at this
     exact this
theorem wpList_cutS {ops : Array Oper} {rest : List Oper} {o : Oper} {a : Act} {w : World} {Q : Exit -> Act -> World -> Prop} (hgd : o.guard = none) (x : Operand) (ho : o.op = .slice 80 x (some (.const (.int .i64 1))) none none)
 (st : Value) (k : Int) (ks : List Int) (hx : a.eval x = st) (hs : StepsAt w st (k :: ks))
 (h : ∀ A n c, StepsAt w (.slice A n c) ks -> wpList Tryz.prog ops Q rest (a.put o.dst (.slice A n c)) w) : wpList Tryz.prog ops Q (o :: rest) a w := by
 obtain ⟨st', hrun, hs', A, n, c, rfl⟩ := run_cutS hs
 refine wpList_plain hgd fun K hK => ?_
 have hu : Tryz.prog.underlying 80 = some (.slice (Tryz.prog.elem 80)) := by kernel_rfl
 have hl : a.eval (.const (.int .i64 1)) = .int .i64 1 := rfl
 unfold Oper.wp
 simp only [execOp, ho, Option.map_some, Option.map_none, hx, hl, Sem.run_bind, run_sliceAt_slice (P := Tryz.prog) (w := w) 80 _ _ _ _ hu, hrun, Result.andThen, Sem.run_pure, Oper.upon]
 exact hK _ _ (h A n c hs')
theorem happen_step (gm gc ba br bk gl ga bh : Nat) (day seq b a k n : Int) (ks : List Int) (st : Value) (hk : k = 1 ∨ k = 2 ∨ k = 3) (hb : 0 <= b /\ b <= 10000000000000) (ha : 0 <= a /\ a <= 4000000000000000000) (hn : 0 <= n /\ n <= 1000000000000000000) (W : World)
 (h : HasO [] W [(gm, .cells (modE day gc ba br bk gl seq true st) 82), (ba, .map #[entA ga] 1), (ga, .cells (acctE b a bh) 112)] W) (f : Int -> Int) (hf : FB 10000000000000000000000 f) (hl : Led f gl W) (hs : StepsAt W st (k :: ks)) :
 Calls Tryz.prog 28 #[.pointer (some ⟨gm, 0, none⟩), .agg (evE 14 10 k n 0 0 0 0 0 (.slice none 0 0))] W fun e w' => e = unitR /\ Keep [gm, ga, gl] W w' /\ Led (stepF f k n) gl w' /\ w'.heap[ga]? = some (.cells (acctE (stepB k b a n) (stepA k b a n) bh) 112) /\
  ∃ st', w'.heap[gm]? = some (.cells (modE day gc ba br bk gl seq true st') 82) /\ StepsAt w' st' ks := by
 have H1 : Hi (HasO [] W [(W.heap.size + 1, .cells (nsE 10 k n 0 0 0 0 0) 29), (W.heap.size, .cells (evE 14 10 k n 0 0 0 0 0 (.slice none 0 0)) 34), (gm, .cells (modE day gc ba br bk gl seq true st) 82), (ba, .map #[entA ga] 1), (ga, .cells (acctE b a bh) 112)] _) := Hd ((h.new (g := W.heap.size) rfl (.cells (evE 14 10 k n 0 0 0 0 0 (.slice none 0 0)) 34)).new (g := W.heap.size + 1) (by simp) (.cells (nsE 10 k n 0 0 0 0 0) 29))
 have CS := Hd (fun w hm hg hl => stepped_ok gm gc ba br bk gl ga bh day seq b a k n true st hk hb ha hn w hm hg f hf hl)
 have HL := Hd hl
 have HS := Hd hs
 have HLT := Hd (show gm < W.heap.size /\ ga < W.heap.size from ⟨obj_lt (h.obj 0 rfl), obj_lt (h.obj 2 rfl)⟩)
 clear h hl hs hk hb ha hn
 rw [evE]
 go_enter Tryz.func28, Tryz.ntmps28
 go_wp2_with fail
 refine wp_region_class (fun w' => HasO [] W _ w') [0, 1, 2, 3, 4, 5, 6, 7, 8, 9, 10, 11, 12, 13, 14, 15] (by kernel_rfl) (by kernel_rfl) (H1.o.drew) ?_
 simp only [List.map_cons, List.map_nil, opAt, List.getElem?_cons_succ, List.getElem?_cons_zero, Option.getD_some]
 repeat (go_big_quiet_step ((intro _; rfl)))
 refine wpQuiet_cell 75 (.tmp 13) rfl rfl ⟨gm, 2, none⟩ rfl (.map (some ba)) _ (fun w hw => (hw.get 2 rfl).cell 2) Tryz.underlying75 rfl (fun K1 k1 => ?_)
 go_simp
 refine k1 _ ?_
 clear k1 K1
 repeat (go_big_quiet_step ((intro _; rfl)))
 refine wpQuiet_cell 2 (.tmp 15) rfl rfl ⟨(W.heap.size + 1), 0, none⟩ rfl (.int .i64 10) _ (fun w hw => (hw.get 0 rfl).cell 0) Tryz.underlying2 rfl (fun K1 k1 => ?_)
 go_simp
 refine k1 _ ?_
 clear k1 K1
 refine wpQuiet_lookup rfl 75 (.tmp 14) (.tmp 16) false rfl ba (.int .i64 10) (.pointer (some ⟨ga, 0, none⟩)) rfl rfl (fun w hw => look10 ga ba w (hw.obj 3 rfl)) (fun K1 k1 => ?_)
 go_simp
 refine k1 _ ?_
 clear k1 K1
 repeat (go_big_quiet_step ((intro _; rfl)))
 refine wpQuiet_cell 75 (.tmp 20) rfl rfl ⟨gm, 2, none⟩ rfl (.map (some ba)) _ (fun w hw => (hw.get 2 rfl).cell 2) Tryz.underlying75 rfl (fun K1 k1 => ?_)
 go_simp
 refine k1 _ ?_
 clear k1 K1
 repeat (go_big_quiet_step ((intro _; rfl)))
 refine wpQuiet_cell 2 (.tmp 22) rfl rfl ⟨(W.heap.size + 1), 1, none⟩ rfl (.int .i64 k) _ (fun w hw => (hw.get 0 rfl).cell 1) Tryz.underlying2 rfl (fun K1 k1 => ?_)
 go_simp
 refine k1 _ ?_
 clear k1 K1
 refine wpQuiet_lookup rfl 75 (.tmp 21) (.tmp 23) false rfl ba (.int .i64 k) (lookA k ga) rfl rfl (fun w hw => lookN ga ba _ w (hw.obj 3 rfl)) (fun K1 k1 => ?_)
 go_simp
 refine k1 _ ?_
 clear k1 K1
 repeat (go_big_quiet_step ((intro _; rfl)))
 refine wpQuiet_nil ?_
 intro w5 H5
 have HL5 := Hd (HL.o.step H5.below)
 have HS5 := Hd (HS.o.step H5.below)
 have H5 : Hi (HasO [gm, ga, gl] W [(W.heap.size + 1, .cells (nsE 10 k n 0 0 0 0 0) 29), (W.heap.size, .cells (evE 14 10 k n 0 0 0 0 0 (.slice none 0 0)) 34), (gm, .cells (modE day gc ba br bk gl seq true st) 82), (ba, .map #[entA ga] 1), (ga, .cells (acctE b a bh) 112)] w5) := Hd ⟨H5.1.mono (by simp), H5.2⟩
 have HNE := Hd (led_ne HL5.o (H5.o.obj 2 rfl) rfl)
 have HNE2 := Hd (led_ne HL5.o (H5.o.obj 4 rfl) rfl)
 clear H1 HL HS
 have hgl := HL5.o.lt
 have q1 := (H5.o.get 0 rfl).cell 1
 have q2 := (H5.o.get 0 rfl).cell 2
 simp only [nsE, List.getElem?_toArray, List.getElem?_cons_succ, List.getElem?_cons_zero] at q1 q2
 go_wp2_with (refine wpListG_cell rfl 5 (.tmp 25) rfl W.heap.size 0 rfl 34 (evE 14 10 k n 0 0 0 0 0 (.slice none 0 0)) (.int .u8 14) rfl _ (H5.o.get 1 rfl) Tryz.underlying5 rfl ?_)
 refine (CS.o _ (H5.o.obj 2 rfl) (H5.o.obj 4 rfl) HL5.o).mono ?_
 rintro e w6 ⟨rfl, hk6, hg6, hl6⟩
 have hm6 := (hk6.block gm (obj_lt (H5.o.obj 2 rfl)) (by
  simp only [List.mem_cons, List.not_mem_nil, or_false, not_or]
  exact ⟨ne_alike (H5.o.obj 4 rfl) (H5.o.obj 2 rfl) rfl, HNE.o⟩)).trans (H5.o.obj 2 rfl)
 have H6 : Hi (HasO [gm, ga, gl] W [(gm, .cells (modE day gc ba br bk gl seq true st) 82), (ga, .cells (acctE (stepB k b a n) (stepA k b a n) bh) 112)] w6) := Hd (HasO.cons hm6 (HasO.cons hg6 (HasO.nil (H5.o.1.trans hk6 (by intro k hk; simp only [List.mem_cons, List.not_mem_nil, or_false] at hk; rcases hk with rfl | rfl <;> simp)))))
 have HS6 := Hd (HS5.o.keep hk6 (by
  intro k hk cur hc
  simp only [List.mem_cons, List.not_mem_nil, or_false] at hk
  rcases hk with rfl | rfl
  . rw [H5.o.obj 4 rfl] at hc; cases hc
  . obtain ⟨b', cl', L', n', h1, _⟩ := HL5.o
    rw [h1] at hc; cases hc))
 have HL6 := Hd hl6
 have HNE6 := Hd (ne_alike hg6 hm6 rfl)
 clear hk6 hg6 hl6 hm6 q1 q2 HS5 HL5 H5 CS HNE2 hgl
 unfold unitR
 go_wp2_with (first
  | (refine wpListG_cell rfl 80 (.tmp 311) rfl gm 8 rfl 82 (modE day gc ba br bk gl seq true st) (st) rfl _ (H6.o.get 0 rfl) Tryz.underlying80 rfl ?_)
  | (refine wpList_cutS rfl (.tmp 312) rfl st k ks rfl HS6.o ?_
     intro A7 n7 c7 hs7
     have HS7 := Hd hs7
     clear hs7)
  | (refine wpList_turn rfl 80 (.tmp 315) (.tmp 313) rfl gm 8 (.slice A7 n7 c7) rfl rfl 82 (modE day gc ba br bk gl seq true st) (modE day gc ba br bk gl seq true (.slice A7 n7 c7)) (H6.o.get 0 rfl) (by kernel_rfl) (by simp [Value.cells, prodQ, prodZ, evE, nsE, evZ, acctE, modE]) (by simp [Value.cells, Value.oneCell', prodQ, prodZ, evE, nsE, evZ, acctE, modE]) rfl ?_; intro W8 HT8
     have HS8 := Hd (HS7.o.keep HT8.keep (by intro k hk cur hc; simp only [List.mem_singleton] at hk; subst hk; rw [H6.o.obj 0 rfl] at hc; cases hc))))
 go_end0
 exact ⟨rfl, H6.o.1.trans HT8.keep (by simp), led_turn HL6.o HT8 (H6.o.obj 0 rfl) rfl HNE.o, (HT8.far _ (Ne.symm HNE6.o)).trans (H6.o.obj 1 rfl), _, HT8.at_, HS8.o⟩
end Mo
namespace Mo
open Go.RowKit Go.Deep Wide Dec Mp Pr Ch
theorem HasO.up {S : List Nat} {W w : World} {fs : List (Nat × Obj)} (h : HasO [] W fs w) : HasO S W fs w := ⟨h.1.mono (by simp), h.2⟩
theorem happen_product (q : Qd) (gm gc bc ba br bk gl : Nat) (day seq : Int) (run : Bool) (st : Value) (g c : Nat) (W : World) (hs : TS q.rate W (.slice (some ⟨g, 0, none⟩) 1 c))
 (h : HasO [] W [(gm, .cells (modE day gc ba br bk gl seq run st) 82), (ba, .map #[] 0), (gc, .cells #[.slice none 0 0, .map (some bc)] 144), (bc, .map #[] 0)] W) :
 Calls Tryz.prog 28 #[.pointer (some ⟨gm, 0, none⟩), .agg (evE 1 1 1 0 1 q.how q.mo 0 q.lim (.slice (some ⟨g, 0, none⟩) 1 c))] W fun e w' => e = unitR /\ Keep [gc, bc] W w' /\ CatQ q gc w' := by
 have H1 : Hi (HasO [] W [(W.heap.size + 1, .cells (nsE 1 1 0 1 q.how q.mo 0 q.lim) 29), (W.heap.size, .cells (evE 1 1 1 0 1 q.how q.mo 0 q.lim (.slice (some ⟨g, 0, none⟩) 1 c)) 34), (gm, .cells (modE day gc ba br bk gl seq run st) 82), (ba, .map #[] 0), (gc, .cells #[.slice none 0 0, .map (some bc)] 144), (bc, .map #[] 0)] _) := Hd ((h.new (g := W.heap.size) rfl (.cells (evE 1 1 1 0 1 q.how q.mo 0 q.lim (.slice (some ⟨g, 0, none⟩) 1 c)) 34)).new (g := W.heap.size + 1) (by simp) (.cells (nsE 1 1 0 1 q.how q.mo 0 q.lim) 29))
 have CV := Hd (fun W' => version_ok q g c W')
 have CA := Hd (fun w (hb : HasO [] w (cat0 gc bc) w) (hs : TS q.rate w (.slice (some ⟨g, 0, none⟩) 1 c)) => addQ_ok q (.slice (some ⟨g, 0, none⟩) 1 c) gc bc w hb hs)
 have HS := Hd hs
 clear h hs
 rw [evE]
 go_enter Tryz.func28, Tryz.ntmps28
 go_wp2_with fail
 refine wp_region_class (fun w' => HasO [] W _ w') [0, 1, 2, 3, 4, 5, 6, 7, 8, 9, 10, 11, 12, 13, 14, 15] (by kernel_rfl) (by kernel_rfl) (H1.o.drew) ?_
 simp only [List.map_cons, List.map_nil, opAt, List.getElem?_cons_succ, List.getElem?_cons_zero, Option.getD_some]
 repeat (go_big_quiet_step ((intro _; rfl)))
 refine wpQuiet_cell 75 (.tmp 13) rfl rfl ⟨gm, 2, none⟩ rfl (.map (some ba)) _ (fun w hw => (hw.get 2 rfl).cell 2) Tryz.underlying75 rfl (fun K1 k1 => ?_)
 go_simp
 refine k1 _ ?_
 clear k1 K1
 repeat (go_big_quiet_step ((intro _; rfl)))
 refine wpQuiet_cell 2 (.tmp 15) rfl rfl ⟨(W.heap.size + 1), 0, none⟩ rfl (.int .i64 1) _ (fun w hw => (hw.get 0 rfl).cell 0) Tryz.underlying2 rfl (fun K1 k1 => ?_)
 go_simp
 refine k1 _ ?_
 clear k1 K1
 refine wpQuiet_lookup rfl 75 (.tmp 14) (.tmp 16) false rfl ba (.int .i64 1) (.pointer none) rfl rfl (fun w hw => look0 ba _ w (hw.obj 3 rfl)) (fun K1 k1 => ?_)
 go_simp
 refine k1 _ ?_
 clear k1 K1
 repeat (go_big_quiet_step ((intro _; rfl)))
 refine wpQuiet_cell 75 (.tmp 20) rfl rfl ⟨gm, 2, none⟩ rfl (.map (some ba)) _ (fun w hw => (hw.get 2 rfl).cell 2) Tryz.underlying75 rfl (fun K1 k1 => ?_)
 go_simp
 refine k1 _ ?_
 clear k1 K1
 repeat (go_big_quiet_step ((intro _; rfl)))
 refine wpQuiet_cell 2 (.tmp 22) rfl rfl ⟨(W.heap.size + 1), 1, none⟩ rfl (.int .i64 1) _ (fun w hw => (hw.get 0 rfl).cell 1) Tryz.underlying2 rfl (fun K1 k1 => ?_)
 go_simp
 refine k1 _ ?_
 clear k1 K1
 refine wpQuiet_lookup rfl 75 (.tmp 21) (.tmp 23) false rfl ba (.int .i64 1) (.pointer none) rfl rfl (fun w hw => look0 ba _ w (hw.obj 3 rfl)) (fun K1 k1 => ?_)
 go_simp
 refine k1 _ ?_
 clear k1 K1
 repeat (go_big_quiet_step ((intro _; rfl)))
 refine wpQuiet_nil ?_
 intro w5 H5
 have H5 := Hd H5
 clear H1
 go_wp2_with (refine wpListG_cell rfl 5 (.tmp 25) rfl W.heap.size 0 rfl 34 (evE 1 1 1 0 1 q.how q.mo 0 q.lim (.slice (some ⟨g, 0, none⟩) 1 c)) (.int .u8 1) rfl _ (H5.o.get 1 rfl) Tryz.underlying5 rfl ?_)
 refine wp_region_regF (fun w' => HasO [] W [(W.heap.size + 1, .cells (nsE 1 1 0 1 q.how q.mo 0 q.lim) 29), (W.heap.size, .cells (evE 1 1 1 0 1 q.how q.mo 0 q.lim (.slice (some ⟨g, 0, none⟩) 1 c)) 34), (gm, .cells (modE day gc ba br bk gl seq run st) 82), (ba, .map #[] 0), (gc, .cells #[.slice none 0 0, .map (some bc)] 144), (bc, .map #[] 0)] w') (fun w' => HasO [gc, bc] W [] w') (fun _ => (0, #[])) [0, 1, 2, 3, 4, 5] [] [6] [] (by kernel_rfl) (by kernel_rfl) ?_ (fun w w' h hb => h.step hb) ?_ (fun k hk => by cases hk) ?_
 . exact fun w h => HasO.nil (h.1.mono (by simp))
 . exact H5.o.drew
 simp only [List.map_cons, List.map_nil, opAt, List.getElem?_cons_succ, List.getElem?_cons_zero, Option.getD_some, List.contains_cons, List.contains_nil, Nat.reduceBEq, Bool.or_false, Bool.or_true, Bool.true_or, Bool.false_or]
 repeat (refine wpX_pure rfl ?_; go_big_quiet_step ((intro _; rfl)); refine wpQuiet_nil ?_)
 refine wpX_pure rfl ?_
 refine wpQuiet_cell 73 (.tmp 31) rfl rfl ⟨gm, 1, none⟩ rfl (.pointer (some ⟨gc, 0, none⟩)) _ (fun w hw => (hw.get 2 rfl).cell 1) Tryz.underlying73 rfl (fun K1 k1 => ?_)
 go_simp
 refine k1 _ ?_
 clear k1 K1
 refine wpQuiet_nil ?_
 refine wpX_pure rfl ?_
 refine wpQuiet_row 34 (.tmp 3) rfl rfl W.heap.size rfl 34 (evE 1 1 1 0 1 q.how q.mo 0 q.lim (.slice (some ⟨g, 0, none⟩) 1 c)) _ (fun w hw => hw.get 1 rfl) Tryz.underlying34 rfl (by kernel_rfl) (fun K1 k1 => ?_)
 go_simp
 refine k1 _ ?_
 clear k1 K1
 refine wpQuiet_nil ?_
 refine wpX_call (.agg (prodQ q (.slice (some ⟨g, 0, none⟩) 1 c))) 59 #[.agg (evE 1 1 1 0 1 q.how q.mo 0 q.lim (.slice (some ⟨g, 0, none⟩) 1 c))] rfl (fun w => by go_simp) (fun w hw => CV.o _) (fun K1 k1 => ?_)
 go_simp
 refine k1 _ ?_
 clear k1 K1
 refine wpX_nil ?_
 intro gs6 w6 H6
 intro hmade
 simp only [putAll, wpTail, opAt, List.getElem?_cons_succ, List.getElem?_cons_zero, Option.getD_some, Act.put]
 have H6 := Hd H6
 clear hmade H5
 go_wp2_with fail
 refine (CA.o _ (HasO.re H6.o).tail.tail.tail.tail (HS.o.step H6.o.below)).mono ?_
 rintro e w7 ⟨rfl, hk7, hc7⟩
 have HK7 : Hi (Keep [gc, bc] W w7) := Hd ((H6.o.1.mono (by simp)).trans hk7 (fun k hk => .inl hk))
 have HC7 := Hd hc7
 clear hk7 hc7 H6
 go_wp2_with fail
 refine ⟨HasO.nil HK7.o, ?_⟩
 go_wp2_with fail
 go_end0
 exact ⟨rfl, HK7.o, HC7.o⟩
theorem happen_open (q : Qd) (gm gc ba br bk gl : Nat) (day seq : Int) (hd : 1 <= day /\ day <= 3652059) (run : Bool) (st : Value) (W : World) (hc : CatQ q gc W)
 (h : HasO [] W [(gm, .cells (modE day gc ba br bk gl seq run st) 82), (ba, .map #[] 0)] W) :
 Calls Tryz.prog 28 #[.pointer (some ⟨gm, 0, none⟩), .agg (evE 2 10 1 0 0 0 0 0 0 (.slice none 0 0))] W fun e w' => e = unitR /\ Keep [ba] W w' /\ ∃ ga bh, W.heap.size <= ga /\ W.heap.size <= bh /\ w'.heap[ba]? = some (.map #[entA ga] 1) /\ w'.heap[ga]? = some (.cells (acctE 0 0 bh) 112) /\ w'.heap[bh]? = some (.map #[] 0) := by
 have CA := Hd (fun w (hb : Below W.heap.size W w) => atQ_ok q gc day hd w (cat1_step hc hb))
 have H1 : Hi (HasO [] W [(W.heap.size + 1, .cells (nsE 10 1 0 0 0 0 0 0) 29), (W.heap.size, .cells (evE 2 10 1 0 0 0 0 0 0 (.slice none 0 0)) 34), (gm, .cells (modE day gc ba br bk gl seq run st) 82), (ba, .map #[] 0)] _) := Hd ((h.new (g := W.heap.size) rfl (.cells (evE 2 10 1 0 0 0 0 0 0 (.slice none 0 0)) 34)).new (g := W.heap.size + 1) (by simp) (.cells (nsE 10 1 0 0 0 0 0 0) 29))
 have hmm := fun w : World => (run_makeMap (P := Tryz.prog) 110 w)
 have HLT := Hd (obj_lt (h.obj 1 rfl))
 clear h hc hd
 rw [evE]
 go_enter Tryz.func28, Tryz.ntmps28
 go_wp2_with fail
 refine wp_region_class (fun w' => HasO [] W _ w') [0, 1, 2, 3, 4, 5, 6, 7, 8, 9, 10, 11, 12, 13, 14, 15] (by kernel_rfl) (by kernel_rfl) (H1.o.drew) ?_
 simp only [List.map_cons, List.map_nil, opAt, List.getElem?_cons_succ, List.getElem?_cons_zero, Option.getD_some]
 repeat (go_big_quiet_step ((intro _; rfl)))
 refine wpQuiet_cell 75 (.tmp 13) rfl rfl ⟨gm, 2, none⟩ rfl (.map (some ba)) _ (fun w hw => (hw.get 2 rfl).cell 2) Tryz.underlying75 rfl (fun K1 k1 => ?_)
 go_simp
 refine k1 _ ?_
 clear k1 K1
 repeat (go_big_quiet_step ((intro _; rfl)))
 refine wpQuiet_cell 2 (.tmp 15) rfl rfl ⟨(W.heap.size + 1), 0, none⟩ rfl (.int .i64 10) _ (fun w hw => (hw.get 0 rfl).cell 0) Tryz.underlying2 rfl (fun K1 k1 => ?_)
 go_simp
 refine k1 _ ?_
 clear k1 K1
 refine wpQuiet_lookup rfl 75 (.tmp 14) (.tmp 16) false rfl ba (.int .i64 10) (.pointer none) rfl rfl (fun w hw => look0 ba _ w (hw.obj 3 rfl)) (fun K1 k1 => ?_)
 go_simp
 refine k1 _ ?_
 clear k1 K1
 repeat (go_big_quiet_step ((intro _; rfl)))
 refine wpQuiet_cell 75 (.tmp 20) rfl rfl ⟨gm, 2, none⟩ rfl (.map (some ba)) _ (fun w hw => (hw.get 2 rfl).cell 2) Tryz.underlying75 rfl (fun K1 k1 => ?_)
 go_simp
 refine k1 _ ?_
 clear k1 K1
 repeat (go_big_quiet_step ((intro _; rfl)))
 refine wpQuiet_cell 2 (.tmp 22) rfl rfl ⟨(W.heap.size + 1), 1, none⟩ rfl (.int .i64 1) _ (fun w hw => (hw.get 0 rfl).cell 1) Tryz.underlying2 rfl (fun K1 k1 => ?_)
 go_simp
 refine k1 _ ?_
 clear k1 K1
 refine wpQuiet_lookup rfl 75 (.tmp 21) (.tmp 23) false rfl ba (.int .i64 1) (.pointer none) rfl rfl (fun w hw => look0 ba _ w (hw.obj 3 rfl)) (fun K1 k1 => ?_)
 go_simp
 refine k1 _ ?_
 clear k1 K1
 repeat (go_big_quiet_step ((intro _; rfl)))
 refine wpQuiet_nil ?_
 intro w5 H5
 have H5 := Hd H5
 clear H1
 go_wp2_with (refine wpListG_cell rfl 5 (.tmp 25) rfl W.heap.size 0 rfl 34 (evE 2 10 1 0 0 0 0 0 0 (.slice none 0 0)) (.int .u8 2) rfl _ (H5.o.get 1 rfl) Tryz.underlying5 rfl ?_)
 apply wp_region_cut3 (fun w' => HasO [] W [(W.heap.size + 1, .cells (nsE 10 1 0 0 0 0 0 0) 29), (W.heap.size, .cells (evE 2 10 1 0 0 0 0 0 0 (.slice none 0 0)) 34), (gm, .cells (modE day gc ba br bk gl seq run st) 82), (ba, .map #[] 0)] w') (fun g7 g5 c5 w' => HasO [] W ((g7, .cells (prodQ q (.slice (some ⟨g5, 0, none⟩) 1 c5)) 153) :: [(W.heap.size + 1, .cells (nsE 10 1 0 0 0 0 0 0) 29), (W.heap.size, .cells (evE 2 10 1 0 0 0 0 0 0 (.slice none 0 0)) 34), (gm, .cells (modE day gc ba br bk gl seq run st) 82), (ba, .map #[] 0)]) w' /\ TS q.rate w' (.slice (some ⟨g5, 0, none⟩) 1 c5)) _ (.seg [0, 1, 2, 3, 4, 5, 6, 7, 8, 9] (.fork 10 (.seg [11, 12, 13] (.turn 14 (.turn 15 (.turn 16 .nil)))) 14 (.turn 10 (.seg [11, 12, 13] (.turn 15 (.turn 16 .nil)))))) (by kernel_rfl) (by kernel_rfl) H5.o.drew
 case h =>
  simp only [wpPlan, List.map_cons, List.map_nil, opAt, List.getElem?_cons_succ, List.getElem?_cons_zero, Option.getD_some]
  repeat (go_big_quiet_step ((intro _; rfl)))
  refine wpQuiet_cell 73 (.tmp 41) rfl rfl ⟨gm, 1, none⟩ rfl (.pointer (some ⟨gc, 0, none⟩)) _ (fun w hw => (hw.get 2 rfl).cell 1) Tryz.underlying73 rfl (fun K1 k1 => ?_)
  go_simp
  refine k1 _ ?_
  clear k1 K1
  repeat (go_big_quiet_step ((intro _; rfl)))
  refine wpQuiet_cell 2 (.tmp 43) rfl rfl ⟨(W.heap.size + 1), 1, none⟩ rfl (.int .i64 1) _ (fun w hw => (hw.get 0 rfl).cell 1) Tryz.underlying2 rfl (fun K1 k1 => ?_)
  go_simp
  refine k1 _ ?_
  clear k1 K1
  repeat (go_big_quiet_step ((intro _; rfl)))
  refine wpQuiet_cell 3 (.tmp 47) rfl rfl ⟨gm, 0, none⟩ rfl (.int .i64 day) _ (fun w hw => (hw.get 2 rfl).cell 0) Tryz.underlying3 rfl (fun K1 k1 => ?_)
  go_simp
  refine k1 _ ?_
  clear k1 K1
  repeat (go_big_quiet_step ((intro _; rfl)))
  refine wpQuiet_nil ?_
  have HD := Hd H5.o.drew
  refine ⟨?_, ?_⟩
  . go_wp2_with fail
    refine (CA.o _ HD.o.below).mono ?_
    rintro e w11 ⟨⟨s', rfl, hs'⟩, hb1⟩
    have HSa := Hd hs'
    obtain ⟨g5, c5, cu5, rfl, _⟩ := hs'
    have H2a := Hd (HD.o.step hb1)
    clear hb1 HD
    go_wp2_with fail
    refine ⟨H2a.o, ?_⟩
    repeat (go_big_quiet_step ((intro _; rfl)))
    refine wpQuiet_nil ?_
    go_wp2_with fail
    obtain ⟨g7, hg7⟩ : ∃ g7, g7 = w11.heap.size := ⟨_, rfl⟩
    have H3a := Hd (H2a.o.new hg7 (.cells prodZ 153))
    have HSb := Hd (HSa.o.step (Below.al (Below.refl _ _) (.cells prodZ 153)))
    have HNa := Hd (H2a.o.size)
    rw [<- hg7] at HNa
    rw [<- hg7]
    refine ⟨H3a.o.tail, ?_⟩
    clear hg7 H2a HSa
    go_wp2_with (refine wpList_turn rfl 153 (.tmp 7) (.tmp 50) rfl g7 0 (.agg (prodQ q (.slice (some ⟨g5, 0, none⟩) 1 c5))) rfl rfl 153 prodZ (prodQ q (.slice (some ⟨g5, 0, none⟩) 1 c5)) (H3a.o.get 0 rfl) (by kernel_rfl) (by simp [Value.cells, prodQ, prodZ, evE, nsE, evZ, acctE, modE]) (by simp [Value.cells, Value.oneCell', prodQ, prodZ, evE, nsE, evZ, acctE, modE]) rfl ?_; intro W6 HT6)
    have H4a := Hd (H3a.o.turn 0 rfl HT6 (.inr HNa.o) (H3a.o.apart 0 rfl rfl))
    have HSc := Hd (HSb.o.keep HT6.keep (by intro k hk cur hc; simp only [List.mem_singleton] at hk; subst hk; rw [H3a.o.obj 0 rfl] at hc; cases hc))
    refine ⟨H4a.o.tail, ?_⟩
    go_wp2_with fail
    refine ⟨H4a.o.tail, ?_⟩
    exact ⟨g7, g5, c5, ⟨H4a.o, HSc.o⟩, rfl⟩
  . go_wp2_with fail
    obtain ⟨g7, hg7⟩ : ∃ g7, g7 = w5.heap.size := ⟨_, rfl⟩
    have H3a : Hi (HasO [] _ ((g7, .cells prodZ 153) :: [(W.heap.size + 1, .cells (nsE 10 1 0 0 0 0 0 0) 29), (W.heap.size, .cells (evE 2 10 1 0 0 0 0 0 0 (.slice none 0 0)) 34), (gm, .cells (modE day gc ba br bk gl seq run st) 82), (ba, .map #[] 0)]) _) := Hd ((H5.o.new hg7 (.cells prodZ 153)).drew)
    have HNa := Hd (H5.o.size)
    rw [<- hg7] at HNa
    rw [<- hg7]
    refine ⟨H3a.o.tail, ?_⟩
    clear hg7 HD
    go_wp2_with fail
    refine (CA.o _ H3a.o.below).mono ?_
    rintro e w11 ⟨⟨s', rfl, hs'⟩, hb1⟩
    have HSb := Hd hs'
    obtain ⟨g5, c5, cu5, rfl, _⟩ := hs'
    have H2a := Hd (H3a.o.step hb1)
    clear hb1 H3a
    go_wp2_with fail
    refine ⟨H2a.o.tail, ?_⟩
    repeat (go_big_quiet_step ((intro _; rfl)))
    refine wpQuiet_nil ?_
    go_wp2_with (refine wpList_turn rfl 153 (.tmp 7) (.tmp 50) rfl g7 0 (.agg (prodQ q (.slice (some ⟨g5, 0, none⟩) 1 c5))) rfl rfl 153 prodZ (prodQ q (.slice (some ⟨g5, 0, none⟩) 1 c5)) (H2a.o.get 0 rfl) (by kernel_rfl) (by simp [Value.cells, prodQ, prodZ, evE, nsE, evZ, acctE, modE]) (by simp [Value.cells, Value.oneCell', prodQ, prodZ, evE, nsE, evZ, acctE, modE]) rfl ?_; intro W6 HT6)
    have H4a := Hd (H2a.o.turn 0 rfl HT6 (.inr HNa.o) (H2a.o.apart 0 rfl rfl))
    have HSc := Hd (HSb.o.keep HT6.keep (by intro k hk cur hc; simp only [List.mem_singleton] at hk; subst hk; rw [H2a.o.obj 0 rfl] at hc; cases hc))
    refine ⟨H4a.o.tail, ?_⟩
    go_wp2_with fail
    refine ⟨H4a.o.tail, ?_⟩
    exact ⟨g7, g5, c5, ⟨H4a.o, HSc.o⟩, rfl⟩
 case hR =>
  intro g7 g5 c5 w6 H6
  have H6 := Hd H6.1
  clear H5 CA
  go_wp2_with fail
  refine wp_region_regF (fun w' => HasO [] W ((ba, .map #[] 0) :: [(g7, .cells (prodQ q (.slice (some ⟨g5, 0, none⟩) 1 c5)) 153), (W.heap.size + 1, .cells (nsE 10 1 0 0 0 0 0 0) 29), (gm, .cells (modE day gc ba br bk gl seq run st) 82)]) w') (fun w' => HasO [ba] W [(g7, .cells (prodQ q (.slice (some ⟨g5, 0, none⟩) 1 c5)) 153), (W.heap.size + 1, .cells (nsE 10 1 0 0 0 0 0 0) 29), (gm, .cells (modE day gc ba br bk gl seq run st) 82)] w') (fun _ => (0, #[])) [0, 1, 2, 3, 4, 5, 6, 7, 8, 9, 10, 11, 12, 13, 14] [] [15, 16, 17, 18] [0, 1, 2, 3, 4, 5, 6, 7, 8, 9, 10, 11, 12, 13, 14] (by kernel_rfl) (by kernel_rfl) ?_ (fun w w' h hb => h.step hb) ?_ (fun k hk => by cases hk) ?_
  . exact fun w h => ⟨h.1.mono (by simp), h.tail.2⟩
  . exact (H6.o.of_mem (by simp)).drew
  simp only [List.map_cons, List.map_nil, opAt, List.getElem?_cons_succ, List.getElem?_cons_zero, Option.getD_some, List.contains_cons, List.contains_nil, Nat.reduceBEq, Bool.or_false, Bool.or_true, Bool.true_or, Bool.false_or]
  repeat (refine wpX_float rfl ?_; go_big_quiet_step ((intro _; rfl)); refine wpQuiet_nil ?_)
  refine wpX_float rfl ?_
  refine wpQuiet_cell 75 (.tmp 54) rfl rfl ⟨gm, 2, none⟩ rfl (.map (some ba)) _ (fun w hw => (hw.get 2 rfl).cell 2) Tryz.underlying75 rfl (fun K1 k1 => ?_)
  go_simp
  refine k1 _ ?_
  clear k1 K1
  refine wpQuiet_nil ?_
  repeat (refine wpX_float rfl ?_; go_big_quiet_step ((intro _; rfl)); refine wpQuiet_nil ?_)
  refine wpX_float rfl ?_
  refine wpQuiet_cell 2 (.tmp 56) rfl rfl ⟨(W.heap.size + 1), 0, none⟩ rfl (.int .i64 10) _ (fun w hw => (hw.get 1 rfl).cell 0) Tryz.underlying2 rfl (fun K1 k1 => ?_)
  go_simp
  refine k1 _ ?_
  clear k1 K1
  refine wpQuiet_nil ?_
  repeat (refine wpX_float rfl ?_; go_big_quiet_step ((intro _; rfl)); refine wpQuiet_nil ?_)
  refine wpX_float rfl ?_
  refine wpQuiet_cell 2 (.tmp 58) rfl rfl ⟨(W.heap.size + 1), 0, none⟩ rfl (.int .i64 10) _ (fun w hw => (hw.get 1 rfl).cell 0) Tryz.underlying2 rfl (fun K1 k1 => ?_)
  go_simp
  refine k1 _ ?_
  clear k1 K1
  refine wpQuiet_nil ?_
  repeat (refine wpX_float rfl ?_; go_big_quiet_step ((intro _; rfl)); refine wpQuiet_nil ?_)
  refine wpX_float rfl ?_
  refine wpQuiet_cell 2 (.tmp 60) rfl rfl ⟨(W.heap.size + 1), 1, none⟩ rfl (.int .i64 1) _ (fun w hw => (hw.get 1 rfl).cell 1) Tryz.underlying2 rfl (fun K1 k1 => ?_)
  go_simp
  refine k1 _ ?_
  clear k1 K1
  refine wpQuiet_nil ?_
  repeat (refine wpX_float rfl ?_; go_big_quiet_step ((intro _; rfl)); refine wpQuiet_nil ?_)
  refine wpX_float rfl ?_
  refine wpQuiet_cell 3 (.tmp 62) rfl rfl ⟨g7, 2, none⟩ rfl (.int .i64 0) _ (fun w hw => (hw.get 0 rfl).cell 2) Tryz.underlying3 rfl (fun K1 k1 => ?_)
  go_simp
  refine k1 _ ?_
  clear k1 K1
  refine wpQuiet_nil ?_
  repeat (refine wpX_float rfl ?_; go_big_quiet_step ((intro _; rfl)); refine wpQuiet_nil ?_)
  refine wpX_float rfl ?_
  refine wpQuiet_cell 3 (.tmp 64) rfl rfl ⟨g7, 1, none⟩ rfl (.int .i64 1) _ (fun w hw => (hw.get 0 rfl).cell 1) Tryz.underlying3 rfl (fun K1 k1 => ?_)
  go_simp
  refine k1 _ ?_
  clear k1 K1
  refine wpQuiet_nil ?_
  repeat (refine wpX_float rfl ?_; go_big_quiet_step ((intro _; rfl)); refine wpQuiet_nil ?_)
  refine wpX_nil ?_
  intro gs8 w8 H8
  intro hmade
  simp only [putAll, wpTail, opAt, List.getElem?_cons_succ, List.getElem?_cons_zero, Option.getD_some, Act.put]
  have H8 := Hd H8
  clear hmade H6
  go_wp2_with fail
  obtain ⟨bh, hbh⟩ : ∃ bh, bh = w8.heap.size := ⟨_, rfl⟩
  have H9 := Hd (H8.o.new hbh (.map #[] 0))
  have HZ := Hd (show W.heap.size <= bh by rw [hbh]; exact H8.o.size)
  rw [<- hbh]
  have HBH := Hd hbh
  clear H8 hbh
  refine ⟨⟨H9.o.1.mono (by simp), H9.o.tail.tail.2⟩, ?_⟩
  go_wp2_with fail
  refine ⟨⟨H9.o.1.mono (by simp), H9.o.tail.tail.2⟩, ?_⟩
  go_wp2_with fail
  rw [<- HBH.o]
  have H10 := Hd (H9.o.new (g := bh + 1) (by rw [HBH.o]; simp) (.cells (acctE 0 0 bh) 112))
  clear H9
  refine ⟨⟨H10.o.1.mono (by simp), H10.o.tail.tail.tail.2⟩, ?_⟩
  go_wp2_with (refine wpList_update1 rfl 75 (.tmp 55) (.tmp 57) (.tmp 69) rfl ba (.int .i64 10) (.pointer (some ⟨bh + 1, 0, none⟩)) rfl rfl rfl #[] 0 (.map #[entA (bh + 1)] 1) (H10.o.obj 2 rfl) (run_update1_new (d := .int .i64) Tryz.underlying75 (by kernel_rfl) (show MapKept.IsKey (.int .i64) (.int .i64 10) from rfl) ba #[] 0 rfl _ (H10.o.obj 2 rfl)) ?_
               intro W11 HT11)
  have H11 := Hd ((HasO.up (S := [ba]) H10.o).turn 2 rfl HT11 (.inl (by simp)) (by
   intro f hf
   simp only [List.eraseIdx_cons_succ, List.eraseIdx_cons_zero, List.mem_cons, List.not_mem_nil, or_false] at hf
   have h1 := HLT.o
   have h2 := HZ.o
   rcases hf with rfl | rfl | rfl | rfl | rfl
   . show bh + 1 ≠ ba; omega
   . show bh ≠ ba; omega
   . exact ne_alike (H10.o.obj 2 rfl) (H10.o.obj 3 rfl) rfl
   . exact ne_alike (H10.o.obj 2 rfl) (H10.o.obj 4 rfl) rfl
   . exact ne_alike (H10.o.obj 2 rfl) (H10.o.obj 5 rfl) rfl))
  clear H10
  refine ⟨H11.o.tail.tail.tail, ?_⟩
  go_wp2_with fail
  go_end0
  exact ⟨rfl, H11.o.1, bh + 1, bh, by have := HZ.o; omega, HZ.o, H11.o.obj 2 rfl, H11.o.obj 0 rfl, H11.o.obj 1 rfl⟩
theorem happen_deposit (gm gc ba br bk gl ga bh : Nat) (day seq b a n : Int) (run : Bool) (st : Value) (hb : 0 <= b /\ b <= 10000000000000) (hn : 0 <= n /\ n <= 10000000000000) (W : World)
 (h : HasO [] W [(gm, .cells (modE day gc ba br bk gl seq run st) 82), (ba, .map #[entA ga] 1), (ga, .cells (acctE b a bh) 112)] W) (f : Int -> Int) (hf : FB 10000000000000000000000 f) (hl : Led f gl W) :
 Calls Tryz.prog 28 #[.pointer (some ⟨gm, 0, none⟩), .agg (evE 4 10 n 0 0 0 0 0 0 (.slice none 0 0))] W fun e w' => e = unitR /\ Keep [ga, gl] W w' /\ Led (mvF f 1 2 n) gl w' /\ w'.heap[ga]? = some (.cells (acctE (b + n) a bh) 112) := by
 have H1 : Hi (HasO [] W [(W.heap.size + 1, .cells (nsE 10 n 0 0 0 0 0 0) 29), (W.heap.size, .cells (evE 4 10 n 0 0 0 0 0 0 (.slice none 0 0)) 34), (gm, .cells (modE day gc ba br bk gl seq run st) 82), (ba, .map #[entA ga] 1), (ga, .cells (acctE b a bh) 112)] _) := Hd ((h.new (g := W.heap.size) rfl (.cells (evE 4 10 n 0 0 0 0 0 0 (.slice none 0 0)) 34)).new (g := W.heap.size + 1) (by simp) (.cells (nsE 10 n 0 0 0 0 0 0) 29))
 have CM := Hd (fun w hm hl => moves_ok gm gc ba br bk gl day seq 1 2 n run st (by omega) (by omega) (by omega) w hm f hf hl)
 have HL := Hd hl
 obtain ⟨b1, b2⟩ := hb
 obtain ⟨n1, n2⟩ := hn
 have e1 : IntKind.i64.wrap (b + n) = b + n := IntWalk.i64_in _ (by omega)
 clear h hl
 rw [evE]
 go_enter Tryz.func28, Tryz.ntmps28
 go_wp2_with fail
 refine wp_region_class (fun w' => HasO [] W _ w') [0, 1, 2, 3, 4, 5, 6, 7, 8, 9, 10, 11, 12, 13, 14, 15] (by kernel_rfl) (by kernel_rfl) (H1.o.drew) ?_
 simp only [List.map_cons, List.map_nil, opAt, List.getElem?_cons_succ, List.getElem?_cons_zero, Option.getD_some]
 repeat (go_big_quiet_step ((intro _; rfl)))
 refine wpQuiet_cell 75 (.tmp 13) rfl rfl ⟨gm, 2, none⟩ rfl (.map (some ba)) _ (fun w hw => (hw.get 2 rfl).cell 2) Tryz.underlying75 rfl (fun K1 k1 => ?_)
 go_simp
 refine k1 _ ?_
 clear k1 K1
 repeat (go_big_quiet_step ((intro _; rfl)))
 refine wpQuiet_cell 2 (.tmp 15) rfl rfl ⟨(W.heap.size + 1), 0, none⟩ rfl (.int .i64 10) _ (fun w hw => (hw.get 0 rfl).cell 0) Tryz.underlying2 rfl (fun K1 k1 => ?_)
 go_simp
 refine k1 _ ?_
 clear k1 K1
 refine wpQuiet_lookup rfl 75 (.tmp 14) (.tmp 16) false rfl ba (.int .i64 10) (.pointer (some ⟨ga, 0, none⟩)) rfl rfl (fun w hw => look10 ga ba w (hw.obj 3 rfl)) (fun K1 k1 => ?_)
 go_simp
 refine k1 _ ?_
 clear k1 K1
 repeat (go_big_quiet_step ((intro _; rfl)))
 refine wpQuiet_cell 75 (.tmp 20) rfl rfl ⟨gm, 2, none⟩ rfl (.map (some ba)) _ (fun w hw => (hw.get 2 rfl).cell 2) Tryz.underlying75 rfl (fun K1 k1 => ?_)
 go_simp
 refine k1 _ ?_
 clear k1 K1
 repeat (go_big_quiet_step ((intro _; rfl)))
 refine wpQuiet_cell 2 (.tmp 22) rfl rfl ⟨(W.heap.size + 1), 1, none⟩ rfl (.int .i64 n) _ (fun w hw => (hw.get 0 rfl).cell 1) Tryz.underlying2 rfl (fun K1 k1 => ?_)
 go_simp
 refine k1 _ ?_
 clear k1 K1
 refine wpQuiet_lookup rfl 75 (.tmp 21) (.tmp 23) false rfl ba (.int .i64 n) (lookA n ga) rfl rfl (fun w hw => lookN ga ba _ w (hw.obj 3 rfl)) (fun K1 k1 => ?_)
 go_simp
 refine k1 _ ?_
 clear k1 K1
 repeat (go_big_quiet_step ((intro _; rfl)))
 refine wpQuiet_nil ?_
 intro w5 H5
 have H5 := Hd H5
 clear H1
 go_wp2_with (refine wpListG_cell rfl 5 (.tmp 25) rfl W.heap.size 0 rfl 34 (evE 4 10 n 0 0 0 0 0 0 (.slice none 0 0)) (.int .u8 4) rfl _ (H5.o.get 1 rfl) Tryz.underlying5 rfl ?_)
 refine wp_region_regF (fun w' => HasO [] W [(W.heap.size + 1, .cells (nsE 10 n 0 0 0 0 0 0) 29), (W.heap.size, .cells (evE 4 10 n 0 0 0 0 0 0 (.slice none 0 0)) 34), (gm, .cells (modE day gc ba br bk gl seq run st) 82), (ba, .map #[entA ga] 1), (ga, .cells (acctE b a bh) 112)] w') (fun w' => HasO [ga, gl] W [] w') (fun _ => (0, #[])) [0, 1, 2, 3, 4, 5, 6, 7, 8, 9, 10] [] [11] [] (by kernel_rfl) (by kernel_rfl) ?_ (fun w w' h hb => h.step hb) ?_ (fun k hk => by cases hk) ?_
 . exact fun w h => HasO.nil (h.1.mono (by simp))
 . exact H5.o.drew
 simp only [List.map_cons, List.map_nil, opAt, List.getElem?_cons_succ, List.getElem?_cons_zero, Option.getD_some, List.contains_cons, List.contains_nil, Nat.reduceBEq, Bool.or_false, Bool.or_true, Bool.true_or, Bool.false_or]
 repeat (refine wpX_pure rfl ?_; go_big_quiet_step ((intro _; rfl)); refine wpQuiet_nil ?_)
 refine wpX_pure rfl ?_
 refine wpQuiet_cell 2 (.tmp 85) rfl rfl ⟨ga, 5, none⟩ rfl (.int .i64 b) _ (fun w hw => (hw.get 4 rfl).cell 5) Tryz.underlying2 rfl (fun K1 k1 => ?_)
 go_simp
 refine k1 _ ?_
 clear k1 K1
 refine wpQuiet_nil ?_
 repeat (refine wpX_pure rfl ?_; go_big_quiet_step ((intro _; rfl)); refine wpQuiet_nil ?_)
 refine wpX_pure rfl ?_
 refine wpQuiet_cell 2 (.tmp 87) rfl rfl ⟨(W.heap.size + 1), 1, none⟩ rfl (.int .i64 n) _ (fun w hw => (hw.get 0 rfl).cell 1) Tryz.underlying2 rfl (fun K1 k1 => ?_)
 go_simp
 refine k1 _ ?_
 clear k1 K1
 refine wpQuiet_nil ?_
 repeat (refine wpX_pure rfl ?_; go_big_quiet_step ((intro _; rfl)); refine wpQuiet_nil ?_)
 refine wpX_nil ?_
 intro gs6 w6 H6
 intro hmade
 simp only [putAll, wpTail, opAt, List.getElem?_cons_succ, List.getElem?_cons_zero, Option.getD_some, Act.put]
 have HL6 := Hd (HL.o.step H6.below)
 have H6 := Hd (HasO.up (S := [ga, gl]) H6)
 have HNE := Hd (led_ne HL6.o (H6.o.obj 4 rfl) rfl)
 have HAP := Hd (H6.o.apart 4 rfl rfl)
 clear hmade H5 HL
 go_wp2_with (refine wpList_turn rfl 2 (.tmp 92) (.tmp 89) rfl ga 5 (.int .i64 (b + n)) rfl rfl 112 (acctE b a bh) (acctE (b + n) a bh) (H6.o.get 4 rfl) (by kernel_rfl) (by simp [Value.cells, prodQ, prodZ, evE, nsE, evZ, acctE, modE]) (by simp [Value.cells, Value.oneCell', prodQ, prodZ, evE, nsE, evZ, acctE, modE]) rfl ?_; intro W7 HT7)
 have H7 : Hi (HasO [ga, gl] W [(W.heap.size + 1, .cells (nsE 10 n 0 0 0 0 0 0) 29), (W.heap.size, .cells (evE 4 10 n 0 0 0 0 0 0 (.slice none 0 0)) 34), (gm, .cells (modE day gc ba br bk gl seq run st) 82), (ba, .map #[entA ga] 1), (ga, .cells (acctE (b + n) a bh) 112)] W7) := Hd (H6.o.turn 4 rfl HT7 (.inl (by simp)) HAP.o)
 have HL7 := Hd (led_turn HL6.o HT7 (H6.o.obj 4 rfl) rfl HNE.o)
 clear H6 HL6 HAP
 refine ⟨H7.o.of_mem (by simp), ?_⟩
 go_wp2_with fail
 refine wp_region_regF (fun w' => HasO [] W7 [(W.heap.size + 1, .cells (nsE 10 n 0 0 0 0 0 0) 29), (W.heap.size, .cells (evE 4 10 n 0 0 0 0 0 0 (.slice none 0 0)) 34), (gm, .cells (modE day gc ba br bk gl seq run st) 82), (ba, .map #[entA ga] 1), (ga, .cells (acctE (b + n) a bh) 112)] w') (fun w' => HasO [ga, gl] W [] w') (fun _ => (0, #[])) [0, 1, 2, 3, 4, 5, 6, 7] [] [8] [0, 1, 2, 3] (by kernel_rfl) (by kernel_rfl) ?_ (fun w w' h hb => h.step hb) ?_ (fun k hk => by cases hk) ?_
 . exact fun w h => HasO.nil (H7.o.1.step h.below)
 . exact (HasO.re H7.o).drew
 simp only [List.map_cons, List.map_nil, opAt, List.getElem?_cons_succ, List.getElem?_cons_zero, Option.getD_some, List.contains_cons, List.contains_nil, Nat.reduceBEq, Bool.or_false, Bool.or_true, Bool.true_or, Bool.false_or]
 repeat (refine wpX_float rfl ?_; go_big_quiet_step ((intro _; rfl)); refine wpQuiet_nil ?_)
 repeat (refine wpX_pure rfl ?_; go_big_quiet_step ((intro _; rfl)); refine wpQuiet_nil ?_)
 refine wpX_pure rfl ?_
 refine wpQuiet_cell 3 (.tmp 97) rfl rfl ⟨ga, 2, none⟩ rfl (.int .i64 0) _ (fun w hw => (hw.get 4 rfl).cell 2) Tryz.underlying3 rfl (fun K1 k1 => ?_)
 go_simp
 refine k1 _ ?_
 clear k1 K1
 refine wpQuiet_nil ?_
 repeat (refine wpX_pure rfl ?_; go_big_quiet_step ((intro _; rfl)); refine wpQuiet_nil ?_)
 refine wpX_pure rfl ?_
 refine wpQuiet_cell 2 (.tmp 99) rfl rfl ⟨(W.heap.size + 1), 1, none⟩ rfl (.int .i64 n) _ (fun w hw => (hw.get 0 rfl).cell 1) Tryz.underlying2 rfl (fun K1 k1 => ?_)
 go_simp
 refine k1 _ ?_
 clear k1 K1
 refine wpQuiet_nil ?_
 refine wpX_nil ?_
 intro gs8 w8 H8
 intro hmade
 simp only [putAll, wpTail, opAt, List.getElem?_cons_succ, List.getElem?_cons_zero, Option.getD_some, Act.put]
 have HL8 := Hd (HL7.o.step H8.below)
 have HK8 := Hd (H7.o.1.step H8.below)
 have H8 := Hd H8
 clear hmade H7 HL7
 go_wp2_with fail
 refine (CM.o _ (H8.o.obj 2 rfl) HL8.o).mono ?_
 rintro e w9 ⟨rfl, hk9, hl9⟩
 have hg9 := (hk9.block ga (obj_lt (H8.o.obj 4 rfl)) (by simpa using HNE.o)).trans (H8.o.obj 4 rfl)
 have HK9 := Hd (HK8.o.trans hk9 (by simp))
 have HG9 := Hd hg9
 have HL9 := Hd hl9
 clear hk9 hl9 hg9 H8 HK8 HL8
 unfold unitR
 go_wp2_with fail
 refine ⟨HasO.nil HK9.o, ?_⟩
 go_wp2_with fail
 go_end0
 exact ⟨rfl, HK9.o, HL9.o, HG9.o⟩
end Mo
end Go.Proofs.YtkdnebalpdebeaaGreatDoor
