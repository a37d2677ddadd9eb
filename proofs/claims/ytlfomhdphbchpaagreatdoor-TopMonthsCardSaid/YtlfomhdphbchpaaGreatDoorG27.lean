/- Lemmas of a claim, several texts in one: MoK, MoL -/
import Derived.Test.YtlfomhdphbchpaaGreatDoorG26
import Derived.Test.YtlfomhdphbchpaaGreatDoorG04
/-! model: due -/
namespace Go.Proofs.YtlfomhdphbchpaaGreatDoor.Mo
open Go.RowKit Go.Deep Go.Proofs.YtlfomhdphbchpaaGreatDoor.Wide Go.Proofs.YtlfomhdphbchpaaGreatDoor.Dec Go.Proofs.YtlfomhdphbchpaaGreatDoor.Mp Go.Proofs.YtlfomhdphbchpaaGreatDoor.Pr Go.Proofs.YtlfomhdphbchpaaGreatDoor.Ch
set_option linter.unusedVariables false
set_option linter.unusedSimpArgs false
def flatS (ks : List Int) : List Value := ks.flatMap fun k => [.int .i64 10, .int .i64 k]
theorem flatS_snoc (ks : List Int) (k : Int) : flatS (ks ++ [k]) = flatS ks ++ [.int .i64 10, .int .i64 k] := by simp [flatS]
theorem flatS_len (ks : List Int) : (flatS ks).length = 2 * ks.length := by
  induction ks with
  | nil => rfl
  | cons k ks ih => simp [flatS] at ih ⊢; omega
theorem flatS_get : ∀ (ks : List Int) (j : Nat) (k : Int), ks[j]? = some k → (flatS ks)[2 * j]? = some (.int .i64 10) ∧ (flatS ks)[2 * j + 1]? = some (.int .i64 k)
  | [], j, k, h => by simp at h
  | x :: ks, 0, k, h => by
    simp only [List.getElem?_cons_zero, Option.some.injEq] at h
    subst h
    exact ⟨rfl, rfl⟩
  | x :: ks, j + 1, k, h => by
    have := flatS_get ks j k (by simpa using h)
    have e : flatS (x :: ks) = .int .i64 10 :: .int .i64 x :: flatS ks := by simp [flatS]
    rw [e, show 2 * (j + 1) = 2 * j + 1 + 1 from by omega]
    simpa using this
/-- steps that are collected -/
def OwnS (B : Nat) (w : World) (v : Value) (ks : List Int) : Prop := w.ownsRow B 83 2 v ks.length (flatS ks)
theorem OwnS.steps {B : Nat} {w : World} {v : Value} {ks : List Int} (h : OwnS B w v ks) : StepsAt w v ks := by
  obtain ⟨_, hn | ⟨g, cap, cu, rfl, _, hh, h1, h2, h3, h4⟩⟩ := h
  · obtain ⟨rfl, hn⟩ := hn
    have : ks = [] := by
      cases ks with
      | nil => rfl
      | cons k ks => simp [flatS] at hn
    subst this
    exact ⟨none, 0, rfl, Nat.le_refl _, Nat.zero_le _, fun h => absurd rfl h⟩
  · refine ⟨some ⟨g, 0, none⟩, cap, rfl, h1, h2, fun _ => ⟨g, 0, cu, rfl, hh, fun j k hj => ?_⟩⟩
    obtain ⟨q0, q1⟩ := flatS_get ks j k hj
    have hlt : j < ks.length := (List.getElem?_eq_some_iff.1 hj).1
    have e : cu.toList.take (ks.length * 2) = flatS ks := by simpa using h4
    constructor
    · rw [← e, List.getElem?_take, if_pos (by omega)] at q0; simpa using q0
    · rw [← e, List.getElem?_take, if_pos (by omega)] at q1; simpa using q1
theorem OwnS.slice {B : Nat} {w : World} {v : Value} {ks : List Int} (h : OwnS B w v ks) : ∃ A c, v = .slice A ks.length c := by
  obtain ⟨_, hn | ⟨g, cap, cu, rfl, _⟩⟩ := h
  · exact ⟨none, 0, by rw [hn.1, hn.2]⟩
  · exact ⟨_, _, rfl⟩
theorem OwnS.step {B : Nat} {w w' : World} {v : Value} {ks : List Int} (h : OwnS B w v ks) (hb : Below w.heap.size w w') : OwnS B w' v ks := own_below h hb
section
variable {ops : Array Oper} {rest : List Oper} {o : Oper} {a : Act} {Q : Exit → Act → World → Prop}
set_option maxRecDepth 100000 in
/-- one step more -/
theorem wpList_appS (W0 w : World) (hgd : o.guard = none) (s x : Operand) (ho : o.op = .call { callee := .builtin .append, args := #[s, x], argTypes := #[62, 62] })
    (v : Value) (ks : List Int) (k : Int) (hv : OwnS W0.heap.size w v ks) (hb : Below W0.heap.size W0 w) (hl : ks.length ≤ 1000) (hs : a.eval s = v) (g : Nat) (hx : a.eval x = .slice (some ⟨g, 0, none⟩) 1 1) (hg : w.heap[g]? = some (.cells #[.int .i64 10, .int .i64 k] 83))
    (h : ∀ v' w', OwnS W0.heap.size w' v' (ks ++ [k]) → Below W0.heap.size W0 w' → wpList Tryz.prog ops Q rest (a.put o.dst v') w') : wpList Tryz.prog ops Q (o :: rest) a w := by
  obtain ⟨i, hi, h2, h3, h4⟩ : ∃ i, Tryz.prog.info? 83 = some i ∧ i.zero = some (.agg #[.int .i64 0, .int .i64 0]) ∧ i.size = 2 ∧ i.bytes = 16 := ⟨_, rfl, by kernel_rfl, by kernel_rfl, by kernel_rfl⟩
  refine wpList_append_own w hgd s x 62 ho W0.heap.size 83 i (.agg #[.int .i64 0, .int .i64 0]) 2 16 Tryz.underlying62 hi h2 h3 h4 rfl (by omega) v ks.length (flatS ks) hs hv ⟨g, 0, none⟩ 1 1 [.int .i64 10, .int .i64 k] hx rfl (fun j u hj => by rw [Addr.add_lit, Blk.cell (t := 83) hg]; simpa using hj) (by intro u hu; simp only [List.mem_cons, List.not_mem_nil, or_false] at hu; rcases hu with rfl | rfl <;> rfl) (by simp only [maxLen]; omega) (by omega) hb.size ?_
  intro v' w' hown hgr hat
  refine h v' w' ?_ ?_
  · unfold OwnS
    rw [flatS_snoc, List.length_append, List.length_singleton]
    exact hown
  · exact below_own hb hgr hv (Nat.le_refl _) hb.size
end
/-- the steps of a day's end -/
def dueKs (day : Int) : List Int := if Cal.endB day then [1, 2, 3] else [1]
set_option maxHeartbeats 4000000 in
set_option maxRecDepth 100000 in
theorem due_ok (gm gc ba br bk gl ga bh : Nat) (day seq b a : Int) (st : Value) (hd : 1 ≤ day ∧ day < 3652059) (W : World)
    (h : HasO [] W [(gm, .cells (modE day gc ba br bk gl seq false st) 64), (ba, .map #[entA ga] 1), (ga, .cells (acctE b a bh) 126)] W) :
    Calls Tryz.prog 55 #[.pointer (some ⟨gm, 0, none⟩)] W fun e w' => (∃ v, e = .returned v ∧ StepsAt w' v (dueKs day)) ∧ Below W.heap.size W w' := by
  have CE := Lib.hid (fun w => Cal.monthEnd_ok day (by omega) w)
  have HH := Lib.hid (fun w (hb : Below W.heap.size W w) => h.step hb)
  have c0 := (h.get 0 rfl).cell 0
  have c2 := (h.get 0 rfl).cell 2
  simp only [modE, List.getElem?_toArray, List.getElem?_cons_succ, List.getElem?_cons_zero] at c0 c2
  obtain ⟨be, hbe⟩ : ∃ be, be = Cal.endB day := ⟨_, rfl⟩
  unfold dueKs
  rw [← hbe] at CE ⊢
  obtain ⟨D, hD⟩ : ∃ D, D = (if be = true then [1, 2, 3] else ([1] : List Int)) := ⟨_, rfl⟩
  rw [← hD]
  have HD := Lib.hid hD
  clear hbe h hD
  go_enter Tryz.func55, Tryz.ntmps55
  go_wp2_with fail
  refine (CE.out _).mono ?_
  rintro e w1 ⟨rfl, hw⟩
  obtain rfl : W = w1 := hw.symm
  go_wp2_with fail
  refine (keysA_ok (some ba) _).mono ?_
  rintro e w2 ⟨rfl, hw⟩
  have HBA := Lib.hid ((HH.out _ (Below.refl _ _)).obj 1 rfl)
  obtain rfl := hw
  go_wp2_with fail
  refine (sortedA_ok ga ba W HBA.out).mono ?_
  rintro e w3 ⟨⟨gk, ck, cu, rfl, hgk, hck⟩, hb3⟩
  have HB3 := Lib.hid ((Below.al (Below.refl _ _) _).trans (hb3.mono (by simp)) : Below W.heap.size W w3)
  clear hb3 c0 c2 CE HBA
  have HG3 := Lib.hid (HH.out _ HB3.out)
  have ck0 : w3.cell? ⟨gk, 0, none⟩ = some (.int .i64 10) := by rw [Blk.cell (t := 2) (cs := cu) hgk 0]; exact hck
  have c2 := (HG3.out.get 0 rfl).cell 2
  have c4 := (HG3.out.get 2 rfl).cell 4
  have c3 := (HG3.out.get 2 rfl).cell 3
  have hlk := look10 ga ba w3 (HG3.out.obj 1 rfl)
  simp only [modE, acctE, List.getElem?_toArray, List.getElem?_cons_succ, List.getElem?_cons_zero] at c2 c4 c3
  clear hgk hck
  go_wp2_with fail
  go_loopw [5, 24] (fun l i wr => (i = .int .i64 0 ∧ l = .slice none 0 0 ∧ wr = w3) ∨ (i = .int .i64 1 ∧ Hid (StepsAt wr l D ∧ Below W.heap.size W wr ∧ ∃ A n c, l = .slice A n c))) (fun _ i _ => 1 - (intOf i).toNat)
  case atStart => exact .inl ⟨rfl, rfl, rfl⟩
  case round =>
    rcases hrel with ⟨rfl, rfl, hwr⟩ | ⟨rfl, HR⟩
    · obtain rfl : w3 = wr := hwr.symm
      cases be with
      | false =>
        go_wp2_with (first
        | (refine wpList_appS W _ rfl (.tmp 40) (.tmp 43) rfl (.slice none 0 0) [] 1 (World.ownsRow_nil _ _ _ _) (Below.al HB3.out _) (by simp) rfl w3.heap.size rfl (Blk.new _ _ _) ?_
           intro v4 w4 hv4 hb4
           obtain ⟨A4, k4, rfl⟩ := hv4.slice
           have HV4 := Lib.hid hv4
           have HB4 := Lib.hid hb4
           clear hv4 hb4 c2 c4 c3 hlk ck0))
        go_roundw
        case rel => exact .inr ⟨rfl, Lib.hid ⟨by rw [HD.out]; exact HV4.out.steps, HB4.out, _, _, _, rfl⟩⟩
        case measure => simp [intOf]
      | true =>
        go_wp2_with (first
        | (refine wpList_appS W _ rfl (.tmp 40) (.tmp 43) rfl (.slice none 0 0) [] 1 (World.ownsRow_nil _ _ _ _) (Below.al HB3.out _) (by simp) rfl w3.heap.size rfl (Blk.new _ _ _) ?_
           intro v4 w4 hv4 hb4
           obtain ⟨A4, k4, rfl⟩ := hv4.slice
           have HV4 := Lib.hid hv4
           have HB4 := Lib.hid hb4
           clear hv4 hb4 c2 c4 c3 hlk ck0)
        | (refine wpList_appS W _ rfl (.tmp 46) (.tmp 49) rfl (.slice A4 1 k4) [1] 2 (HV4.out.step (Below.al (Below.refl _ _) _)) (Below.al HB4.out _) (by simp) rfl w4.heap.size rfl (Blk.new _ _ _) ?_
           intro v5 w5 hv5 hb5
           obtain ⟨A5, k5, rfl⟩ := hv5.slice
           have HV5 := Lib.hid hv5
           have HB5 := Lib.hid hb5
           have HG5 := Lib.hid (HH.out _ hb5)
           clear hv5 hb5)
        | (refine wpListG_cell rfl 3 (.tmp 56) rfl ga 3 rfl 126 (acctE b a bh) (.int .i64 1) rfl _ (HG5.out.get 2 rfl) Tryz.underlying3 rfl ?_)
        | (refine wpList_appS W _ rfl (.tmp 60) (.tmp 63) rfl (.slice A5 2 k5) [1, 2] 3 (HV5.out.step (Below.al (Below.refl _ _) _)) (Below.al HB5.out _) (by simp) rfl w5.heap.size rfl (Blk.new _ _ _) ?_
           intro v6 w6 hv6 hb6
           obtain ⟨A6, k6, rfl⟩ := hv6.slice
           have HV6 := Lib.hid hv6
           have HB6 := Lib.hid hb6
           clear hv6 hb6))
        go_roundw
        case rel => exact .inr ⟨rfl, Lib.hid ⟨by rw [HD.out]; exact HV6.out.steps, HB6.out, _, _, _, rfl⟩⟩
        case measure => simp [intOf]
    · obtain ⟨hs, hb, A, n, c, rfl⟩ := HR.out
      have HS := Lib.hid hs
      have HB := Lib.hid hb
      clear hs hb HR c2 c4 c3 hlk ck0
      go_wp2_with fail
      exact bodyPost_ret (v := .slice A n c) (Cal.results_one rfl _ _ rfl) rfl ⟨⟨_, rfl, HS.out⟩, HB.out⟩
end Go.Proofs.YtlfomhdphbchpaaGreatDoor.Mo

/-! model: happen, of the other events -/
namespace Go.Proofs.YtlfomhdphbchpaaGreatDoor.Mo
open Go.RowKit Go.Deep Go.Proofs.YtlfomhdphbchpaaGreatDoor.Wide Go.Proofs.YtlfomhdphbchpaaGreatDoor.Dec Go.Proofs.YtlfomhdphbchpaaGreatDoor.Mp Go.Proofs.YtlfomhdphbchpaaGreatDoor.Pr Go.Proofs.YtlfomhdphbchpaaGreatDoor.Ch
set_option linter.unusedVariables false
set_option linter.unusedSimpArgs false
set_option maxHeartbeats 4000000 in
set_option maxRecDepth 100000 in
theorem happen_begin (gm gc ba br bk gl ga bh : Nat) (day seq b a : Int) (st : Value) (hd : 1 ≤ day ∧ day < 3652059) (W : World)
    (h : HasO [] W [(gm, .cells (modE day gc ba br bk gl seq false st) 64), (ba, .map #[entA ga] 1), (ga, .cells (acctE b a bh) 126)] W) :
    Calls Tryz.prog 24 #[.pointer (some ⟨gm, 0, none⟩), .agg (evE 13 day 0 0 0 0 0 0 0 (.slice none 0 0))] W fun e w' => e = unitR ∧ Keep [gm] W w' ∧ ∃ st', w'.heap[gm]? = some (.cells (modE day gc ba br bk gl seq true st') 64) ∧ StepsAt w' st' (dueKs day) := by
  have H1 : Hid (HasO [] W [(W.heap.size + 1, .cells (nsE day 0 0 0 0 0 0 0) 29), (W.heap.size, .cells (evE 13 day 0 0 0 0 0 0 0 (.slice none 0 0)) 32), (gm, .cells (modE day gc ba br bk gl seq false st) 64), (ba, .map #[entA ga] 1), (ga, .cells (acctE b a bh) 126)] _) := Lib.hid ((h.new (g := W.heap.size) rfl (.cells (evE 13 day 0 0 0 0 0 0 0 (.slice none 0 0)) 32)).new (g := W.heap.size + 1) (by simp) (.cells (nsE day 0 0 0 0 0 0 0) 29))
  have CD := Lib.hid (fun w hw => due_ok gm gc ba br bk gl ga bh day seq b a st hd w hw)
  clear h hd
  rw [evE]
  go_enter Tryz.func24, Tryz.ntmps24
  go_wp2_with fail
  refine wp_region_class (fun w' => HasO [] W _ w') [0, 1, 2, 3, 4, 5, 6, 7, 8, 9, 10, 11, 12, 13, 14, 15] (by kernel_rfl) (by kernel_rfl) (H1.out.drew) ?_
  simp only [List.map_cons, List.map_nil, opAt, List.getElem?_cons_succ, List.getElem?_cons_zero, Option.getD_some]
  repeat (go_big_quiet_step ((intro _; rfl)))
  refine wpQuiet_cell 57 (.tmp 13) rfl rfl ⟨gm, 2, none⟩ rfl (.map (some ba)) _ (fun w hw => (hw.get 2 rfl).cell 2) Tryz.underlying57 rfl (fun KK hKK => ?_)
  go_simp
  refine hKK _ ?_
  clear hKK KK
  repeat (go_big_quiet_step ((intro _; rfl)))
  refine wpQuiet_cell 2 (.tmp 15) rfl rfl ⟨(W.heap.size + 1), 0, none⟩ rfl (.int .i64 day) _ (fun w hw => (hw.get 0 rfl).cell 0) Tryz.underlying2 rfl (fun KK hKK => ?_)
  go_simp
  refine hKK _ ?_
  clear hKK KK
  refine wpQuiet_lookup rfl 57 (.tmp 14) (.tmp 16) false rfl ba (.int .i64 day) (lookA day ga) rfl rfl (fun w hw => lookN ga ba _ w (hw.obj 3 rfl)) (fun KK hKK => ?_)
  go_simp
  refine hKK _ ?_
  clear hKK KK
  repeat (go_big_quiet_step ((intro _; rfl)))
  refine wpQuiet_cell 57 (.tmp 20) rfl rfl ⟨gm, 2, none⟩ rfl (.map (some ba)) _ (fun w hw => (hw.get 2 rfl).cell 2) Tryz.underlying57 rfl (fun KK hKK => ?_)
  go_simp
  refine hKK _ ?_
  clear hKK KK
  repeat (go_big_quiet_step ((intro _; rfl)))
  refine wpQuiet_cell 2 (.tmp 22) rfl rfl ⟨(W.heap.size + 1), 1, none⟩ rfl (.int .i64 0) _ (fun w hw => (hw.get 0 rfl).cell 1) Tryz.underlying2 rfl (fun KK hKK => ?_)
  go_simp
  refine hKK _ ?_
  clear hKK KK
  refine wpQuiet_lookup rfl 57 (.tmp 21) (.tmp 23) false rfl ba (.int .i64 0) (lookA 0 ga) rfl rfl (fun w hw => lookN ga ba _ w (hw.obj 3 rfl)) (fun KK hKK => ?_)
  go_simp
  refine hKK _ ?_
  clear hKK KK
  repeat (go_big_quiet_step ((intro _; rfl)))
  refine wpQuiet_nil ?_
  intro w5 H5
  have H5 := Lib.hid H5
  clear H1
  go_wp2_with (refine wpListG_cell rfl 5 (.tmp 25) rfl W.heap.size 0 rfl 32 (evE 13 day 0 0 0 0 0 0 0 (.slice none 0 0)) (.int .u8 13) rfl _ (H5.out.get 1 rfl) Tryz.underlying5 rfl ?_)
  refine (CD.out _ (HasO.re H5.out).tail.tail).mono ?_
  rintro e w6 ⟨⟨v, rfl, hs⟩, hb6⟩
  have H6 : Hid (HasO [gm] W [(W.heap.size + 1, .cells (nsE day 0 0 0 0 0 0 0) 29), (W.heap.size, .cells (evE 13 day 0 0 0 0 0 0 0 (.slice none 0 0)) 32), (gm, .cells (modE day gc ba br bk gl seq false st) 64), (ba, .map #[entA ga] 1), (ga, .cells (acctE b a bh) 126)] w6) := Lib.hid ⟨(H5.out.step hb6).1.mono (by simp), (H5.out.step hb6).2⟩
  have HS6 := Lib.hid hs
  obtain ⟨A, c, rfl, _⟩ := hs
  obtain ⟨n, hn⟩ : ∃ n, n = (dueKs day).length := ⟨_, rfl⟩
  rw [← hn] at HS6 ⊢
  clear hb6 H5 CD hn
  go_wp2_with (first
    | (refine wpList_turn rfl 4 (.tmp 296) (.const (.bool true)) rfl gm 7 (.bool true) rfl rfl 64 (modE day gc ba br bk gl seq false st) (modE day gc ba br bk gl seq true st) (H6.out.get 2 rfl) (by first | kernel_rfl | (rw [enc_size]; kernel_rfl)) (by first | (simp [Value.cells]; done) | (simp [Value.cells, prodE, prodZ, evE, nsE, evZ, acctE, modE]; done) | exact Nat.le_refl _) (by first | exact decE_all _ _ | (simp [Value.cells, Value.oneCell']; done) | (simp [Value.cells, Value.oneCell', prodE, prodZ, evE, nsE, evZ, acctE, modE]; done) | (rw [Array.all_eq_true']; simp [Value.cells, Value.oneCell', prodE, prodZ, evE, nsE, evZ, acctE, modE])) rfl ?_; intro W7 HT7
       have H7 := Lib.hid (H6.out.turn 2 rfl HT7 (.inl (by simp)) (H6.out.apart 2 rfl rfl))
       have HS7 := Lib.hid (HS6.out.keep HT7.keep (by intro k hk cur hc; simp only [List.mem_singleton] at hk; subst hk; rw [H6.out.obj 2 rfl] at hc; cases hc)))
    | (refine wpList_turn rfl 62 (.tmp 298) (.tmp 294) rfl gm 8 (.slice A n c) rfl rfl 64 (modE day gc ba br bk gl seq true st) (modE day gc ba br bk gl seq true (.slice A n c)) (H7.out.get 2 rfl) (by first | kernel_rfl | (rw [enc_size]; kernel_rfl)) (by first | (simp [Value.cells]; done) | (simp [Value.cells, prodE, prodZ, evE, nsE, evZ, acctE, modE]; done) | exact Nat.le_refl _) (by first | exact decE_all _ _ | (simp [Value.cells, Value.oneCell']; done) | (simp [Value.cells, Value.oneCell', prodE, prodZ, evE, nsE, evZ, acctE, modE]; done) | (rw [Array.all_eq_true']; simp [Value.cells, Value.oneCell', prodE, prodZ, evE, nsE, evZ, acctE, modE])) rfl ?_; intro W8 HT8
       have HS8 := Lib.hid (HS7.out.keep HT8.keep (by intro k hk cur hc; simp only [List.mem_singleton] at hk; subst hk; rw [H7.out.obj 2 rfl] at hc; cases hc))))
  go_end0
  exact ⟨rfl, H7.out.1.trans HT8.keep (by simp), _, HT8.at_, HS8.out⟩
theorem run_cutS {w : World} {st : Value} {k : Int} {ks : List Int} (h : StepsAt w st (k :: ks)) : ∃ st', (Instr.slice 62 st (some (.int .i64 1)) none none).run Tryz.prog w = .ok st' w ∧ StepsAt w st' ks ∧ ∃ A n c, st' = .slice A n c := by
  obtain ⟨A, c, rfl, h1, h2, h3⟩ := h
  have hl : (k :: ks).length = ks.length + 1 := rfl
  have hu : Tryz.prog.underlying 62 = some (.slice (Tryz.prog.elem 62)) := by kernel_rfl
  have hs : (sizeOf (Tryz.prog.elem 62)).run Tryz.prog w = .ok 2 w := by kernel_rfl
  have hr := run_slice_l (P := Tryz.prog) (w := w) 62 A (k :: ks).length c hu .i64 (1 : Int) (by omega) (by rw [hl]; omega)
  rw [hs] at hr
  rw [hr]
  refine ⟨_, rfl, ?_⟩
  simp only [sliced]
  obtain ⟨g, off, cur, rfl, hg, hcur⟩ := h3 (by simp)
  by_cases hks : ks = []
  · subst hks
    refine ⟨⟨_, _, rfl, ?_, ?_, fun h => absurd rfl h⟩, _, _, _, rfl⟩
    · simp
    · simp at h1 ⊢; omega
  · have hlen : 1 ≤ ks.length := by
      cases ks with
      | nil => exact absurd rfl hks
      | cons _ _ => simp
    have hc1 : c ≠ (1 : Int).toNat := by rw [hl] at h1; simp; omega
    rw [if_neg hc1]
    refine ⟨⟨some ⟨g, off + 2, none⟩, c - 1, ?_, ?_, ?_, fun _ => ⟨g, off + 2, cur, rfl, hg, fun j k' hj => ?_⟩⟩, _, _, _, rfl⟩
    · simp [Addr.add_lit]
    · rw [hl] at h1; omega
    · omega
    · have := hcur (j + 1) k' (by simpa using hj)
      rw [show off + 2 * (j + 1) = off + 2 + 2 * j from by omega] at this
      exact this
set_option maxRecDepth 100000 in
theorem wpList_cutS {ops : Array Oper} {rest : List Oper} {o : Oper} {a : Act} {w : World} {Q : Exit → Act → World → Prop} (hgd : o.guard = none) (x : Operand) (ho : o.op = .slice 62 x (some (.const (.int .i64 1))) none none)
    (st : Value) (k : Int) (ks : List Int) (hx : a.eval x = st) (hs : StepsAt w st (k :: ks))
    (h : ∀ A n c, StepsAt w (.slice A n c) ks → wpList Tryz.prog ops Q rest (a.put o.dst (.slice A n c)) w) : wpList Tryz.prog ops Q (o :: rest) a w := by
  obtain ⟨st', hrun, hs', A, n, c, rfl⟩ := run_cutS hs
  refine wpList_plain hgd fun K hK => ?_
  have hu : Tryz.prog.underlying 62 = some (.slice (Tryz.prog.elem 62)) := by kernel_rfl
  have hl : a.eval (.const (.int .i64 1)) = .int .i64 1 := rfl
  unfold Oper.wp
  simp only [execOp, ho, Option.map_some, Option.map_none, hx, hl, Sem.run_bind, run_sliceAt_slice (P := Tryz.prog) (w := w) 62 _ _ _ _ hu, hrun, Result.andThen, Sem.run_pure, Oper.upon]
  exact hK _ _ (h A n c hs')
set_option maxHeartbeats 4000000 in
set_option maxRecDepth 100000 in
theorem happen_step (gm gc ba br bk gl ga bh : Nat) (day seq b a k n : Int) (ks : List Int) (st : Value) (hk : k = 1 ∨ k = 2 ∨ k = 3) (hb : 0 ≤ b ∧ b ≤ 10000000000000) (ha : 0 ≤ a ∧ a ≤ 4000000000000000000) (hn : 0 ≤ n ∧ n ≤ 1000000000000000000) (W : World)
    (h : HasO [] W [(gm, .cells (modE day gc ba br bk gl seq true st) 64), (ba, .map #[entA ga] 1), (ga, .cells (acctE b a bh) 126)] W) (hl : Led gl W) (hs : StepsAt W st (k :: ks)) :
    Calls Tryz.prog 24 #[.pointer (some ⟨gm, 0, none⟩), .agg (evE 14 10 k n 0 0 0 0 0 (.slice none 0 0))] W fun e w' => e = unitR ∧ Keep [gm, ga, gl] W w' ∧ Led gl w' ∧ w'.heap[ga]? = some (.cells (acctE (stepB k b a n) (stepA k b a n) bh) 126) ∧
      ∃ st', w'.heap[gm]? = some (.cells (modE day gc ba br bk gl seq true st') 64) ∧ StepsAt w' st' ks := by
  have H1 : Hid (HasO [] W [(W.heap.size + 1, .cells (nsE 10 k n 0 0 0 0 0) 29), (W.heap.size, .cells (evE 14 10 k n 0 0 0 0 0 (.slice none 0 0)) 32), (gm, .cells (modE day gc ba br bk gl seq true st) 64), (ba, .map #[entA ga] 1), (ga, .cells (acctE b a bh) 126)] _) := Lib.hid ((h.new (g := W.heap.size) rfl (.cells (evE 14 10 k n 0 0 0 0 0 (.slice none 0 0)) 32)).new (g := W.heap.size + 1) (by simp) (.cells (nsE 10 k n 0 0 0 0 0) 29))
  have CS := Lib.hid (fun w hm hg hl => stepped_ok gm gc ba br bk gl ga bh day seq b a k n true st hk hb ha hn w hm hg hl)
  have HL := Lib.hid hl
  have HS := Lib.hid hs
  have HLT := Lib.hid (show gm < W.heap.size ∧ ga < W.heap.size from ⟨obj_lt (h.obj 0 rfl), obj_lt (h.obj 2 rfl)⟩)
  clear h hl hs hk hb ha hn
  rw [evE]
  go_enter Tryz.func24, Tryz.ntmps24
  go_wp2_with fail
  refine wp_region_class (fun w' => HasO [] W _ w') [0, 1, 2, 3, 4, 5, 6, 7, 8, 9, 10, 11, 12, 13, 14, 15] (by kernel_rfl) (by kernel_rfl) (H1.out.drew) ?_
  simp only [List.map_cons, List.map_nil, opAt, List.getElem?_cons_succ, List.getElem?_cons_zero, Option.getD_some]
  repeat (go_big_quiet_step ((intro _; rfl)))
  refine wpQuiet_cell 57 (.tmp 13) rfl rfl ⟨gm, 2, none⟩ rfl (.map (some ba)) _ (fun w hw => (hw.get 2 rfl).cell 2) Tryz.underlying57 rfl (fun KK hKK => ?_)
  go_simp
  refine hKK _ ?_
  clear hKK KK
  repeat (go_big_quiet_step ((intro _; rfl)))
  refine wpQuiet_cell 2 (.tmp 15) rfl rfl ⟨(W.heap.size + 1), 0, none⟩ rfl (.int .i64 10) _ (fun w hw => (hw.get 0 rfl).cell 0) Tryz.underlying2 rfl (fun KK hKK => ?_)
  go_simp
  refine hKK _ ?_
  clear hKK KK
  refine wpQuiet_lookup rfl 57 (.tmp 14) (.tmp 16) false rfl ba (.int .i64 10) (.pointer (some ⟨ga, 0, none⟩)) rfl rfl (fun w hw => look10 ga ba w (hw.obj 3 rfl)) (fun KK hKK => ?_)
  go_simp
  refine hKK _ ?_
  clear hKK KK
  repeat (go_big_quiet_step ((intro _; rfl)))
  refine wpQuiet_cell 57 (.tmp 20) rfl rfl ⟨gm, 2, none⟩ rfl (.map (some ba)) _ (fun w hw => (hw.get 2 rfl).cell 2) Tryz.underlying57 rfl (fun KK hKK => ?_)
  go_simp
  refine hKK _ ?_
  clear hKK KK
  repeat (go_big_quiet_step ((intro _; rfl)))
  refine wpQuiet_cell 2 (.tmp 22) rfl rfl ⟨(W.heap.size + 1), 1, none⟩ rfl (.int .i64 k) _ (fun w hw => (hw.get 0 rfl).cell 1) Tryz.underlying2 rfl (fun KK hKK => ?_)
  go_simp
  refine hKK _ ?_
  clear hKK KK
  refine wpQuiet_lookup rfl 57 (.tmp 21) (.tmp 23) false rfl ba (.int .i64 k) (lookA k ga) rfl rfl (fun w hw => lookN ga ba _ w (hw.obj 3 rfl)) (fun KK hKK => ?_)
  go_simp
  refine hKK _ ?_
  clear hKK KK
  repeat (go_big_quiet_step ((intro _; rfl)))
  refine wpQuiet_nil ?_
  intro w5 H5
  have HL5 := Lib.hid (HL.out.step H5.below)
  have HS5 := Lib.hid (HS.out.step H5.below)
  have H5 : Hid (HasO [gm, ga, gl] W [(W.heap.size + 1, .cells (nsE 10 k n 0 0 0 0 0) 29), (W.heap.size, .cells (evE 14 10 k n 0 0 0 0 0 (.slice none 0 0)) 32), (gm, .cells (modE day gc ba br bk gl seq true st) 64), (ba, .map #[entA ga] 1), (ga, .cells (acctE b a bh) 126)] w5) := Lib.hid ⟨H5.1.mono (by simp), H5.2⟩
  have HNE := Lib.hid (led_ne HL5.out (H5.out.obj 2 rfl) rfl)
  have HNE2 := Lib.hid (led_ne HL5.out (H5.out.obj 4 rfl) rfl)
  clear H1 HL HS
  have hgl := HL5.out.lt
  have q1 := (H5.out.get 0 rfl).cell 1
  have q2 := (H5.out.get 0 rfl).cell 2
  simp only [nsE, List.getElem?_toArray, List.getElem?_cons_succ, List.getElem?_cons_zero] at q1 q2
  go_wp2_with (refine wpListG_cell rfl 5 (.tmp 25) rfl W.heap.size 0 rfl 32 (evE 14 10 k n 0 0 0 0 0 (.slice none 0 0)) (.int .u8 14) rfl _ (H5.out.get 1 rfl) Tryz.underlying5 rfl ?_)
  refine (CS.out _ (H5.out.obj 2 rfl) (H5.out.obj 4 rfl) HL5.out).mono ?_
  rintro e w6 ⟨rfl, hk6, hg6, hl6⟩
  have hm6 := (hk6.block gm (obj_lt (H5.out.obj 2 rfl)) (by
    simp only [List.mem_cons, List.not_mem_nil, or_false, not_or]
    exact ⟨ne_alike (H5.out.obj 4 rfl) (H5.out.obj 2 rfl) rfl, HNE.out⟩)).trans (H5.out.obj 2 rfl)
  have H6 : Hid (HasO [gm, ga, gl] W [(gm, .cells (modE day gc ba br bk gl seq true st) 64), (ga, .cells (acctE (stepB k b a n) (stepA k b a n) bh) 126)] w6) := Lib.hid (HasO.cons hm6 (HasO.cons hg6 (HasO.nil (H5.out.1.trans hk6 (by intro k hk; simp only [List.mem_cons, List.not_mem_nil, or_false] at hk; rcases hk with rfl | rfl <;> simp)))))
  have HS6 := Lib.hid (HS5.out.keep hk6 (by
    intro k hk cur hc
    simp only [List.mem_cons, List.not_mem_nil, or_false] at hk
    rcases hk with rfl | rfl
    · rw [H5.out.obj 4 rfl] at hc; cases hc
    · obtain ⟨b', cl', L', n', h1, _⟩ := HL5.out
      rw [h1] at hc; cases hc))
  have HL6 := Lib.hid hl6
  have HNE6 := Lib.hid (ne_alike hg6 hm6 rfl)
  clear hk6 hg6 hl6 hm6 q1 q2 HS5 HL5 H5 CS HNE2 hgl
  unfold unitR
  go_wp2_with (first
    | (refine wpListG_cell rfl 62 (.tmp 311) rfl gm 8 rfl 64 (modE day gc ba br bk gl seq true st) (st) rfl _ (H6.out.get 0 rfl) Tryz.underlying62 rfl ?_)
    | (refine wpList_cutS rfl (.tmp 312) rfl st k ks rfl HS6.out ?_
       intro A7 n7 c7 hs7
       have HS7 := Lib.hid hs7
       clear hs7)
    | (refine wpList_turn rfl 62 (.tmp 315) (.tmp 313) rfl gm 8 (.slice A7 n7 c7) rfl rfl 64 (modE day gc ba br bk gl seq true st) (modE day gc ba br bk gl seq true (.slice A7 n7 c7)) (H6.out.get 0 rfl) (by first | kernel_rfl | (rw [enc_size]; kernel_rfl)) (by first | (simp [Value.cells]; done) | (simp [Value.cells, prodE, prodZ, evE, nsE, evZ, acctE, modE]; done) | exact Nat.le_refl _) (by first | exact decE_all _ _ | (simp [Value.cells, Value.oneCell']; done) | (simp [Value.cells, Value.oneCell', prodE, prodZ, evE, nsE, evZ, acctE, modE]; done) | (rw [Array.all_eq_true']; simp [Value.cells, Value.oneCell', prodE, prodZ, evE, nsE, evZ, acctE, modE])) rfl ?_; intro W8 HT8
       have HS8 := Lib.hid (HS7.out.keep HT8.keep (by intro k hk cur hc; simp only [List.mem_singleton] at hk; subst hk; rw [H6.out.obj 0 rfl] at hc; cases hc))))
  go_end0
  exact ⟨rfl, H6.out.1.trans HT8.keep (by simp), led_turn HL6.out HT8 (H6.out.obj 0 rfl) rfl HNE.out, (HT8.far _ (Ne.symm HNE6.out)).trans (H6.out.obj 1 rfl), _, HT8.at_, HS8.out⟩
end Go.Proofs.YtlfomhdphbchpaaGreatDoor.Mo
