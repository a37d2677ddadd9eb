/- Lemmas of a claim, several texts in one: MoD, MoE, MoF -/
import Derived.Test.YtlfomhdphbchpaaGreatDoorG17
import Derived.Test.YtlfomhdphbchpaaGreatDoorG21
/-! model: Plan -/
namespace Go.Proofs.YtlfomhdphbchpaaGreatDoor.Mo
open Go.RowKit Go.Deep Go.Proofs.YtlfomhdphbchpaaGreatDoor.Wide Go.Proofs.YtlfomhdphbchpaaGreatDoor.Dec Go.Proofs.YtlfomhdphbchpaaGreatDoor.Mp Go.Proofs.YtlfomhdphbchpaaGreatDoor.Pr Go.Proofs.YtlfomhdphbchpaaGreatDoor.Ch
set_option linter.unusedVariables false
set_option linter.unusedSimpArgs false
theorem results_row_tmp2 {P : Program} {fn : Func} {p u v : Tmp} {ty : TypeId} (h : fn.results = #[.cell p ty, .tmp u, .tmp v]) (tmps : Array Value) (w : World) (g : Nat) (t : TypeId) (cs : Array Value) (d : TypeDesc) (x y : Value)
    (hp : tmps.getD p undef = .pointer (some ⟨g, 0, none⟩)) (hg : Blk w g t cs)
    (hu : P.underlying ty = some d) (hd : (match d with | .struct _ | .array _ _ => true | _ => false) = true) (hi : (P.info? ty).map (·.size) = some cs.size) (hx : tmps.getD u undef = x) (hy : tmps.getD v undef = y) :
    (results fn tmps).run P w = .ok (.tuple #[.agg cs, x, y]) w := by
  have hq : tmps[p]?.getD undef = .pointer (some ⟨g, 0, none⟩) := by simpa using hp
  have hq' : tmps[u]?.getD undef = x := by simpa using hx
  have hq2 : tmps[v]?.getD undef = y := by simpa using hy
  simp [results, h, hq, hq', hq2, asAddr, run_loadVar_row w g t ty cs (0, 0) d hg hu hd hi, Result.andThen]
theorem echeck_ok (e : Event.Ev) (A : Option Addr) (c : Nat) (ho : e.ok) (hf : e.form) (w : World) : Calls Tryz.prog 20 #[.agg (Event.row e A c)] w fun x w' => x = .returned (.int .i64 0) ∧ Below w.heap.size w w' := by
  refine (Event.check_ok e A c w ho (by have := hf.2.1; omega)).mono ?_
  rintro x w' ⟨f, rfl, h | h, hb⟩
  · exact ⟨by rw [h.1], hb⟩
  · exact absurd hf h.2
theorem look0k (bk : Nat) (w : World) (h : w.heap[bk]? = some (.map #[] 0)) : (Instr.lookup 59 (.map (some bk)) (.int .u64 0) true).run Tryz.prog w = .ok (.tuple #[.agg #[], .bool false]) w :=
  run_lookup1 (P := Tryz.prog) (d := .int .u64) (z := .agg #[]) Tryz.underlying59 (by kernel_rfl) (show MapKept.IsKey (.int .u64) (.int .u64 0) from rfl) (fun w => by first | exact Tryz.zeroValue67 w | exact Tryz.zeroValue67 _) bk #[] 0 none rfl true w h
set_option maxHeartbeats 4000000 in
set_option maxRecDepth 100000 in
theorem plan_gen (gm ba gc br bk gl : Nat) (day seq n op n0 n1 n2 n3 n4 n5 n6 n7 : Int) (A : Option Addr) (k c : Nat) (st : Value) (T : World → Value → Prop) (W : World)
    (hop : 0 ≤ op ∧ op < 12) (hT : ∀ w w' s, T w s → Below w.heap.size w w' → T w' s) (hTs : ∀ w s, T w s → ∃ A k c, s = .slice A k c) (hTk : ∀ w w' s g, T w s → Keep [g] w w' → (∀ cur, w.heap[g]? ≠ some (.cells cur 66)) → T w' s)
    (hck : ∀ w, Calls Tryz.prog 20 #[.agg (evE op n0 n1 n2 n3 n4 n5 n6 n7 (.slice A k c))] w fun x w' => x = .returned (.int .i64 0) ∧ Below w.heap.size w w')
    (hcl : ∀ w, Below W.heap.size W w → Calls Tryz.prog 21 #[.slice A k c] w fun e w' => (∃ s', e = .returned s' ∧ T w' s') ∧ Below w.heap.size w w')
    (hlook : ∀ (gp : Nat) (A' : Option Addr) (k' c' : Nat) (w : World), HasO [] W [(gp, .cells (planE gm) 72)] w → T w (.slice A' k' c') →
      Calls Tryz.prog 22 #[.pointer (some ⟨gp, 0, none⟩), .agg (evE op n0 n1 n2 n3 n4 n5 n6 n7 (.slice A' k' c'))] w fun e w' => e = .returned (.tuple #[.agg (evE op n0 n1 n2 n3 n4 n5 n6 n7 (.slice A' k' c')), .int .i64 n]) ∧ Below w.heap.size w w')
    (h : HasO [] W [(gm, .cells (modE day gc ba br bk gl seq false st) 64), (bk, .map #[] 0)] W) :
    Calls Tryz.prog 8 #[.pointer (some ⟨gm, 0, none⟩), .agg (evE op n0 n1 n2 n3 n4 n5 n6 n7 (.slice A k c))] W fun e w' => (∃ A' k' c', e = .returned (.tuple #[.agg (evE op n0 n1 n2 n3 n4 n5 n6 n7 (.slice A' k' c')), .int .i64 n, .int .i64 0]) ∧ T w' (.slice A' k' c')) ∧ Below W.heap.size W w' := by
  have H1 := Lib.hid (((h.new (g := W.heap.size) rfl (.cells (evE op n0 n1 n2 n3 n4 n5 n6 n7 (.slice A k c)) 32)).new (g := W.heap.size + 1) (by simp) (.cells evZ 32)).new (g := W.heap.size + 2) (by simp) (.map #[] 0))
  have hmm := fun w : World => (run_makeMap (P := Tryz.prog) 59 w)
  have CK := Lib.hid hck
  have CC := Lib.hid hcl
  have CL := Lib.hid hlook
  have HT := Lib.hid hT
  have HTS := Lib.hid hTs
  have HTK := Lib.hid hTk
  have HLT := Lib.hid (show gm < W.heap.size ∧ bk < W.heap.size from ⟨obj_lt (h.obj 0 rfl), obj_lt (h.obj 1 rfl)⟩)
  obtain ⟨ho1, ho2⟩ := hop
  have o1 : (op == 12) = false := beq_eq_false_iff_ne.2 (by omega)
  have o2 : decide (13 ≤ op) = false := by simp; omega
  clear h hck hcl hlook hT hTs hTk
  rw [evE]
  go_enter Tryz.func8, Tryz.ntmps8
  go_wp2_with fail
  refine wp_region_class (fun w' => HasO [] W _ w') [0, 1, 2, 3, 4, 5, 6, 7, 8, 9, 10] (by kernel_rfl) (by kernel_rfl) (H1.out.drew) ?_
  simp only [List.map_cons, List.map_nil, opAt, List.getElem?_cons_succ, List.getElem?_cons_zero, Option.getD_some]
  repeat (go_big_quiet_step ((intro _; rfl)))
  refine wpQuiet_cell 59 (.tmp 18) rfl rfl ⟨gm, 4, none⟩ rfl (.map (some bk)) _ (fun w hw => (hw.get 3 rfl).cell 4) Tryz.underlying59 rfl (fun KK hKK => ?_)
  go_simp
  refine hKK _ ?_
  clear hKK KK
  repeat (go_big_quiet_step ((intro _; rfl)))
  refine wpQuiet_cell 28 (.tmp 20) rfl rfl ⟨W.heap.size, 1, none⟩ rfl (.int .u64 0) _ (fun w hw => (hw.get 2 rfl).cell 1) Tryz.underlying28 rfl (fun KK hKK => ?_)
  go_simp
  refine hKK _ ?_
  clear hKK KK
  refine wpQuiet_lookup rfl 59 (.tmp 19) (.tmp 21) true rfl bk (.int .u64 0) (.tuple #[.agg #[], .bool false]) rfl rfl (fun w hw => look0k bk w (hw.obj 4 rfl)) (fun KK hKK => ?_)
  go_simp
  refine hKK _ ?_
  clear hKK KK
  repeat (go_big_quiet_step ((intro _; rfl)))
  refine wpQuiet_nil ?_
  intro w5 H5
  have H5 := Lib.hid H5
  clear H1 hmm
  go_wp2_with (refine wpListG_row rfl 32 (.tmp 3) rfl W.heap.size rfl 32 (evE op n0 n1 n2 n3 n4 n5 n6 n7 (.slice A k c)) _ (H5.out.get 2 rfl) Tryz.underlying32 rfl (by first | kernel_rfl | (rw [enc_size]; kernel_rfl)) ?_)
  refine (CK.out _).mono ?_
  rintro e w6 ⟨rfl, hb6⟩
  have H6 := Lib.hid (H5.out.step hb6)
  clear hb6 H5 CK
  have c0 := (H6.out.get 2 rfl).cell 0
  have c7 := (H6.out.get 3 rfl).cell 7
  have c10 := (H6.out.get 2 rfl).cell 10
  simp only [evE, modE, List.getElem?_toArray, List.getElem?_cons_succ, List.getElem?_cons_zero] at c0 c7 c10
  go_wp2_with fail
  refine (CC.out _ H6.out.below).mono ?_
  rintro e w7 ⟨⟨s', rfl, hs'⟩, hb7⟩
  obtain ⟨A', k', c', rfl⟩ := HTS.out _ _ hs'
  have H7 := Lib.hid (H6.out.step hb7)
  have HS7 := Lib.hid hs'
  clear hb7 H6 c0 c7 c10 hs' CC
  go_wp2_with (first
    | (refine wpList_turn rfl 30 (.tmp 62) (.tmp 61) rfl W.heap.size 10 (.slice A' k' c') rfl rfl 32 (evE op n0 n1 n2 n3 n4 n5 n6 n7 (.slice A k c)) (evE op n0 n1 n2 n3 n4 n5 n6 n7 (.slice A' k' c')) (H7.out.get 2 rfl) (by first | kernel_rfl | (rw [enc_size]; kernel_rfl)) (by first | (simp [Value.cells]; done) | (simp [Value.cells, prodE, prodZ, evE, nsE, evZ]; done) | exact Nat.le_refl _) (by first | exact decE_all _ _ | (simp [Value.cells, Value.oneCell']; done) | (simp [Value.cells, Value.oneCell', prodE, prodZ, evE, nsE, evZ]; done) | (rw [Array.all_eq_true']; simp [Value.cells, Value.oneCell', prodE, prodZ, evE, nsE, evZ])) rfl ?_; intro W8 HT8
       have H8 := Lib.hid (H7.out.turn 2 rfl HT8 (.inr (Nat.le_refl _)) (by have := HLT.out; simp; omega))
       have HS8 := Lib.hid (HTK.out _ _ _ _ HS7.out HT8.keep (fun cur hc => by rw [H7.out.obj 2 rfl] at hc; cases hc))
       clear H7 HS7)
    | (refine wpListG_row rfl 32 (.tmp 3) rfl W.heap.size rfl 32 (evE op n0 n1 n2 n3 n4 n5 n6 n7 (.slice A' k' c')) _ ((H8.out.new (g := W8.heap.size) rfl (.cells (planE gm) 72)).get 3 rfl) Tryz.underlying32 rfl (by first | kernel_rfl | (rw [enc_size]; kernel_rfl)) ?_))
  have H9 := Lib.hid (H8.out.new (g := W8.heap.size) rfl (.cells (planE gm) 72))
  have HS9 := Lib.hid (HT.out _ _ _ HS8.out (Below.al (Below.refl _ _) (.cells (planE gm) 72)))
  obtain ⟨gp, hgp⟩ : ∃ gp, gp = W8.heap.size := ⟨_, rfl⟩
  rw [← hgp] at H9 ⊢
  have HGP : Hid (W.heap.size ≤ gp) := Lib.hid (by rw [hgp]; exact H8.out.size)
  clear hgp H8 HS8
  refine (CL.out gp A' k' c' _ (H9.out.of_mem (by simp)) HS9.out).mono ?_
  rintro e w10 ⟨rfl, hb10⟩
  have H10 := Lib.hid (H9.out.step hb10)
  have HS10 := Lib.hid (HT.out _ _ _ HS9.out hb10)
  clear hb10 H9 HS9 CL
  have H10n := Lib.hid (H10.out.new (g := w10.heap.size) rfl (.cells evZ 32))
  have HS10n := Lib.hid (HT.out _ _ _ HS10.out (Below.al (Below.refl _ _) (.cells evZ 32)))
  have HF10 := Lib.hid (HasO.fresh H10.out)
  have HZ10 := Lib.hid (H10.out.size)
  clear H10 HS10
  go_wp2_with (first
    | (refine wpList_turn rfl 32 (.tmp 10) (.tmp 70) rfl w10.heap.size 0 (.agg (evE op n0 n1 n2 n3 n4 n5 n6 n7 (.slice A' k' c'))) rfl rfl 32 evZ (evE op n0 n1 n2 n3 n4 n5 n6 n7 (.slice A' k' c')) (H10n.out.get 0 rfl) (by first | kernel_rfl | (rw [enc_size]; kernel_rfl)) (by first | (simp [Value.cells]; done) | (simp [Value.cells, prodE, prodZ, evE, nsE, evZ]; done) | exact Nat.le_refl _) (by first | exact decE_all _ _ | (simp [Value.cells, Value.oneCell']; done) | (simp [Value.cells, Value.oneCell', prodE, prodZ, evE, nsE, evZ]; done) | (rw [Array.all_eq_true']; simp [Value.cells, Value.oneCell', prodE, prodZ, evE, nsE, evZ])) rfl ?_; intro W11 HT11
       have H11 := Lib.hid (H10n.out.turn 0 rfl HT11 (.inr HZ10.out) (fun f hf => HF10.out f (by simpa using hf)))
       have HS11 := Lib.hid (HTK.out _ _ _ _ HS10n.out HT11.keep (fun cur hc => by rw [H10n.out.obj 0 rfl] at hc; cases hc)))
    | (refine wpListG_cell rfl 25 (.tmp 74) rfl gp 1 rfl 72 (planE gm) (.int .i64 0) rfl _ (H11.out.get 1 rfl) Tryz.underlying25 rfl ?_)
    | (refine wpListG_row rfl 32 (.tmp 10) rfl w10.heap.size rfl 32 (evE op n0 n1 n2 n3 n4 n5 n6 n7 (.slice A' k' c')) _ (H11.out.get 0 rfl) Tryz.underlying32 rfl (by first | kernel_rfl | (rw [enc_size]; kernel_rfl)) ?_)
    | (refine wpList_turn rfl 32 (.tmp 4) (.tmp 82) rfl (W.heap.size + 1) 0 (.agg (evE op n0 n1 n2 n3 n4 n5 n6 n7 (.slice A' k' c'))) rfl rfl 32 evZ (evE op n0 n1 n2 n3 n4 n5 n6 n7 (.slice A' k' c')) (H11.out.get 3 rfl) (by first | kernel_rfl | (rw [enc_size]; kernel_rfl)) (by first | (simp [Value.cells]; done) | (simp [Value.cells, prodE, prodZ, evE, nsE, evZ]; done) | exact Nat.le_refl _) (by first | exact decE_all _ _ | (simp [Value.cells, Value.oneCell']; done) | (simp [Value.cells, Value.oneCell', prodE, prodZ, evE, nsE, evZ]; done) | (rw [Array.all_eq_true']; simp [Value.cells, Value.oneCell', prodE, prodZ, evE, nsE, evZ])) rfl ?_; intro W12 HT12
       have HS12 := Lib.hid (HTK.out _ _ _ _ HS11.out HT12.keep (fun cur hc => by rw [H11.out.obj 3 rfl] at hc; cases hc))))
  have hk := H11.out.1.trans HT12.keep (by simp)
  exact bodyPost_ret (results_row_tmp2 rfl _ _ (W.heap.size + 1) 32 (evE op n0 n1 n2 n3 n4 n5 n6 n7 (.slice A' k' c')) _ _ _ rfl HT12.at_ Tryz.underlying32 rfl (by kernel_rfl) rfl rfl) rfl ⟨⟨A', k', c', rfl, HS12.out⟩, hk.below⟩
end Go.Proofs.YtlfomhdphbchpaaGreatDoor.Mo

/-! model: Apply, from what Plan, Next, Same and happen do -/
namespace Go.Proofs.YtlfomhdphbchpaaGreatDoor.Mo
open Go.RowKit Go.Deep Go.Proofs.YtlfomhdphbchpaaGreatDoor.Wide Go.Proofs.YtlfomhdphbchpaaGreatDoor.Dec Go.Proofs.YtlfomhdphbchpaaGreatDoor.Mp Go.Proofs.YtlfomhdphbchpaaGreatDoor.Pr Go.Proofs.YtlfomhdphbchpaaGreatDoor.Ch
set_option linter.unusedVariables false
set_option linter.unusedSimpArgs false
set_option maxHeartbeats 4000000 in
set_option maxRecDepth 100000 in
theorem apply_cmd (S : List Nat) (gm : Nat) (cm1 : Array Value) (seq n op n0 n1 n2 n3 n4 n5 n6 n7 : Int) (A : Option Addr) (k c : Nat) (T : World → Value → Prop) (R : World → Prop) (W : World)
    (hop : 0 ≤ op ∧ op < 12) (hseq : 0 ≤ seq ∧ seq ≤ 1000000000) (h6 : cm1[6]? = some (.int .i64 seq)) (hsz : cm1.size = 9) (hT : ∀ w w' s, T w s → Below w.heap.size w w' → T w' s) (hTk : ∀ w w' s g, T w s → Keep [g] w w' → (∀ cur, w.heap[g]? ≠ some (.cells cur 66)) → T w' s)
    (hplan : ∀ w, Below W.heap.size W w → Calls Tryz.prog 8 #[.pointer (some ⟨gm, 0, none⟩), .agg (evE op n0 n1 n2 n3 n4 n5 n6 n7 (.slice A k c))] w fun e w' => (∃ A' k' c', e = .returned (.tuple #[.agg (evE op n0 n1 n2 n3 n4 n5 n6 n7 (.slice A' k' c')), .int .i64 n, .int .i64 0]) ∧ T w' (.slice A' k' c')) ∧ Below w.heap.size w w')
    (hsame : ∀ w A' k' c', Below W.heap.size W w → T w (.slice A' k' c') → Calls Tryz.prog 23 #[.agg (evE op n0 n1 n2 n3 n4 n5 n6 n7 (.slice A k c)), .agg (evE op n0 n1 n2 n3 n4 n5 n6 n7 (.slice A' k' c'))] w fun e w' => e = .returned (.bool true) ∧ Below w.heap.size w w')
    (hhap : ∀ w A' k' c', Below W.heap.size W w → T w (.slice A' k' c') → Calls Tryz.prog 24 #[.pointer (some ⟨gm, 0, none⟩), .agg (evE op n0 n1 n2 n3 n4 n5 n6 n7 (.slice A' k' c'))] w fun e w' => e = unitR ∧ Keep S w w' ∧ w'.heap[gm]? = some (.cells cm1 64) ∧ R w') (hS : ∀ k ∈ S, k < W.heap.size) (hgm : gm < W.heap.size) :
    Calls Tryz.prog 9 #[.pointer (some ⟨gm, 0, none⟩), .agg (evE op n0 n1 n2 n3 n4 n5 n6 n7 (.slice A k c))] W fun e w' => e = .returned (.int .i64 0) ∧ ∃ w1, Keep S W w1 ∧ R w1 ∧ Turn w1 gm (.cells (splice cm1 6 #[.int .i64 (seq + 1)]) 64) w' := by
  have H1 := Lib.hid ((((HasO.start [] W).new (g := W.heap.size) rfl (.cells (evE op n0 n1 n2 n3 n4 n5 n6 n7 (.slice A k c)) 32)).new (g := W.heap.size + 1) (by simp) (.cells evZ 32)).new (g := W.heap.size + 2) (by simp) (.cells (evE op n0 n1 n2 n3 n4 n5 n6 n7 (.slice A k c)) 32))
  have HS := Lib.hid hS
  have HG := Lib.hid hgm
  have CP := Lib.hid hplan
  have CS := Lib.hid hsame
  have CH := Lib.hid hhap
  have HT := Lib.hid hT
  have HTK := Lib.hid hTk
  have H6 := Lib.hid h6
  have HSZ := Lib.hid hsz
  obtain ⟨ho1, ho2⟩ := hop
  obtain ⟨hs1, hs2⟩ := hseq
  have o1 : (op == 12) = false := beq_eq_false_iff_ne.2 (by omega)
  have o2 : decide (13 ≤ op) = false := by simp; omega
  clear hplan hsame hhap hT hTk h6 hsz hS hgm
  rw [evE]
  go_enter Tryz.func9, Tryz.ntmps9
  go_wp2_with fail
  refine (CP.out _ H1.out.below).mono ?_
  rintro e w2 ⟨⟨A', k', c', rfl, ht2⟩, hb2⟩
  have H2 := Lib.hid (H1.out.step hb2)
  have HT2 := Lib.hid ht2
  clear hb2 H1 ht2 CP
  go_wp2_with (first
    | (refine wpList_turn rfl 32 (.tmp 5) (.tmp 30) rfl (W.heap.size + 1) 0 (.agg (evE op n0 n1 n2 n3 n4 n5 n6 n7 (.slice A' k' c'))) rfl rfl 32 evZ (evE op n0 n1 n2 n3 n4 n5 n6 n7 (.slice A' k' c')) (H2.out.get 1 rfl) (by first | kernel_rfl | (rw [enc_size]; kernel_rfl)) (by first | (simp [Value.cells]; done) | (simp [Value.cells, prodE, prodZ, evE, nsE, evZ]; done) | exact Nat.le_refl _) (by first | exact decE_all _ _ | (simp [Value.cells, Value.oneCell']; done) | (simp [Value.cells, Value.oneCell', prodE, prodZ, evE, nsE, evZ]; done) | (rw [Array.all_eq_true']; simp [Value.cells, Value.oneCell', prodE, prodZ, evE, nsE, evZ])) rfl ?_; intro W3 HT3
       have H3 := Lib.hid (H2.out.turn 1 rfl HT3 (.inr (by omega)) (by simp))
       have HT3' := Lib.hid (HTK.out _ _ _ _ HT2.out HT3.keep (fun cur hc => by rw [H2.out.obj 1 rfl] at hc; cases hc))
       clear H2 HT2 HT3)
    | (refine wpListG_row rfl 32 (.tmp 3) rfl W.heap.size rfl 32 (evE op n0 n1 n2 n3 n4 n5 n6 n7 (.slice A k c)) _ (H3.out.get 2 rfl) Tryz.underlying32 rfl (by first | kernel_rfl | (rw [enc_size]; kernel_rfl)) ?_)
    | (refine wpListG_row rfl 32 (.tmp 5) rfl (W.heap.size + 1) rfl 32 (evE op n0 n1 n2 n3 n4 n5 n6 n7 (.slice A' k' c')) _ (H3.out.get 1 rfl) Tryz.underlying32 rfl (by first | kernel_rfl | (rw [enc_size]; kernel_rfl)) ?_))
  refine (CS.out _ A' k' c' H3.out.below HT3'.out).mono ?_
  rintro e w4 ⟨rfl, hb4⟩
  have H4 := Lib.hid (H3.out.step hb4)
  have HT4 := Lib.hid (HT.out _ _ _ HT3'.out hb4)
  clear hb4 H3 HT3' CS
  go_wp2_with (refine wpListG_row rfl 32 (.tmp 5) rfl (W.heap.size + 1) rfl 32 (evE op n0 n1 n2 n3 n4 n5 n6 n7 (.slice A' k' c')) _ (H4.out.get 1 rfl) Tryz.underlying32 rfl (by first | kernel_rfl | (rw [enc_size]; kernel_rfl)) ?_)
  refine (CH.out _ A' k' c' H4.out.below HT4.out).mono ?_
  rintro e w5 ⟨rfl, hk5, hm5, hr5⟩
  have hz5 := H4.out.size
  have hE5 : w5.heap[W.heap.size]? = some (.cells (evE op n0 n1 n2 n3 n4 n5 n6 n7 (.slice A k c)) 32) := (hk5.block _ (obj_lt (H4.out.obj 2 rfl)) (fun hm => by have := HS.out _ hm; omega)).trans (H4.out.obj 2 rfl)
  have HK5 := Lib.hid (H4.out.1.mono (T := S) (by simp) |>.trans hk5 (fun k hk => .inl hk))
  have HE5 := Lib.hid hE5
  have HM5 := Lib.hid hm5
  have HR5 := Lib.hid hr5
  clear hk5 hm5 hr5 hz5 hE5 H4 HT4 CH
  have c6 : w5.cell? ⟨gm, 6, none⟩ = some (.int .i64 seq) := by rw [Blk.cell (t := 64) (cs := cm1) HM5.out 6]; exact H6.out
  unfold unitR
  go_wp2_with (refine wpList_turn rfl 2 (.tmp 49) (.tmp 47) rfl gm 6 (.int .i64 (seq + 1)) rfl rfl 64 cm1 (splice cm1 6 #[.int .i64 (seq + 1)]) HM5.out (by kernel_rfl) (by rw [HSZ.out]; simp [Value.cells]) (by simp [Value.cells, Value.oneCell']) rfl ?_
               intro W6 HT6
               clear c6
               have c1 : W6.cell? ⟨W.heap.size, 1, none⟩ = some (.int .u64 0) := by rw [Blk.cell (t := 32) (cs := (evE op n0 n1 n2 n3 n4 n5 n6 n7 (.slice A k c))) ((HT6.far _ (by have := HG.out; omega)).trans HE5.out) 1]; rfl)
  exact bodyPost_ret (results_one rfl _ _ rfl) rfl ⟨rfl, w5, HK5.out, HR5.out, HT6⟩
set_option maxHeartbeats 4000000 in
set_option maxRecDepth 100000 in
theorem apply_eod (S : List Nat) (gm : Nat) (seq op n0 n1 n2 n3 n4 n5 n6 n7 : Int) (R : Array Value → World → Prop) (W : World)
    (hop : 13 ≤ op ∧ op < 16) (hseq : 0 ≤ seq ∧ seq ≤ 1000000000) (hR : ∀ cm w, R cm w → cm[6]? = some (.int .i64 seq) ∧ cm.size = 9)
    (hnext : ∀ w, Below W.heap.size W w → Calls Tryz.prog 12 #[.pointer (some ⟨gm, 0, none⟩)] w fun e w' => e = .returned (.tuple #[.agg (evE op n0 n1 n2 n3 n4 n5 n6 n7 (.slice none 0 0)), .int .i64 0]) ∧ Below w.heap.size w w')
    (hsame : ∀ w, Below W.heap.size W w → Calls Tryz.prog 23 #[.agg (evE op n0 n1 n2 n3 n4 n5 n6 n7 (.slice none 0 0)), .agg (evE op n0 n1 n2 n3 n4 n5 n6 n7 (.slice none 0 0))] w fun e w' => e = .returned (.bool true) ∧ Below w.heap.size w w')
    (hhap : ∀ w, Below W.heap.size W w → Calls Tryz.prog 24 #[.pointer (some ⟨gm, 0, none⟩), .agg (evE op n0 n1 n2 n3 n4 n5 n6 n7 (.slice none 0 0))] w fun e w' => e = unitR ∧ Keep S w w' ∧ ∃ cm1, w'.heap[gm]? = some (.cells cm1 64) ∧ R cm1 w') (hS : ∀ k ∈ S, k < W.heap.size) (hgm : gm < W.heap.size) :
    Calls Tryz.prog 9 #[.pointer (some ⟨gm, 0, none⟩), .agg (evE op n0 n1 n2 n3 n4 n5 n6 n7 (.slice none 0 0))] W fun e w' => e = .returned (.int .i64 0) ∧ ∃ w1 cm1, Keep S W w1 ∧ w1.heap[gm]? = some (.cells cm1 64) ∧ R cm1 w1 ∧ Turn w1 gm (.cells (splice cm1 6 #[.int .i64 (seq + 1)]) 64) w' := by
  have H1 := Lib.hid (((HasO.start [] W).new (g := W.heap.size) rfl (.cells (evE op n0 n1 n2 n3 n4 n5 n6 n7 (.slice none 0 0)) 32)).new (g := W.heap.size + 1) (by simp) (.cells evZ 32))
  have HS := Lib.hid hS
  have HG := Lib.hid hgm
  have CP := Lib.hid hnext
  have CS := Lib.hid hsame
  have CH := Lib.hid hhap
  have HRR := Lib.hid hR
  obtain ⟨ho1, ho2⟩ := hop
  obtain ⟨hs1, hs2⟩ := hseq
  have o2 : decide (13 ≤ op) = true := by simp; omega
  clear hnext hsame hhap hR hS hgm
  rw [evE]
  go_enter Tryz.func9, Tryz.ntmps9
  go_wp2_with fail
  refine (CP.out _ H1.out.below).mono ?_
  rintro e w2 ⟨rfl, hb2⟩
  have H2 := Lib.hid (H1.out.step hb2)
  clear hb2 H1 CP
  go_wp2_with (first
    | (refine wpList_turn rfl 32 (.tmp 5) (.tmp 16) rfl (W.heap.size + 1) 0 (.agg (evE op n0 n1 n2 n3 n4 n5 n6 n7 (.slice none 0 0))) rfl rfl 32 evZ (evE op n0 n1 n2 n3 n4 n5 n6 n7 (.slice none 0 0)) (H2.out.get 0 rfl) (by first | kernel_rfl | (rw [enc_size]; kernel_rfl)) (by first | (simp [Value.cells]; done) | (simp [Value.cells, prodE, prodZ, evE, nsE, evZ]; done) | exact Nat.le_refl _) (by first | exact decE_all _ _ | (simp [Value.cells, Value.oneCell']; done) | (simp [Value.cells, Value.oneCell', prodE, prodZ, evE, nsE, evZ]; done) | (rw [Array.all_eq_true']; simp [Value.cells, Value.oneCell', prodE, prodZ, evE, nsE, evZ])) rfl ?_; intro W3 HT3
       have H3 := Lib.hid (H2.out.turn 0 rfl HT3 (.inr (by omega)) (by simp))
       clear H2 HT3)
    | (refine wpListG_row rfl 32 (.tmp 3) rfl W.heap.size rfl 32 (evE op n0 n1 n2 n3 n4 n5 n6 n7 (.slice none 0 0)) _ (H3.out.get 1 rfl) Tryz.underlying32 rfl (by first | kernel_rfl | (rw [enc_size]; kernel_rfl)) ?_)
    | (refine wpListG_row rfl 32 (.tmp 5) rfl (W.heap.size + 1) rfl 32 (evE op n0 n1 n2 n3 n4 n5 n6 n7 (.slice none 0 0)) _ (H3.out.get 0 rfl) Tryz.underlying32 rfl (by first | kernel_rfl | (rw [enc_size]; kernel_rfl)) ?_))
  refine (CS.out _ H3.out.below).mono ?_
  rintro e w4 ⟨rfl, hb4⟩
  have H4 := Lib.hid (H3.out.step hb4)
  clear hb4 H3 CS
  go_wp2_with (refine wpListG_row rfl 32 (.tmp 5) rfl (W.heap.size + 1) rfl 32 (evE op n0 n1 n2 n3 n4 n5 n6 n7 (.slice none 0 0)) _ (H4.out.get 0 rfl) Tryz.underlying32 rfl (by first | kernel_rfl | (rw [enc_size]; kernel_rfl)) ?_)
  refine (CH.out _ H4.out.below).mono ?_
  rintro e w5 ⟨rfl, hk5, cm1, hm5, hr5⟩
  have H6 := Lib.hid (HRR.out _ _ hr5).1
  have HSZ := Lib.hid (HRR.out _ _ hr5).2
  have hz5 := H4.out.size
  have hE5 : w5.heap[W.heap.size]? = some (.cells (evE op n0 n1 n2 n3 n4 n5 n6 n7 (.slice none 0 0)) 32) := (hk5.block _ (obj_lt (H4.out.obj 1 rfl)) (fun hm => by have := HS.out _ hm; omega)).trans (H4.out.obj 1 rfl)
  have HK5 := Lib.hid (H4.out.1.mono (T := S) (by simp) |>.trans hk5 (fun k hk => .inl hk))
  have HE5 := Lib.hid hE5
  have HM5 := Lib.hid hm5
  have HR5 := Lib.hid hr5
  clear hk5 hm5 hr5 hz5 hE5 H4 CH
  have c6 : w5.cell? ⟨gm, 6, none⟩ = some (.int .i64 seq) := by rw [Blk.cell (t := 64) (cs := cm1) HM5.out 6]; exact H6.out
  unfold unitR
  go_wp2_with (refine wpList_turn rfl 2 (.tmp 49) (.tmp 47) rfl gm 6 (.int .i64 (seq + 1)) rfl rfl 64 cm1 (splice cm1 6 #[.int .i64 (seq + 1)]) HM5.out (by kernel_rfl) (by rw [HSZ.out]; simp [Value.cells]) (by simp [Value.cells, Value.oneCell']) rfl ?_
               intro W6 HT6
               clear c6
               have c1 : W6.cell? ⟨W.heap.size, 1, none⟩ = some (.int .u64 0) := by rw [Blk.cell (t := 32) (cs := (evE op n0 n1 n2 n3 n4 n5 n6 n7 (.slice none 0 0))) ((HT6.far _ (by have := HG.out; omega)).trans HE5.out) 1]; rfl)
  exact bodyPost_ret (results_one rfl _ _ rfl) rfl ⟨rfl, w5, cm1, HK5.out, HM5.out, HR5.out, HT6⟩
end Go.Proofs.YtlfomhdphbchpaaGreatDoor.Mo

/-! model: of, line, moves -/
namespace Go.Proofs.YtlfomhdphbchpaaGreatDoor.Mo
open Go.RowKit Go.Deep Go.Proofs.YtlfomhdphbchpaaGreatDoor.Wide Go.Proofs.YtlfomhdphbchpaaGreatDoor.Dec Go.Proofs.YtlfomhdphbchpaaGreatDoor.Mp Go.Proofs.YtlfomhdphbchpaaGreatDoor.Pr Go.Proofs.YtlfomhdphbchpaaGreatDoor.Ch
set_option linter.unusedVariables false
set_option linter.unusedSimpArgs false
theorem wpList_copyT {P : Program} {w : World} {ops : Array Oper} {rest : List Oper} {o : Oper} {a : Act} {Q : Exit → Act → World → Prop} (hgd : o.guard = none) (d s : Operand) (dT sT : TypeId)
    (ho : o.op = .call { callee := .builtin .copy, args := #[d, s], argTypes := #[dT, sT] }) (elem : TypeId) (hu : P.underlying dT = some (.slice elem)) (hsz : (P.info? elem).map (·.size) = some 1)
    (g off dLen dCap : Nat) (ad : Addr) (sLen sCap : Nat) (hd : a.eval d = .slice (some ⟨g, off, none⟩) dLen dCap) (hs : a.eval s = .slice (some ad) sLen sCap)
    (cur : Array Value) (t : TypeId) (hg : w.heap[g]? = some (.cells cur t)) (cs : List Value) (hn : cs.length = Nat.min sLen dLen)
    (hsrc : ∀ j v, cs[j]? = some v → w.cell? (ad.add j) = some v) (hfit : off + cs.length ≤ cur.size) (h1 : ∀ v ∈ cs, v.oneCell' = true) (new : Array Value) (hnew : (cur.toList.take off ++ (cs ++ cur.toList.drop (off + cs.length))).toArray = new)
    (h : ∀ W2, Turn w g (.cells new t) W2 → wpList P ops Q rest (a.put o.dst (goInt cs.length)) W2) : wpList P ops Q (o :: rest) a w :=
  wpList_copy_own hgd d s dT sT ho elem hu hsz g off dLen dCap ad sLen sCap hd hs cur t hg cs hn hsrc hfit h1 (h _ (hnew ▸ turn_setRow hg))
set_option maxHeartbeats 4000000 in
set_option maxRecDepth 100000 in
theorem of1_ok (op n : Int) (g : Nat) (W : World) (hg : W.heap[g]? = some (.cells #[.int .i64 n] 2)) : Calls Tryz.prog 28 #[.int .u8 op, .slice (some ⟨g, 0, none⟩) 1 1] W fun e w' => e = .returned (.agg (evE op n 0 0 0 0 0 0 0 (.slice none 0 0))) ∧ Below W.heap.size W w' := by
  have H1 := Lib.hid (((HasO.cons hg (HasO.start [] W)).new (g := W.heap.size) rfl (.cells evZ 32)).new (g := W.heap.size + 1) (by simp) (.cells (evE op 0 0 0 0 0 0 0 0 (.slice none 0 0)) 32))
  have HG := Lib.hid (obj_lt hg)
  go_enter Tryz.func28, Tryz.ntmps28
  go_wp2_with (first
    | (refine wpList_copyT rfl (.tmp 9) (.tmp 10) 111 111 rfl 2 Tryz.underlying111 (by kernel_rfl) (W.heap.size + 1) 2 8 8 ⟨g, 0, none⟩ 1 1 rfl rfl (evE op 0 0 0 0 0 0 0 0 (.slice none 0 0)) 32 (H1.out.obj 0 rfl) [.int .i64 n] rfl (fun j v hj => by rw [Addr.add_lit]; exact ((H1.out.get 2 rfl).cell (0 + j)).trans (by simpa using hj)) (by simp [evE]) (by intro v hv; simp only [List.mem_cons, List.not_mem_nil, or_false] at hv; subst hv; rfl) (evE op n 0 0 0 0 0 0 0 (.slice none 0 0)) rfl ?_
       intro W2 HT2
       have H2 := Lib.hid (H1.out.turn 0 rfl HT2 (.inr (by omega)) (by have := HG.out; simp; omega))
       clear H1)
    | (refine wpListG_row rfl 32 (.tmp 5) rfl (W.heap.size + 1) rfl 32 (evE op n 0 0 0 0 0 0 0 (.slice none 0 0)) _ (H2.out.get 0 rfl) Tryz.underlying32 rfl (by first | kernel_rfl | (rw [enc_size]; kernel_rfl)) ?_)
    | (refine wpList_turn rfl 32 (.tmp 4) (.tmp 12) rfl W.heap.size 0 (.agg (evE op n 0 0 0 0 0 0 0 (.slice none 0 0))) rfl rfl 32 evZ (evE op n 0 0 0 0 0 0 0 (.slice none 0 0)) (H2.out.get 1 rfl) (by first | kernel_rfl | (rw [enc_size]; kernel_rfl)) (by first | (simp [Value.cells]; done) | (simp [Value.cells, prodE, prodZ, evE, nsE, evZ]; done) | exact Nat.le_refl _) (by first | exact decE_all _ _ | (simp [Value.cells, Value.oneCell']; done) | (simp [Value.cells, Value.oneCell', prodE, prodZ, evE, nsE, evZ]; done) | (rw [Array.all_eq_true']; simp [Value.cells, Value.oneCell', prodE, prodZ, evE, nsE, evZ])) rfl ?_; intro W3 HT3))
  have hk := H2.out.1.trans HT3.keep (by simp)
  exact bodyPost_ret (results_cell_row rfl _ _ W.heap.size 32 (evE op n 0 0 0 0 0 0 0 (.slice none 0 0)) (0, 0) _ rfl HT3.at_ Tryz.underlying32 rfl (by kernel_rfl)) rfl ⟨rfl, hk.below⟩
set_option maxHeartbeats 4000000 in
set_option maxRecDepth 100000 in
theorem of3_ok (op x y z : Int) (g : Nat) (W : World) (hg : W.heap[g]? = some (.cells #[.int .i64 x, .int .i64 y, .int .i64 z] 2)) : Calls Tryz.prog 28 #[.int .u8 op, .slice (some ⟨g, 0, none⟩) 3 3] W fun e w' => e = .returned (.agg (evE op x y z 0 0 0 0 0 (.slice none 0 0))) ∧ Below W.heap.size W w' := by
  have H1 := Lib.hid (((HasO.cons hg (HasO.start [] W)).new (g := W.heap.size) rfl (.cells evZ 32)).new (g := W.heap.size + 1) (by simp) (.cells (evE op 0 0 0 0 0 0 0 0 (.slice none 0 0)) 32))
  have HG := Lib.hid (obj_lt hg)
  go_enter Tryz.func28, Tryz.ntmps28
  go_wp2_with (first
    | (refine wpList_copyT rfl (.tmp 9) (.tmp 10) 111 111 rfl 2 Tryz.underlying111 (by kernel_rfl) (W.heap.size + 1) 2 8 8 ⟨g, 0, none⟩ 3 3 rfl rfl (evE op 0 0 0 0 0 0 0 0 (.slice none 0 0)) 32 (H1.out.obj 0 rfl) [.int .i64 x, .int .i64 y, .int .i64 z] rfl (fun j v hj => by rw [Addr.add_lit]; exact ((H1.out.get 2 rfl).cell (0 + j)).trans (by simpa using hj)) (by simp [evE]) (by intro v hv; simp only [List.mem_cons, List.not_mem_nil, or_false] at hv; rcases hv with rfl | rfl | rfl <;> rfl) (evE op x y z 0 0 0 0 0 (.slice none 0 0)) rfl ?_
       intro W2 HT2
       have H2 := Lib.hid (H1.out.turn 0 rfl HT2 (.inr (by omega)) (by have := HG.out; simp; omega))
       clear H1)
    | (refine wpListG_row rfl 32 (.tmp 5) rfl (W.heap.size + 1) rfl 32 (evE op x y z 0 0 0 0 0 (.slice none 0 0)) _ (H2.out.get 0 rfl) Tryz.underlying32 rfl (by first | kernel_rfl | (rw [enc_size]; kernel_rfl)) ?_)
    | (refine wpList_turn rfl 32 (.tmp 4) (.tmp 12) rfl W.heap.size 0 (.agg (evE op x y z 0 0 0 0 0 (.slice none 0 0))) rfl rfl 32 evZ (evE op x y z 0 0 0 0 0 (.slice none 0 0)) (H2.out.get 1 rfl) (by first | kernel_rfl | (rw [enc_size]; kernel_rfl)) (by first | (simp [Value.cells]; done) | (simp [Value.cells, prodE, prodZ, evE, nsE, evZ]; done) | exact Nat.le_refl _) (by first | exact decE_all _ _ | (simp [Value.cells, Value.oneCell']; done) | (simp [Value.cells, Value.oneCell', prodE, prodZ, evE, nsE, evZ]; done) | (rw [Array.all_eq_true']; simp [Value.cells, Value.oneCell', prodE, prodZ, evE, nsE, evZ])) rfl ?_; intro W3 HT3))
  have hk := H2.out.1.trans HT3.keep (by simp)
  exact bodyPost_ret (results_cell_row rfl _ _ W.heap.size 32 (evE op x y z 0 0 0 0 0 (.slice none 0 0)) (0, 0) _ rfl HT3.at_ Tryz.underlying32 rfl (by kernel_rfl)) rfl ⟨rfl, hk.below⟩
set_option maxHeartbeats 4000000 in
set_option maxRecDepth 100000 in
theorem line_ok (k n : Int) (hn : -9223372036854775808 ≤ n ∧ n ≤ 9223372036854775807) (W : World) : Calls Tryz.prog 88 #[.int .i64 k, .int .i64 0, .int .i64 n] W fun e w' => e = .returned (.agg (lineE k 0 n 0)) ∧ Below W.heap.size W w' := by
  obtain ⟨n1, n2⟩ := hn
  go_enter Tryz.func88, Tryz.ntmps88
  go_wp2_with fail
  have e1 : n / 9223372036854775808 = n / 18446744073709551616 := by omega
  have e2 : IntKind.u64.wrap n = n % 18446744073709551616 := by simp only [IntKind.wrap_u64]
  refine bodyPost_ret (results_cell_row rfl _ _ W.heap.size 175 (lineE k 0 n 0) (0, 0) _ rfl ?_ Tryz.underlying175 rfl (by kernel_rfl)) rfl ⟨rfl, Below.al (Below.refl _ _) _⟩
  rw [e1, e2]
  exact Blk.new _ _ _
set_option maxHeartbeats 4000000 in
set_option maxRecDepth 100000 in
theorem moves_ok (gm gc ba br bk gl : Nat) (day seq p q n : Int) (run : Bool) (st : Value) (hp : 1 ≤ p ∧ p ≤ 8) (hq : 1 ≤ q ∧ q ≤ 8) (hn : -9223372036854775807 ≤ n ∧ n ≤ 9223372036854775807) (W : World) (hm : W.heap[gm]? = some (.cells (modE day gc ba br bk gl seq run st) 64)) (hl : Led gl W) :
    Calls Tryz.prog 53 #[.pointer (some ⟨gm, 0, none⟩), .int .i64 p, .int .i64 q, .int .i64 0, .int .i64 n] W fun e w' => e = unitR ∧ Keep [gl] W w' ∧ Led gl w' := by
  have CP := Lib.hid (fun w => line_ok p n (by omega) w)
  have CQ := Lib.hid (fun w => line_ok q (-n) (by omega) w)
  have CB := Lib.hid (fun ge cap w hb hE => post_ok (p, n) (q, -n) ⟨hp, by unfold InT; omega, chk0 (by omega)⟩ ⟨hq, by unfold InT; omega, chk0 (by omega)⟩ gl ge cap w hE (hl.step hb))
  obtain ⟨n1, n2⟩ := hn
  have HL := Lib.hid hl
  have HM := Lib.hid hm
  have H1 := Lib.hid (HasO.cons hm (HasO.start [] W))
  clear hl hm hp hq
  by_cases hz : n = 0
  · subst hz
    clear CP CQ CB n1 n2
    go_enter Tryz.func53, Tryz.ntmps53
    go_wp2_with fail
    go_end0
    exact ⟨rfl, Keep.refl _ _, HL.out⟩
  · have hz' : (n == 0) = false := beq_eq_false_iff_ne.2 hz
    have hz2 : (n != 0) = true := by simpa using hz
    have e1 : IntKind.i64.wrap (-n) = -n := IntWalk.i64_in _ (by omega)
    go_enter Tryz.func53, Tryz.ntmps53
    go_wp2_with fail
    refine wp_region_regF (fun w' => HasO [] W [(gm, .cells (modE day gc ba br bk gl seq run st) 64)] w') (fun w' => HasO [gl] W [(gm, .cells (modE day gc ba br bk gl seq run st) 64)] w') (fun _ => (0, #[])) [0, 1, 2, 3, 4, 5, 6, 7, 8, 9, 10, 11, 12] [] [13, 14] [0, 1, 2, 3] (by kernel_rfl) (by kernel_rfl) ?_ (fun w w' h hb => h.step hb) ?_ (fun k hk => by cases hk) ?_
    · exact fun w h => ⟨h.1.mono (by simp), h.2⟩
    · exact H1.out.drew
    simp only [List.map_cons, List.map_nil, opAt, List.getElem?_cons_succ, List.getElem?_cons_zero, Option.getD_some, List.contains_cons, List.contains_nil, Nat.reduceBEq, Bool.or_false, Bool.or_true, Bool.true_or, Bool.false_or]
    repeat (refine wpX_float rfl ?_; go_big_quiet_step ((intro _; rfl)); refine wpQuiet_nil ?_)
    refine wpX_float rfl ?_
    refine wpQuiet_cell 60 (.tmp 14) rfl rfl ⟨gm, 5, none⟩ rfl (.pointer (some ⟨gl, 0, none⟩)) _ (fun w hw => (hw.get 0 rfl).cell 5) Tryz.underlying60 rfl (fun KK hKK => ?_)
    go_simp
    refine hKK _ ?_
    clear hKK KK
    refine wpQuiet_nil ?_
    repeat (refine wpX_pure rfl ?_; go_big_quiet_step ((intro _; rfl)); refine wpQuiet_nil ?_)
    refine wpX_call (.agg (lineE p 0 n 0)) 88 #[.int .i64 p, .int .i64 0, .int .i64 n] rfl (fun w => by go_simp) (fun w hw => CP.out _) (fun KK hKK => ?_)
    go_simp
    refine hKK _ ?_
    clear hKK KK
    repeat (refine wpX_pure rfl ?_; go_big_quiet_step ((intro _; rfl)); refine wpQuiet_nil ?_)
    refine wpX_call (.agg (lineE q 0 (-n) 0)) 88 #[.int .i64 q, .int .i64 0, .int .i64 (-n)] rfl (fun w => by go_simp) (fun w hw => CQ.out _) (fun KK hKK => ?_)
    go_simp
    refine hKK _ ?_
    clear hKK KK
    refine wpX_nil ?_
    intro gs w5 H5
    intro hmade
    simp only [putAll, wpTail, opAt, List.getElem?_cons_succ, List.getElem?_cons_zero, Option.getD_some, Act.put]
    have H5 := Lib.hid H5
    clear hmade H1
    have HLP := Lib.hid (show lineE p 0 n 0 = #[.int .i64 p, .int .i64 0, .int .i64 (n / 18446744073709551616), .int .u64 (n % 18446744073709551616), .int .i64 0] from rfl)
    have HLQ := Lib.hid (show lineE q 0 (-n) 0 = #[.int .i64 q, .int .i64 0, .int .i64 (-n / 18446744073709551616), .int .u64 (-n % 18446744073709551616), .int .i64 0] from rfl)
    rw [HLP.out, HLQ.out]
    obtain ⟨a1, ha1⟩ : ∃ a1, a1 = n / 18446744073709551616 := ⟨_, rfl⟩
    obtain ⟨a2, ha2⟩ : ∃ a2, a2 = n % 18446744073709551616 := ⟨_, rfl⟩
    obtain ⟨b1, hb1⟩ : ∃ b1, b1 = -n / 18446744073709551616 := ⟨_, rfl⟩
    obtain ⟨b2, hb2⟩ : ∃ b2, b2 = -n % 18446744073709551616 := ⟨_, rfl⟩
    rw [← ha1, ← ha2, ← hb1, ← hb2]
    have HAB : Hid (entE (p, n) (q, -n) = #[.int .i64 p, .int .i64 0, .int .i64 a1, .int .u64 a2, .int .i64 0, .int .i64 q, .int .i64 0, .int .i64 b1, .int .u64 b2, .int .i64 0]) := Lib.hid (by rw [ha1, ha2, hb1, hb2]; rfl)
    clear ha1 ha2 hb1 hb2 HLP HLQ
    go_wp2_with fail
    have H6 : Hid (HasO [] W ((w5.heap.size, .cells (entE (p, n) (q, -n)) 175) :: [(gm, .cells (modE day gc ba br bk gl seq run st) 64)]) _) := Lib.hid (H5.out.new rfl _)
    rw [HAB.out] at H6
    refine ⟨⟨H6.out.1.mono (by simp), H6.out.tail.2⟩, ?_⟩
    go_wp2_with fail
    refine (CB.out w5.heap.size 2 _ H6.out.below (by rw [HAB.out]; exact H6.out.obj 0 rfl)).mono ?_
    rintro e w7 ⟨⟨r, rfl⟩, hk7, hl7⟩
    have hne : gm ≠ gl := fun e => by
      have h1 := HM.out
      obtain ⟨b, cl, L, k, h2, _⟩ := HL.out
      rw [e, h2] at h1; cases h1
    have H7 : Hid (HasO [gl] W [(gm, .cells (modE day gc ba br bk gl seq run st) 64)] w7) := Lib.hid (by
      have h6 := H6.out.tail
      refine ⟨(h6.1.mono (T := [gl]) (by simp)).trans hk7 (by simp), fun f hf => ?_⟩
      simp only [List.mem_singleton] at hf
      subst hf
      exact (hk7.block gm (obj_lt (h6.obj 0 rfl)) (by simpa using hne)).trans (h6.obj 0 rfl))
    have HL7 := Lib.hid hl7
    clear hk7 hl7 hne H6
    go_wp2_with fail
    refine ⟨H7.out, ?_⟩
    go_wp2_with fail
    go_end0
    exact ⟨rfl, H7.out.1, HL7.out⟩
end Go.Proofs.YtlfomhdphbchpaaGreatDoor.Mo
