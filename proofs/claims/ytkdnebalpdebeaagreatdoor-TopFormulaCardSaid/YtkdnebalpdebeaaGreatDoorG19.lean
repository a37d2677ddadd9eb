/- Lemmas of a claim: MoD, MoE, MoF -/
import Derived.Test.YtkdnebalpdebeaaGreatDoorG16
import Derived.Test.YtkdnebalpdebeaaGreatDoorG18
set_option linter.unusedVariables false
set_option linter.unusedSimpArgs false
set_option maxHeartbeats 16000000
set_option maxRecDepth 100000
namespace Go.Proofs.YtkdnebalpdebeaaGreatDoor
namespace Mo
open Go.RowKit Go.Deep Wide Dec Mp Pr Ch
theorem results_row_tmp2 {P : Program} {fn : Func} {p u v : Tmp} {ty : TypeId} (h : fn.results = #[.cell p ty, .tmp u, .tmp v]) (tmps : Array Value) (w : World) (g : Nat) (t : TypeId) (cs : Array Value) (d : TypeDesc) (x y : Value)
 (hp : tmps.getD p undef = .pointer (some ⟨g, 0, none⟩)) (hg : Blk w g t cs)
 (hu : P.underlying ty = some d) (hd : (match d with | .struct _ | .array _ _ => true | _ => false) = true) (hi : (P.info? ty).map (·.size) = some cs.size) (hx : tmps.getD u undef = x) (hy : tmps.getD v undef = y) :
 (results fn tmps).run P w = .ok (.tuple #[.agg cs, x, y]) w := by
 have hq : tmps[p]?.getD undef = .pointer (some ⟨g, 0, none⟩) := by simpa using hp
 have hq' : tmps[u]?.getD undef = x := by simpa using hx
 have hq2 : tmps[v]?.getD undef = y := by simpa using hy
 simp [results, h, hq, hq', hq2, asAddr, run_loadVar_row w g t ty cs (0, 0) d hg hu hd hi, Result.andThen]
theorem echeck_ok (e : Event.Ev) (A : Option Addr) (c : Nat) (ho : e.ok) (hf : e.form) (w : World) : Calls Tryz.prog 24 #[.agg (Event.row e A c)] w fun x w' => x = .returned (.int .i64 0) /\ Below w.heap.size w w' := by
 refine (Event.check_ok e A c w ho (by have := hf.2.1; omega)).mono ?_
 rintro x w' ⟨f, rfl, h | h, hb⟩
 . exact ⟨by rw [h.1], hb⟩
 . exact absurd hf h.2
theorem look0k (bk : Nat) (w : World) (h : w.heap[bk]? = some (.map #[] 0)) : (Instr.lookup 77 (.map (some bk)) (.int .u64 0) true).run Tryz.prog w = .ok (.tuple #[.agg #[], .bool false]) w :=
 run_lookup1 (P := Tryz.prog) (d := .int .u64) (z := .agg #[]) Tryz.underlying77 (by kernel_rfl) (show MapKept.IsKey (.int .u64) (.int .u64 0) from rfl) (fun w => by first | exact Tryz.zeroValue83 w | exact Tryz.zeroValue83 _) bk #[] 0 none rfl true w h
theorem plan_gen (gm ba gc br bk gl : Nat) (day seq n op n0 n1 n2 n3 n4 n5 n6 n7 : Int) (A : Option Addr) (k c : Nat) (st : Value) (T : World -> Value -> Prop) (W : World)
 (hop : 0 <= op /\ op < 12) (hT : ∀ w w' s, T w s -> Below w.heap.size w w' -> T w' s) (hTs : ∀ w s, T w s -> ∃ A k c, s = .slice A k c) (hTk : ∀ w w' s g, T w s -> Keep [g] w w' -> (∀ cur, w.heap[g]? ≠ some (.cells cur 31)) -> T w' s)
 (hck : ∀ w, Calls Tryz.prog 24 #[.agg (evE op n0 n1 n2 n3 n4 n5 n6 n7 (.slice A k c))] w fun x w' => x = .returned (.int .i64 0) /\ Below w.heap.size w w')
 (hcl : ∀ w, Below W.heap.size W w -> Calls Tryz.prog 25 #[.slice A k c] w fun e w' => (∃ s', e = .returned s' /\ T w' s') /\ Below w.heap.size w w')
 (hlook : ∀ (gp : Nat) (A' : Option Addr) (k' c' : Nat) (w : World), HasO [] W [(gp, .cells (planE gm) 88)] w -> T w (.slice A' k' c') ->
   Calls Tryz.prog 26 #[.pointer (some ⟨gp, 0, none⟩), .agg (evE op n0 n1 n2 n3 n4 n5 n6 n7 (.slice A' k' c'))] w fun e w' => e = .returned (.tuple #[.agg (evE op n0 n1 n2 n3 n4 n5 n6 n7 (.slice A' k' c')), .int .i64 n]) /\ Below w.heap.size w w')
 (h : HasO [] W [(gm, .cells (modE day gc ba br bk gl seq false st) 82), (bk, .map #[] 0)] W) :
 Calls Tryz.prog 6 #[.pointer (some ⟨gm, 0, none⟩), .agg (evE op n0 n1 n2 n3 n4 n5 n6 n7 (.slice A k c))] W fun e w' => (∃ A' k' c', e = .returned (.tuple #[.agg (evE op n0 n1 n2 n3 n4 n5 n6 n7 (.slice A' k' c')), .int .i64 n, .int .i64 0]) /\ T w' (.slice A' k' c')) /\ Below W.heap.size W w' := by
 have H1 := Hd (((h.new (g := W.heap.size) rfl (.cells (evE op n0 n1 n2 n3 n4 n5 n6 n7 (.slice A k c)) 34)).new (g := W.heap.size + 1) (by simp) (.cells evZ 34)).new (g := W.heap.size + 2) (by simp) (.map #[] 0))
 have hmm := fun w : World => (run_makeMap (P := Tryz.prog) 77 w)
 have CK := Hd hck
 have CC := Hd hcl
 have CL := Hd hlook
 have HT := Hd hT
 have HTS := Hd hTs
 have HTK := Hd hTk
 have HLT := Hd (show gm < W.heap.size /\ bk < W.heap.size from ⟨obj_lt (h.obj 0 rfl), obj_lt (h.obj 1 rfl)⟩)
 obtain ⟨ho1, ho2⟩ := hop
 have o1 : (op == 12) = false := beq_eq_false_iff_ne.2 (by omega)
 have o2 : decide (13 <= op) = false := by simp; omega
 clear h hck hcl hlook hT hTs hTk
 rw [evE]
 go_enter Tryz.func6, Tryz.ntmps6
 go_wp2_with fail
 refine wp_region_class (fun w' => HasO [] W _ w') [0, 1, 2, 3, 4, 5, 6, 7, 8, 9, 10] (by kernel_rfl) (by kernel_rfl) (H1.o.drew) ?_
 simp only [List.map_cons, List.map_nil, opAt, List.getElem?_cons_succ, List.getElem?_cons_zero, Option.getD_some]
 repeat (go_big_quiet_step ((intro _; rfl)))
 refine wpQuiet_cell 77 (.tmp 18) rfl rfl ⟨gm, 4, none⟩ rfl (.map (some bk)) _ (fun w hw => (hw.get 3 rfl).cell 4) Tryz.underlying77 rfl (fun K1 k1 => ?_)
 go_simp
 refine k1 _ ?_
 clear k1 K1
 repeat (go_big_quiet_step ((intro _; rfl)))
 refine wpQuiet_cell 24 (.tmp 20) rfl rfl ⟨W.heap.size, 1, none⟩ rfl (.int .u64 0) _ (fun w hw => (hw.get 2 rfl).cell 1) Tryz.underlying24 rfl (fun K1 k1 => ?_)
 go_simp
 refine k1 _ ?_
 clear k1 K1
 refine wpQuiet_lookup rfl 77 (.tmp 19) (.tmp 21) true rfl bk (.int .u64 0) (.tuple #[.agg #[], .bool false]) rfl rfl (fun w hw => look0k bk w (hw.obj 4 rfl)) (fun K1 k1 => ?_)
 go_simp
 refine k1 _ ?_
 clear k1 K1
 repeat (go_big_quiet_step ((intro _; rfl)))
 refine wpQuiet_nil ?_
 intro w5 H5
 have H5 := Hd H5
 clear H1 hmm
 go_wp2_with (refine wpListG_row rfl 34 (.tmp 3) rfl W.heap.size rfl 34 (evE op n0 n1 n2 n3 n4 n5 n6 n7 (.slice A k c)) _ (H5.o.get 2 rfl) Tryz.underlying34 rfl (by kernel_rfl) ?_)
 refine (CK.o _).mono ?_
 rintro e w6 ⟨rfl, hb6⟩
 have H6 := Hd (H5.o.step hb6)
 clear hb6 H5 CK
 have c0 := (H6.o.get 2 rfl).cell 0
 have c7 := (H6.o.get 3 rfl).cell 7
 have c10 := (H6.o.get 2 rfl).cell 10
 simp only [evE, modE, List.getElem?_toArray, List.getElem?_cons_succ, List.getElem?_cons_zero] at c0 c7 c10
 go_wp2_with fail
 refine (CC.o _ H6.o.below).mono ?_
 rintro e w7 ⟨⟨s', rfl, hs'⟩, hb7⟩
 obtain ⟨A', k', c', rfl⟩ := HTS.o _ _ hs'
 have H7 := Hd (H6.o.step hb7)
 have HS7 := Hd hs'
 clear hb7 H6 c0 c7 c10 hs' CC
 go_wp2_with (first
  | (refine wpList_turn rfl 32 (.tmp 62) (.tmp 61) rfl W.heap.size 10 (.slice A' k' c') rfl rfl 34 (evE op n0 n1 n2 n3 n4 n5 n6 n7 (.slice A k c)) (evE op n0 n1 n2 n3 n4 n5 n6 n7 (.slice A' k' c')) (H7.o.get 2 rfl) (by kernel_rfl) (by simp [Value.cells, prodE, prodZ, evE, nsE, evZ]) (by simp [Value.cells, Value.oneCell', prodE, prodZ, evE, nsE, evZ]) rfl ?_; intro W8 HT8
     have H8 := Hd (H7.o.turn 2 rfl HT8 (.inr (Nat.le_refl _)) (by have := HLT.o; simp; omega))
     have HS8 := Hd (HTK.o _ _ _ _ HS7.o HT8.keep (fun cur hc => by rw [H7.o.obj 2 rfl] at hc; cases hc))
     clear H7 HS7)
  | (refine wpListG_row rfl 34 (.tmp 3) rfl W.heap.size rfl 34 (evE op n0 n1 n2 n3 n4 n5 n6 n7 (.slice A' k' c')) _ ((H8.o.new (g := W8.heap.size) rfl (.cells (planE gm) 88)).get 3 rfl) Tryz.underlying34 rfl (by kernel_rfl) ?_))
 have H9 := Hd (H8.o.new (g := W8.heap.size) rfl (.cells (planE gm) 88))
 have HS9 := Hd (HT.o _ _ _ HS8.o (Below.al (Below.refl _ _) (.cells (planE gm) 88)))
 obtain ⟨gp, hgp⟩ : ∃ gp, gp = W8.heap.size := ⟨_, rfl⟩
 rw [<- hgp] at H9 ⊢
 have HGP : Hi (W.heap.size <= gp) := Hd (by rw [hgp]; exact H8.o.size)
 clear hgp H8 HS8
 refine (CL.o gp A' k' c' _ (H9.o.of_mem (by simp)) HS9.o).mono ?_
 rintro e w10 ⟨rfl, hb10⟩
 have H10 := Hd (H9.o.step hb10)
 have HS10 := Hd (HT.o _ _ _ HS9.o hb10)
 clear hb10 H9 HS9 CL
 have H10n := Hd (H10.o.new (g := w10.heap.size) rfl (.cells evZ 34))
 have HS10n := Hd (HT.o _ _ _ HS10.o (Below.al (Below.refl _ _) (.cells evZ 34)))
 have HF10 := Hd (HasO.fresh H10.o)
 have HZ10 := Hd (H10.o.size)
 clear H10 HS10
 go_wp2_with (first
  | (refine wpList_turn rfl 34 (.tmp 10) (.tmp 70) rfl w10.heap.size 0 (.agg (evE op n0 n1 n2 n3 n4 n5 n6 n7 (.slice A' k' c'))) rfl rfl 34 evZ (evE op n0 n1 n2 n3 n4 n5 n6 n7 (.slice A' k' c')) (H10n.o.get 0 rfl) (by kernel_rfl) (by simp [Value.cells, prodE, prodZ, evE, nsE, evZ]) (by simp [Value.cells, Value.oneCell', prodE, prodZ, evE, nsE, evZ]) rfl ?_; intro W11 HT11
     have H11 := Hd (H10n.o.turn 0 rfl HT11 (.inr HZ10.o) (fun f hf => HF10.o f (by simpa using hf)))
     have HS11 := Hd (HTK.o _ _ _ _ HS10n.o HT11.keep (fun cur hc => by rw [H10n.o.obj 0 rfl] at hc; cases hc)))
  | (refine wpListG_cell rfl 26 (.tmp 74) rfl gp 1 rfl 88 (planE gm) (.int .i64 0) rfl _ (H11.o.get 1 rfl) Tryz.underlying26 rfl ?_)
  | (refine wpListG_row rfl 34 (.tmp 10) rfl w10.heap.size rfl 34 (evE op n0 n1 n2 n3 n4 n5 n6 n7 (.slice A' k' c')) _ (H11.o.get 0 rfl) Tryz.underlying34 rfl (by kernel_rfl) ?_)
  | (refine wpList_turn rfl 34 (.tmp 4) (.tmp 82) rfl (W.heap.size + 1) 0 (.agg (evE op n0 n1 n2 n3 n4 n5 n6 n7 (.slice A' k' c'))) rfl rfl 34 evZ (evE op n0 n1 n2 n3 n4 n5 n6 n7 (.slice A' k' c')) (H11.o.get 3 rfl) (by kernel_rfl) (by simp [Value.cells, prodE, prodZ, evE, nsE, evZ]) (by simp [Value.cells, Value.oneCell', prodE, prodZ, evE, nsE, evZ]) rfl ?_; intro W12 HT12
     have HS12 := Hd (HTK.o _ _ _ _ HS11.o HT12.keep (fun cur hc => by rw [H11.o.obj 3 rfl] at hc; cases hc))))
 have hk := H11.o.1.trans HT12.keep (by simp)
 exact bodyPost_ret (results_row_tmp2 rfl _ _ (W.heap.size + 1) 34 (evE op n0 n1 n2 n3 n4 n5 n6 n7 (.slice A' k' c')) _ _ _ rfl HT12.at_ Tryz.underlying34 rfl (by kernel_rfl) rfl rfl) rfl ⟨⟨A', k', c', rfl, HS12.o⟩, hk.below⟩
end Mo
namespace Mo
open Go.RowKit Go.Deep Wide Dec Mp Pr Ch
theorem apply_cmd (S : List Nat) (gm : Nat) (cm1 : Array Value) (seq n op n0 n1 n2 n3 n4 n5 n6 n7 : Int) (A : Option Addr) (k c : Nat) (T : World -> Value -> Prop) (R : World -> Prop) (W : World)
 (hop : 0 <= op /\ op < 12) (hseq : 0 <= seq /\ seq <= 1000000000) (h6 : cm1[6]? = some (.int .i64 seq)) (hsz : cm1.size = 9) (hT : ∀ w w' s, T w s -> Below w.heap.size w w' -> T w' s) (hTk : ∀ w w' s g, T w s -> Keep [g] w w' -> (∀ cur, w.heap[g]? ≠ some (.cells cur 31)) -> T w' s)
 (hplan : ∀ w, Below W.heap.size W w -> Calls Tryz.prog 6 #[.pointer (some ⟨gm, 0, none⟩), .agg (evE op n0 n1 n2 n3 n4 n5 n6 n7 (.slice A k c))] w fun e w' => (∃ A' k' c', e = .returned (.tuple #[.agg (evE op n0 n1 n2 n3 n4 n5 n6 n7 (.slice A' k' c')), .int .i64 n, .int .i64 0]) /\ T w' (.slice A' k' c')) /\ Below w.heap.size w w')
 (hsame : ∀ w A' k' c', Below W.heap.size W w -> T w (.slice A' k' c') -> Calls Tryz.prog 27 #[.agg (evE op n0 n1 n2 n3 n4 n5 n6 n7 (.slice A k c)), .agg (evE op n0 n1 n2 n3 n4 n5 n6 n7 (.slice A' k' c'))] w fun e w' => e = .returned (.bool true) /\ Below w.heap.size w w')
 (hhap : ∀ w A' k' c', Below W.heap.size W w -> T w (.slice A' k' c') -> Calls Tryz.prog 28 #[.pointer (some ⟨gm, 0, none⟩), .agg (evE op n0 n1 n2 n3 n4 n5 n6 n7 (.slice A' k' c'))] w fun e w' => e = unitR /\ Keep S w w' /\ w'.heap[gm]? = some (.cells cm1 82) /\ R w') (hS : ∀ k ∈ S, k < W.heap.size) (hgm : gm < W.heap.size) :
 Calls Tryz.prog 7 #[.pointer (some ⟨gm, 0, none⟩), .agg (evE op n0 n1 n2 n3 n4 n5 n6 n7 (.slice A k c))] W fun e w' => e = .returned (.int .i64 0) /\ ∃ w1, Keep S W w1 /\ R w1 /\ Turn w1 gm (.cells (splice cm1 6 #[.int .i64 (seq + 1)]) 82) w' := by
 have H1 := Hd ((((HasO.start [] W).new (g := W.heap.size) rfl (.cells (evE op n0 n1 n2 n3 n4 n5 n6 n7 (.slice A k c)) 34)).new (g := W.heap.size + 1) (by simp) (.cells evZ 34)).new (g := W.heap.size + 2) (by simp) (.cells (evE op n0 n1 n2 n3 n4 n5 n6 n7 (.slice A k c)) 34))
 have HS := Hd hS
 have HG := Hd hgm
 have CP := Hd hplan
 have CS := Hd hsame
 have CH := Hd hhap
 have HT := Hd hT
 have HTK := Hd hTk
 have H6 := Hd h6
 have HSZ := Hd hsz
 obtain ⟨ho1, ho2⟩ := hop
 obtain ⟨hs1, hs2⟩ := hseq
 have o1 : (op == 12) = false := beq_eq_false_iff_ne.2 (by omega)
 have o2 : decide (13 <= op) = false := by simp; omega
 clear hplan hsame hhap hT hTk h6 hsz hS hgm
 rw [evE]
 go_enter Tryz.func7, Tryz.ntmps7
 go_wp2_with fail
 refine (CP.o _ H1.o.below).mono ?_
 rintro e w2 ⟨⟨A', k', c', rfl, ht2⟩, hb2⟩
 have H2 := Hd (H1.o.step hb2)
 have HT2 := Hd ht2
 clear hb2 H1 ht2 CP
 go_wp2_with (first
  | (refine wpList_turn rfl 34 (.tmp 5) (.tmp 30) rfl (W.heap.size + 1) 0 (.agg (evE op n0 n1 n2 n3 n4 n5 n6 n7 (.slice A' k' c'))) rfl rfl 34 evZ (evE op n0 n1 n2 n3 n4 n5 n6 n7 (.slice A' k' c')) (H2.o.get 1 rfl) (by kernel_rfl) (by simp [Value.cells, prodE, prodZ, evE, nsE, evZ]) (by simp [Value.cells, Value.oneCell', prodE, prodZ, evE, nsE, evZ]) rfl ?_; intro W3 HT3
     have H3 := Hd (H2.o.turn 1 rfl HT3 (.inr (by omega)) (by simp))
     have HT3' := Hd (HTK.o _ _ _ _ HT2.o HT3.keep (fun cur hc => by rw [H2.o.obj 1 rfl] at hc; cases hc))
     clear H2 HT2 HT3)
  | (refine wpListG_row rfl 34 (.tmp 3) rfl W.heap.size rfl 34 (evE op n0 n1 n2 n3 n4 n5 n6 n7 (.slice A k c)) _ (H3.o.get 2 rfl) Tryz.underlying34 rfl (by kernel_rfl) ?_)
  | (refine wpListG_row rfl 34 (.tmp 5) rfl (W.heap.size + 1) rfl 34 (evE op n0 n1 n2 n3 n4 n5 n6 n7 (.slice A' k' c')) _ (H3.o.get 1 rfl) Tryz.underlying34 rfl (by kernel_rfl) ?_))
 refine (CS.o _ A' k' c' H3.o.below HT3'.o).mono ?_
 rintro e w4 ⟨rfl, hb4⟩
 have H4 := Hd (H3.o.step hb4)
 have HT4 := Hd (HT.o _ _ _ HT3'.o hb4)
 clear hb4 H3 HT3' CS
 go_wp2_with (refine wpListG_row rfl 34 (.tmp 5) rfl (W.heap.size + 1) rfl 34 (evE op n0 n1 n2 n3 n4 n5 n6 n7 (.slice A' k' c')) _ (H4.o.get 1 rfl) Tryz.underlying34 rfl (by kernel_rfl) ?_)
 refine (CH.o _ A' k' c' H4.o.below HT4.o).mono ?_
 rintro e w5 ⟨rfl, hk5, hm5, hr5⟩
 have hz5 := H4.o.size
 have hE5 : w5.heap[W.heap.size]? = some (.cells (evE op n0 n1 n2 n3 n4 n5 n6 n7 (.slice A k c)) 34) := (hk5.block _ (obj_lt (H4.o.obj 2 rfl)) (fun hm => by have := HS.o _ hm; omega)).trans (H4.o.obj 2 rfl)
 have HK5 := Hd (H4.o.1.mono (T := S) (by simp) |>.trans hk5 (fun k hk => .inl hk))
 have HE5 := Hd hE5
 have HM5 := Hd hm5
 have HR5 := Hd hr5
 clear hk5 hm5 hr5 hz5 hE5 H4 HT4 CH
 have c6 : w5.cell? ⟨gm, 6, none⟩ = some (.int .i64 seq) := by rw [Blk.cell (t := 82) (cs := cm1) HM5.o 6]; exact H6.o
 unfold unitR
 go_wp2_with (refine wpList_turn rfl 2 (.tmp 49) (.tmp 47) rfl gm 6 (.int .i64 (seq + 1)) rfl rfl 82 cm1 (splice cm1 6 #[.int .i64 (seq + 1)]) HM5.o (by kernel_rfl) (by rw [HSZ.o]; simp [Value.cells]) (by simp [Value.cells, Value.oneCell']) rfl ?_
              intro W6 HT6
              clear c6
              have c1 : W6.cell? ⟨W.heap.size, 1, none⟩ = some (.int .u64 0) := by rw [Blk.cell (t := 34) (cs := (evE op n0 n1 n2 n3 n4 n5 n6 n7 (.slice A k c))) ((HT6.far _ (by have := HG.o; omega)).trans HE5.o) 1]; rfl)
 exact bodyPost_ret (results_one rfl _ _ rfl) rfl ⟨rfl, w5, HK5.o, HR5.o, HT6⟩
theorem apply_eod (S : List Nat) (gm : Nat) (seq op n0 n1 n2 n3 n4 n5 n6 n7 : Int) (R : Array Value -> World -> Prop) (W : World)
 (hop : 13 <= op /\ op < 16) (hseq : 0 <= seq /\ seq <= 1000000000) (hR : ∀ cm w, R cm w -> cm[6]? = some (.int .i64 seq) /\ cm.size = 9)
 (hnext : ∀ w, Below W.heap.size W w -> Calls Tryz.prog 11 #[.pointer (some ⟨gm, 0, none⟩)] w fun e w' => e = .returned (.tuple #[.agg (evE op n0 n1 n2 n3 n4 n5 n6 n7 (.slice none 0 0)), .int .i64 0]) /\ Below w.heap.size w w')
 (hsame : ∀ w, Below W.heap.size W w -> Calls Tryz.prog 27 #[.agg (evE op n0 n1 n2 n3 n4 n5 n6 n7 (.slice none 0 0)), .agg (evE op n0 n1 n2 n3 n4 n5 n6 n7 (.slice none 0 0))] w fun e w' => e = .returned (.bool true) /\ Below w.heap.size w w')
 (hhap : ∀ w, Below W.heap.size W w -> Calls Tryz.prog 28 #[.pointer (some ⟨gm, 0, none⟩), .agg (evE op n0 n1 n2 n3 n4 n5 n6 n7 (.slice none 0 0))] w fun e w' => e = unitR /\ Keep S w w' /\ ∃ cm1, w'.heap[gm]? = some (.cells cm1 82) /\ R cm1 w') (hS : ∀ k ∈ S, k < W.heap.size) (hgm : gm < W.heap.size) :
 Calls Tryz.prog 7 #[.pointer (some ⟨gm, 0, none⟩), .agg (evE op n0 n1 n2 n3 n4 n5 n6 n7 (.slice none 0 0))] W fun e w' => e = .returned (.int .i64 0) /\ ∃ w1 cm1, Keep S W w1 /\ w1.heap[gm]? = some (.cells cm1 82) /\ R cm1 w1 /\ Turn w1 gm (.cells (splice cm1 6 #[.int .i64 (seq + 1)]) 82) w' := by
 have H1 := Hd (((HasO.start [] W).new (g := W.heap.size) rfl (.cells (evE op n0 n1 n2 n3 n4 n5 n6 n7 (.slice none 0 0)) 34)).new (g := W.heap.size + 1) (by simp) (.cells evZ 34))
 have HS := Hd hS
 have HG := Hd hgm
 have CP := Hd hnext
 have CS := Hd hsame
 have CH := Hd hhap
 have HRR := Hd hR
 obtain ⟨ho1, ho2⟩ := hop
 obtain ⟨hs1, hs2⟩ := hseq
 have o2 : decide (13 <= op) = true := by simp; omega
 clear hnext hsame hhap hR hS hgm
 rw [evE]
 go_enter Tryz.func7, Tryz.ntmps7
 go_wp2_with fail
 refine (CP.o _ H1.o.below).mono ?_
 rintro e w2 ⟨rfl, hb2⟩
 have H2 := Hd (H1.o.step hb2)
 clear hb2 H1 CP
 go_wp2_with (first
  | (refine wpList_turn rfl 34 (.tmp 5) (.tmp 16) rfl (W.heap.size + 1) 0 (.agg (evE op n0 n1 n2 n3 n4 n5 n6 n7 (.slice none 0 0))) rfl rfl 34 evZ (evE op n0 n1 n2 n3 n4 n5 n6 n7 (.slice none 0 0)) (H2.o.get 0 rfl) (by kernel_rfl) (by simp [Value.cells, prodE, prodZ, evE, nsE, evZ]) (by simp [Value.cells, Value.oneCell', prodE, prodZ, evE, nsE, evZ]) rfl ?_; intro W3 HT3
     have H3 := Hd (H2.o.turn 0 rfl HT3 (.inr (by omega)) (by simp))
     clear H2 HT3)
  | (refine wpListG_row rfl 34 (.tmp 3) rfl W.heap.size rfl 34 (evE op n0 n1 n2 n3 n4 n5 n6 n7 (.slice none 0 0)) _ (H3.o.get 1 rfl) Tryz.underlying34 rfl (by kernel_rfl) ?_)
  | (refine wpListG_row rfl 34 (.tmp 5) rfl (W.heap.size + 1) rfl 34 (evE op n0 n1 n2 n3 n4 n5 n6 n7 (.slice none 0 0)) _ (H3.o.get 0 rfl) Tryz.underlying34 rfl (by kernel_rfl) ?_))
 refine (CS.o _ H3.o.below).mono ?_
 rintro e w4 ⟨rfl, hb4⟩
 have H4 := Hd (H3.o.step hb4)
 clear hb4 H3 CS
 go_wp2_with (refine wpListG_row rfl 34 (.tmp 5) rfl (W.heap.size + 1) rfl 34 (evE op n0 n1 n2 n3 n4 n5 n6 n7 (.slice none 0 0)) _ (H4.o.get 0 rfl) Tryz.underlying34 rfl (by kernel_rfl) ?_)
 refine (CH.o _ H4.o.below).mono ?_
 rintro e w5 ⟨rfl, hk5, cm1, hm5, hr5⟩
 have H6 := Hd (HRR.o _ _ hr5).1
 have HSZ := Hd (HRR.o _ _ hr5).2
 have hz5 := H4.o.size
 have hE5 : w5.heap[W.heap.size]? = some (.cells (evE op n0 n1 n2 n3 n4 n5 n6 n7 (.slice none 0 0)) 34) := (hk5.block _ (obj_lt (H4.o.obj 1 rfl)) (fun hm => by have := HS.o _ hm; omega)).trans (H4.o.obj 1 rfl)
 have HK5 := Hd (H4.o.1.mono (T := S) (by simp) |>.trans hk5 (fun k hk => .inl hk))
 have HE5 := Hd hE5
 have HM5 := Hd hm5
 have HR5 := Hd hr5
 clear hk5 hm5 hr5 hz5 hE5 H4 CH
 have c6 : w5.cell? ⟨gm, 6, none⟩ = some (.int .i64 seq) := by rw [Blk.cell (t := 82) (cs := cm1) HM5.o 6]; exact H6.o
 unfold unitR
 go_wp2_with (refine wpList_turn rfl 2 (.tmp 49) (.tmp 47) rfl gm 6 (.int .i64 (seq + 1)) rfl rfl 82 cm1 (splice cm1 6 #[.int .i64 (seq + 1)]) HM5.o (by kernel_rfl) (by rw [HSZ.o]; simp [Value.cells]) (by simp [Value.cells, Value.oneCell']) rfl ?_
              intro W6 HT6
              clear c6
              have c1 : W6.cell? ⟨W.heap.size, 1, none⟩ = some (.int .u64 0) := by rw [Blk.cell (t := 34) (cs := (evE op n0 n1 n2 n3 n4 n5 n6 n7 (.slice none 0 0))) ((HT6.far _ (by have := HG.o; omega)).trans HE5.o) 1]; rfl)
 exact bodyPost_ret (results_one rfl _ _ rfl) rfl ⟨rfl, w5, cm1, HK5.o, HM5.o, HR5.o, HT6⟩
end Mo
namespace Mo
open Go.RowKit Go.Deep Wide Dec Mp Pr Ch
theorem wpList_copyT {P : Program} {w : World} {ops : Array Oper} {rest : List Oper} {o : Oper} {a : Act} {Q : Exit -> Act -> World -> Prop} (hgd : o.guard = none) (d s : Operand) (dT sT : TypeId)
 (ho : o.op = .call { callee := .builtin .copy, args := #[d, s], argTypes := #[dT, sT] }) (elem : TypeId) (hu : P.underlying dT = some (.slice elem)) (hsz : (P.info? elem).map (·.size) = some 1)
 (g off dLen dCap : Nat) (ad : Addr) (sLen sCap : Nat) (hd : a.eval d = .slice (some ⟨g, off, none⟩) dLen dCap) (hs : a.eval s = .slice (some ad) sLen sCap)
 (cur : Array Value) (t : TypeId) (hg : w.heap[g]? = some (.cells cur t)) (cs : List Value) (hn : cs.length = Nat.min sLen dLen)
 (hsrc : ∀ j v, cs[j]? = some v -> w.cell? (ad.add j) = some v) (hfit : off + cs.length <= cur.size) (h1 : ∀ v ∈ cs, v.oneCell' = true) (new : Array Value) (hnew : (cur.toList.take off ++ (cs ++ cur.toList.drop (off + cs.length))).toArray = new)
 (h : ∀ W2, Turn w g (.cells new t) W2 -> wpList P ops Q rest (a.put o.dst (goInt cs.length)) W2) : wpList P ops Q (o :: rest) a w :=
 wpList_copy_own hgd d s dT sT ho elem hu hsz g off dLen dCap ad sLen sCap hd hs cur t hg cs hn hsrc hfit h1 (h _ (hnew ▸ turn_setRow hg))
theorem of1_ok (op n : Int) (g : Nat) (W : World) (hg : W.heap[g]? = some (.cells #[.int .i64 n] 2)) : Calls Tryz.prog 39 #[.int .u8 op, .slice (some ⟨g, 0, none⟩) 1 1] W fun e w' => e = .returned (.agg (evE op n 0 0 0 0 0 0 0 (.slice none 0 0))) /\ Below W.heap.size W w' := by
 have H1 := Hd (((HasO.cons hg (HasO.start [] W)).new (g := W.heap.size) rfl (.cells evZ 34)).new (g := W.heap.size + 1) (by simp) (.cells (evE op 0 0 0 0 0 0 0 0 (.slice none 0 0)) 34))
 have HG := Hd (obj_lt hg)
 go_enter Tryz.func39, Tryz.ntmps39
 go_wp2_with (first
  | (refine wpList_copyT rfl (.tmp 9) (.tmp 10) 95 95 rfl 2 Tryz.underlying95 (by kernel_rfl) (W.heap.size + 1) 2 8 8 ⟨g, 0, none⟩ 1 1 rfl rfl (evE op 0 0 0 0 0 0 0 0 (.slice none 0 0)) 34 (H1.o.obj 0 rfl) [.int .i64 n] rfl (fun j v hj => by rw [Addr.add_lit]; exact ((H1.o.get 2 rfl).cell (0 + j)).trans (by simpa using hj)) (by simp [evE]) (by intro v hv; simp only [List.mem_cons, List.not_mem_nil, or_false] at hv; subst hv; rfl) (evE op n 0 0 0 0 0 0 0 (.slice none 0 0)) rfl ?_
     intro W2 HT2
     have H2 := Hd (H1.o.turn 0 rfl HT2 (.inr (by omega)) (by have := HG.o; simp; omega))
     clear H1)
  | (refine wpListG_row rfl 34 (.tmp 5) rfl (W.heap.size + 1) rfl 34 (evE op n 0 0 0 0 0 0 0 (.slice none 0 0)) _ (H2.o.get 0 rfl) Tryz.underlying34 rfl (by kernel_rfl) ?_)
  | (refine wpList_turn rfl 34 (.tmp 4) (.tmp 12) rfl W.heap.size 0 (.agg (evE op n 0 0 0 0 0 0 0 (.slice none 0 0))) rfl rfl 34 evZ (evE op n 0 0 0 0 0 0 0 (.slice none 0 0)) (H2.o.get 1 rfl) (by kernel_rfl) (by simp [Value.cells, prodE, prodZ, evE, nsE, evZ]) (by simp [Value.cells, Value.oneCell', prodE, prodZ, evE, nsE, evZ]) rfl ?_; intro W3 HT3))
 have hk := H2.o.1.trans HT3.keep (by simp)
 exact bodyPost_ret (results_cell_row rfl _ _ W.heap.size 34 (evE op n 0 0 0 0 0 0 0 (.slice none 0 0)) (0, 0) _ rfl HT3.at_ Tryz.underlying34 rfl (by kernel_rfl)) rfl ⟨rfl, hk.below⟩
theorem of3_ok (op x y z : Int) (g : Nat) (W : World) (hg : W.heap[g]? = some (.cells #[.int .i64 x, .int .i64 y, .int .i64 z] 2)) : Calls Tryz.prog 39 #[.int .u8 op, .slice (some ⟨g, 0, none⟩) 3 3] W fun e w' => e = .returned (.agg (evE op x y z 0 0 0 0 0 (.slice none 0 0))) /\ Below W.heap.size W w' := by
 have H1 := Hd (((HasO.cons hg (HasO.start [] W)).new (g := W.heap.size) rfl (.cells evZ 34)).new (g := W.heap.size + 1) (by simp) (.cells (evE op 0 0 0 0 0 0 0 0 (.slice none 0 0)) 34))
 have HG := Hd (obj_lt hg)
 go_enter Tryz.func39, Tryz.ntmps39
 go_wp2_with (first
  | (refine wpList_copyT rfl (.tmp 9) (.tmp 10) 95 95 rfl 2 Tryz.underlying95 (by kernel_rfl) (W.heap.size + 1) 2 8 8 ⟨g, 0, none⟩ 3 3 rfl rfl (evE op 0 0 0 0 0 0 0 0 (.slice none 0 0)) 34 (H1.o.obj 0 rfl) [.int .i64 x, .int .i64 y, .int .i64 z] rfl (fun j v hj => by rw [Addr.add_lit]; exact ((H1.o.get 2 rfl).cell (0 + j)).trans (by simpa using hj)) (by simp [evE]) (by intro v hv; simp only [List.mem_cons, List.not_mem_nil, or_false] at hv; rcases hv with rfl | rfl | rfl <;> rfl) (evE op x y z 0 0 0 0 0 (.slice none 0 0)) rfl ?_
     intro W2 HT2
     have H2 := Hd (H1.o.turn 0 rfl HT2 (.inr (by omega)) (by have := HG.o; simp; omega))
     clear H1)
  | (refine wpListG_row rfl 34 (.tmp 5) rfl (W.heap.size + 1) rfl 34 (evE op x y z 0 0 0 0 0 (.slice none 0 0)) _ (H2.o.get 0 rfl) Tryz.underlying34 rfl (by kernel_rfl) ?_)
  | (refine wpList_turn rfl 34 (.tmp 4) (.tmp 12) rfl W.heap.size 0 (.agg (evE op x y z 0 0 0 0 0 (.slice none 0 0))) rfl rfl 34 evZ (evE op x y z 0 0 0 0 0 (.slice none 0 0)) (H2.o.get 1 rfl) (by kernel_rfl) (by simp [Value.cells, prodE, prodZ, evE, nsE, evZ]) (by simp [Value.cells, Value.oneCell', prodE, prodZ, evE, nsE, evZ]) rfl ?_; intro W3 HT3))
 have hk := H2.o.1.trans HT3.keep (by simp)
 exact bodyPost_ret (results_cell_row rfl _ _ W.heap.size 34 (evE op x y z 0 0 0 0 0 (.slice none 0 0)) (0, 0) _ rfl HT3.at_ Tryz.underlying34 rfl (by kernel_rfl)) rfl ⟨rfl, hk.below⟩
theorem line_ok (k n : Int) (hn : -9223372036854775808 <= n /\ n <= 9223372036854775807) (W : World) : Calls Tryz.prog 121 #[.int .i64 k, .int .i64 0, .int .i64 n] W fun e w' => e = .returned (.agg (lineE k 0 n 0)) /\ Below W.heap.size W w' := by
 obtain ⟨n1, n2⟩ := hn
 go_enter Tryz.func121, Tryz.ntmps121
 go_wp2_with fail
 have e1 : n / 9223372036854775808 = n / 18446744073709551616 := by omega
 have e2 : IntKind.u64.wrap n = n % 18446744073709551616 := by simp only [IntKind.wrap_u64]
 refine bodyPost_ret (results_cell_row rfl _ _ W.heap.size 58 (lineE k 0 n 0) (0, 0) _ rfl ?_ Tryz.underlying58 rfl (by kernel_rfl)) rfl ⟨rfl, Below.al (Below.refl _ _) _⟩
 rw [e1, e2]
 exact Blk.new _ _ _
def mvF (f : Int -> Int) (p q n : Int) : Int -> Int := addF (addF f p n) q (-n)
theorem mvF_zero (f : Int -> Int) (p q : Int) : mvF f p q 0 = f := by
 funext y
 unfold mvF addF
 split
 . rename_i h; subst h; split
   . rename_i h; subst h; omega
   . omega
 . split
   . rename_i h; subst h; omega
   . rfl
theorem moves_ok (gm gc ba br bk gl : Nat) (day seq p q n : Int) (run : Bool) (st : Value) (hp : 1 <= p /\ p <= 8) (hq : 1 <= q /\ q <= 8) (hn : -9223372036854775807 <= n /\ n <= 9223372036854775807) (W : World) (hm : W.heap[gm]? = some (.cells (modE day gc ba br bk gl seq run st) 82)) (f : Int -> Int) (hf : FB 10000000000000000000000 f) (hl : Led f gl W) :
 Calls Tryz.prog 71 #[.pointer (some ⟨gm, 0, none⟩), .int .i64 p, .int .i64 q, .int .i64 0, .int .i64 n] W fun e w' => e = unitR /\ Keep [gl] W w' /\ Led (mvF f p q n) gl w' := by
 have CP := Hd (fun w => line_ok p n (by omega) w)
 have CQ := Hd (fun w => line_ok q (-n) (by omega) w)
 have CB := Hd (fun ge cap w hb hE => post_ok (p, n) (q, -n) ⟨hp, by show -10000000000000000000 <= n; omega, by show n <= 10000000000000000000; omega⟩ ⟨hq, by show -10000000000000000000 <= -n; omega, by show -n <= 10000000000000000000; omega⟩ (by show n + -n = 0; omega) f hf gl ge cap w hE (hl.step hb))
 obtain ⟨n1, n2⟩ := hn
 have HL := Hd hl
 have HM := Hd hm
 have H1 := Hd (HasO.cons hm (HasO.start [] W))
 clear hl hm hp hq
 by_cases hz : n = 0
 . subst hz
   clear CP CQ CB n1 n2
   go_enter Tryz.func71, Tryz.ntmps71
   go_wp2_with fail
   go_end0
   rw [mvF_zero]
   exact ⟨rfl, Keep.refl _ _, HL.o⟩
 . have hz' : (n == 0) = false := beq_eq_false_iff_ne.2 hz
   have hz2 : (n != 0) = true := by simpa using hz
   have e1 : IntKind.i64.wrap (-n) = -n := IntWalk.i64_in _ (by omega)
   go_enter Tryz.func71, Tryz.ntmps71
   go_wp2_with fail
   refine wp_region_regF (fun w' => HasO [] W [(gm, .cells (modE day gc ba br bk gl seq run st) 82)] w') (fun w' => HasO [gl] W [(gm, .cells (modE day gc ba br bk gl seq run st) 82)] w') (fun _ => (0, #[])) [0, 1, 2, 3, 4, 5, 6, 7, 8, 9, 10, 11, 12] [] [13, 14] [0, 1, 2, 3] (by kernel_rfl) (by kernel_rfl) ?_ (fun w w' h hb => h.step hb) ?_ (fun k hk => by cases hk) ?_
   . exact fun w h => ⟨h.1.mono (by simp), h.2⟩
   . exact H1.o.drew
   simp only [List.map_cons, List.map_nil, opAt, List.getElem?_cons_succ, List.getElem?_cons_zero, Option.getD_some, List.contains_cons, List.contains_nil, Nat.reduceBEq, Bool.or_false, Bool.or_true, Bool.true_or, Bool.false_or]
   repeat (refine wpX_float rfl ?_; go_big_quiet_step ((intro _; rfl)); refine wpQuiet_nil ?_)
   refine wpX_float rfl ?_
   refine wpQuiet_cell 78 (.tmp 14) rfl rfl ⟨gm, 5, none⟩ rfl (.pointer (some ⟨gl, 0, none⟩)) _ (fun w hw => (hw.get 0 rfl).cell 5) Tryz.underlying78 rfl (fun K1 k1 => ?_)
   go_simp
   refine k1 _ ?_
   clear k1 K1
   refine wpQuiet_nil ?_
   repeat (refine wpX_pure rfl ?_; go_big_quiet_step ((intro _; rfl)); refine wpQuiet_nil ?_)
   refine wpX_call (.agg (lineE p 0 n 0)) 121 #[.int .i64 p, .int .i64 0, .int .i64 n] rfl (fun w => by go_simp) (fun w hw => CP.o _) (fun K1 k1 => ?_)
   go_simp
   refine k1 _ ?_
   clear k1 K1
   repeat (refine wpX_pure rfl ?_; go_big_quiet_step ((intro _; rfl)); refine wpQuiet_nil ?_)
   refine wpX_call (.agg (lineE q 0 (-n) 0)) 121 #[.int .i64 q, .int .i64 0, .int .i64 (-n)] rfl (fun w => by go_simp) (fun w hw => CQ.o _) (fun K1 k1 => ?_)
   go_simp
   refine k1 _ ?_
   clear k1 K1
   refine wpX_nil ?_
   intro gs w5 H5
   intro hmade
   simp only [putAll, wpTail, opAt, List.getElem?_cons_succ, List.getElem?_cons_zero, Option.getD_some, Act.put]
   have H5 := Hd H5
   clear hmade H1
   have HLP := Hd (show lineE p 0 n 0 = #[.int .i64 p, .int .i64 0, .int .i64 (n / 18446744073709551616), .int .u64 (n % 18446744073709551616), .int .i64 0] from rfl)
   have HLQ := Hd (show lineE q 0 (-n) 0 = #[.int .i64 q, .int .i64 0, .int .i64 (-n / 18446744073709551616), .int .u64 (-n % 18446744073709551616), .int .i64 0] from rfl)
   rw [HLP.o, HLQ.o]
   obtain ⟨a1, ha1⟩ : ∃ a1, a1 = n / 18446744073709551616 := ⟨_, rfl⟩
   obtain ⟨a2, ha2⟩ : ∃ a2, a2 = n % 18446744073709551616 := ⟨_, rfl⟩
   obtain ⟨b1, hb1⟩ : ∃ b1, b1 = -n / 18446744073709551616 := ⟨_, rfl⟩
   obtain ⟨b2, hb2⟩ : ∃ b2, b2 = -n % 18446744073709551616 := ⟨_, rfl⟩
   rw [<- ha1, <- ha2, <- hb1, <- hb2]
   have HAB : Hi (entE (p, n) (q, -n) = #[.int .i64 p, .int .i64 0, .int .i64 a1, .int .u64 a2, .int .i64 0, .int .i64 q, .int .i64 0, .int .i64 b1, .int .u64 b2, .int .i64 0]) := Hd (by rw [ha1, ha2, hb1, hb2]; rfl)
   clear ha1 ha2 hb1 hb2 HLP HLQ
   go_wp2_with fail
   have H6 : Hi (HasO [] W ((w5.heap.size, .cells (entE (p, n) (q, -n)) 58) :: [(gm, .cells (modE day gc ba br bk gl seq run st) 82)]) _) := Hd (H5.o.new rfl _)
   rw [HAB.o] at H6
   refine ⟨⟨H6.o.1.mono (by simp), H6.o.tail.2⟩, ?_⟩
   go_wp2_with fail
   refine (CB.o w5.heap.size 2 _ H6.o.below (by rw [HAB.o]; exact H6.o.obj 0 rfl)).mono ?_
   rintro e w7 ⟨rfl, hk7, hl7⟩
   have hne : gm ≠ gl := fun e => by
    have h1 := HM.o
    obtain ⟨b, cl, L, k, h2, _⟩ := HL.o
    rw [e, h2] at h1; cases h1
   have H7 : Hi (HasO [gl] W [(gm, .cells (modE day gc ba br bk gl seq run st) 82)] w7) := Hd (by
    have h6 := H6.o.tail
    refine ⟨(h6.1.mono (T := [gl]) (by simp)).trans hk7 (by simp), fun f hf => ?_⟩
    simp only [List.mem_singleton] at hf
    subst hf
    exact (hk7.block gm (obj_lt (h6.obj 0 rfl)) (by simpa using hne)).trans (h6.obj 0 rfl))
   have HL7 := Hd hl7
   clear hk7 hl7 hne H6
   go_wp2_with fail
   refine ⟨H7.o, ?_⟩
   go_wp2_with fail
   go_end0
   exact ⟨rfl, H7.o.1, HL7.o⟩
end Mo
end Go.Proofs.YtkdnebalpdebeaaGreatDoor
