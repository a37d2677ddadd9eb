import Derived.Test.YtkcfeaonkgpbdaaEvL
/-! Same, three times: slices.Equal of tiers, event.Same, the document's Same; a list with marked room -/
namespace Go.Proofs.Ytkcfeaonkgpbdaa.Event
open Go.RowKit Go.Deep Go.Proofs.Ytkcfeaonkgpbdaa Go.Proofs.Ytkcfeaonkgpbdaa.Pack
set_option linter.unusedVariables false
set_option linter.unusedSimpArgs false
set_option maxRecDepth 100000 in
set_option maxHeartbeats 4000000 in
theorem eqtiers_ok (B : Nat) (P S : Option Addr) (c d : Nat) (xs ys : List Int) (w : World) (hx : RI w B .i64 P xs) (hy : RI w B .i64 S ys) (ex : xs.length % 2 = 0) (ey : ys.length % 2 = 0) (hl : xs.length ≤ 281474976710656) (hl' : ys.length ≤ 281474976710656)
    (ix : I64 xs) (iy : I64 ys) :
    Calls Try.prog 31 #[.slice P (xs.length / 2) c, .slice S (ys.length / 2) d] w fun e w' => e = .returned (.bool (decide (xs = ys))) ∧ Drew w w' := by
  have HX := Lib.hid hx
  have HY := Lib.hid hy
  have HIX := Lib.hid ix
  have HIY := Lib.hid iy
  obtain ⟨n, hn⟩ : ∃ n, n = xs.length / 2 := ⟨_, rfl⟩
  obtain ⟨m, hm⟩ : ∃ m, m = ys.length / 2 := ⟨_, rfl⟩
  rw [← hn, ← hm]
  have hn2 : xs.length = 2 * n := by omega
  have hm2 : ys.length = 2 * m := by omega
  have hnl : n ≤ 140737488355328 := by omega
  have hml : m ≤ 140737488355328 := by omega
  have HN := Lib.hid hn2
  have HM := Lib.hid hm2
  clear hx hy ix iy hn hm hn2 hm2 ex ey hl hl'
  go_enter Try.func31, Try.ntmps31
  by_cases hnm : n = m
  · subst hnm
    have hne : ((n : Int) != n) = false := by simp
    go_wp2_with fail
    go_loopw [13] (fun v wr => ∃ j : Nat, j ≤ n ∧ v = .int .i64 j ∧ Hid (∀ i, i < 2 * j → rd xs i = rd ys i) ∧ ∃ q, wr = w.drewN q) (fun v _ => n - (intOf v).toNat)
    case atStart => exact ⟨0, by omega, rfl, Lib.hid (fun i hi => by omega), 0, rfl⟩
    case round =>
      obtain ⟨j, hj, rfl, hz, q, rfl⟩ := hrel
      by_cases hjn : j < n
      · have hjn' : (j : Int) < n := by omega
        have hd := decide_eq_true hjn'
        obtain ⟨ad, hA, hb1, _, _⟩ := tier_cells (j := j) (HX.out.drewN q) (by have := HN.out; omega)
        obtain ⟨bd', hB, hb2, _, _⟩ := tier_cells (j := j) (HY.out.drewN q) (by have := HM.out; omega)
        subst hA
        subst hB
        have hcells : ∀ w' : World, (∃ q', w' = w.drewN q') → (w'.cell? (ad.add (j * 2)) = some (.int .i64 (rd xs (2 * j))) ∧ w'.cell? ⟨(ad.add (j * 2)).block, (ad.add (j * 2)).off + 1, none⟩ = some (.int .i64 (rd xs (2 * j + 1)))) ∧
            (w'.cell? (bd'.add (j * 2)) = some (.int .i64 (rd ys (2 * j))) ∧ w'.cell? ⟨(bd'.add (j * 2)).block, (bd'.add (j * 2)).off + 1, none⟩ = some (.int .i64 (rd ys (2 * j + 1)))) := by
          rintro w' ⟨q', rfl⟩
          obtain ⟨ad2, h1, _, c1, c2⟩ := tier_cells (j := j) (HX.out.drewN q') (by have := HN.out; omega)
          obtain ⟨bd2, h2, _, d1, d2⟩ := tier_cells (j := j) (HY.out.drewN q') (by have := HM.out; omega)
          obtain rfl := Option.some.inj h1
          obtain rfl := Option.some.inj h2
          exact ⟨⟨c1, c2⟩, d1, d2⟩
        have HCE := Lib.hid hcells
        have rx1 := HIX.out.rd (2 * j)
        have rx2 := HIX.out.rd (2 * j + 1)
        have ry1 := HIY.out.rd (2 * j)
        have ry2 := HIY.out.rd (2 * j + 1)
        obtain ⟨x1, hx1⟩ : ∃ x, x = rd xs (2 * j) := ⟨_, rfl⟩
        obtain ⟨x2, hx2⟩ : ∃ x, x = rd xs (2 * j + 1) := ⟨_, rfl⟩
        obtain ⟨y1, hy1⟩ : ∃ x, x = rd ys (2 * j) := ⟨_, rfl⟩
        obtain ⟨y2, hy2⟩ : ∃ x, x = rd ys (2 * j + 1) := ⟨_, rfl⟩
        rw [← hx1] at rx1
        rw [← hx2] at rx2
        rw [← hy1] at ry1
        rw [← hy2] at ry2
        rw [← hx1, ← hx2, ← hy1, ← hy2] at HCE
        have heq := fun w' => eqT x1 x2 y1 y2 rx1 rx2 ry1 ry2 w'
        have H1 := Lib.hid (And.intro (And.intro hx1 hx2) (And.intro hy1 hy2))
        clear hcells hb1 hb2 rx1 rx2 ry1 ry2 hx1 hx2 hy1 hy2
        go_upto_region 6 with fail
        by_cases hxy : x1 = y1 ∧ x2 = y2
        · rw [decide_eq_true hxy] at heq
          obtain ⟨rfl, rfl⟩ := hxy
          refine wp_region_tree (C := fun w' => ∃ q', w' = w.drewN q') (.seg [0, 1, 2, 3, 4, 5, 6, 7, 8] .nil) (by kernel_rfl) (by kernel_rfl) ⟨_, (World.drew_drewN (w := w) (n := q))⟩ ?_
          simp only [wpPlan, List.map_cons, List.map_nil, opAt, List.getElem?_cons_succ, List.getElem?_cons_zero, Option.getD_some]
          repeat (go_big_quiet_step (fail))
          refine wpQuiet_got (.agg #[.int .i64 x1, .int .i64 x2]) (by rfl) (fun w' hw' => ?_) (fun K hK => ?_)
          · have hl2 := (HCE.out w' hw').1.1
            have hl3 := (HCE.out w' hw').1.2
            go_simp
          go_simp
          refine hK _ ?_
          clear hK K
          repeat (go_big_quiet_step (fail))
          refine wpQuiet_got (.agg #[.int .i64 x1, .int .i64 x2]) (by rfl) (fun w' hw' => ?_) (fun K hK => ?_)
          · have hl2 := (HCE.out w' hw').2.1
            have hl3 := (HCE.out w' hw').2.2
            go_simp
          go_simp
          refine hK _ ?_
          clear hK K
          repeat (go_big_quiet_step (fail))
          refine wpQuiet_nil ?_
          go_wp2
          go_roundw
          case rel =>
            refine ⟨j + 1, by omega, by go_num, Lib.hid (fun i hi => ?_), _, rfl⟩
            have hH := H1.out
            rcases (by omega : i < 2 * j ∨ i = 2 * j ∨ i = 2 * j + 1) with h | h | h
            · exact hz.out i h
            · rw [h, ← hH.1.1, ← hH.2.1]
            · rw [h, ← hH.1.2, ← hH.2.2]
          case measure => simp [intOf]; omega
        · rw [decide_eq_false hxy] at heq
          refine wp_region_tree (C := fun w' => ∃ q', w' = w.drewN q') (.seg [0, 1, 2, 3, 4, 5, 6, 7, 8] .nil) (by kernel_rfl) (by kernel_rfl) ⟨_, (World.drew_drewN (w := w) (n := q))⟩ ?_
          simp only [wpPlan, List.map_cons, List.map_nil, opAt, List.getElem?_cons_succ, List.getElem?_cons_zero, Option.getD_some]
          repeat (go_big_quiet_step (fail))
          refine wpQuiet_got (.agg #[.int .i64 x1, .int .i64 x2]) (by rfl) (fun w' hw' => ?_) (fun K hK => ?_)
          · have hl2 := (HCE.out w' hw').1.1
            have hl3 := (HCE.out w' hw').1.2
            go_simp
          go_simp
          refine hK _ ?_
          clear hK K
          repeat (go_big_quiet_step (fail))
          refine wpQuiet_got (.agg #[.int .i64 y1, .int .i64 y2]) (by rfl) (fun w' hw' => ?_) (fun K hK => ?_)
          · have hl2 := (HCE.out w' hw').2.1
            have hl3 := (HCE.out w' hw').2.2
            go_simp
          go_simp
          refine hK _ ?_
          clear hK K
          repeat (go_big_quiet_step (fail))
          refine wpQuiet_nil ?_
          go_wp2
          go_ret
          have : xs ≠ ys := fun h => hxy (by have hH := H1.out; rw [hH.1.1, hH.1.2, hH.2.1, hH.2.2, h]; exact ⟨rfl, rfl⟩)
          exact ⟨by rw [decide_eq_false this]; rfl, ⟨⟨q + 1, World.drew_drewN _ _⟩⟩⟩
      · have hjn' : ¬ (j : Int) < n := by omega
        have hd := decide_eq_false hjn'
        go_wp2
        go_ret
        have : xs = ys := decide_lists (by rw [HN.out, HM.out]) (fun i hi => hz.out i (by have := HN.out; omega))
        exact ⟨by rw [decide_eq_true this]; rfl, ⟨⟨q, rfl⟩⟩⟩
  · have hne : ((n : Int) != m) = true := by simp; omega
    go_wp2
    go_ret
    have : xs ≠ ys := fun h => hnm (by have h1 := HN.out; have h2 := HM.out; rw [h] at h1; omega)
    exact ⟨by rw [decide_eq_false this]; rfl, Drew.refl w⟩
theorem blk_at {w : World} {g : Nat} {t : TypeId} {cs : Array Value} (h : g = w.heap.size) : Blk (w.alloc (.cells cs t)) g t cs := by subst h; exact Blk.new w t cs
noncomputable def sameB (e f : Ev) : Bool := @decide (e = f) (Classical.propDecidable _)
theorem sameB_yes {e f : Ev} (h : e = f) : sameB e f = true := by unfold sameB; simpa using h
theorem sameB_no {e f : Ev} (h : e ≠ f) : sameB e f = false := by unfold sameB; simpa using h
theorem ev_ext {e f : Ev} (h1 : e.op = f.op) (h2 : e.key = f.key) (h3 : e.ns = f.ns) (h4 : e.ts = f.ts) : e = f := by
  cases e; cases f; simp only at h1 h2 h3 h4; subst h1 h2 h3 h4; rfl
theorem nums8 {ns : List Int} (h : ns.length = 8) : (nums .i64 ns).toArray = #[.int .i64 (rd ns 0), .int .i64 (rd ns 1), .int .i64 (rd ns 2), .int .i64 (rd ns 3), .int .i64 (rd ns 4), .int .i64 (rd ns 5), .int .i64 (rd ns 6), .int .i64 (rd ns 7)] := by
  match ns, h with
  | [a, b, c, d, e, f, g, i], _ => rfl
theorem eq8' (xs ys : List Int) (h : xs.length = 8) (h' : ys.length = 8) (hb : I64 xs) (hb' : I64 ys) (w : World) :
    (Op.equalIn 10000 23 (.agg #[.int .i64 (rd xs 0), .int .i64 (rd xs 1), .int .i64 (rd xs 2), .int .i64 (rd xs 3), .int .i64 (rd xs 4), .int .i64 (rd xs 5), .int .i64 (rd xs 6), .int .i64 (rd xs 7)])
      (.agg #[.int .i64 (rd ys 0), .int .i64 (rd ys 1), .int .i64 (rd ys 2), .int .i64 (rd ys 3), .int .i64 (rd ys 4), .int .i64 (rd ys 5), .int .i64 (rd ys 6), .int .i64 (rd ys 7)])).run Try.prog w = .ok (decide (xs = ys)) w := by
  have := eq8 xs ys h h' hb hb' w
  rw [nums8 h, nums8 h'] at this
  exact this
set_option maxRecDepth 100000 in
set_option maxHeartbeats 4000000 in
theorem same_ok (e f : Ev) (A A' : Option Addr) (c c' : Nat) (w : World) (he : e.ok) (hf : f.ok) (hA : RI w w.heap.size .i64 A e.ts) (hA' : RI w w.heap.size .i64 A' f.ts) (hl : e.ts.length ≤ 281474976710656) (hl' : f.ts.length ≤ 281474976710656) :
    Calls Try.prog 21 #[.agg (row e A c), .agg (row f A' c')] w fun x w' => x = .returned (.bool (sameB e f)) ∧ Below w.heap.size w w' := by
  have heq := fun w' => eq8' e.ns f.ns he.len hf.len he.ns hf.ns w'
  have hts := fun w' hx hy => eqtiers_ok w.heap.size A A' c c' e.ts f.ts w' hx hy he.even hf.even hl hl' he.ts hf.ts
  have H1 := row_row e A c
  have H2 := row_row f A' c'
  obtain ⟨R1, hR1⟩ : ∃ R, R = row e A c := ⟨_, rfl⟩
  obtain ⟨R2, hR2⟩ : ∃ R, R = row f A' c' := ⟨_, rfl⟩
  rw [← hR1] at H1 ⊢
  rw [← hR2] at H2 ⊢
  have HR1 := Lib.hid H1
  have HR2 := Lib.hid H2
  have HTS := Lib.hid hts
  have HRA := Lib.hid hA
  have HRA' := Lib.hid hA'
  clear hR1 hR2 H1 H2 hts hA hA' hl hl'
  go_enter Try.func21, Try.ntmps21
  have hB1 := (Blk.new w 26 R1).alloc (.cells R2 26)
  have hB2 : Blk ((w.alloc (.cells R1 26)).alloc (.cells R2 26)) (w.heap.size + 1) 26 R2 := blk_at (by simp)
  have d0 : Below w.heap.size w ((w.alloc (.cells R1 26)).alloc (.cells R2 26)) := ((Below.refl _ _).alloc (Nat.le_refl _) _).alloc (by simp) _
  obtain ⟨W, hW⟩ : ∃ W, W = ((w.alloc (.cells R1 26)).alloc (.cells R2 26)) := ⟨_, rfl⟩
  have HD := Lib.hid d0
  go_upto_region 1 with fail
  rw [← hW] at hB1 hB2 HD ⊢
  have a0 := (hB1.cell 0).trans HR1.out.op
  have a1 := (hB1.cell 1).trans HR1.out.key
  have a2 := (hB1.cell 2).trans (HR1.out.n 0 (by omega))
  have a3 := (hB1.cell 3).trans (HR1.out.n 1 (by omega))
  have a4 := (hB1.cell 4).trans (HR1.out.n 2 (by omega))
  have a5 := (hB1.cell 5).trans (HR1.out.n 3 (by omega))
  have a6 := (hB1.cell 6).trans (HR1.out.n 4 (by omega))
  have a7 := (hB1.cell 7).trans (HR1.out.n 5 (by omega))
  have a8 := (hB1.cell 8).trans (HR1.out.n 6 (by omega))
  have a9 := (hB1.cell 9).trans (HR1.out.n 7 (by omega))
  have a10 := (hB1.cell 10).trans HR1.out.ts
  have b0 := (hB2.cell 0).trans HR2.out.op
  have b1 := (hB2.cell 1).trans HR2.out.key
  have b2 := (hB2.cell 2).trans (HR2.out.n 0 (by omega))
  have b3 := (hB2.cell 3).trans (HR2.out.n 1 (by omega))
  have b4 := (hB2.cell 4).trans (HR2.out.n 2 (by omega))
  have b5 := (hB2.cell 5).trans (HR2.out.n 3 (by omega))
  have b6 := (hB2.cell 6).trans (HR2.out.n 4 (by omega))
  have b7 := (hB2.cell 7).trans (HR2.out.n 5 (by omega))
  have b8 := (hB2.cell 8).trans (HR2.out.n 6 (by omega))
  have b9 := (hB2.cell 9).trans (HR2.out.n 7 (by omega))
  have b10 := (hB2.cell 10).trans HR2.out.ts
  clear hW hB1 hB2 d0
  by_cases h1 : e.op = f.op
  · have e1 : (e.op == f.op) = true := by simpa using h1
    by_cases h2 : e.key = f.key
    · have e2 : (e.key == f.key) = true := by simpa using h2
      by_cases h3 : e.ns = f.ns
      · rw [decide_eq_true h3] at heq
        have H123 := Lib.hid (And.intro h1 (And.intro h2 h3))
        clear h1 h2 h3
        go_wp2_with fail
        refine (HTS.out _ (HRA.out.below HD.out) (HRA'.out.below HD.out)).mono ?_
        rintro x W2 ⟨rfl, d2⟩
        go_wp2
        go_ret
        refine ⟨?_, HD.out.trans (d2.below _)⟩
        by_cases h4 : e.ts = f.ts
        · rw [decide_eq_true h4, sameB_yes (ev_ext H123.out.1 H123.out.2.1 H123.out.2.2 h4)]; rfl
        · rw [decide_eq_false h4, sameB_no fun h => h4 (by rw [h])]; rfl
      · rw [decide_eq_false h3] at heq
        go_wp2
        go_ret
        exact ⟨by rw [sameB_no fun h => h3 (by rw [h])]; rfl, HD.out⟩
    · have e2 : (e.key == f.key) = false := by simpa using h2
      go_wp2
      go_ret
      exact ⟨by rw [sameB_no fun h => h2 (by rw [h])]; rfl, HD.out⟩
  · have e1 : (e.op == f.op) = false := by simpa using h1
    go_wp2
    go_ret
    exact ⟨by rw [sameB_no fun h => h1 (by rw [h])]; rfl, HD.out⟩
end Go.Proofs.Ytkcfeaonkgpbdaa.Event
