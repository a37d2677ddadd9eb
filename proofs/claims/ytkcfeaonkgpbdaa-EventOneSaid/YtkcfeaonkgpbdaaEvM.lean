import Derived.Test.YtkcfeaonkgpbdaaEvK
/-! the document's Same -/
namespace Go.Proofs.Ytkcfeaonkgpbdaa.Event
open Go.RowKit Go.Deep Go.Proofs.Ytkcfeaonkgpbdaa Go.Proofs.Ytkcfeaonkgpbdaa.Pack
set_option linter.unusedVariables false
set_option linter.unusedSimpArgs false
set_option maxRecDepth 100000 in
set_option maxHeartbeats 4000000 in
theorem refsame_ok (e f : Ev) (A A' : Option Addr) (c c' : Nat) (w : World) (he : e.ok) (hf : f.ok) (hA : RI w w.heap.size .i64 A e.ts) (hA' : RI w w.heap.size .i64 A' f.ts) (hl : e.ts.length ≤ 281474976710656) (hl' : f.ts.length ≤ 281474976710656) :
    Calls Try.prog 16 #[.agg (row e A c), .agg (row f A' c')] w fun x w' => x = .returned (.bool (sameB e f)) ∧ Below w.heap.size w w' := by
  have heq := fun w' => eq8' e.ns f.ns he.len hf.len he.ns hf.ns w'
  have H1 := row_row e A c
  have H2 := row_row f A' c'
  obtain ⟨R1, hR1⟩ : ∃ R, R = row e A c := ⟨_, rfl⟩
  obtain ⟨R2, hR2⟩ : ∃ R, R = row f A' c' := ⟨_, rfl⟩
  rw [← hR1] at H1 ⊢
  rw [← hR2] at H2 ⊢
  have HR1 := Lib.hid H1
  have HR2 := Lib.hid H2
  have HIX := Lib.hid he.ts
  have HIY := Lib.hid hf.ts
  have hev := he.even
  have hev' := hf.even
  have HRA := Lib.hid hA
  have HRA' := Lib.hid hA'
  clear hR1 hR2 H1 H2 hA hA'
  obtain ⟨n, hn⟩ : ∃ n, n = e.ts.length / 2 := ⟨_, rfl⟩
  obtain ⟨m, hm⟩ : ∃ m, m = f.ts.length / 2 := ⟨_, rfl⟩
  have hn2 : e.ts.length = 2 * n := by omega
  have hm2 : f.ts.length = 2 * m := by omega
  have hnl : n ≤ 140737488355328 := by omega
  have hml : m ≤ 140737488355328 := by omega
  have HN := Lib.hid hn2
  have HM := Lib.hid hm2
  have HN' := Lib.hid hn
  have HM' := Lib.hid hm
  clear hn hm hn2 hm2 hl hl' hev hev'
  go_enter Try.func16, Try.ntmps16
  have hB1 := (Blk.new w 26 R1).alloc (.cells R2 26)
  have hB2 : Blk ((w.alloc (.cells R1 26)).alloc (.cells R2 26)) (w.heap.size + 1) 26 R2 := blk_at (by simp)
  have d0 : Below w.heap.size w ((w.alloc (.cells R1 26)).alloc (.cells R2 26)) := ((Below.refl _ _).alloc (Nat.le_refl _) _).alloc (by simp) _
  obtain ⟨W, hW⟩ : ∃ W, W = ((w.alloc (.cells R1 26)).alloc (.cells R2 26)) := ⟨_, rfl⟩
  have HD := Lib.hid d0
  go_upto_region 1 with fail
  rw [← hW] at hB1 hB2 HD ⊢
  have a0 := (hB1.cell 0).trans HR1.out.op
  have a1 := (hB1.cell 1).trans HR1.out.key
  have a2 := (hB1.cell 2).trans (HR1.out.n 0 (by omega))
  have a3 := (hB1.cell 3).trans (HR1.out.n 1 (by omega))
  have a4 := (hB1.cell 4).trans (HR1.out.n 2 (by omega))
  have a5 := (hB1.cell 5).trans (HR1.out.n 3 (by omega))
  have a6 := (hB1.cell 6).trans (HR1.out.n 4 (by omega))
  have a7 := (hB1.cell 7).trans (HR1.out.n 5 (by omega))
  have a8 := (hB1.cell 8).trans (HR1.out.n 6 (by omega))
  have a9 := (hB1.cell 9).trans (HR1.out.n 7 (by omega))
  have a10 := (hB1.cell 10).trans HR1.out.ts
  rw [← HN'.out] at a10
  have b0 := (hB2.cell 0).trans HR2.out.op
  have b1 := (hB2.cell 1).trans HR2.out.key
  have b2 := (hB2.cell 2).trans (HR2.out.n 0 (by omega))
  have b3 := (hB2.cell 3).trans (HR2.out.n 1 (by omega))
  have b4 := (hB2.cell 4).trans (HR2.out.n 2 (by omega))
  have b5 := (hB2.cell 5).trans (HR2.out.n 3 (by omega))
  have b6 := (hB2.cell 6).trans (HR2.out.n 4 (by omega))
  have b7 := (hB2.cell 7).trans (HR2.out.n 5 (by omega))
  have b8 := (hB2.cell 8).trans (HR2.out.n 6 (by omega))
  have b9 := (hB2.cell 9).trans (HR2.out.n 7 (by omega))
  have b10 := (hB2.cell 10).trans HR2.out.ts
  rw [← HM'.out] at b10
  have HB1 := Lib.hid hB1
  have HB2 := Lib.hid hB2
  clear hW hB1 hB2 d0
  by_cases h1 : e.op = f.op
  case neg =>
    have e1 : (e.op != f.op) = true := by simpa using h1
    go_wp2
    go_ret
    exact ⟨by rw [sameB_no fun h => h1 (by rw [h])]; rfl, HD.out⟩
  have e1 : (e.op != f.op) = false := by simpa using h1
  by_cases h2 : e.key = f.key
  case neg =>
    have e2 : (e.key != f.key) = true := by simpa using h2
    go_wp2
    go_ret
    exact ⟨by rw [sameB_no fun h => h2 (by rw [h])]; rfl, HD.out⟩
  have e2 : (e.key != f.key) = false := by simpa using h2
  by_cases h3 : e.ns = f.ns
  case neg =>
    rw [decide_eq_false h3] at heq
    go_wp2
    go_ret
    exact ⟨by rw [sameB_no fun h => h3 (by rw [h])]; rfl, HD.out⟩
  rw [decide_eq_true h3] at heq
  have H123 := Lib.hid (And.intro h1 (And.intro h2 h3))
  clear h1 h2 h3
  by_cases hnm : n = m
  case neg =>
    have hne : ((n : Int) != m) = true := by simp; omega
    go_wp2
    go_ret
    exact ⟨by rw [sameB_no fun h => hnm (by rw [HN'.out, HM'.out, h])]; rfl, HD.out⟩
  subst hnm
  have hne : ((n : Int) != n) = false := by simp
  go_wp2_with fail
  go_loopw [37] (fun v wr => ∃ j : Nat, j ≤ n ∧ v = .int .i64 j ∧ Hid (∀ i, i < 2 * j → rd e.ts i = rd f.ts i) ∧ ∃ q, wr = W.drewN q) (fun v _ => n - (intOf v).toNat)
  case atStart => exact ⟨0, by omega, rfl, Lib.hid (fun i hi => by omega), 0, rfl⟩
  case round =>
    clear a0 a1 a2 a3 a4 a5 a6 a7 a8 a9 a10 b0 b1 b2 b3 b4 b5 b6 b7 b8 b9 b10 heq e1 e2
    obtain ⟨j, hj, rfl, hz, q, rfl⟩ := hrel
    by_cases hjn : j < n
    · have hjn' : (j : Int) < n := by omega
      have hd := decide_eq_true hjn'
      obtain ⟨ad, hA, _, _, _⟩ := tier_cells (j := j) HRA.out (by have := HN.out; omega)
      obtain ⟨bd', hB, _, _, _⟩ := tier_cells (j := j) HRA'.out (by have := HM.out; omega)
      subst hA
      subst hB
      have hcells : ∀ w' : World, (∃ q', w' = W.drewN q') → (w'.cell? ⟨w.heap.size, 10, none⟩ = some (.slice (some ad) n c) ∧ w'.cell? ⟨w.heap.size + 1, 10, none⟩ = some (.slice (some bd') n c')) ∧
          (w'.cell? (ad.add (j * 2)) = some (.int .i64 (rd e.ts (2 * j))) ∧ w'.cell? ⟨(ad.add (j * 2)).block, (ad.add (j * 2)).off + 1, none⟩ = some (.int .i64 (rd e.ts (2 * j + 1)))) ∧
          (w'.cell? (bd'.add (j * 2)) = some (.int .i64 (rd f.ts (2 * j))) ∧ w'.cell? ⟨(bd'.add (j * 2)).block, (bd'.add (j * 2)).off + 1, none⟩ = some (.int .i64 (rd f.ts (2 * j + 1)))) := by
        rintro w' ⟨q', rfl⟩
        obtain ⟨ad2, h1, _, c1, c2⟩ := tier_cells (j := j) ((HRA.out.below HD.out).drewN q') (by have := HN.out; omega)
        obtain ⟨bd2, h2, _, d1, d2⟩ := tier_cells (j := j) ((HRA'.out.below HD.out).drewN q') (by have := HM.out; omega)
        obtain rfl := Option.some.inj h1
        obtain rfl := Option.some.inj h2
        have k1 := ((HB1.out.drewN q').cell 10).trans HR1.out.ts
        have k2 := ((HB2.out.drewN q').cell 10).trans HR2.out.ts
        rw [← HN'.out] at k1
        rw [← HM'.out] at k2
        exact ⟨⟨k1, k2⟩, ⟨c1, c2⟩, d1, d2⟩
      have HCE := Lib.hid hcells
      have rx1 := HIX.out.rd (2 * j)
      have rx2 := HIX.out.rd (2 * j + 1)
      have ry1 := HIY.out.rd (2 * j)
      have ry2 := HIY.out.rd (2 * j + 1)
      obtain ⟨x1, hx1⟩ : ∃ x, x = rd e.ts (2 * j) := ⟨_, rfl⟩
      obtain ⟨x2, hx2⟩ : ∃ x, x = rd e.ts (2 * j + 1) := ⟨_, rfl⟩
      obtain ⟨y1, hy1⟩ : ∃ x, x = rd f.ts (2 * j) := ⟨_, rfl⟩
      obtain ⟨y2, hy2⟩ : ∃ x, x = rd f.ts (2 * j + 1) := ⟨_, rfl⟩
      rw [← hx1] at rx1
      rw [← hx2] at rx2
      rw [← hy1] at ry1
      rw [← hy2] at ry2
      rw [← hx1, ← hx2, ← hy1, ← hy2] at HCE
      have heq := fun w' => eqT x1 x2 y1 y2 rx1 rx2 ry1 ry2 w'
      have H1 := Lib.hid (And.intro (And.intro hx1 hx2) (And.intro hy1 hy2))
      have hjl : (j : Int) < n := by omega
      clear hcells rx1 rx2 ry1 ry2 hx1 hx2 hy1 hy2
      go_upto_region 6 with fail
      by_cases hxy : x1 = y1 ∧ x2 = y2
      · rw [decide_eq_true hxy] at heq
        obtain ⟨rfl, rfl⟩ := hxy
        refine wp_region_tree (C := fun w' => ∃ q', w' = W.drewN q') (.seg [0, 1, 2, 3, 4, 5, 6, 7, 8, 9, 10] .nil) (by kernel_rfl) (by kernel_rfl) ⟨_, (World.drew_drewN (w := W) (n := q))⟩ ?_
        simp only [wpPlan, List.map_cons, List.map_nil, opAt, List.getElem?_cons_succ, List.getElem?_cons_zero, Option.getD_some]
        repeat (go_big_quiet_step (fail))
        refine wpQuiet_got (.slice (some ad) n c) (by rfl) (fun w' hw' => ?_) (fun K hK => ?_)
        · have hl2 := (HCE.out w' hw').1.1
          go_simp
        go_simp
        refine hK _ ?_
        clear hK K
        repeat (go_big_quiet_step (fail))
        refine wpQuiet_got (.agg #[.int .i64 x1, .int .i64 x2]) (by rfl) (fun w' hw' => ?_) (fun K hK => ?_)
        · have hl2 := (HCE.out w' hw').2.1.1
          have hl3 := (HCE.out w' hw').2.1.2
          go_simp
        go_simp
        refine hK _ ?_
        clear hK K
        repeat (go_big_quiet_step (fail))
        refine wpQuiet_got (.slice (some bd') n c') (by rfl) (fun w' hw' => ?_) (fun K hK => ?_)
        · have hl2 := (HCE.out w' hw').1.2
          go_simp
        go_simp
        refine hK _ ?_
        clear hK K
        repeat (go_big_quiet_step (fail))
        refine wpQuiet_got (.agg #[.int .i64 x1, .int .i64 x2]) (by rfl) (fun w' hw' => ?_) (fun K hK => ?_)
        · have hl2 := (HCE.out w' hw').2.2.1
          have hl3 := (HCE.out w' hw').2.2.2
          go_simp
        go_simp
        refine hK _ ?_
        clear hK K
        repeat (go_big_quiet_step (fail))
        refine wpQuiet_nil ?_
        go_wp2
        go_roundw
        case rel =>
          refine ⟨j + 1, by omega, by go_num, Lib.hid (fun i hi => ?_), _, rfl⟩
          have hH := H1.out
          rcases (by omega : i < 2 * j ∨ i = 2 * j ∨ i = 2 * j + 1) with h | h | h
          · exact hz.out i h
          · rw [h, ← hH.1.1, ← hH.2.1]
          · rw [h, ← hH.1.2, ← hH.2.2]
        case measure => simp [intOf]; omega
      · rw [decide_eq_false hxy] at heq
        refine wp_region_tree (C := fun w' => ∃ q', w' = W.drewN q') (.seg [0, 1, 2, 3, 4, 5, 6, 7, 8, 9, 10] .nil) (by kernel_rfl) (by kernel_rfl) ⟨_, (World.drew_drewN (w := W) (n := q))⟩ ?_
        simp only [wpPlan, List.map_cons, List.map_nil, opAt, List.getElem?_cons_succ, List.getElem?_cons_zero, Option.getD_some]
        repeat (go_big_quiet_step (fail))
        refine wpQuiet_got (.slice (some ad) n c) (by rfl) (fun w' hw' => ?_) (fun K hK => ?_)
        · have hl2 := (HCE.out w' hw').1.1
          go_simp
        go_simp
        refine hK _ ?_
        clear hK K
        repeat (go_big_quiet_step (fail))
        refine wpQuiet_got (.agg #[.int .i64 x1, .int .i64 x2]) (by rfl) (fun w' hw' => ?_) (fun K hK => ?_)
        · have hl2 := (HCE.out w' hw').2.1.1
          have hl3 := (HCE.out w' hw').2.1.2
          go_simp
        go_simp
        refine hK _ ?_
        clear hK K
        repeat (go_big_quiet_step (fail))
        refine wpQuiet_got (.slice (some bd') n c') (by rfl) (fun w' hw' => ?_) (fun K hK => ?_)
        · have hl2 := (HCE.out w' hw').1.2
          go_simp
        go_simp
        refine hK _ ?_
        clear hK K
        repeat (go_big_quiet_step (fail))
        refine wpQuiet_got (.agg #[.int .i64 y1, .int .i64 y2]) (by rfl) (fun w' hw' => ?_) (fun K hK => ?_)
        · have hl2 := (HCE.out w' hw').2.2.1
          have hl3 := (HCE.out w' hw').2.2.2
          go_simp
        go_simp
        refine hK _ ?_
        clear hK K
        repeat (go_big_quiet_step (fail))
        refine wpQuiet_nil ?_
        go_wp2
        go_ret
        have : e ≠ f := fun h => hxy (by have hH := H1.out; rw [hH.1.1, hH.1.2, hH.2.1, hH.2.2, h]; exact ⟨rfl, rfl⟩)
        exact ⟨by rw [sameB_no this]; rfl, HD.out.trans ((Drew.mk ⟨q + 1, rfl⟩ : Drew W (W.drewN (q + 1))).below _)⟩
    · have hjn' : ¬ (j : Int) < n := by omega
      have hd := decide_eq_false hjn'
      have hcells : (W.drewN q).cell? ⟨w.heap.size, 10, none⟩ = some (.slice A n c) := by
        have k1 := ((HB1.out.drewN q).cell 10).trans HR1.out.ts
        rw [← HN'.out] at k1
        exact k1
      go_wp2
      go_ret
      have ht : e.ts = f.ts := decide_lists (by rw [HN.out, HM.out]) (fun i hi => hz.out i (by have := HN.out; omega))
      exact ⟨by rw [sameB_yes (ev_ext H123.out.1 H123.out.2.1 H123.out.2.2 ht)]; rfl, HD.out.trans ((Drew.mk ⟨q, rfl⟩ : Drew W (W.drewN q)).below _)⟩
end Go.Proofs.Ytkcfeaonkgpbdaa.Event
