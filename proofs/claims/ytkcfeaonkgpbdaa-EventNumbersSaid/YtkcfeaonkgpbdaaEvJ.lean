import Derived.Test.YtkcfeaonkgpbdaaEvH
import Derived.Test.YtkcfeaonkgpbdaaEvI
/-! the document's DocRead -/
namespace Go.Proofs.Ytkcfeaonkgpbdaa.Event
open Go.RowKit Go.Deep Go.Proofs.Ytkcfeaonkgpbdaa Go.Proofs.Ytkcfeaonkgpbdaa.Pack
set_option linter.unusedVariables false
set_option linter.unusedSimpArgs false
structure Sd (w W : World) (tb eb : Nat) (e : Ev) (A : Option Addr) (c : Nat) : Prop where
  tbk : Blk W tb 26 (row Ev.zero none 0)
  ebk : Blk W eb 26 (row e A c)
  bel : Below w.heap.size w W
theorem Sd.set_ {w W : World} {tb eb : Nat} {e e' : Ev} {A A' : Option Addr} {c c' : Nat} (h : Sd w W tb eb e A c) (h0 : w.heap.size ≤ tb) (h1 : tb < eb) (i : Nat) (u : Value) (hrow : (row e A c).setIfInBounds i u = row e' A' c') :
    Sd w (W.setCell ⟨eb, i, none⟩ u) tb eb e' A' c' :=
  ⟨h.tbk.far (by simp; omega) u, by rw [← hrow]; exact h.ebk.set_ i u, h.bel.setCell (by show w.heap.size ≤ eb; omega) u⟩
theorem Sd.grown {w W W' : World} {tb eb : Nat} {e : Ev} {A : Option Addr} {c : Nat} {r : Option Nat} (h : Sd w W tb eb e A c) (hg : W.grownBy W' r) (hr : ∀ k, r = some k → eb < k) (h0 : w.heap.size ≤ tb) (h1 : tb < eb) : Sd w W' tb eb e A c :=
  ⟨Blk.grown h.tbk hg (fun e => by have := hr tb e.symm; omega), Blk.grown h.ebk hg (fun e => by have := hr eb e.symm; omega), below_grown h.bel hg (fun k hk => by have := hr k hk; omega) h.bel.size⟩
theorem Sd.below {w W W' : World} {tb eb : Nat} {e : Ev} {A : Option Addr} {c : Nat} (h : Sd w W tb eb e A c) (hb : Below W.heap.size W W') : Sd w W' tb eb e A c :=
  ⟨h.tbk.below hb h.tbk.lt, h.ebk.below hb h.ebk.lt, h.bel.trans (hb.mono h.bel.size)⟩
theorem Sd.drew {w W : World} {tb eb : Nat} {e : Ev} {A : Option Addr} {c : Nat} (h : Sd w W tb eb e A c) : Sd w W.drew tb eb e A c := ⟨h.tbk, h.ebk, h.bel.drew⟩
theorem exec_cut {P : Program} {o : Oper} {ρ : Operand → Value} {w : World} (T : TypeId) (x lo : Operand) (ho : o.op = .slice T x (some lo) none none) (hu : P.underlying T = some (.slice (P.elem T))) (hs : ∀ w, (sizeOf (P.elem T)).run P w = .ok 1 w)
    (A : Option Addr) (n c k m d : Nat) (kk : IntKind) (A' : Option Addr) (hA : A' = (if c = k then A else A.map (·.add k))) (hx : ρ x = .slice A n c) (hl : ρ lo = .int kk (k : Int)) (hk : k + m = n) (hc : k + d = c) : (execOp ρ o).run P w = .ok (.value (.slice A' m d)) w := by
  have hrun := run_cut (P := P) T hu hs A n c k kk (by omega) w
  rw [show n - k = m from by omega, show c - k = d from by omega, ← hA] at hrun
  simp only [execOp, ho, Option.map_some, Option.map_none, hx, hl, Sem.run_bind, run_sliceAt_slice (P := P) (w := w) T _ _ _ _ hu, hrun, Result.andThen, Sem.run_pure]
theorem vls_rd (xs : List Int) {r j : Nat} (h : j < r) : rd (vls xs r) j = vl xs j := by
  rw [rd_get (by rw [vls_len]; exact h)]
  simp [vls]
/-- the end of DocRead: what is built is the event, if there is one -/
theorem doc_fin {p : List Int} {e : Ev} (hl : p.length ≤ 4096) (ho : e.ok) (hf : e.form) (h : ∀ e', par p = some (e', []) → e' = e) (hb : Byt p) : (wr e = p → rdEv p = (e, 0)) ∧ (wr e ≠ p → rdEv p = (Ev.zero, 3)) := by
  refine ⟨fun hw => ?_, fun hw => ?_⟩
  · rw [← hw]; exact rdEv_wr e ho hf
  · refine rdEv_none hl (fun e' he => hw ?_)
    have := h e' he
    subst this
    exact (rdEv_some hb hl he).2
theorem doc_a {op : Int} {xs : List Int} {n r : Nat} (hn : cnt op = n) (h1 : op ≠ 1) (hc : (rdU xs).2.2 = 0) (hrn : r ≤ n) (hend : r = n ∨ (rdU (rs r (rest xs))).2.2 ≠ 0) :
    ∀ e', par (op :: xs) = some (e', []) → e' = ⟨op, (rdU xs).1, pad (vls (rest xs) r), []⟩ := by
  intro e' he
  have hp := par_a (xs := xs) hn h1
  have hb1 : bads xs false = false := by unfold bads; rw [hc]; rfl
  rw [hb1] at hp
  cases hb : bd false (rest xs) n with
  | true => rw [hp.2 hb] at he; cases he
  | false =>
    have hr : r = n := by
      rcases hend with h | h
      · exact h
      · rcases Nat.lt_or_ge r n with h2 | h2
        · exact absurd (bd_all hb r h2) h
        · omega
    rw [hp.1 hb] at he
    simp only [Option.some.injEq, Prod.mk.injEq] at he
    rw [hr]
    exact he.1.symm
theorem doc_b0 {xs : List Int} {n r : Nat} (hn : cnt 1 = n) (hc : (rdU xs).2.2 = 0) (hrn : r ≤ n) (hcode : (rdU (rs r (rest xs))).2.2 ≠ 0) : par (1 :: xs) = none := by
  have hp := par_b (xs := xs) hn
  refine hp.1 ?_
  cases h : bads (rs n (rest xs)) (bd (bads xs false) (rest xs) n) with
  | true => rfl
  | false =>
    exfalso
    have hb1 : bads xs false = false := by unfold bads; rw [hc]; rfl
    rw [hb1] at h
    have h2 : bd false (rest xs) (n + 1) = false := h
    exact hcode (bd_all h2 r (by omega))
theorem doc_b {xs : List Int} {n r r2 t : Nat} (hn : cnt 1 = n) (hc : (rdU xs).2.2 = 0) (hrn : r ≤ n) (hend : r = n ∨ (rdU (rs r (rest xs))).2.2 ≠ 0) (hcode : (rdU (rs r (rest xs))).2.2 = 0) (ht : (rdU (rs r (rest xs))).1 = t) :
    (8 < t → par (1 :: xs) = none) ∧ (r2 ≤ 2 * t → (r2 = 2 * t ∨ (rdU (rs r2 (rest (rs r (rest xs))))).2.2 ≠ 0) → ∀ e', par (1 :: xs) = some (e', []) → e' = ⟨1, (rdU xs).1, pad (vls (rest xs) r), vls (rest (rs r (rest xs))) (2 * (r2 / 2))⟩) := by
  have hr : r = n := by
    rcases hend with h | h
    · exact h
    · exact absurd hcode h
  subst hr
  have hp := par_b (xs := xs) hn
  refine ⟨fun h8 => hp.2.1 (by rw [ht]; omega), fun h2 he2 e' he => ?_⟩
  have hb1 : bads xs false = false := by unfold bads; rw [hc]; rfl
  by_cases h8 : 8 < (rdU (rs r (rest xs))).1
  · rw [hp.2.1 h8] at he; cases he
  cases h : bads (rs r (rest xs)) (bd (bads xs false) (rest xs) r) with
  | true => rw [hp.1 h] at he; cases he
  | false =>
    have hp3 := hp.2.2 h h8
    rw [h, ht, Int.toNat_natCast] at hp3
    cases hb : bd false (rest (rs r (rest xs))) (2 * t) with
    | true => rw [hp3.2 hb] at he; cases he
    | false =>
      have hr2 : r2 = 2 * t := by
        rcases he2 with h | h
        · exact h
        · rcases Nat.lt_or_ge r2 (2 * t) with h3 | h3
          · exact absurd (bd_all hb r2 h3) h
          · omega
      rw [hp3.1 hb] at he
      simp only [Option.some.injEq, Prod.mk.injEq] at he
      rw [hr2, show 2 * (2 * t / 2) = 2 * t from by omega]
      exact he.1.symm
set_option maxRecDepth 1000000 in
set_option maxHeartbeats 40000000 in
theorem docread_ok (P : Option Addr) (c : Nat) (xs : List Int) (w : World) (hx : RI w w.heap.size .u8 P xs) (hc : xs.length ≤ c) (hl : xs.length ≤ 140737488355328) (hb : Byt xs) :
    Calls Try.prog 19 #[.slice P xs.length c] w fun x w' => ∃ A c', x = .returned (.tuple #[.agg (row (rdEv xs).1 A c'), .int .i64 (rdEv xs).2]) ∧ RI w' w'.heap.size .i64 A (rdEv xs).1.ts ∧ (rdEv xs).1.ts.length / 2 ≤ c' ∧ Below w.heap.size w w' := by
  have HX := Lib.hid hx
  have HBY := Lib.hid hb
  clear hx hb
  obtain ⟨n0, hn0⟩ : ∃ n0, n0 = xs.length := ⟨_, rfl⟩
  rw [← hn0] at hc hl ⊢
  have HN0 := Lib.hid hn0
  clear hn0
  go_enter Try.func19, Try.ntmps19
  go_upto_region 1 with fail
  have hZ := zero_row w
  have d0 : Below w.heap.size w _ := (Below.refl w.heap.size w).alloc (Nat.le_refl _) (.cells #[.int .u8 0, .int .u64 0, .int .i64 0, .int .i64 0, .int .i64 0, .int .i64 0, .int .i64 0, .int .i64 0, .int .i64 0, .int .i64 0, .slice none 0 0] 26)
  obtain ⟨W1, hW1⟩ : ∃ W1, W1 = w.alloc (.cells #[.int .u8 0, .int .u64 0, .int .i64 0, .int .i64 0, .int .i64 0, .int .i64 0, .int .i64 0, .int .i64 0, .int .i64 0, .int .i64 0, .slice none 0 0] 26) := ⟨_, rfl⟩
  rw [← hW1] at hZ d0 ⊢
  obtain ⟨tb, htb⟩ : ∃ tb, tb = w.heap.size := ⟨_, rfl⟩
  rw [← htb] at hZ ⊢
  have htb0 : w.heap.size ≤ tb := by omega
  have HZ := Lib.hid hZ
  have hlt1 := hZ.lt
  have HX1 := Lib.hid (HX.out.below d0)
  have D0 := Lib.hid d0
  clear hW1 htb hZ d0
  by_cases h4 : 4096 < n0
  · have h4' : (4096 : Int) < n0 := by omega
    have hrd := Lib.hid (show rdEv xs = (Ev.zero, 2) from rdEv_long (by rw [← HN0.out]; exact h4))
    go_wp2_with (first
      | (refine wpList_put rfl 26 (.tmp 2) (.tmp 21) rfl tb (row Ev.zero none 0) rfl rfl 26 _ HZ.out (by kernel_rfl) rfl (row_all _ _ _) ?_
         intro WE HBE hfarE hbelE hszE hclE))
    exact bodyPost_ret (results_cell_row2 rfl _ WE tb 26 (row Ev.zero none 0) _ (.int .i64 2) rfl HBE Try.underlying26 rfl (by kernel_rfl) rfl) rfl ⟨none, 0, by first | rw [hrd.out] | rfl, by first | (rw [hrd.out]; exact RI.nil) | exact RI.nil, by first | (rw [hrd.out]; simp [Ev.zero]) | simp [Ev.zero], hbelE w.heap.size w (by omega) D0.out⟩
  have h4' : ¬ (4096 : Int) < n0 := by omega
  have hd4 := decide_eq_false h4'
  have hle : xs.length ≤ 4096 := by rw [← HN0.out]; omega
  have HLE := Lib.hid hle
  clear hle
  cases xs with
  | nil =>
    have hn : n0 = 0 := HN0.out
    subst hn
    have hrd := Lib.hid (show rdEv [] = (Ev.zero, 3) from rfl)
    go_wp2_with (first
      | (refine wpList_put rfl 26 (.tmp 2) (.tmp 32) rfl tb (row Ev.zero none 0) rfl rfl 26 _ HZ.out (by kernel_rfl) rfl (row_all _ _ _) ?_
         intro WE HBE hfarE hbelE hszE hclE))
    exact bodyPost_ret (results_cell_row2 rfl _ WE tb 26 (row Ev.zero none 0) _ (.int .i64 3) rfl HBE Try.underlying26 rfl (by kernel_rfl) rfl) rfl ⟨none, 0, by first | rw [hrd.out] | rfl, by first | (rw [hrd.out]; exact RI.nil) | exact RI.nil, by first | (rw [hrd.out]; simp [Ev.zero]) | simp [Ev.zero], hbelE w.heap.size w (by omega) D0.out⟩
  | cons op xs =>
  have hn : n0 = xs.length + 1 := HN0.out
  have hop := HBY.out op (by simp)
  have hby : Byt xs := fun n hn => HBY.out n (by simp [hn])
  have hn00 : ((n0 : Int) == 0) = false := by simp; omega
  have hn01 : (0 : Int) < n0 := by omega
  obtain ⟨ad, hP, hadb, hcell⟩ := HX1.out.one (j := 0) (by simp)
  have hrd0 : rd (op :: xs) 0 = op := rfl
  rw [hrd0] at hcell
  have hca : W1.cell? ad = some (.int .u8 op) := by simpa [Addr.add] using hcell
  subst hP
  clear hcell hrd0
  go_wp2_with fail
  refine (refcount_ok op hop.1 hop.2 _).mono ?_
  rintro e1 w1 ⟨rfl, rfl⟩
  by_cases hcn : cnt op < 0
  · have hrd := Lib.hid (show rdEv (op :: xs) = (Ev.zero, 3) from rdEv_of_none HLE.out (by simp only [par]; rw [if_pos hcn]))
    have hcd := decide_eq_true hcn
    go_wp2_with (first
      | (refine wpList_put rfl 26 (.tmp 2) (.tmp 32) rfl tb (row Ev.zero none 0) rfl rfl 26 _ HZ.out (by kernel_rfl) rfl (row_all _ _ _) ?_
         intro WE HBE hfarE hbelE hszE hclE))
    exact bodyPost_ret (results_cell_row2 rfl _ WE tb 26 (row Ev.zero none 0) _ (.int .i64 3) rfl HBE Try.underlying26 rfl (by kernel_rfl) rfl) rfl ⟨none, 0, by first | rw [hrd.out] | rfl, by first | (rw [hrd.out]; exact RI.nil) | exact RI.nil, by first | (rw [hrd.out]; simp [Ev.zero]) | simp [Ev.zero], hbelE w.heap.size w (by omega) D0.out⟩
  have hcd := decide_eq_false hcn
  obtain ⟨n, hn'⟩ : ∃ n : Nat, cnt op = n := ⟨(cnt op).toNat, by omega⟩
  have hcr := cnt_range op
  have hn8 : n ≤ 8 := by omega
  have hcd' : decide ((n : Int) < 0) = false := by simp
  have HN := Lib.hid hn'
  rw [hn']
  clear hcd hcn hcr hn'
  go_upto_region 6 with fail
  have hE := Blk.new w1 26 (row ⟨op, 0, pad [], []⟩ none 0)
  have hZ2 := HZ.out.alloc (.cells (row ⟨op, 0, pad [], []⟩ none 0) 26)
  have hX2 := HX1.out.alloc (by omega) (.cells (row ⟨op, 0, pad [], []⟩ none 0) 26)
  have D2 := D0.out.alloc D0.out.size (.cells (row ⟨op, 0, pad [], []⟩ none 0) 26)
  rw [show (#[.int .u8 op, .int .u64 0, .int .i64 0, .int .i64 0, .int .i64 0, .int .i64 0, .int .i64 0, .int .i64 0, .int .i64 0, .int .i64 0, .slice none 0 0] : Array Value) = row ⟨op, 0, pad [], []⟩ none 0 from first_row op]
  obtain ⟨W2, hW2⟩ : ∃ W2, W2 = w1.alloc (.cells (row ⟨op, 0, pad [], []⟩ none 0) 26) := ⟨_, rfl⟩
  rw [← hW2] at hE hZ2 hX2 D2 ⊢
  obtain ⟨eb, heb⟩ : ∃ eb, eb = w1.heap.size := ⟨_, rfl⟩
  rw [← heb] at hE hlt1 ⊢
  have HTE := Lib.hid hlt1
  have HX2 := Lib.hid hX2
  have HS2 := Lib.hid (show Sd w W2 tb eb ⟨op, 0, pad [], []⟩ none 0 from ⟨hZ2, hE, D2⟩)
  clear hW2 heb D0 HX1 HZ hca hE hZ2 hX2 D2 hlt1
  have hte : tb < eb := HTE.out
  have hs2 := HS2.out.bel.size
  subst hn
  have hc1 : 1 ≤ xs.length + 1 := by omega
  have hxl : xs.length ≤ c - 1 := by omega
  go_wp2_with (first
    | (refine wpList_cut rfl (.tmp 38) (.const (.int .i64 1)) 29 rfl Try.underlying29 (fun _ => by kernel_rfl) (some ad) (xs.length + 1) c 1 .i64 rfl rfl hc1 hc ?_
       intro A' hA'))
  have hri := hA' W2 w.heap.size .u8 (op :: xs) rfl HX2.out
  have hcall := docreaduint_ok A' (c - 1) xs W2 (hri.more hs2) hxl (by omega) hby
  refine hcall.mono ?_
  rintro e1 W3 ⟨rfl, b3⟩
  have HS3 := Lib.hid (HS2.out.below b3)
  have HX3 := Lib.hid (HX2.out.below (b3.mono hs2))
  clear hcall hri hA' HX2 HS2 hs2 hc1 hxl b3
  have hrange := rdU_range xs hby
  obtain ⟨q, hq⟩ : ∃ q : Nat, (rdU xs).2.1 = q := ⟨(rdU xs).2.1.toNat, by omega⟩
  have hcode : (rdU xs).2.2 = 0 ∨ (rdU xs).2.2 = 3 := by omega
  rw [hq]
  have hqx : q ≤ xs.length := by omega
  obtain ⟨key, hkey⟩ : ∃ key, key = (rdU xs).1 := ⟨_, rfl⟩
  obtain ⟨x2, hx2⟩ : ∃ x2, x2 = rest xs := ⟨_, rfl⟩
  have hx2d : x2 = (op :: xs).drop (q + 1) := by rw [hx2]; unfold rest; rw [hq]; rfl
  have hk0 : 0 ≤ key ∧ key < 18446744073709551616 := by rw [hkey]; exact ⟨hrange.1, hrange.2.1⟩
  rw [← hkey]
  have HKEY := Lib.hid hkey
  have HX2 := Lib.hid hx2
  have HX2D := Lib.hid hx2d
  have hby2 : Byt x2 := by rw [hx2]; exact rest_byt hby
  have hl2 : x2.length + q = xs.length := by rw [hx2d]; simp; omega
  have HBY2 := Lib.hid hby2
  have HHX2 := Lib.hid hl2
  clear hkey hx2 hx2d hrange hq hby2 hl2
  rcases hcode with hcode | hcode
  case inr =>
    have hrd := Lib.hid (show rdEv (op :: xs) = (Ev.zero, 3) from rdEv_of_none HLE.out (by simp only [par]; rw [if_neg (by have := HN.out; omega), rdU_bad (by rw [hcode]; decide)]))
    rw [hcode]
    clear hcode
    go_wp2_with (first
      | (refine wpList_put rfl 26 (.tmp 2) (.tmp 46) rfl tb (row Ev.zero none 0) rfl rfl 26 _ HS3.out.tbk (by kernel_rfl) rfl (row_all _ _ _) ?_
         intro WE HBE hfarE hbelE hszE hclE))
    exact bodyPost_ret (results_cell_row2 rfl _ WE tb 26 (row Ev.zero none 0) _ (.int .i64 3) rfl HBE Try.underlying26 rfl (by kernel_rfl) rfl) rfl ⟨none, 0, by first | rw [hrd.out] | rfl, by first | (rw [hrd.out]; exact RI.nil) | exact RI.nil, by first | (rw [hrd.out]; simp [Ev.zero]) | simp [Ev.zero], hbelE w.heap.size w (by omega) HS3.out.bel⟩
  have HCODE := Lib.hid hcode
  rw [hcode]
  clear hcode
  have ck : W3.cell? ⟨eb, 1, none⟩ = some (.int .u64 0) := HS3.out.ebk.cell 1
  have fk : W3.frozen? ⟨eb, 1, none⟩ = false := HS3.out.ebk.frozen 1
  have hst5 := Lib.hid (HS3.out.set_ htb0 hte 1 (.int .u64 key) (row_set_key op 0 key (pad []) [] none 0))
  have HX5 := Lib.hid (HX3.out.setCell (p := ⟨eb, 1, none⟩) (by show w.heap.size ≤ eb; omega) (.int .u64 key))
  go_upto_region 11 with fail
  obtain ⟨W4, hW4⟩ : ∃ W4, W4 = W3.setCell ⟨eb, 1, none⟩ (.int .u64 key) := ⟨_, rfl⟩
  rw [← hW4] at hst5 HX5 ⊢
  obtain ⟨at', hat⟩ : ∃ a : Nat, a = q + 1 := ⟨_, rfl⟩
  rw [show ((q : Int) + 1) = (at' : Int) from by omega]
  have hatl : at' + x2.length = xs.length + 1 := by have := HHX2.out; omega
  obtain ⟨d, hd⟩ : ∃ d, at' + d = c := ⟨c - at', by omega⟩
  obtain ⟨A2, hA2⟩ : ∃ A2 : Option Addr, A2 = (if c = at' then some ad else (some ad).map (·.add at')) := ⟨_, rfl⟩
  have hri2 : RI W4 w.heap.size .u8 A2 x2 := by
    have h := HX5.out.cutIf at' c (by simp; omega) (by simp; omega)
    rw [hA2, HX2D.out, ← hat]
    exact h
  have HRI2 := Lib.hid hri2
  have hd2 : x2.length ≤ d := by omega
  have hatc := Lib.hid hat
  have HA2 := Lib.hid hA2
  have hl2 : x2.length ≤ 4096 := by have := HHX2.out; omega
  clear hW4 ck fk HX3 HS3 hri2 hat hA2
  have cop : ∀ w' : World, Below W4.heap.size W4 w' → w'.cell? ⟨eb, 0, none⟩ = some (.int .u8 op) := fun w' hb => (hb.cell (p := ⟨eb, 0, none⟩) hst5.out.ebk.lt).trans (hst5.out.ebk.cell 0)
  have HCOP := Lib.hid cop
  clear cop
  refine wp_region_tree (C := fun w' => Below W4.heap.size W4 w') (.seg [0, 1, 2, 3, 4] (.turn 5 (.turn 6 (.seg [7, 8, 9, 10, 11] .nil)))) (by kernel_rfl) (by kernel_rfl) (Below.refl _ _).drew ?_
  simp only [wpPlan, List.map_cons, List.map_nil, opAt, List.getElem?_cons_succ, List.getElem?_cons_zero, Option.getD_some]
  repeat (go_big_quiet_step (fail))
  refine wpQuiet_got (.slice A2 x2.length d) (by rfl) (fun w' hw' => exec_cut 29 (.tmp 52) (.tmp 53) rfl Try.underlying29 (fun _ => by kernel_rfl) (some ad) (xs.length + 1) c at' x2.length d .i64 A2 HA2.out rfl rfl hatl hd) (fun K hK => ?_)
  go_simp
  refine hK _ ?_
  clear hK K
  repeat (go_big_quiet_step (fail))
  refine wpQuiet_got (.pointer (some ⟨eb, 0, none⟩)) (by rfl) (fun w' hw' => ?_) (fun K hK => ?_)
  · go_simp
  go_simp
  refine hK _ ?_
  clear hK K
  repeat (go_big_quiet_step (fail))
  refine wpQuiet_got (.int .u8 op) (by rfl) (fun w' hw' => ?_) (fun K hK => ?_)
  · have hl2 := HCOP.out w' hw'
    go_simp
  go_simp
  refine hK _ ?_
  clear hK K
  repeat (go_big_quiet_step (fail))
  refine wpQuiet_nil ?_
  go_wp2_with fail
  refine (refcount_ok op hop.1 hop.2 _).mono ?_
  rintro e1 w5 ⟨rfl, rfl⟩
  rw [HN.out]
  go_wp2_with fail
  refine ⟨(Below.refl _ _).drew, ?_⟩
  go_wp2_with fail
  have hs4 := hst5.out.bel.size
  refine (numbers_ok A2 d n x2 W4.drew (HRI2.out.more hs4) hd2 hl2 HBY2.out (by omega)).mono ?_
  rintro e1 W5 ⟨r, k, Al, cl, rfl, hrn, hbd, hend, hkx, hrs, hown, b5⟩
  have hb5 : Below W4.heap.size W4 W5 := (Below.refl _ _).drew.trans b5
  go_wp2_with fail
  refine ⟨hb5, ?_⟩
  repeat (go_big_quiet_step (fail))
  refine wpQuiet_got (.slice Al r cl) (by rfl) (fun w' hw' => ?_) (fun K hK => ?_)
  · go_simp
  go_simp
  refine hK _ ?_
  clear hK K
  repeat (go_big_quiet_step (fail))
  refine wpQuiet_got (.int .i64 k) (by rfl) (fun w' hw' => ?_) (fun K hK => ?_)
  · go_simp
  go_simp
  refine hK _ ?_
  clear hK K
  repeat (go_big_quiet_step (fail))
  refine wpQuiet_nil ?_
  have HS6 := Lib.hid (hst5.out.below hb5)
  have HX6 := Lib.hid (HX5.out.below (hb5.mono hs4))
  have heb4 := hst5.out.ebk.lt
  have HOWN := Lib.hid (show W5.ownsRow (eb + 1) 2 1 (.slice Al r cl) r (nums .i64 (vls x2 r)) by
    refine ⟨hown.1, ?_⟩
    rcases hown.2 with h | ⟨g, cap, cur, hv, hg, h⟩
    · exact .inl h
    · exact .inr ⟨g, cap, cur, hv, by show eb + 1 ≤ g; have : W4.heap.size ≤ g := hg; omega, h⟩)
  have HBD := Lib.hid hbd
  have HEND := Lib.hid hend
  have HRS := Lib.hid hrs
  clear hown hbd hend hrs b5 hb5 hst5 HX5 HRI2 HCOP HA2 hd hd2
  go_wp2_with fail
  go_loopw [66] (fun v wr => ∃ j : Nat, j ≤ r ∧ v = .int .i64 j ∧ Hid (Sd w wr tb eb ⟨op, key, pad (vls x2 j), []⟩ none 0) ∧ Hid (wr.ownsRow (eb + 1) 2 1 (.slice Al r cl) r (nums .i64 (vls x2 r))) ∧ Hid (RI wr w.heap.size .u8 (some ad) (op :: xs))) (fun v _ => r - (intOf v).toNat)
  case atStart => exact ⟨0, by omega, rfl, HS6, HOWN, HX6⟩
  case round =>
    clear HS6 HOWN HX6
    obtain ⟨j, hj, rfl, HS, HO, HX7⟩ := hrel
    by_cases hjr : j < r
    · have hjr' : (j : Int) < r := by omega
      have hdj := decide_eq_true hjr'
      have hlr : (vls x2 r).length = r := vls_len _ _
      obtain ⟨al, hAl, halb, hcl⟩ := (RI.of_own HO.out).2.one (j := j) (by omega)
      rw [vls_rd x2 hjr] at hcl
      subst hAl
      have ci := (HS.out.ebk.cell (2 + j)).trans (row_n _ _ _ j (by omega))
      have fi := HS.out.ebk.frozen (2 + j)
      have hpl := pad_len (l := vls x2 j) (by rw [vls_len]; omega)
      have hS7 := Lib.hid (HS.out.set_ htb0 hte (2 + j) (.int .i64 (vl x2 j)) (by rw [row_set_n op key _ _ _ _ _ _ hpl (by omega), pad_set (by omega)]))
      have hO7 := Lib.hid (own_grown HO.out (grown_set wr eb (2 + j) (.int .i64 (vl x2 j))) (fun k hk => by have := (HO.out.lt k hk).1; simp; omega))
      have hX7 := Lib.hid (HX7.out.setCell (p := ⟨eb, 2 + j, none⟩) (by show w.heap.size ≤ eb; omega) (.int .i64 (vl x2 j)))
      have hj8 : (j : Int) < 8 := by omega
      have hj0 : (0 : Int) ≤ j := by omega
      clear hpl HS HX7 hlr HO
      go_wp2_with fail
      go_roundw
      case rel => exact ⟨j + 1, by omega, by go_num, hS7, hO7, hX7⟩
      case measure => simp [intOf]; omega
    · have hjr2 : j = r := by omega
      subst hjr2
      have hjr' : ¬ (j : Int) < j := by omega
      have hdj := decide_eq_false hjr'
      have c0 : wr.cell? ⟨eb, 0, none⟩ = some (.int .u8 op) := HS.out.ebk.cell 0
      have hpI : I64 (pad (vls x2 j)) := pad_I64 (vls_I64 HBY2.out j)
      have hpL : (pad (vls x2 j)).length = 8 := pad_len (by rw [vls_len]; omega)
      have hpZ : ∀ i, (cnt op).toNat ≤ i → i < 8 → rd (pad (vls x2 j)) i = 0 := fun i h1 h2 => pad_zero (by rw [vls_len]; have := HN.out; omega)
      have HPI := Lib.hid hpI
      have HPL := Lib.hid hpL
      have HPZ := Lib.hid hpZ
      clear hpI hpL hpZ hjr'
      by_cases h1 : op = 1
      · subst h1
        go_upto_region 19 with fail
        obtain ⟨at2, hat2⟩ : ∃ a : Nat, a = at' + k := ⟨_, rfl⟩
        obtain ⟨x3, hx3⟩ : ∃ x3, x3 = rs j x2 := ⟨_, rfl⟩
        have hx3d : x3 = (1 :: xs).drop at2 := by rw [hx3, HRS.out, HX2D.out, List.drop_drop, hat2, hatc.out]
        have hat2l : at2 + x3.length = xs.length + 1 := by rw [hx3d]; simp; omega
        obtain ⟨d2, hd2⟩ : ∃ d, at2 + d = c := ⟨c - at2, by omega⟩
        have e2 : ((at' : Int) + (k : Int)) = (at2 : Int) := by omega
        rw [e2]
        have hby3 : Byt x3 := by rw [hx3]; exact rs_byt HBY2.out j
        have HX3 := Lib.hid hx3
        have HX3D := Lib.hid hx3d
        have HBY3 := Lib.hid hby3
        have hat2n : at2 ≤ xs.length + 1 := by omega
        have hs7 := HS.out.bel.size
        have hl3 : x3.length ≤ 4096 := by omega
        have e3 : xs.length + 1 - at2 = x3.length := by omega
        have HE3 := Lib.hid e3
        clear e2 hat2 hx3 hx3d hby3 e3
        go_wp2_with (first
          | (refine wpList_cut rfl (.tmp 80) (.tmp 81) 29 rfl Try.underlying29 (fun _ => by kernel_rfl) (some ad) (xs.length + 1) c at2 .i64 rfl rfl hat2n hc ?_
             intro A3 hA3))
        have hri := hA3 wr w.heap.size .u8 (1 :: xs) rfl HX7.out
        rw [← HX3D.out] at hri
        have hcall := docreaduint_ok A3 (c - at2) x3 wr (hri.more hs7) (by omega) (by omega) HBY3.out
        rw [← HE3.out] at hcall
        refine hcall.mono ?_
        rintro e1 W6 ⟨rfl, b6⟩
        have HS6 := Lib.hid (HS.out.below b6)
        have HX8 := Lib.hid (HX7.out.below (b6.mono hs7))
        clear hcall hri hA3 HO
        have hrange := rdU_range x3 HBY3.out
        obtain ⟨q3, hq3⟩ : ∃ q : Nat, (rdU x3).2.1 = q := ⟨(rdU x3).2.1.toNat, by omega⟩
        obtain ⟨t, ht⟩ : ∃ t : Nat, (rdU x3).1 = t := ⟨(rdU x3).1.toNat, by omega⟩
        have ht64 : (t : Int) < 18446744073709551616 := by omega
        have hcode : (rdU x3).2.2 = 0 ∨ (rdU x3).2.2 = 3 := by omega
        rw [hq3, ht]
        have hq3x : q3 ≤ x3.length := by omega
        have HT := Lib.hid ht
        have HQ3 := Lib.hid hq3
        clear hrange ht hq3
        rcases hcode with hcode | hcode
        case inr =>
          have hrd := Lib.hid (show rdEv (1 :: xs) = (Ev.zero, 3) from rdEv_of_none HLE.out (doc_b0 HN.out HCODE.out hrn (by rw [← HX2.out, ← HX3.out, hcode]; decide)))
          rw [hcode]
          clear hcode
          go_wp2_with (first
            | (refine wpList_put rfl 26 (.tmp 2) (.tmp 93) rfl tb (row Ev.zero none 0) rfl rfl 26 _ HS6.out.tbk (by kernel_rfl) rfl (row_all _ _ _) ?_
               intro WE HBE hfarE hbelE hszE hclE))
          exact bodyPost_ret (results_cell_row2 rfl _ WE tb 26 (row Ev.zero none 0) _ (.int .i64 3) rfl HBE Try.underlying26 rfl (by kernel_rfl) rfl) rfl ⟨none, 0, by first | rw [hrd.out] | rfl, by first | (rw [hrd.out]; exact RI.nil) | exact RI.nil, by first | (rw [hrd.out]; simp [Ev.zero]) | simp [Ev.zero], hbelE w.heap.size w (by omega) HS6.out.bel⟩
        have HC3 := Lib.hid hcode
        rw [hcode]
        clear hcode
        by_cases ht8 : 8 < t
        · have ht8' : (8 : Int) < t := by omega
          have hdt : decide ((8 : Int) < t) = true := by simp; omega
          have hrd := Lib.hid (show rdEv (1 :: xs) = (Ev.zero, 3) from rdEv_of_none HLE.out ((doc_b (r2 := 0) HN.out HCODE.out hrn (by rw [← HX2.out]; exact HEND.out) (by rw [← HX2.out, ← HX3.out]; exact HC3.out) (t := t) (by rw [← HX2.out, ← HX3.out]; exact HT.out)).1 ht8))
          go_wp2_with (first
            | (refine wpList_put rfl 26 (.tmp 2) (.tmp 93) rfl tb (row Ev.zero none 0) rfl rfl 26 _ HS6.out.tbk (by kernel_rfl) rfl (row_all _ _ _) ?_
               intro WE HBE hfarE hbelE hszE hclE))
          exact bodyPost_ret (results_cell_row2 rfl _ WE tb 26 (row Ev.zero none 0) _ (.int .i64 3) rfl HBE Try.underlying26 rfl (by kernel_rfl) rfl) rfl ⟨none, 0, by first | rw [hrd.out] | rfl, by first | (rw [hrd.out]; exact RI.nil) | exact RI.nil, by first | (rw [hrd.out]; simp [Ev.zero]) | simp [Ev.zero], hbelE w.heap.size w (by omega) HS6.out.bel⟩
        have ht8' : ¬ (8 : Int) < t := by omega
        have hdt : decide ((8 : Int) < t) = false := by simp; omega
        go_upto_region 22 with fail
        obtain ⟨at3, hat3⟩ : ∃ a : Nat, a = at2 + q3 := ⟨_, rfl⟩
        obtain ⟨m2, hm2⟩ : ∃ m : Nat, m = 2 * t := ⟨_, rfl⟩
        obtain ⟨x4, hx4⟩ : ∃ x4, x4 = rest x3 := ⟨_, rfl⟩
        have hx4d : x4 = (1 :: xs).drop at3 := by
          rw [hx4]; unfold rest
          rw [HQ3.out, HX3D.out, List.drop_drop, hat3]; rfl
        have hby4 : Byt x4 := by rw [hx4]; exact rest_byt HBY3.out
        have hat3l : at3 + x4.length = xs.length + 1 := by rw [hx4d]; simp; omega
        have e5 : (at2 : Int) + (q3 : Int) = (at3 : Int) := by omega
        have e6 : (2 : Int) * (t : Int) = (m2 : Int) := by omega
        have hm16 : m2 ≤ 16 := by omega
        have hat3n : at3 ≤ xs.length + 1 := by omega
        have e7 : xs.length + 1 - at3 = x4.length := by omega
        have HX4 := Lib.hid hx4
        have HX4D := Lib.hid hx4d
        have HBY4 := Lib.hid hby4
        have HE7 := Lib.hid e7
        have HM2 := Lib.hid hm2
        have hl4 : x4.length ≤ 4096 := by omega
        have hs8 := HS6.out.bel.size
        have hw2 : IntKind.u64.wrap (2 * (t : Int)) = (m2 : Int) := by rw [IntKind.wrap_u64]; omega
        clear hat3 hm2 hx4 hx4d hby4 e7
        go_wp2_with (first
          | (refine wpList_cut rfl (.tmp 95) (.tmp 98) 29 rfl Try.underlying29 (fun _ => by kernel_rfl) (some ad) (xs.length + 1) c at3 .i64 rfl rfl hat3n hc ?_
             intro A4 hA4))
        have hri := hA4 W6 w.heap.size .u8 (1 :: xs) rfl HX8.out
        rw [← HX4D.out] at hri
        have hcall := numbers_ok A4 (c - at3) m2 x4 W6 (hri.more hs8) (by omega) hl4 HBY4.out hm16
        rw [← HE7.out] at hcall
        refine hcall.mono ?_
        rintro e1 W7 ⟨r2, k2, Al2, cl2, rfl, hrn2, hbd2, hend2, hkx2, hrs2, hown2, b7⟩
        have heb6 := HS6.out.ebk.lt
        have hs9 := b7.size
        have HS7 := Lib.hid (HS6.out.below b7)
        have HX9 := Lib.hid (HX8.out.below (b7.mono hs8))
        have HO7 := Lib.hid (show W7.ownsRow (eb + 1) 2 1 (.slice Al2 r2 cl2) r2 (nums .i64 (vls x4 r2)) by
          refine ⟨hown2.1, ?_⟩
          rcases hown2.2 with h | ⟨g, cap, cur, hv, hg, h⟩
          · exact .inl h
          · exact .inr ⟨g, cap, cur, hv, by show eb + 1 ≤ g; have : W6.heap.size ≤ g := hg; omega, h⟩)
        obtain ⟨b2, hb2⟩ : ∃ b2, b2 = W7.heap.size := ⟨_, rfl⟩
        have hlb : ∀ kk, (Value.slice Al2 r2 cl2).ownBlock = some kk → kk < b2 := fun kk hkk => by rw [hb2]; exact (hown2.lt kk hkk).2
        have heb2 : eb < b2 := by omega
        have HLB := Lib.hid hlb
        have HEND2 := Lib.hid hend2
        clear hcall hri hA4 hbd2 hrs2 hown2 b7 hend2 hlb hkx2
        have c10 : W7.cell? ⟨eb, 10, none⟩ = some (.slice none 0 0) := by have h := HS7.out.ebk.cell 10; simpa [row] using h
        go_wp2_with fail
        go_loopw [17] (fun v wr => ∃ (jj : Nat) (A : Option Addr) (cA : Nat), 2 * jj ≤ r2 ∧ v = .int .i64 ((2 * jj : Nat) : Int) ∧ Hid (Sd w wr tb eb ⟨1, key, pad (vls x2 j), vls x4 (2 * jj)⟩ A cA) ∧ Hid (TOwn wr b2 (.slice A jj cA) (vls x4 (2 * jj))) ∧
          Hid (wr.ownsRow (eb + 1) 2 1 (.slice Al2 r2 cl2) r2 (nums .i64 (vls x4 r2))) ∧ Hid (RI wr w.heap.size .u8 (some ad) (1 :: xs)) ∧ b2 ≤ wr.heap.size) (fun v _ => r2 - (intOf v).toNat)
        case atStart => exact ⟨0, none, 0, by omega, rfl, HS7, Lib.hid (town_nil _ _), HO7, HX9, by omega⟩
        case round =>
          clear HS7 HO7 HX9 c10 hb2
          obtain ⟨jj, A, cA, hjj, rfl, HS, HTO, HO, HX7, hbw⟩ := hrel
          obtain ⟨g2, hg2⟩ : ∃ g : Nat, g = 2 * jj := ⟨_, rfl⟩
          rw [← hg2]
          have HG2 := Lib.hid hg2
          by_cases hlt : g2 + 1 < r2
          · have hlt' : (g2 : Int) + 1 < r2 := by omega
            have hdl := decide_eq_true hlt'
            clear hg2
            go_upto_region 26 with fail
            obtain ⟨al, hAl, _, _⟩ := (RI.of_own HO.out).2.one (j := g2) (by rw [vls_len]; omega)
            subst hAl
            have hC : ∀ (W : World) (e' : Ev), e' = ⟨1, key, pad (vls x2 j), vls x4 (2 * jj)⟩ → Sd w W tb eb e' A cA → W.ownsRow (eb + 1) 2 1 (.slice (some al) r2 cl2) r2 (nums .i64 (vls x4 r2)) →
                W.cell? ⟨eb, 10, none⟩ = some (.slice A jj cA) ∧ ∀ i, i < r2 → W.cell? (al.add i) = some (.int .i64 (vl x4 i)) := by
              intro W e' he' hS hO
              subst he'
              refine ⟨?_, fun i hi => ?_⟩
              · have h := hS.ebk.cell 10
                have h2 : (row ⟨1, key, pad (vls x2 j), vls x4 (2 * jj)⟩ A cA)[10]? = some (.slice A ((vls x4 (2 * jj)).length / 2) cA) := rfl
                rw [h2, vls_len, show 2 * jj / 2 = jj from by omega] at h
                exact h
              · obtain ⟨al2, h1, _, h2⟩ := (RI.of_own hO).2.one (j := i) (by rw [vls_len]; exact hi)
                obtain rfl := Option.some.inj h1
                rw [h2, vls_rd x4 hi]
            have HC := Lib.hid hC
            clear hC
            have hg2i : (g2 : Int) < r2 := by omega
            have hg2n : g2 < r2 := by omega
            refine wp_region_treeK (C := fun w' => w'.cell? ⟨eb, 10, none⟩ = some (.slice A jj cA) ∧ ∀ i, i < r2 → w'.cell? (al.add i) = some (.int .i64 (vl x4 i))) 15 (.seg [0, 1, 2, 3, 4, 5, 6, 7, 8, 9, 10, 11] (.turn 12 (.turn 13 (.seg [14] .last)))) (by kernel_rfl) (by kernel_rfl) (HC.out wr _ rfl HS.out HO.out) ?_
            simp only [wpPlanK, List.map_cons, List.map_nil, opAt, List.getElem?_cons_succ, List.getElem?_cons_zero, Option.getD_some]
            repeat (go_big_quiet_step (fail))
            refine wpQuiet_got (.pointer (some ⟨eb, 10, none⟩)) (by rfl) (fun w' hw' => ?_) (fun K hK => ?_)
            · go_simp
            go_simp
            refine hK _ ?_
            clear hK K
            repeat (go_big_quiet_step (fail))
            refine wpQuiet_got (.slice A jj cA) (by rfl) (fun w' hw' => ?_) (fun K hK => ?_)
            · have hl2 := hw'.1
              go_simp
            go_simp
            refine hK _ ?_
            clear hK K
            repeat (go_big_quiet_step (fail))
            refine wpQuiet_got (.pointer (some (al.add g2))) (by rfl) (fun w' hw' => ?_) (fun K hK => ?_)
            · go_simp
            go_simp
            refine hK _ ?_
            clear hK K
            repeat (go_big_quiet_step (fail))
            refine wpQuiet_got (.int .i64 (vl x4 g2)) (by rfl) (fun w' hw' => ?_) (fun K hK => ?_)
            · have hl2 := hw'.2 g2 hg2n
              go_simp
            go_simp
            refine hK _ ?_
            clear hK K
            repeat (go_big_quiet_step (fail))
            refine wpQuiet_got (.int .i64 ((g2 : Int) + 1)) (by rfl) (fun w' hw' => ?_) (fun K hK => ?_)
            · go_simp
              exact IntWalk.i64_in _ (by omega)
            go_simp
            refine hK _ ?_
            clear hK K
            repeat (go_big_quiet_step (fail))
            refine wpQuiet_got (.pointer (some ⟨al.block, al.off + (g2 + 1), none⟩)) (by rfl) (fun w' hw' => ?_) (fun K hK => ?_)
            · go_simp
              intro hneg; omega
            go_simp
            refine hK _ ?_
            clear hK K
            repeat (go_big_quiet_step (fail))
            refine wpQuiet_got (.int .i64 (vl x4 (g2 + 1))) (by rfl) (fun w' hw' => ?_) (fun K hK => ?_)
            · have hl2 := hw'.2 (g2 + 1) hlt
              have hl3 : w'.cell? ⟨al.block, al.off + (g2 + 1), none⟩ = some (.int .i64 (vl x4 (g2 + 1))) := by rw [← hl2]; simp [Addr.add]
              go_simp
            go_simp
            refine hK _ ?_
            clear hK K
            repeat (go_big_quiet_step (fail))
            refine wpQuiet_got (.agg #[.int .i64 (vl x4 g2), .int .i64 (vl x4 (g2 + 1))]) (by rfl) (fun w' hw' => ?_) (fun K hK => ?_)
            · go_simp
            go_simp
            refine hK _ ?_
            clear hK K
            repeat (go_big_quiet_step (fail))
            refine wpQuiet_nil ?_
            go_wp2_with fail
            obtain ⟨va, hva⟩ : ∃ v, v = vl x4 g2 := ⟨_, rfl⟩
            obtain ⟨vb, hvb⟩ : ∃ v, v = vl x4 (g2 + 1) := ⟨_, rfl⟩
            rw [← hva, ← hvb]
            have hS8 := (HS.out.grown (World.grownBy_alloc wr (.cells #[.int .i64 va, .int .i64 vb] 44) none) (fun k hk => by cases hk) htb0 hte).drew
            have hTO8 : TOwn (wr.alloc (.cells #[.int .i64 va, .int .i64 vb] 44)).drew b2 (.slice A jj cA) (vls x4 (2 * jj)) := by
              have h := HTO.out.grown (World.grownBy_alloc wr (.cells #[.int .i64 va, .int .i64 vb] 44) none) (fun k hk => by simp)
              exact h
            have hO8 : (wr.alloc (.cells #[.int .i64 va, .int .i64 vb] 44)).drew.ownsRow (eb + 1) 2 1 (.slice (some al) r2 cl2) r2 (nums .i64 (vls x4 r2)) := by
              have h := own_grown HO.out (World.grownBy_alloc wr (.cells #[.int .i64 va, .int .i64 vb] 44) none) (fun k hk => by simp)
              exact h
            have hX8 : RI (wr.alloc (.cells #[.int .i64 va, .int .i64 vb] 44)).drew w.heap.size .u8 (some ad) (1 :: xs) := HX7.out.alloc (by have := HS.out.bel.size; omega) _
            have hT8 : RI (wr.alloc (.cells #[.int .i64 va, .int .i64 vb] 44)).drew (wr.alloc (.cells #[.int .i64 va, .int .i64 vb] 44)).drew.heap.size .i64 (some ⟨wr.heap.size, 0, none⟩) [va, vb] := RI.of_lit (Blk.new wr _ _) rfl
            have hbw8 : b2 ≤ (wr.alloc (.cells #[.int .i64 va, .int .i64 vb] 44)).drew.heap.size := by show b2 ≤ (wr.alloc _).heap.size; simp; omega
            obtain ⟨W8, hW8⟩ : ∃ W8, W8 = (wr.alloc (.cells #[.int .i64 va, .int .i64 vb] 44)).drew := ⟨_, rfl⟩
            rw [← hW8] at hS8 hTO8 hO8 hX8 hT8 hbw8 ⊢
            have HVA := Lib.hid hva
            have HVB := Lib.hid hvb
            clear hW8 hva hvb HS HTO HO HX7
            refine ⟨HC.out W8 _ rfl hS8 hO8, ?_⟩
            have hvl := vls_len x4 (2 * jj)
            have hgj := HG2.out
            go_wp2_with (at_builtin; refine wpList_appT W8 rfl (.tmp 114) (.tmp 125) rfl b2 (.slice A jj cA) (vls x4 (2 * jj)) hTO8 rfl _ (some ⟨wr.heap.size, 0, none⟩) 1 1 [va, vb] rfl rfl hT8 (by rw [vls_len]; simp; omega) hbw8 ?_; intro A9 n9 c9 W9 hO9 hg9)
            have hown9 : ∀ k, (Value.slice A jj cA).ownBlock = some k → b2 ≤ k := fun k hk => hTO8.base k hk
            have hS9 := hS8.grown hg9 (fun k hk => by have := hown9 k hk; omega) htb0 hte
            have hOw9 := own_grown hO8 hg9 (fun k hk h => by have h1 := HLB.out k hk; have h2 := hown9 k h.symm; omega)
            have hX9 := hX8.grown hg9 (hS8.bel.size) (fun k hk => by have h2 := hown9 k hk; have := hS8.bel.size; omega)
            have hbw9 := hg9.size
            refine ⟨HC.out W9 _ rfl hS9 hOw9, ?_⟩
            repeat (go_big_quiet_step (fail))
            refine wpQuiet_got (.pointer (some ⟨eb, 10, none⟩)) (by rfl) (fun w' hw' => ?_) (fun K hK => ?_)
            · go_simp
            go_simp
            refine hK _ ?_
            clear hK K
            repeat (go_big_quiet_step (fail))
            refine wpQuiet_nil ?_
            have ct := (HC.out W9 _ rfl hS9 hOw9).1
            have ft := hS9.ebk.frozen 10
            have hn9 := (town_ri hO9).1
            have hfl : vls x4 (2 * jj) ++ [va, vb] = vls x4 (2 * (jj + 1)) := by
              rw [show 2 * (jj + 1) = 2 * jj + 1 + 1 from by omega, vls_succ, vls_succ, HVA.out, HVB.out, hgj]
              simp
            rw [hfl] at hO9 hn9
            have hn9' : n9 = jj + 1 := by rw [hn9, vls_len]; omega
            have hrow : (row ⟨1, key, pad (vls x2 j), vls x4 (2 * jj)⟩ A cA).setIfInBounds 10 (.slice A9 (jj + 1) c9) = row ⟨1, key, pad (vls x2 j), vls x4 (2 * (jj + 1))⟩ A9 c9 := by
              have h := row_set_ts 1 key (pad (vls x2 j)) (vls x4 (2 * jj)) (vls x4 (2 * (jj + 1))) A A9 cA c9
              rw [vls_len, show 2 * (jj + 1) / 2 = jj + 1 from by omega] at h
              exact h
            subst hn9'
            have HS10 := Lib.hid (hS9.set_ htb0 hte 10 (.slice A9 (jj + 1) c9) hrow)
            have HTO10 := Lib.hid (hO9.grown (grown_set W9 eb 10 (.slice A9 (jj + 1) c9)) (fun k hk => by have := hO9.base k hk; simp; omega))
            have HO10 := Lib.hid (own_grown hOw9 (grown_set W9 eb 10 (.slice A9 (jj + 1) c9)) (fun k hk => by have := (hOw9.lt k hk).1; simp; omega))
            have HX10 := Lib.hid (hX9.setCell (p := ⟨eb, 10, none⟩) (by show w.heap.size ≤ eb; omega) (.slice A9 (jj + 1) c9))
            have hw10 : IntKind.i64.wrap ((g2 : Int) + 2) = (g2 : Int) + 2 := IntWalk.i64_in _ (by omega)
            have HGJ := Lib.hid hgj
            clear hrow hfl hn9 hO9 hg9 hS9 hvl hS8 hTO8 hO8 hX8 hT8 hOw9 hX9 hown9 HC hgj
            go_wp2_with fail
            rw [onlyNormal_normal]
            go_wp2
            go_roundw
            case rel => exact ⟨jj + 1, A9, c9, by have := HGJ.out; omega, (by rw [show ((2 * (jj + 1) : Nat) : Int) = 2 * (jj : Int) + 2 from by omega]), HS10, HTO10, HO10, HX10, by simp; omega⟩
            case measure => have := HGJ.out; simp [intOf]; omega
          · have hlt' : ¬ (g2 : Int) + 1 < r2 := by omega
            have hdl := decide_eq_false hlt'
            have hr2j : r2 / 2 = jj := by omega
            have hvl := vls_len x4 (2 * jj)
            have hw3 : IntKind.i64.wrap ((g2 : Int) + 1) = (g2 : Int) + 1 := IntWalk.i64_in _ (by omega)
            have hEok := Lib.hid (show Ev.ok ⟨1, key, pad (vls x2 j), vls x4 (2 * jj)⟩ from ⟨by simp, by simp, hk0.1, hk0.2, HPL.out, HPI.out, vls_I64 HBY4.out _, by rw [vls_len]; omega⟩)
            have hEform := Lib.hid (show Ev.form ⟨1, key, pad (vls x2 j), vls x4 (2 * jj)⟩ from ⟨by show 0 ≤ cnt 1; have := HN.out; omega, by simp only [vls_len]; omega, .inr rfl, HPZ.out⟩)
            have hri9 := Lib.hid (town_ri HTO.out)
            have hfin := Lib.hid (show ∀ e', par (1 :: xs) = some (e', []) → e' = ⟨1, key, pad (vls x2 j), vls x4 (2 * jj)⟩ by
              have := (doc_b (r2 := r2) HN.out HCODE.out hrn (by rw [← HX2.out]; exact HEND.out) (by rw [← HX2.out, ← HX3.out]; exact HC3.out) (t := t) (by rw [← HX2.out, ← HX3.out]; exact HT.out)).2 (by have := HM2.out; omega) (by rw [← HX2.out, ← HX3.out, ← HX4.out, ← HM2.out]; exact HEND2.out)
              rw [← HX2.out, ← HX3.out, ← HX4.out, ← HKEY.out, hr2j] at this
              exact this)
            have hown := Lib.hid (fun k hk => HTO.out.base k hk)
            clear hvl hr2j hlt hlt' HTO HO hg2 e5 e6 hw2 hm16 hat3n hat3l ht8' ht8 hdt ht64 hl4 hl3 hat2n hat2l hq3x hd2 hrn2 hbw hjj heb6 hs9 hatl hkx hrn hl2 hcd' hn00 hn01 hd4 h4 h4' hqx heb4
            have HFIN := Lib.hid (doc_fin HLE.out hEok.out hEform.out hfin.out HBY.out)
            go_wp2_with (first
              | (refine wpList_load_row rfl 26 (.tmp 4) rfl eb rfl 26 (row ⟨1, key, pad (vls x2 j), vls x4 (2 * jj)⟩ A cA) (0, 0) _ HS.out.ebk Try.underlying26 rfl (by rw [row_size]; kernel_rfl) ?_))
            refine (refwrite_ok ⟨1, key, pad (vls x2 j), vls x4 (2 * jj)⟩ A cA wr hEok.out hEform.out (hri9.out.2.2) (by have := hri9.out.2.1; simp only [vls_len]; omega)).mono ?_
            rintro e1 W8 ⟨v8, rfl, f8⟩
            obtain ⟨A8, c8, rfl⟩ := own_slice f8.1
            have hsw := HS.out.bel.size
            have hs8 := f8.2.size
            have HS8 := Lib.hid (HS.out.below f8.2)
            have HX8 := Lib.hid (HX7.out.below (f8.2.mono hsw))
            have hri8 := fresh_ri f8
            have hEl := (wr_len ⟨1, key, pad (vls x2 j), vls x4 (2 * jj)⟩ hEform.out hEok.out.len).1
            have hri10 := Lib.hid (hri9.out.2.2.below f8.2)
            clear f8
            go_wp2_with fail
            refine (SameBytes.any W8.heap.size A8 (some ad) c8 c (Event.wr ⟨1, key, pad (vls x2 j), vls x4 (2 * jj)⟩) (1 :: xs) W8 hri8 (HX8.out.more (by omega)) (by omega) (by simp; omega)).mono ?_
            rintro e1 W9 ⟨rfl, q9, rfl⟩
            have HS9 := Lib.hid (show Sd w (W8.drewN q9) tb eb ⟨1, key, pad (vls x2 j), vls x4 (2 * jj)⟩ A cA from ⟨HS8.out.tbk.drewN q9, HS8.out.ebk.drewN q9, below_drewN HS8.out.bel q9⟩)
            by_cases hw : Event.wr ⟨1, key, pad (vls x2 j), vls x4 (2 * jj)⟩ = 1 :: xs
            · have hrd := Lib.hid (HFIN.out.1 hw)
              have hdw := decide_eq_true hw
              rw [hdw]
              clear hw hdw HFIN hEl
              go_wp2_with (first
                | (refine wpList_load_row rfl 26 (.tmp 4) rfl eb rfl 26 (row ⟨1, key, pad (vls x2 j), vls x4 (2 * jj)⟩ A cA) (0, 0) _ HS9.out.ebk Try.underlying26 rfl (by rw [row_size]; kernel_rfl) ?_)
                | (refine wpList_put rfl 26 (.tmp 2) (.tmp 134) rfl tb (row ⟨1, key, pad (vls x2 j), vls x4 (2 * jj)⟩ A cA) rfl rfl 26 _ HS9.out.tbk (by rw [row_size]; kernel_rfl) rfl (row_all _ _ _) ?_
                   intro WE HBE hfarE hbelE hszE hclE))
              exact bodyPost_ret (results_cell_row2 rfl _ WE tb 26 (row ⟨1, key, pad (vls x2 j), vls x4 (2 * jj)⟩ A cA) _ (.int .i64 0) rfl HBE Try.underlying26 rfl (by rw [row_size]; kernel_rfl) rfl) rfl ⟨A, cA, by rw [hrd.out], by rw [hrd.out]; rw [hszE]; exact RI.away (RI.more (hri10.out : RI (W8.drewN q9) wr.heap.size .i64 A _) hs8) (fun ad h => by have := hown.out ad.block (by rw [h]; rfl); omega) hclE, by rw [hrd.out]; simp only [vls_len]; have := hri9.out.2.1; omega, hbelE w.heap.size w (by omega) HS9.out.bel⟩
            · have hrd := Lib.hid (HFIN.out.2 hw)
              have hdw := decide_eq_false hw
              rw [hdw]
              clear hw hdw HFIN hEl
              go_wp2_with (first
                | (refine wpList_put rfl 26 (.tmp 2) (.tmp 133) rfl tb (row Ev.zero none 0) rfl rfl 26 _ HS9.out.tbk (by kernel_rfl) rfl (row_all _ _ _) ?_
                   intro WE HBE hfarE hbelE hszE hclE))
              exact bodyPost_ret (results_cell_row2 rfl _ WE tb 26 (row Ev.zero none 0) _ (.int .i64 3) rfl HBE Try.underlying26 rfl (by kernel_rfl) rfl) rfl ⟨none, 0, by first | rw [hrd.out] | rfl, by first | (rw [hrd.out]; exact RI.nil) | exact RI.nil, by first | (rw [hrd.out]; simp [Ev.zero]) | simp [Ev.zero], hbelE w.heap.size w (by omega) HS9.out.bel⟩
      · have e1 : (op == 1) = false := by simpa using h1
        have hEok := Lib.hid (show Ev.ok ⟨op, key, pad (vls x2 j), []⟩ from ⟨hop.1, hop.2, hk0.1, hk0.2, HPL.out, HPI.out, (fun n hn => by simp at hn), rfl⟩)
        have hEform := Lib.hid (show Ev.form ⟨op, key, pad (vls x2 j), []⟩ from ⟨by have := HN.out; simp only; omega, by simp, .inl rfl, HPZ.out⟩)
        have HFIN := Lib.hid (doc_fin HLE.out hEok.out hEform.out (by have := doc_a HN.out h1 HCODE.out hrn (by rw [← HX2.out]; exact HEND.out); rw [← HX2.out, ← HKEY.out] at this; exact this) HBY.out)
        go_wp2_with (first
          | (refine wpList_load_row rfl 26 (.tmp 4) rfl eb rfl 26 (row ⟨op, key, pad (vls x2 j), []⟩ none 0) (0, 0) _ HS.out.ebk Try.underlying26 rfl (by rw [row_size]; kernel_rfl) ?_))
        refine (refwrite_ok ⟨op, key, pad (vls x2 j), []⟩ none 0 wr hEok.out hEform.out (RI.nil) (by simp)).mono ?_
        rintro e1 W8 ⟨v8, rfl, f8⟩
        obtain ⟨A8, c8, rfl⟩ := own_slice f8.1
        have hsw := HS.out.bel.size
        have hs8 := f8.2.size
        have HS8 := Lib.hid (HS.out.below f8.2)
        have HX8 := Lib.hid (HX7.out.below (f8.2.mono hsw))
        have hri8 := fresh_ri f8
        have hEl := (wr_len ⟨op, key, pad (vls x2 j), []⟩ hEform.out hEok.out.len).1
        clear f8
        go_wp2_with fail
        refine (SameBytes.any W8.heap.size A8 (some ad) c8 c (Event.wr ⟨op, key, pad (vls x2 j), []⟩) (op :: xs) W8 hri8 (HX8.out.more (by omega)) (by omega) (by simp; omega)).mono ?_
        rintro e1 W9 ⟨rfl, q9, rfl⟩
        have HS9 := Lib.hid (show Sd w (W8.drewN q9) tb eb ⟨op, key, pad (vls x2 j), []⟩ none 0 from ⟨HS8.out.tbk.drewN q9, HS8.out.ebk.drewN q9, below_drewN HS8.out.bel q9⟩)
        by_cases hw : Event.wr ⟨op, key, pad (vls x2 j), []⟩ = op :: xs
        · have hrd := Lib.hid (HFIN.out.1 hw)
          have hdw := decide_eq_true hw
          rw [hdw]
          clear hw hdw HFIN hEl
          go_wp2_with (first
            | (refine wpList_load_row rfl 26 (.tmp 4) rfl eb rfl 26 (row ⟨op, key, pad (vls x2 j), []⟩ none 0) (0, 0) _ HS9.out.ebk Try.underlying26 rfl (by rw [row_size]; kernel_rfl) ?_)
            | (refine wpList_put rfl 26 (.tmp 2) (.tmp 134) rfl tb (row ⟨op, key, pad (vls x2 j), []⟩ none 0) rfl rfl 26 _ HS9.out.tbk (by rw [row_size]; kernel_rfl) rfl (row_all _ _ _) ?_
               intro WE HBE hfarE hbelE hszE hclE))
          exact bodyPost_ret (results_cell_row2 rfl _ WE tb 26 (row ⟨op, key, pad (vls x2 j), []⟩ none 0) _ (.int .i64 0) rfl HBE Try.underlying26 rfl (by rw [row_size]; kernel_rfl) rfl) rfl ⟨none, 0, by rw [hrd.out], by rw [hrd.out]; exact RI.nil, by rw [hrd.out]; simp, hbelE w.heap.size w (by omega) HS9.out.bel⟩
        · have hrd := Lib.hid (HFIN.out.2 hw)
          have hdw := decide_eq_false hw
          rw [hdw]
          clear hw hdw HFIN hEl
          go_wp2_with (first
            | (refine wpList_put rfl 26 (.tmp 2) (.tmp 133) rfl tb (row Ev.zero none 0) rfl rfl 26 _ HS9.out.tbk (by kernel_rfl) rfl (row_all _ _ _) ?_
               intro WE HBE hfarE hbelE hszE hclE))
          exact bodyPost_ret (results_cell_row2 rfl _ WE tb 26 (row Ev.zero none 0) _ (.int .i64 3) rfl HBE Try.underlying26 rfl (by kernel_rfl) rfl) rfl ⟨none, 0, by first | rw [hrd.out] | rfl, by first | (rw [hrd.out]; exact RI.nil) | exact RI.nil, by first | (rw [hrd.out]; simp [Ev.zero]) | simp [Ev.zero], hbelE w.heap.size w (by omega) HS9.out.bel⟩
end Go.Proofs.Ytkcfeaonkgpbdaa.Event
