import Derived.Test.YtkcfeaonkgpbdaaEvG
/-! event.Read -/
namespace Go.Proofs.Ytkcfeaonkgpbdaa.Event
open Go.RowKit Go.Deep Go.Proofs.Ytkcfeaonkgpbdaa Go.Proofs.Ytkcfeaonkgpbdaa.Pack
set_option linter.unusedVariables false
set_option linter.unusedSimpArgs false
theorem bads_or (xs : List Int) (b : Bool) : bads xs b = (b || bads xs false) := by unfold bads; simp
theorem bd_or (b : Bool) (xs : List Int) : ∀ m, bd b xs m = (b || bd false xs m)
  | 0 => by simp [bd]
  | m + 1 => by
    simp only [bd]
    rw [bd_or b xs m, bads_or _ (b || bd false xs m), bads_or _ (bd false xs m), Bool.or_assoc]
theorem bads_false {xs : List Int} (h : bads xs false = false) : ∃ k, dec xs = some ((rdU xs).1, k) ∧ xs.drop k = rest xs := by
  have h0 : (rdU xs).2.2 = 0 := by unfold bads at h; simpa using h
  obtain ⟨k, hk, _⟩ := rdU_ok h0
  exact ⟨k, hk, (dec_rest hk).1.symm⟩
theorem bads_bad {xs : List Int} (h : bads xs false = true) : dec xs = none := rdU_bad (by unfold bads at h; simpa using h)
/-- what op, key and the numbers say -/
theorem par_a {op : Int} {xs : List Int} {n : Nat} (hn : cnt op = n) (h1 : op ≠ 1) :
    (bd (bads xs false) (rest xs) n = false → par (op :: xs) = some (⟨op, (rdU xs).1, pad (vls (rest xs) n), []⟩, rs n (rest xs))) ∧ (bd (bads xs false) (rest xs) n = true → par (op :: xs) = none) := by
  rw [bd_or]
  simp only [par]
  rw [if_neg (by omega), hn]
  cases hb : bads xs false with
  | true =>
    rw [bads_bad hb]
    exact ⟨fun h => by simp at h, fun _ => rfl⟩
  | false =>
    obtain ⟨k, hk, hr⟩ := bads_false hb
    rw [hk]
    simp only [hr, Int.toNat_natCast]
    have hd := decs_it n (rest xs)
    refine ⟨fun h => ?_, fun h => ?_⟩
    · rw [hd.1 (by simpa using h)]
      simp only [if_neg h1, pad]
    · rw [hd.2 (by simpa using h)]
theorem par_b {xs : List Int} {n : Nat} (hn : cnt 1 = n) :
    let xs3 := rs n (rest xs)
    let b4 := bads xs3 (bd (bads xs false) (rest xs) n)
    (b4 = true → par (1 :: xs) = none) ∧ (8 < (rdU xs3).1 → par (1 :: xs) = none) ∧
    (b4 = false → ¬ 8 < (rdU xs3).1 → (bd b4 (rest xs3) (2 * (rdU xs3).1.toNat) = false → par (1 :: xs) = some (⟨1, (rdU xs).1, pad (vls (rest xs) n), vls (rest xs3) (2 * (rdU xs3).1.toNat)⟩, rs (2 * (rdU xs3).1.toNat) (rest xs3))) ∧
      (bd b4 (rest xs3) (2 * (rdU xs3).1.toNat) = true → par (1 :: xs) = none)) := by
  intro xs3 b4
  have hb4 : b4 = ((bads xs false || bd false (rest xs) n) || bads xs3 false) := by
    show bads xs3 (bd (bads xs false) (rest xs) n) = _
    rw [bads_or, bd_or]
  simp only [par]
  rw [if_neg (by omega), hn]
  cases hb : bads xs false with
  | true =>
    rw [bads_bad hb]
    refine ⟨fun _ => rfl, fun _ => rfl, fun h => ?_⟩
    rw [hb4, hb] at h; simp at h
  | false =>
    obtain ⟨k, hk, hr⟩ := bads_false hb
    rw [hk]
    simp only [hr, Int.toNat_natCast]
    have hd := decs_it n (rest xs)
    cases hbn : bd false (rest xs) n with
    | true =>
      rw [hd.2 hbn]
      refine ⟨fun _ => rfl, fun _ => rfl, fun h => ?_⟩
      rw [hb4, hb, hbn] at h; simp at h
    | false =>
      rw [hd.1 hbn]
      have hx3 : rs n (rest xs) = xs3 := rfl
      simp only [hx3, if_true]
      cases hb3 : bads xs3 false with
      | true =>
        rw [bads_bad hb3]
        refine ⟨fun _ => rfl, fun _ => rfl, fun h => ?_⟩
        rw [hb4, hb, hbn, hb3] at h; simp at h
      | false =>
        obtain ⟨k3, hk3, hr3⟩ := bads_false hb3
        rw [hk3]
        simp only [hr3]
        have hb40 : b4 = false := by rw [hb4, hb, hbn, hb3]; rfl
        rw [hb40]
        refine ⟨fun h => (by cases h), fun h => (by rw [if_pos h]), fun _ h8 => ?_⟩
        rw [if_neg h8]
        have hd2 := decs_it (2 * (rdU xs3).1.toNat) (rest xs3)
        refine ⟨fun h => ?_, fun h => ?_⟩
        · rw [hd2.1 h]; simp only [pad]
        · rw [hd2.2 h]
theorem rdEv_of_none {p : List Int} (hl : p.length ≤ 4096) (h : par p = none) : rdEv p = (Ev.zero, 3) := rdEv_none hl (fun e he => by rw [h] at he; cases he)
theorem rdEv_of_rest {p : List Int} {e : Ev} {r : List Int} (hl : p.length ≤ 4096) (h : par p = some (e, r)) (hr : r ≠ []) : rdEv p = (Ev.zero, 3) := rdEv_none hl (fun e he => by
  rw [h] at he
  simp only [Option.some.injEq, Prod.mk.injEq] at he
  exact hr he.2)
theorem row_all (e : Ev) (A : Option Addr) (c : Nat) : (row e A c).all (·.oneCell') = true := by rw [row, List.all_toArray]; rfl
theorem first_row (op : Int) : (#[.int .u8 op, .int .u64 0, .int .i64 0, .int .i64 0, .int .i64 0, .int .i64 0, .int .i64 0, .int .i64 0, .int .i64 0, .int .i64 0, .slice none 0 0] : Array Value) = row ⟨op, 0, pad [], []⟩ none 0 := by
  have : pad [] = [0, 0, 0, 0, 0, 0, 0, 0] := rfl
  rw [this]
  simp [row, rd]
theorem zero_row (w : World) : Blk (w.alloc (.cells #[.int .u8 0, .int .u64 0, .int .i64 0, .int .i64 0, .int .i64 0, .int .i64 0, .int .i64 0, .int .i64 0, .int .i64 0, .int .i64 0, .slice none 0 0] 26)) w.heap.size 26 (row Ev.zero none 0) := Blk.new w _ _
theorem Blk.grown {w w' : World} {g : Nat} {t : TypeId} {cs : Array Value} {r : Option Nat} (h : Blk w g t cs) (hg : w.grownBy w' r) (hne : some g ≠ r) : Blk w' g t cs := (hg.block g h.lt hne).trans h
theorem below_grown {B : Nat} {w W W' : World} {r : Option Nat} (h : Below B w W) (hg : W.grownBy W' r) (hr : ∀ k, r = some k → B ≤ k) (hB : B ≤ W.heap.size) : Below B w W' :=
  ⟨hg.os.trans h.os, hg.tape.trans h.tape, hg.output.trans h.output, Nat.le_trans h.size hg.size, fun k hk => (hg.block k (Nat.lt_of_lt_of_le hk hB) (fun e => by have := hr k e.symm; omega)).trans (h.block k hk)⟩
structure St (w W : World) (tb eb rb : Nat) (e : Ev) (A : Option Addr) (c : Nat) (ys : List Int) (bad : Bool) : Prop where
  tbk : Blk W tb 26 (row Ev.zero none 0)
  ebk : Blk W eb 26 (row e A c)
  rst : Rst W rb w.heap.size ys bad
  bel : Below w.heap.size w W
theorem Rst.lt {w : World} {b B : Nat} {xs : List Int} {bad : Bool} (h : Rst w b B xs bad) : b < w.heap.size := by obtain ⟨_, _, h, _⟩ := h; exact h.lt
theorem Rst.far {w : World} {b B : Nat} {xs : List Int} {bad : Bool} (h : Rst w b B xs bad) {p : Addr} (hp : b ≠ p.block) (hB : B ≤ p.block) (u : Value) : Rst (w.setCell p u) b B xs bad := by
  obtain ⟨A, c, h1, h2, h3⟩ := h
  exact ⟨A, c, h1.far hp u, h2, h3.setCell hB u⟩
theorem Rst.grown {w w' : World} {b B : Nat} {xs : List Int} {bad : Bool} {r : Option Nat} (h : Rst w b B xs bad) (hg : w.grownBy w' r) (hne : some b ≠ r) (hB : B ≤ b) (hr : ∀ k, r = some k → B ≤ k) : Rst w' b B xs bad := by
  obtain ⟨A, c, h1, h2, h3⟩ := h
  exact ⟨A, c, Blk.grown h1 hg hne, h2, h3.grown hg (Nat.le_trans hB (Nat.le_of_lt h1.lt)) hr⟩
theorem St.read {w W W' : World} {tb eb rb : Nat} {e : Ev} {A : Option Addr} {c : Nat} {ys ys' : List Int} {bad bad' : Bool} (h : St w W tb eb rb e A c ys bad) (hg : W.grownBy W' (some rb)) (hr : Rst W' rb w.heap.size ys' bad') (h0 : w.heap.size ≤ tb) (h1 : tb < eb) (h2 : eb < rb) : St w W' tb eb rb e A c ys' bad' :=
  ⟨Blk.grown h.tbk hg (by simp; omega), Blk.grown h.ebk hg (by simp; omega), hr, below_grown h.bel hg (fun k hk => by injection hk; omega) h.bel.size⟩
theorem St.set_ {w W : World} {tb eb rb : Nat} {e e' : Ev} {A A' : Option Addr} {c c' : Nat} {ys : List Int} {bad : Bool} (h : St w W tb eb rb e A c ys bad) (h0 : w.heap.size ≤ tb) (h1 : tb < eb) (h2 : eb < rb) (i : Nat) (u : Value) (hrow : (row e A c).setIfInBounds i u = row e' A' c') :
    St w (W.setCell ⟨eb, i, none⟩ u) tb eb rb e' A' c' ys bad :=
  ⟨h.tbk.far (by simp; omega) u, by rw [← hrow]; exact h.ebk.set_ i u, h.rst.far (by simp; omega) (by show w.heap.size ≤ eb; omega) u, h.bel.setCell (by show w.heap.size ≤ eb; omega) u⟩
theorem row_size (e : Ev) (A : Option Addr) (c : Nat) : (row e A c).size = 11 := rfl
theorem RI.away {w w' : World} {B g : Nat} {k : IntKind} {A : Option Addr} {xs : List Int} (h : RI w B k A xs) (hA : ∀ ad, A = some ad → ad.block ≠ g) (hc : ∀ p : Addr, p.block ≠ g → w'.cell? p = w.cell? p) : RI w' B k A xs := by
  refine ⟨h.1, fun hn => ?_⟩
  obtain ⟨ad, rfl, hb, hcell⟩ := h.2 hn
  exact ⟨ad, rfl, hb, fun j u hu => (hc _ (by rw [block_of_add]; exact hA ad rfl)).trans (hcell j u hu)⟩
theorem TOwn.grown {w w' : World} {base : Nat} {v : Value} {fl : List Int} {r : Option Nat} (h : TOwn w base v fl) (hg : w.grownBy w' r) (hne : ∀ k, v.ownBlock = some k → some k ≠ r) : TOwn w' base v fl := by
  refine ⟨h.1, h.2.1, ?_⟩
  rcases h.2.2 with h1 | ⟨g, cap, cur, hv, hb, hh, h1⟩
  · exact .inl h1
  · refine .inr ⟨g, cap, cur, hv, hb, (hg.block g (Array.getElem?_eq_some_iff.1 hh).1 (hne g (by rw [hv]; rfl))).trans hh, h1⟩
theorem TOwn.base {w : World} {base : Nat} {v : Value} {fl : List Int} (h : TOwn w base v fl) : ∀ k, v.ownBlock = some k → base ≤ k := fun k hk => (h.2.lt k hk).1
theorem St.grown {w W W' : World} {tb eb rb : Nat} {e : Ev} {A : Option Addr} {c : Nat} {ys : List Int} {bad : Bool} {r : Option Nat} (h : St w W tb eb rb e A c ys bad) (hg : W.grownBy W' r) (hr : ∀ k, r = some k → rb < k) (h0 : w.heap.size ≤ tb) (h1 : tb < eb) (h2 : eb < rb) : St w W' tb eb rb e A c ys bad :=
  ⟨Blk.grown h.tbk hg (fun e => by have := hr tb e.symm; omega), Blk.grown h.ebk hg (fun e => by have := hr eb e.symm; omega), h.rst.grown hg (fun e => by have := hr rb e.symm; omega) (by omega) (fun k hk => by have := hr k hk; omega), below_grown h.bel hg (fun k hk => by have := hr k hk; omega) h.bel.size⟩
theorem St.drew {w W : World} {tb eb rb : Nat} {e : Ev} {A : Option Addr} {c : Nat} {ys : List Int} {bad : Bool} (h : St w W tb eb rb e A c ys bad) : St w W.drew tb eb rb e A c ys bad :=
  ⟨h.tbk, h.ebk, h.rst, h.bel.drew⟩
set_option maxRecDepth 1000000 in
set_option maxHeartbeats 40000000 in
theorem read_ok (P : Option Addr) (c : Nat) (xs : List Int) (w : World) (hx : RI w w.heap.size .u8 P xs) (hc : xs.length ≤ c) (hl : xs.length ≤ 140737488355328) (hb : Byt xs) :
    Calls Try.prog 17 #[.slice P xs.length c] w fun x w' => ∃ A c', x = .returned (.tuple #[.agg (row (rdEv xs).1 A c'), .int .i64 (rdEv xs).2]) ∧ RI w' w'.heap.size .i64 A (rdEv xs).1.ts ∧ (rdEv xs).1.ts.length / 2 ≤ c' ∧ Below w.heap.size w w' := by
  have HX := Lib.hid hx
  have HBY := Lib.hid hb
  clear hx hb
  obtain ⟨n0, hn0⟩ : ∃ n0, n0 = xs.length := ⟨_, rfl⟩
  rw [← hn0] at hc hl ⊢
  have HN0 := Lib.hid hn0
  clear hn0
  go_enter Try.func17, Try.ntmps17
  go_upto_region 1 with fail
  have hZ := zero_row w
  have d0 : Below w.heap.size w _ := (Below.refl w.heap.size w).alloc (Nat.le_refl _) (.cells #[.int .u8 0, .int .u64 0, .int .i64 0, .int .i64 0, .int .i64 0, .int .i64 0, .int .i64 0, .int .i64 0, .int .i64 0, .int .i64 0, .slice none 0 0] 26)
  obtain ⟨W1, hW1⟩ : ∃ W1, W1 = w.alloc (.cells #[.int .u8 0, .int .u64 0, .int .i64 0, .int .i64 0, .int .i64 0, .int .i64 0, .int .i64 0, .int .i64 0, .int .i64 0, .int .i64 0, .slice none 0 0] 26) := ⟨_, rfl⟩
  rw [← hW1] at hZ d0 ⊢
  obtain ⟨tb, htb⟩ : ∃ tb, tb = w.heap.size := ⟨_, rfl⟩
  rw [← htb] at hZ ⊢
  have htb0 : w.heap.size ≤ tb := by omega
  have HZ := Lib.hid hZ
  have hlt1 := hZ.lt
  have HX1 := Lib.hid (HX.out.below d0)
  have D0 := Lib.hid d0
  clear hW1 htb hZ d0 HX
  by_cases h4 : 4096 < n0
  · have h4' : (4096 : Int) < n0 := by omega
    have hrd : rdEv xs = (Ev.zero, 2) := rdEv_long (by rw [← HN0.out]; exact h4)
    go_wp2_with (first
      | (refine wpList_put rfl 26 (.tmp 2) (.tmp 13) rfl tb (row Ev.zero none 0) rfl rfl 26 _ HZ.out (by kernel_rfl) rfl (row_all _ _ _) ?_
         intro WE HBE hfarE hbelE hszE hclE))
    exact bodyPost_ret (results_cell_row2 rfl _ WE tb 26 (row Ev.zero none 0) _ (.int .i64 2) rfl HBE Try.underlying26 rfl (by kernel_rfl) rfl) rfl ⟨none, 0, by first | rw [hrd] | rfl, by first | (rw [hrd]; exact RI.nil) | exact RI.nil, by first | (rw [hrd]; simp [Ev.zero]) | simp [Ev.zero], hbelE w.heap.size w (by omega) D0.out⟩
  have h4' : ¬ (4096 : Int) < n0 := by omega
  have hd4 := decide_eq_false h4'
  have hle : xs.length ≤ 4096 := by rw [← HN0.out]; omega
  have HLE := Lib.hid hle
  clear hle
  cases xs with
  | nil =>
    have hn : n0 = 0 := HN0.out
    subst hn
    have hrd : rdEv [] = (Ev.zero, 3) := rfl
    go_wp2_with (first
      | (refine wpList_put rfl 26 (.tmp 2) (.tmp 17) rfl tb (row Ev.zero none 0) rfl rfl 26 _ HZ.out (by kernel_rfl) rfl (row_all _ _ _) ?_
         intro WE HBE hfarE hbelE hszE hclE))
    exact bodyPost_ret (results_cell_row2 rfl _ WE tb 26 (row Ev.zero none 0) _ (.int .i64 3) rfl HBE Try.underlying26 rfl (by kernel_rfl) rfl) rfl ⟨none, 0, by first | rw [hrd] | rfl, by first | (rw [hrd]; exact RI.nil) | exact RI.nil, by first | (rw [hrd]; simp [Ev.zero]) | simp [Ev.zero], hbelE w.heap.size w (by omega) D0.out⟩
  | cons op xs =>
  have hn : n0 = xs.length + 1 := HN0.out
  have hop := HBY.out op (by simp)
  have hby : Byt xs := fun n hn => HBY.out n (by simp [hn])
  have hn00 : ((n0 : Int) == 0) = false := by simp; omega
  have hn01 : (0 : Int) < n0 := by omega
  obtain ⟨ad, rfl, hadb, hcell⟩ := HX1.out.one (j := 0) (by simp)
  have hrd0 : rd (op :: xs) 0 = op := rfl
  rw [hrd0] at hcell
  have hca : W1.cell? ad = some (.int .u8 op) := by simpa [Addr.add] using hcell
  clear hcell hrd0
  go_upto_region 6 with fail
  have hE := Blk.new W1 26 (row ⟨op, 0, pad [], []⟩ none 0)
  have hZ2 := HZ.out.alloc (.cells (row ⟨op, 0, pad [], []⟩ none 0) 26)
  have hX2 := HX1.out.alloc (by omega) (.cells (row ⟨op, 0, pad [], []⟩ none 0) 26)
  have D2 := D0.out.alloc D0.out.size (.cells (row ⟨op, 0, pad [], []⟩ none 0) 26)
  have hs2 : W1.heap.size < (W1.alloc (.cells (row ⟨op, 0, pad [], []⟩ none 0) 26)).heap.size := by simp
  obtain ⟨W2, hW2⟩ : ∃ W2, W2 = W1.alloc (.cells (row ⟨op, 0, pad [], []⟩ none 0) 26) := ⟨_, rfl⟩
  rw [← hW2] at hE hZ2 hX2 D2 hs2
  rw [show (#[.int .u8 op, .int .u64 0, .int .i64 0, .int .i64 0, .int .i64 0, .int .i64 0, .int .i64 0, .int .i64 0, .int .i64 0, .int .i64 0, .slice none 0 0] : Array Value) = row ⟨op, 0, pad [], []⟩ none 0 from first_row op]
  rw [← hW2]
  obtain ⟨eb, heb⟩ : ∃ eb, eb = W1.heap.size := ⟨_, rfl⟩
  rw [← heb] at hE hlt1 hs2 ⊢
  have HTE := Lib.hid hlt1
  clear hW2 heb D0 HX1 HZ hca
  have c0 : W2.cell? ⟨eb, 0, none⟩ = some (.int .u8 op) := hE.cell 0
  have HE2 := Lib.hid hE
  have HZ2 := Lib.hid hZ2
  have HX2 := Lib.hid hX2
  have HD2 := Lib.hid D2
  clear hE hZ2 hX2 D2
  go_wp2_with fail
  refine (count_ok op hop.1 hop.2 _).mono ?_
  rintro e1 w2 ⟨rfl, rfl⟩
  by_cases hcn : cnt op < 0
  · simp only [if_pos hcn]
    have hrd : rdEv (op :: xs) = (Ev.zero, 3) := rdEv_of_none HLE.out (by simp only [par]; rw [if_pos hcn])
    go_wp2_with (first
      | (refine wpList_put rfl 26 (.tmp 2) (.tmp 30) rfl tb (row Ev.zero none 0) rfl rfl 26 _ HZ2.out (by kernel_rfl) rfl (row_all _ _ _) ?_
         intro WE HBE hfarE hbelE hszE hclE))
    exact bodyPost_ret (results_cell_row2 rfl _ WE tb 26 (row Ev.zero none 0) _ (.int .i64 3) rfl HBE Try.underlying26 rfl (by kernel_rfl) rfl) rfl ⟨none, 0, by first | rw [hrd] | rfl, by first | (rw [hrd]; exact RI.nil) | exact RI.nil, by first | (rw [hrd]; simp [Ev.zero]) | simp [Ev.zero], hbelE w.heap.size w (by omega) HD2.out⟩
  simp only [if_neg hcn]
  obtain ⟨n, hn'⟩ : ∃ n : Nat, cnt op = n := ⟨(cnt op).toNat, by omega⟩
  have hcr := cnt_range op
  have hn8 : n ≤ 8 := by omega
  rw [hn']
  have HN := Lib.hid hn'
  clear hn' hcn hcr
  have e1 : n0 - 1 = xs.length := by omega
  have hc1 : 1 ≤ n0 := by omega
  have hxl : xs.length ≤ c - 1 := by omega
  go_upto_region 10 with (first
    | (refine wpList_cut rfl (.tmp 31) (.const (.int .i64 1)) 29 rfl Try.underlying29 (fun _ => by kernel_rfl) (some ad) n0 c 1 .i64 rfl rfl hc1 hc ?_
       intro A' hA'))
  obtain ⟨A', hA'⟩ : ∃ A', A' = (if c = 1 then some ad else some (⟨ad.block, ad.off + 1, none⟩ : Addr)) := ⟨_, rfl⟩
  have hRI' : RI w2 w.heap.size .u8 A' xs := by
    have h := HX2.out.cutIf 1 c (by simp; omega) (by simp)
    rw [hA']
    simpa [Addr.add] using h
  rw [← hA']
  have hR := Blk.new w2 62 #[.slice A' xs.length (c - 1), .bool false]
  have hlt3 : eb < w2.heap.size := HE2.out.lt
  have hst : St w (w2.alloc (.cells #[.slice A' xs.length (c - 1), .bool false] 62)) tb eb w2.heap.size ⟨op, 0, pad [], []⟩ none 0 xs false :=
    ⟨HZ2.out.alloc _, HE2.out.alloc _, ⟨A', c - 1, hR, hxl, hRI'.alloc (HD2.out.size) _⟩, HD2.out.alloc HD2.out.size _⟩
  obtain ⟨W3, hW3⟩ : ∃ W3, W3 = w2.alloc (.cells #[.slice A' xs.length (c - 1), .bool false] 62) := ⟨_, rfl⟩
  rw [← hW3] at hst ⊢
  obtain ⟨rb, hrb⟩ : ∃ rb, rb = w2.heap.size := ⟨_, rfl⟩
  rw [← hrb] at hst hlt3 ⊢
  have HST := Lib.hid hst
  clear hst hR hRI' hA' hW3 hrb HE2 HZ2 HX2 HD2 c0 e1 hc1 hxl hs2 hlt1 hadb
  have hte : tb < eb := HTE.out
  have hbb : w.heap.size ≤ rb := by omega
  go_wp2_with fail
  have hxl2 : xs.length ≤ 140737488355328 := by omega
  refine (rduint_ok rb w.heap.size xs false W3 HST.out.rst hbb hxl2 hby).mono ?_
  rintro e1 W4 ⟨rfl, hg4, hr4⟩
  have hst4 := HST.out.read hg4 hr4 htb0 hte hlt3
  obtain ⟨key, hkey⟩ : ∃ key, key = (rdU xs).1 := ⟨_, rfl⟩
  obtain ⟨x2, hx2⟩ : ∃ x2, x2 = rest xs := ⟨_, rfl⟩
  obtain ⟨b1, hb1⟩ : ∃ b1, b1 = bads xs false := ⟨_, rfl⟩
  rw [← hkey]
  rw [← hx2, ← hb1] at hst4
  have ck : W4.cell? ⟨eb, 1, none⟩ = some (.int .u64 0) := hst4.ebk.cell 1
  have fk : W4.frozen? ⟨eb, 1, none⟩ = false := hst4.ebk.frozen 1
  have hst5 := Lib.hid (hst4.set_ htb0 hte hlt3 1 (.int .u64 key) (row_set_key op 0 key (pad []) [] none 0))
  have HKEY := Lib.hid hkey
  have HX2 := Lib.hid hx2
  have HB1 := Lib.hid hb1
  have hby2 : Byt x2 := by rw [hx2]; exact rest_byt hby
  have hl2 : x2.length ≤ 4096 := by have := rest_len xs; rw [hx2]; omega
  clear hst4 hkey hx2 hb1 hr4 hg4 HST
  go_wp2_with fail
  go_loopw [39] (fun j wr => ∃ i : Nat, i ≤ n ∧ j = .int .i64 i ∧ Hid (St w wr tb eb rb ⟨op, key, pad (vls x2 i), []⟩ none 0 (rs i x2) (bd b1 x2 i))) (fun j _ => n - (intOf j).toNat)
  case atStart => exact ⟨0, by omega, rfl, hst5⟩
  case round =>
    clear hst5 ck fk
    obtain ⟨i, hi, rfl, HS⟩ := hrel
    by_cases hin : i < n
    · have hin' : (i : Int) < n := by omega
      have hd := decide_eq_true hin'
      go_wp2_with fail
      have hrl := rs_len x2 i
      refine (rdint_ok rb w.heap.size (rs i x2) (bd b1 x2 i) wr HS.out.rst hbb (by omega) (rs_byt hby2 i)).mono ?_
      rintro e1 W5 ⟨rfl, hg5, hr5⟩
      have hst6 := HS.out.read hg5 hr5 htb0 hte hlt3
      have hpl := pad_len (l := vls x2 i) (by rw [vls_len]; omega)
      have hst7 := Lib.hid (hst6.set_ htb0 hte hlt3 (2 + i) (.int .i64 (vl x2 i)) (by rw [row_set_n op key _ _ _ _ _ _ hpl (by omega), pad_set (by omega)]))
      have ci := (hst6.ebk.cell (2 + i)).trans (row_n _ _ _ i (by omega))
      have fi := hst6.ebk.frozen (2 + i)
      have hi8 : (i : Int) < 8 := by omega
      have hi0 : (0 : Int) ≤ i := by omega
      clear hst6 hg5 hr5
      go_wp2
      go_roundw
      case rel => exact ⟨i + 1, by omega, by go_num, hst7⟩
      case measure => simp [intOf]; omega
    · have hj' : i = n := by omega
      subst hj'
      have hin' : ¬ (i : Int) < i := by omega
      have hd := decide_eq_false hin'
      have hpa := HN.out
      have c0 : wr.cell? ⟨eb, 0, none⟩ = some (.int .u8 op) := HS.out.ebk.cell 0
      have HPA := Lib.hid hpa
      clear hpa hin' hin
      by_cases h1 : op = 1
      · subst h1
        have hp := par_b (xs := xs) HPA.out
        rw [← HX2.out, ← HB1.out, ← HKEY.out] at hp
        have HP := Lib.hid hp
        clear hp
        go_wp2_with fail
        have hrl := rs_len x2 i
        refine (rduint_ok rb w.heap.size (rs i x2) (bd b1 x2 i) wr HS.out.rst hbb (by omega) (rs_byt hby2 i)).mono ?_
        rintro e1 W5 ⟨rfl, hg5, hr5⟩
        have hst6 := HS.out.read hg5 hr5 htb0 hte hlt3
        obtain ⟨x3, hx3⟩ : ∃ x3, x3 = rs i x2 := ⟨_, rfl⟩
        obtain ⟨b4, hb4⟩ : ∃ b4, b4 = bads (rs i x2) (bd b1 x2 i) := ⟨_, rfl⟩
        obtain ⟨x4, hx4⟩ : ∃ x4, x4 = rest (rs i x2) := ⟨_, rfl⟩
        have hur := rdU_range (rs i x2) (rs_byt hby2 i)
        obtain ⟨t, ht⟩ : ∃ t : Nat, (rdU (rs i x2)).1 = t := ⟨(rdU (rs i x2)).1.toNat, by omega⟩
        have hby4 : Byt x4 := by rw [hx4]; exact rest_byt (rs_byt hby2 i)
        have hl4 : x4.length ≤ 4096 := by have := rest_len (rs i x2); rw [hx4]; omega
        rw [← hb4, ← hx4] at hst6
        have hp := HP.out
        simp only [ht, ← hb4, ← hx4, Int.toNat_natCast] at hp
        rw [ht]
        have HP2 := Lib.hid hp
        have HS6 := Lib.hid hst6
        have ht64 : (t : Int) < 18446744073709551616 := by omega
        clear hp HP hur hx3 hb4 hx4 ht hst6 hg5 hr5 HS c0
        by_cases ht8 : 8 < t
        · have ht8' : (8 : Int) < t := by omega
          have hrd := Lib.hid (show rdEv (1 :: xs) = (Ev.zero, 3) from rdEv_of_none HLE.out (HP2.out.2.1 ht8'))
          have hdt : decide ((8 : Int) < t) = true := by simp; omega
          go_wp2_with (first
            | (refine wpList_put rfl 26 (.tmp 2) (.tmp 55) rfl tb (row Ev.zero none 0) rfl rfl 26 _ HS6.out.tbk (by kernel_rfl) rfl (row_all _ _ _) ?_
               intro WE HBE hfarE hbelE hszE hclE))
          exact bodyPost_ret (results_cell_row2 rfl _ WE tb 26 (row Ev.zero none 0) _ (.int .i64 3) rfl HBE Try.underlying26 rfl (by kernel_rfl) rfl) rfl ⟨none, 0, by first | rw [hrd.out] | rfl, by first | (rw [hrd.out]; exact RI.nil) | exact RI.nil, by first | (rw [hrd.out]; simp [Ev.zero]) | simp [Ev.zero], hbelE w.heap.size w (by omega) HS6.out.bel⟩
        · have ht8' : ¬ (8 : Int) < t := by omega
          have hdt : decide ((8 : Int) < t) = false := by simp; omega
          go_wp2_with fail
          go_loopw [57] (fun v wr => ∃ (j : Nat) (A : Option Addr) (cA : Nat), j ≤ t ∧ v = .int .u64 j ∧ Hid (St w wr tb eb rb ⟨1, key, pad (vls x2 i), vls x4 (2 * j)⟩ A cA (rs (2 * j) x4) (bd b4 x4 (2 * j))) ∧ Hid (TOwn wr (rb + 1) (.slice A j cA) (vls x4 (2 * j)))) (fun v _ => t - (intOf v).toNat)
          case atStart => exact ⟨0, none, 0, by omega, rfl, HS6, Lib.hid (town_nil _ _)⟩
          case round =>
            clear HS6
            obtain ⟨j, A, cA, hj, rfl, HS, HO⟩ := hrel
            by_cases hjt : j < t
            · have hjt' : (j : Int) < t := by omega
              have hdj := decide_eq_true hjt'
              go_upto_region 22 with fail
              refine wp_region_treeK (C := fun w' => w'.cell? ⟨eb, 10, none⟩ = some (.slice A j cA)) 10 (.seg [0, 1, 2, 4] (.turn 3 (.turn 5 (.seg [6] (.turn 7 (.turn 8 (.seg [9] .last))))))) (by kernel_rfl) (by kernel_rfl) ?_ ?_
              · have h := HS.out.ebk.cell 10
                have h2 : (row ⟨1, key, pad (vls x2 i), vls x4 (2 * j)⟩ A cA)[10]? = some (.slice A ((vls x4 (2 * j)).length / 2) cA) := rfl
                rw [h2, vls_len, show 2 * j / 2 = j from by omega] at h
                exact h
              simp only [wpPlanK, List.map_cons, List.map_nil, opAt, List.getElem?_cons_succ, List.getElem?_cons_zero, Option.getD_some]
              repeat (go_big_quiet_step (fail))
              refine wpQuiet_got (.pointer (some ⟨eb, 10, none⟩)) (by rfl) (fun w' hw' => ?_) (fun K hK => ?_)
              · go_simp
              go_simp
              refine hK _ ?_
              clear hK K
              repeat (go_big_quiet_step (fail))
              refine wpQuiet_got (.slice A j cA) (by rfl) (fun w' hw' => ?_) (fun K hK => ?_)
              · have hl2 := hw'
                go_simp
              go_simp
              refine hK _ ?_
              clear hK K
              repeat (go_big_quiet_step (fail))
              refine wpQuiet_nil ?_
              go_wp2_with fail
              have hrl2 := rs_len x4 (2 * j)
              have hrl3 := rs_len x4 (2 * j + 1)
              have hS1 := HS.out.drew
              refine (rdint_ok rb w.heap.size (rs (2 * j) x4) (bd b4 x4 (2 * j)) wr.drew hS1.rst hbb (by omega) (rs_byt hby4 _)).mono ?_
              rintro e1 W6 ⟨rfl, hg6, hr6⟩
              have hS2 := hS1.read hg6 hr6 htb0 hte hlt3
              have hO1 : TOwn wr.drew (rb + 1) (.slice A j cA) (vls x4 (2 * j)) := HO.out
              have hO2 := hO1.grown hg6 (fun k hk => by have := hO1.base k hk; simp; omega)
              have hC : ∀ (W : World) (ys : List Int) (bb : Bool), St w W tb eb rb ⟨1, key, pad (vls x2 i), vls x4 (2 * j)⟩ A cA ys bb → W.cell? ⟨eb, 10, none⟩ = some (.slice A j cA) := by
                intro W ys bb hS
                have h := hS.ebk.cell 10
                have h2 : (row ⟨1, key, pad (vls x2 i), vls x4 (2 * j)⟩ A cA)[10]? = some (.slice A ((vls x4 (2 * j)).length / 2) cA) := rfl
                rw [h2, vls_len, show 2 * j / 2 = j from by omega] at h
                exact h
              have HC := Lib.hid hC
              go_wp2_with fail
              refine ⟨HC.out _ _ _ hS2, ?_⟩
              go_wp2_with fail
              refine (rdint_ok rb w.heap.size (rs (2 * j + 1) x4) (bd b4 x4 (2 * j + 1)) W6 hS2.rst hbb (by omega) (rs_byt hby4 _)).mono ?_
              rintro e1 W7 ⟨rfl, hg7, hr7⟩
              have hS3 := hS2.read hg7 hr7 htb0 hte hlt3
              have hO3 := hO2.grown hg7 (fun k hk => by have := hO2.base k hk; simp; omega)
              obtain ⟨va, hva⟩ : ∃ v, v = zag (rdU (rs (2 * j) x4)).1 := ⟨_, rfl⟩
              obtain ⟨vb, hvb⟩ : ∃ v, v = zag (rdU (rs (2 * j + 1) x4)).1 := ⟨_, rfl⟩
              rw [← hva, ← hvb]
              have HVA := Lib.hid hva
              have HVB := Lib.hid hvb
              clear hva hvb hg6 hr6 hg7 hr7 hS1 hO1 hS2 hO2
              go_wp2_with fail
              refine ⟨HC.out _ _ _ hS3, ?_⟩
              repeat (go_big_quiet_step (fail))
              refine wpQuiet_got (.agg #[.int .i64 va, .int .i64 vb]) (by rfl) (fun w' hw' => ?_) (fun K hK => ?_)
              · go_simp
              go_simp
              refine hK _ ?_
              clear hK K
              repeat (go_big_quiet_step (fail))
              refine wpQuiet_nil ?_
              go_wp2_with fail
              have hS4 := hS3.grown (World.grownBy_alloc W7 (.cells #[.int .i64 va, .int .i64 vb] 44) none) (fun k hk => by cases hk) htb0 hte hlt3
              have hO4 := hO3.grown (World.grownBy_alloc W7 (.cells #[.int .i64 va, .int .i64 vb] 44) none) (fun k hk => by simp)
              have hT4 : RI (W7.alloc (.cells #[.int .i64 va, .int .i64 vb] 44)) (W7.alloc (.cells #[.int .i64 va, .int .i64 vb] 44)).heap.size .i64 (some ⟨W7.heap.size, 0, none⟩) [va, vb] := RI.of_lit (Blk.new _ _ _) rfl
              have hrs4 : rb + 1 ≤ (W7.alloc (.cells #[.int .i64 va, .int .i64 vb] 44)).heap.size := by have := hS3.rst.lt; simp; omega
              obtain ⟨W8, hW8⟩ : ∃ W8, W8 = W7.alloc (.cells #[.int .i64 va, .int .i64 vb] 44) := ⟨_, rfl⟩
              rw [← hW8] at hS4 hO4 hT4 hrs4 ⊢
              clear hW8
              refine ⟨HC.out _ _ _ hS4, ?_⟩
              have hvl := vls_len x4 (2 * j)
              go_wp2_with (at_builtin; refine wpList_appT W8 rfl (.tmp 60) (.tmp 66) rfl (rb + 1) (.slice A j cA) (vls x4 (2 * j)) hO4 rfl _ (some ⟨W7.heap.size, 0, none⟩) 1 1 [va, vb] rfl rfl hT4 (by rw [vls_len]; simp; omega) hrs4 ?_; intro A9 n9 c9 W9 hO9 hg9)
              have hS9 := hS4.grown hg9 (fun k hk => by have := hO4.base k hk; omega) htb0 hte hlt3
              refine ⟨HC.out _ _ _ hS9, ?_⟩
              repeat (go_big_quiet_step (fail))
              refine wpQuiet_got (.pointer (some ⟨eb, 10, none⟩)) (by rfl) (fun w' hw' => ?_) (fun K hK => ?_)
              · go_simp
              go_simp
              refine hK _ ?_
              clear hK K
              repeat (go_big_quiet_step (fail))
              refine wpQuiet_nil ?_
              have ct := HC.out _ _ _ hS9
              have ft := hS9.ebk.frozen 10
              have hn9 := (town_ri hO9).1
              have hfl : vls x4 (2 * j) ++ [va, vb] = vls x4 (2 * (j + 1)) := by
                rw [show 2 * (j + 1) = 2 * j + 1 + 1 from by omega, vls_succ, vls_succ, HVA.out, HVB.out]
                simp [vl]
              rw [hfl] at hO9 hn9
              have hn9' : n9 = j + 1 := by rw [hn9, vls_len]; omega
              have hrow : (row ⟨1, key, pad (vls x2 i), vls x4 (2 * j)⟩ A cA).setIfInBounds 10 (.slice A9 (j + 1) c9) = row ⟨1, key, pad (vls x2 i), vls x4 (2 * (j + 1))⟩ A9 c9 := by
                have h := row_set_ts 1 key (pad (vls x2 i)) (vls x4 (2 * j)) (vls x4 (2 * (j + 1))) A A9 cA c9
                rw [vls_len, show 2 * (j + 1) / 2 = j + 1 from by omega] at h
                exact h
              subst hn9'
              have HS10 := Lib.hid (hS9.set_ htb0 hte hlt3 10 (.slice A9 (j + 1) c9) hrow)
              have HO10 := Lib.hid (hO9.grown (grown_set W9 eb 10 (.slice A9 (j + 1) c9)) (fun k hk => by have := hO9.base k hk; simp; omega))
              clear hrow hfl hn9 hO9 hg9 hS9 hvl hS4 hO4 hT4 hrs4 hS3 hO3 hC HC
              go_wp2_with fail
              rw [onlyNormal_normal]
              go_wp2
              go_roundw
              case rel => exact ⟨j + 1, A9, c9, by omega, by go_num, HS10, HO10⟩
              case measure => simp [intOf]; omega
            · have hjt2 : j = t := by omega
              have hjt' : ¬ (j : Int) < t := by omega
              have hdj := decide_eq_false hjt'
              have hp3 : (bd b4 x4 (2 * j) = false → par (1 :: xs) = some (⟨1, key, pad (vls x2 i), vls x4 (2 * j)⟩, rs (2 * j) x4)) ∧ (bd b4 x4 (2 * j) = true → par (1 :: xs) = none) := by
                rw [hjt2]
                by_cases hb : b4 = true
                · rw [hb]
                  exact ⟨fun h => (by rw [bd_true] at h; cases h), fun _ => HP2.out.1 hb⟩
                · exact HP2.out.2.2 (by simpa using hb) ht8'
              have HP3 := Lib.hid hp3
              clear hp3 hjt2 HP2 hj hjt ht8 ht8' hdt ht64 hl4 hl2 hby4 hby2
              obtain ⟨bad, hbad⟩ : ∃ b : Bool, b = bd b4 x4 (2 * j) := ⟨_, rfl⟩
              obtain ⟨ys, hys⟩ : ∃ y : List Int, y = rs (2 * j) x4 := ⟨_, rfl⟩
              rw [← hbad, ← hys] at HS
              obtain ⟨Ar, cr, hblk, hcr, hrr⟩ := HS.out.rst
              obtain ⟨yl, hyl⟩ : ∃ yl, yl = ys.length := ⟨_, rfl⟩
              rw [← hyl] at hblk
              have q1 : wr.cell? ⟨rb, 1, none⟩ = some (.bool bad) := hblk.cell 1
              have q0 : wr.cell? ⟨rb, 0, none⟩ = some (.slice Ar yl cr) := hblk.cell 0
              have HYS := Lib.hid hys
              have HYL := Lib.hid hyl
              clear hblk hcr hrr hys hyl
              cases bad with
              | true =>
                have hrd := Lib.hid (show rdEv (1 :: xs) = (Ev.zero, 3) from rdEv_of_none HLE.out (HP3.out.2 hbad.symm))
                clear hbad
                go_wp2_with (first
                  | (refine wpList_put rfl 26 (.tmp 2) (.tmp 82) rfl tb (row Ev.zero none 0) rfl rfl 26 _ HS.out.tbk (by kernel_rfl) rfl (row_all _ _ _) ?_
                     intro WE HBE hfarE hbelE hszE hclE))
                exact bodyPost_ret (results_cell_row2 rfl _ WE tb 26 (row Ev.zero none 0) _ (.int .i64 3) rfl HBE Try.underlying26 rfl (by kernel_rfl) rfl) rfl ⟨none, 0, by first | rw [hrd.out] | rfl, by first | (rw [hrd.out]; exact RI.nil) | exact RI.nil, by first | (rw [hrd.out]; simp [Ev.zero]) | simp [Ev.zero], hbelE w.heap.size w (by omega) HS.out.bel⟩
              | false =>
                by_cases hy : yl = 0
                · have hys0 : ys = [] := List.eq_nil_of_length_eq_zero (by rw [← HYL.out]; exact hy)
                  have hrd := Lib.hid (show rdEv (1 :: xs) = (⟨1, key, pad (vls x2 i), vls x4 (2 * j)⟩, 0) from (rdEv_some HBY.out HLE.out (by rw [HP3.out.1 hbad.symm, ← HYS.out, hys0])).1)
                  clear hbad hys0
                  subst hy
                  go_wp2_with (first
                    | (refine wpList_load_row rfl 26 (.tmp 4) rfl eb rfl 26 (row ⟨1, key, pad (vls x2 i), vls x4 (2 * j)⟩ A cA) (0, 0) _ HS.out.ebk Try.underlying26 rfl (by rw [row_size]; kernel_rfl) ?_)
                    | (refine wpList_put rfl 26 (.tmp 2) (.tmp 83) rfl tb (row ⟨1, key, pad (vls x2 i), vls x4 (2 * j)⟩ A cA) rfl rfl 26 _ HS.out.tbk (by rw [row_size]; kernel_rfl) rfl (row_all _ _ _) ?_
                       intro WE HBE hfarE hbelE hszE hclE))
                  exact bodyPost_ret (results_cell_row2 rfl _ WE tb 26 (row ⟨1, key, pad (vls x2 i), vls x4 (2 * j)⟩ A cA) _ (.int .i64 0) rfl HBE Try.underlying26 rfl (by rw [row_size]; kernel_rfl) rfl) rfl ⟨A, cA, by rw [hrd.out], by rw [hrd.out]; rw [hszE]; exact RI.away (town_ri HO.out).2.2 (fun ad h => by have := HO.out.base ad.block (by rw [h]; rfl); omega) hclE, by rw [hrd.out]; have := (town_ri HO.out).2.1; simp only [vls_len]; omega, hbelE w.heap.size w (by omega) HS.out.bel⟩
                · have hys0 : ys ≠ [] := fun h => hy (by rw [HYL.out, h]; rfl)
                  have hrd := Lib.hid (show rdEv (1 :: xs) = (Ev.zero, 3) from rdEv_of_rest HLE.out (HP3.out.1 hbad.symm) (by rw [← HYS.out]; exact hys0))
                  have hy0 : (0 : Int) < yl := by omega
                  clear hbad hys0
                  go_wp2_with (first
                    | (refine wpList_put rfl 26 (.tmp 2) (.tmp 82) rfl tb (row Ev.zero none 0) rfl rfl 26 _ HS.out.tbk (by kernel_rfl) rfl (row_all _ _ _) ?_
                       intro WE HBE hfarE hbelE hszE hclE))
                  exact bodyPost_ret (results_cell_row2 rfl _ WE tb 26 (row Ev.zero none 0) _ (.int .i64 3) rfl HBE Try.underlying26 rfl (by kernel_rfl) rfl) rfl ⟨none, 0, by first | rw [hrd.out] | rfl, by first | (rw [hrd.out]; exact RI.nil) | exact RI.nil, by first | (rw [hrd.out]; simp [Ev.zero]) | simp [Ev.zero], hbelE w.heap.size w (by omega) HS.out.bel⟩
      · have e1 : (op == 1) = false := by simpa using h1
        have hp := par_a (xs := xs) HPA.out h1
        rw [← HX2.out, ← HB1.out, ← HKEY.out] at hp
        have HP := Lib.hid hp
        clear hp
        obtain ⟨bad, hbad⟩ : ∃ b : Bool, b = bd b1 x2 i := ⟨_, rfl⟩
        obtain ⟨ys, hys⟩ : ∃ y : List Int, y = rs i x2 := ⟨_, rfl⟩
        rw [← hbad, ← hys] at HS
        obtain ⟨Ar, cr, hblk, hcr, hrr⟩ := HS.out.rst
        obtain ⟨yl, hyl⟩ : ∃ yl, yl = ys.length := ⟨_, rfl⟩
        rw [← hyl] at hblk
        have q1 : wr.cell? ⟨rb, 1, none⟩ = some (.bool bad) := hblk.cell 1
        have q0 : wr.cell? ⟨rb, 0, none⟩ = some (.slice Ar yl cr) := hblk.cell 0
        have HYS := Lib.hid hys
        have HYL := Lib.hid hyl
        clear hblk hcr hrr hys hyl
        cases bad with
        | true =>
          have hrd := Lib.hid (show rdEv (op :: xs) = (Ev.zero, 3) from rdEv_of_none HLE.out (HP.out.2 hbad.symm))
          clear hbad
          go_wp2_with (first
            | (refine wpList_put rfl 26 (.tmp 2) (.tmp 82) rfl tb (row Ev.zero none 0) rfl rfl 26 _ HS.out.tbk (by kernel_rfl) rfl (row_all _ _ _) ?_
               intro WE HBE hfarE hbelE hszE hclE))
          exact bodyPost_ret (results_cell_row2 rfl _ WE tb 26 (row Ev.zero none 0) _ (.int .i64 3) rfl HBE Try.underlying26 rfl (by kernel_rfl) rfl) rfl ⟨none, 0, by first | rw [hrd.out] | rfl, by first | (rw [hrd.out]; exact RI.nil) | exact RI.nil, by first | (rw [hrd.out]; simp [Ev.zero]) | simp [Ev.zero], hbelE w.heap.size w (by omega) HS.out.bel⟩
        | false =>
          by_cases hy : yl = 0
          · have hys0 : ys = [] := List.eq_nil_of_length_eq_zero (by rw [← HYL.out]; exact hy)
            have hrd := Lib.hid (show rdEv (op :: xs) = (⟨op, key, pad (vls x2 i), []⟩, 0) from (rdEv_some HBY.out HLE.out (by rw [HP.out.1 hbad.symm, ← HYS.out, hys0])).1)
            clear hbad hys0
            subst hy
            go_wp2_with (first
              | (refine wpList_load_row rfl 26 (.tmp 4) rfl eb rfl 26 (row ⟨op, key, pad (vls x2 i), []⟩ none 0) (0, 0) _ HS.out.ebk Try.underlying26 rfl (by rw [row_size]; kernel_rfl) ?_)
              | (refine wpList_put rfl 26 (.tmp 2) (.tmp 83) rfl tb (row ⟨op, key, pad (vls x2 i), []⟩ none 0) rfl rfl 26 _ HS.out.tbk (by rw [row_size]; kernel_rfl) rfl (row_all _ _ _) ?_
                 intro WE HBE hfarE hbelE hszE hclE))
            exact bodyPost_ret (results_cell_row2 rfl _ WE tb 26 (row ⟨op, key, pad (vls x2 i), []⟩ none 0) _ (.int .i64 0) rfl HBE Try.underlying26 rfl (by rw [row_size]; kernel_rfl) rfl) rfl ⟨none, 0, by rw [hrd.out], by rw [hrd.out]; exact RI.nil, by rw [hrd.out]; simp, hbelE w.heap.size w (by omega) HS.out.bel⟩
          · have hys0 : ys ≠ [] := fun h => hy (by rw [HYL.out, h]; rfl)
            have hrd := Lib.hid (show rdEv (op :: xs) = (Ev.zero, 3) from rdEv_of_rest HLE.out (HP.out.1 hbad.symm) (by rw [← HYS.out]; exact hys0))
            have hy0 : (0 : Int) < yl := by omega
            clear hbad hys0
            go_wp2_with (first
              | (refine wpList_put rfl 26 (.tmp 2) (.tmp 82) rfl tb (row Ev.zero none 0) rfl rfl 26 _ HS.out.tbk (by kernel_rfl) rfl (row_all _ _ _) ?_
                 intro WE HBE hfarE hbelE hszE hclE))
            exact bodyPost_ret (results_cell_row2 rfl _ WE tb 26 (row Ev.zero none 0) _ (.int .i64 3) rfl HBE Try.underlying26 rfl (by kernel_rfl) rfl) rfl ⟨none, 0, by first | rw [hrd.out] | rfl, by first | (rw [hrd.out]; exact RI.nil) | exact RI.nil, by first | (rw [hrd.out]; simp [Ev.zero]) | simp [Ev.zero], hbelE w.heap.size w (by omega) HS.out.bel⟩
end Go.Proofs.Ytkcfeaonkgpbdaa.Event
