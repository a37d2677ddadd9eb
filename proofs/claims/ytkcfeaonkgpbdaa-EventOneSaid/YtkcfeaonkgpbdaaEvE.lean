import Derived.Test.YtkcfeaonkgpbdaaEvD
import Derived.Test.YtkcfeaonkgpbdaaMixT
/-! the document's Write -/
namespace Go.Proofs.Ytkcfeaonkgpbdaa.Event
open Go.RowKit Go.Deep Go.Proofs.Ytkcfeaonkgpbdaa Go.Proofs.Ytkcfeaonkgpbdaa.Pack
set_option linter.unusedVariables false
set_option linter.unusedSimpArgs false
section
variable {ops : Array Oper} {rest : List Oper} {o : Oper} {a : Act} {Q : Exit → Act → World → Prop}
/-- 'append(s, x...)' onto fresh bytes -/
theorem wpList_appF (W0 W : World) (hgd : o.guard = none) (s x : Operand) (ho : o.op = .call { callee := .builtin .append, args := #[s, x], argTypes := #[29, 29] })
    (A : Option Addr) (m c : Nat) (xs : List Int) (hf : Fresh W0 W (.slice A m c) xs) (hs : a.eval s = .slice A m c)
    (A1 : Option Addr) (m1 c1 : Nat) (ys : List Int) (hx : a.eval x = .slice A1 m1 c1) (hm : m1 = ys.length) (hr : RI W W.heap.size .u8 A1 ys) (hl : xs.length + ys.length ≤ 140737488355328)
    (h : ∀ A' m' c' w', Fresh W0 w' (.slice A' m' c') (xs ++ ys) → (∀ (ad : Addr) v, W.cell? ad = some v → some ad.block ≠ (Value.slice A m c).ownBlock → w'.cell? ad = some v) → wpList Try.prog ops Q rest (a.put o.dst (.slice A' m' c')) w') : wpList Try.prog ops Q (o :: rest) a W := by
  have hs0 := hf.2.size
  subst hm
  refine wpList_app W hgd s x 29 ho W0.heap.size 5 .u8 1 Try.underlying29 info5 (by omega) (.slice A m c) xs hf.1 hs W.heap.size A1 c1 ys hx hr (by omega) hs0 ?_
  intro v' w' hown hg _
  obtain ⟨A2, c2, rfl⟩ := own_slice hown
  exact h _ _ _ _ ⟨hown, below_own hf.2 hg hf.1 (Nat.le_refl _) hs0⟩ (fun ad v hv hne => hg.cell hv hne)
end
theorem fresh_blk {w w' : World} {v : Value} {xs : List Int} (h : Fresh w w' v xs) {k : Nat} (hk : v.ownBlock = some k) : k < w'.heap.size := (h.1.lt k hk).2
theorem fresh_lit (w : World) (op : Int) : Fresh w (w.alloc (.cells #[.int .u8 op] 5)) (.slice (some ⟨w.heap.size, 0, none⟩) 1 1) [op] :=
  ⟨⟨rfl, .inr ⟨w.heap.size, 1, #[.int .u8 op], rfl, Nat.le_refl _, heap_alloc_new w _, Nat.le_refl _, by simp [maxLen], rfl, rfl⟩⟩, (Below.refl _ _).alloc (Nat.le_refl _) _⟩
set_option maxRecDepth 100000 in
set_option maxHeartbeats 4000000 in
theorem refwrite_ok (e : Ev) (A : Option Addr) (c : Nat) (w : World) (ho : e.ok) (hf : e.form) (hts : RI w w.heap.size .i64 A e.ts) (hcap : e.ts.length / 2 ≤ c) :
    Calls Try.prog 25 #[.agg (row e A c)] w fun x w' => ∃ v, x = .returned v ∧ Fresh w w' v (wr e) := by
  have hlen16 := hf.2.1
  have hr := row_row e A c
  obtain ⟨R, hR⟩ : ∃ R, R = row e A c := ⟨_, rfl⟩
  rw [← hR] at hr ⊢
  have HR := Lib.hid hr
  have HO := Lib.hid ho
  have HF := Lib.hid hf
  have HT := Lib.hid hts
  have hop0 := ho.op0
  have hop1 := ho.op1
  have hk0 := ho.key0
  have hk1 := ho.key1
  have hc0 := hf.1
  have hc := cnt_range e.op
  obtain ⟨n, hn⟩ : ∃ n : Nat, cnt e.op = n := ⟨(cnt e.op).toNat, by omega⟩
  have hn8 : n ≤ 8 := by omega
  have HN := Lib.hid hn
  have hcnt := fun w' => refcount_ok e.op hop0 hop1 w'
  simp only [hn] at hcnt
  have HCNT := Lib.hid hcnt
  clear hcnt hr hR hc0 hc hn ho hf hts
  obtain ⟨L, hL⟩ : ∃ L, L = e.ts.length / 2 := ⟨_, rfl⟩
  have HL := Lib.hid hL
  have hL8 : L ≤ 8 := by omega
  rw [← hL] at hcap
  clear hL
  obtain ⟨op, hop⟩ : ∃ op, op = e.op := ⟨_, rfl⟩
  obtain ⟨key, hkey⟩ : ∃ key, key = e.key := ⟨_, rfl⟩
  rw [← hop] at hop0 hop1 HCNT
  rw [← hkey] at hk0 hk1
  have HOP := Lib.hid hop
  have HKEY := Lib.hid hkey
  clear hop hkey
  go_enter Try.func25, Try.ntmps25
  have hB := Lib.hid (Blk.new w 26 R)
  have d0 := Lib.hid (((Below.refl w.heap.size w).alloc (Nat.le_refl _) (.cells R 26)))
  have c0 := (hB.out.cell 0).trans HR.out.op
  have c1 := (hB.out.cell 1).trans HR.out.key
  rw [← HOP.out] at c0
  rw [← HKEY.out] at c1
  go_upto_region 1 with fail
  obtain ⟨W0, hW0⟩ : ∃ W0, W0 = w.alloc (.cells R 26) := ⟨_, rfl⟩
  have hlt0 : w.heap.size < W0.heap.size := by rw [hW0]; simp
  rw [← hW0] at hB d0 c0 c1 ⊢
  clear hW0
  have CELLS : ∀ w' : World, Below W0.heap.size W0 w' → w'.cell? ⟨w.heap.size, 0, none⟩ = some (.int .u8 op) ∧ w'.cell? ⟨w.heap.size, 1, none⟩ = some (.int .u64 key) := fun w' hw' =>
    ⟨(hw'.cell (p := ⟨w.heap.size, 0, none⟩) (by show w.heap.size < _; omega)).trans c0, (hw'.cell (p := ⟨w.heap.size, 1, none⟩) (by show w.heap.size < _; omega)).trans c1⟩
  have HCE := Lib.hid CELLS
  clear CELLS
  go_cut [3] (fun p wx => ∃ (A' : Option Addr) (m c' : Nat), p = .slice A' m c' ∧ Hid (Fresh W0 wx (.slice A' m c') ([op] ++ enc key)))
  case first =>
    refine wp_region_tree (C := fun w' => Below W0.heap.size W0 w') (.seg [0, 1, 3, 4] (.fork 2 (.turn 5 (.turn 6 (.seg [7] .nil))) 5 (.turn 2 (.turn 6 (.seg [7] .nil))))) (by kernel_rfl) (by kernel_rfl) (Below.refl _ _).drew ?_
    simp only [wpPlan, List.map_cons, List.map_nil, opAt, List.getElem?_cons_succ, List.getElem?_cons_zero, Option.getD_some]
    repeat (go_big_quiet_step (fail))
    refine wpQuiet_got (.pointer (some ⟨w.heap.size, 0, none⟩)) (by rfl) (fun w' hw' => ?_) (fun K hK => ?_)
    · go_simp
    go_simp
    refine hK _ ?_
    clear hK K
    repeat (go_big_quiet_step (fail))
    refine wpQuiet_got (.int .u8 op) (by rfl) (fun w' hw' => ?_) (fun K hK => ?_)
    · have hl2 := (HCE.out w' hw').1
      go_simp
    go_simp
    refine hK _ ?_
    clear hK K
    repeat (go_big_quiet_step (fail))
    refine wpQuiet_got (.pointer (some ⟨w.heap.size, 1, none⟩)) (by rfl) (fun w' hw' => ?_) (fun K hK => ?_)
    · go_simp
    go_simp
    refine hK _ ?_
    clear hK K
    repeat (go_big_quiet_step (fail))
    refine wpQuiet_got (.int .u64 key) (by rfl) (fun w' hw' => ?_) (fun K hK => ?_)
    · have hl2 := (HCE.out w' hw').2
      go_simp
    go_simp
    refine hK _ ?_
    clear hK K
    repeat (go_big_quiet_step (fail))
    refine wpQuiet_nil ?_
    have D0 : Below W0.heap.size W0 W0.drew := (Below.refl _ _).drew
    refine ⟨?_, ?_⟩
    · go_wp2_with fail
      refine ⟨D0.alloc (Nat.le_refl _) _, ?_⟩
      go_wp2_with fail
      refine (refuint_ok key _ hk0 hk1).mono ?_
      rintro e1 w2 ⟨v2, rfl, f2⟩
      obtain ⟨A2, c2, rfl⟩ := own_slice f2.1
      have F1 := fresh_keep (Fresh.then' D0 (fresh_lit W0.drew op)) f2.2
      have hri := fresh_ri f2
      go_wp2_with fail
      refine ⟨F1.2, ?_⟩
      have hle := enc_len key
      go_wp2_with (at_builtin; refine wpList_appF W0 _ rfl (.tmp 9) (.tmp 12) rfl _ 1 1 [op] F1 rfl A2 _ c2 (enc key) rfl rfl hri (by simp; omega) ?_; intro A3 m3 c3 w3 F3 G3)
      refine ⟨F3.2, ?_⟩
      repeat (go_big_quiet_step (fail))
      refine wpQuiet_nil ?_
      go_wp2
      go_meet
      case rel => exact ⟨_, _, _, rfl, Lib.hid F3⟩
    · go_wp2_with fail
      refine (refuint_ok key _ hk0 hk1).mono ?_
      rintro e1 w2 ⟨v2, rfl, f2⟩
      obtain ⟨A2, c2, rfl⟩ := own_slice f2.1
      have D2 := D0.trans f2.2
      have hri := (fresh_ri f2).alloc (Nat.le_refl _) (.cells #[.int .u8 op] 5)
      go_wp2_with fail
      refine ⟨D2, ?_⟩
      go_wp2_with fail
      have F1 := Fresh.then' D2 (fresh_lit w2 op)
      refine ⟨F1.2, ?_⟩
      have hle := enc_len key
      go_wp2_with (at_builtin; refine wpList_appF W0 _ rfl (.tmp 9) (.tmp 12) rfl _ 1 1 [op] F1 rfl A2 _ c2 (enc key) rfl rfl (hri.more (by simp)) (by simp; omega) ?_; intro A3 m3 c3 w3 F3 G3)
      refine ⟨F3.2, ?_⟩
      repeat (go_big_quiet_step (fail))
      refine wpQuiet_nil ?_
      go_wp2
      go_meet
      case rel => exact ⟨_, _, _, rfl, Lib.hid F3⟩
  case rest =>
  obtain ⟨A1, m1, c1', rfl, HF1⟩ := hcut
  go_wp2_with fail
  go_loopw [3, 4] (fun p i wr => ∃ (j m : Nat) (A' : Option Addr) (c' : Nat), j ≤ n ∧ p = .slice A' m c' ∧ i = .int .i64 j ∧ Hid (Fresh W0 wr (.slice A' m c') (op :: (enc key ++ encs (e.ns.take j))))) (fun _ i _ => n - (intOf i).toNat)
  case atStart => exact ⟨0, m1, A1, c1', by omega, rfl, rfl, Lib.hid (by simpa [encs] using HF1.out)⟩
  case round =>
    clear HF1 c0 c1
    obtain ⟨j, m, A', c', hj, rfl, rfl, HFR⟩ := hrel
    have hbr := HFR.out.2
    have c0 := (HCE.out wr hbr).1
    by_cases hjn : j < n
    · have hjn' : (j : Int) < n := by omega
      have hd := decide_eq_true hjn'
      have hj8 : (j : Int) < 8 := by omega
      have hj0 : (0 : Int) ≤ j := by omega
      have cj := ((hB.out.below hbr hlt0).cell (2 + j)).trans (HR.out.n j (by omega))
      have hrdj := HO.out.ns.rd j
      obtain ⟨v, hv⟩ : ∃ v, v = rd e.ns j := ⟨_, rfl⟩
      rw [← hv] at cj hrdj
      have HV := Lib.hid hv
      clear hv
      go_wp2_with fail
      refine (HCNT.out _).mono ?_
      rintro e1 w2 ⟨rfl, rfl⟩
      go_wp2_with fail
      refine (refint_ok v _ hrdj.1 hrdj.2).mono ?_
      rintro e1 w5 ⟨v5, rfl, f5⟩
      obtain ⟨A5, c5, rfl⟩ := own_slice f5.1
      have F1 := fresh_keep HFR.out f5.2
      have hri := fresh_ri f5
      have hle := enc_len (zig v)
      have hXl : (op :: (enc key ++ encs (e.ns.take j))).length ≤ 100 := by
        have h1 := enc_len key
        have h2 := encs_len (e.ns.take j)
        rw [List.length_take] at h2
        simp only [List.length_cons, List.length_append]; omega
      go_wp2_with (at_builtin; refine wpList_appF W0 _ rfl (.tmp 21) (.tmp 26) rfl A' m c' _ F1 rfl A5 _ c5 (enc (zig v)) rfl rfl hri (by omega) ?_; intro A3 m3 c3 w3 F3 G3)
      go_roundw
      case rel =>
        refine ⟨j + 1, m3, A3, c3, by omega, rfl, by go_num, Lib.hid ?_⟩
        have := F3
        rw [HV.out] at this
        rw [take_snoc (by rw [HO.out.len]; omega), encs_snoc]
        simpa using this
      case measure => simp [intOf]; omega
    · have hj' : j = n := by omega
      have hjn' : ¬ (j : Int) < n := by omega
      have hd := decide_eq_false hjn'
      have HFN : Hid (Fresh W0 wr (.slice A' m c') (op :: (enc key ++ encs (e.ns.take n)))) := by rw [← hj']; exact HFR
      clear hj' HFR
      go_wp2_with fail
      refine (HCNT.out _).mono ?_
      rintro e1 w2 ⟨rfl, rfl⟩
      have c10 := ((hB.out.below hbr hlt0).cell 10).trans HR.out.ts
      rw [← HL.out] at c10
      by_cases h1 : op = 1
      · go_wp2_with fail
        obtain ⟨X, hX⟩ : ∃ X, X = op :: (enc key ++ encs (e.ns.take n)) := ⟨_, rfl⟩
        have HX := Lib.hid hX
        rw [← hX] at HFN
        have hXl : X.length ≤ 100 := by
          rw [hX]
          have h1 := enc_len key
          have h2 := encs_len (e.ns.take n)
          rw [List.length_take] at h2
          simp only [List.length_cons, List.length_append]; omega
        have HXL := Lib.hid hXl
        clear hX
        refine (refuint_ok L _ (by omega) (by omega)).mono ?_
        rintro e1 w5 ⟨v5, rfl, f5⟩
        obtain ⟨A5, c5, rfl⟩ := own_slice f5.1
        have F1 := fresh_keep HFN.out f5.2
        have hri := fresh_ri f5
        have hle := enc_len (L : Int)
        go_wp2_with (at_builtin; refine wpList_appF W0 _ rfl (.tmp 31) (.tmp 36) rfl A' m c' _ F1 rfl A5 _ c5 (enc (L : Int)) rfl rfl hri (by omega) ?_; intro A3 m3 c3 w3 F3 G3; have c10' := ((hB.out.below F3.2 hlt0).cell 10).trans HR.out.ts; rw [← HL.out] at c10')
        have HF3 := Lib.hid F3
        clear F3 F1 hri hle c10' c10 HFN c0 hbr hXl f5
        go_loopw [3, 41] (fun p i wr => ∃ (j m : Nat) (A' : Option Addr) (c' : Nat), j ≤ L ∧ p = .slice A' m c' ∧ i = .int .i64 j ∧ Hid (Fresh W0 wr (.slice A' m c') (X ++ (enc (L : Int) ++ encs (e.ts.take (2 * j)))))) (fun _ i _ => L - (intOf i).toNat)
        case atStart => exact ⟨0, m3, A3, c3, by omega, rfl, rfl, Lib.hid (by simpa [encs] using HF3.out)⟩
        case round =>
          clear HF3
          obtain ⟨j2, m2, A2, c2, hj2, rfl, rfl, HFR⟩ := hrel
          have hTL := HO.out.even
          by_cases hjn : j2 < L
          · have hjn' : (j2 : Int) < L := by omega
            have hd2 := decide_eq_true hjn'
            have hbw := d0.out.trans (HFR.out.2.mono (Nat.le_of_lt hlt0))
            obtain ⟨ad, hAd, hadb, hca, hcb⟩ := tier_cells (j := j2) (HT.out.below hbw) (by have := HL.out; omega)
            subst hAd
            have hrx := HO.out.ts.rd (2 * j2)
            have hry := HO.out.ts.rd (2 * j2 + 1)
            obtain ⟨x, hx⟩ : ∃ x, x = rd e.ts (2 * j2) := ⟨_, rfl⟩
            obtain ⟨y, hy⟩ : ∃ y, y = rd e.ts (2 * j2 + 1) := ⟨_, rfl⟩
            rw [← hx] at hca hrx
            rw [← hy] at hcb hry
            have HXX := Lib.hid hx
            have HYY := Lib.hid hy
            clear hx hy
            go_upto_region 11 with fail
            have HF6 := fresh_keep HFR.out ((Below.refl _ _).alloc (Nat.le_refl _) (.cells #[.int .i64 x, .int .i64 y] 44))
            have hN6 := Blk.new wr 44 #[.int .i64 x, .int .i64 y]
            have hs6 : wr.heap.size < (wr.alloc (.cells #[.int .i64 x, .int .i64 y] 44)).heap.size := by simp
            obtain ⟨w6, hw6⟩ : ∃ w6, w6 = wr.alloc (.cells #[.int .i64 x, .int .i64 y] 44) := ⟨_, rfl⟩
            rw [← hw6] at HF6 hN6 hs6 ⊢
            have hs0 := HFR.out.2.size
            have hne : some wr.heap.size ≠ (Value.slice A2 m2 c2).ownBlock := fun h => absurd (fresh_blk HFR.out h.symm) (Nat.lt_irrefl _)
            obtain ⟨tb, htb⟩ : ∃ tb, tb = wr.heap.size := ⟨_, rfl⟩
            rw [← htb] at hN6 hs6 hs0 hne ⊢
            have HFF6 := Lib.hid HF6
            have HN6 := Lib.hid hN6
            have cx : w6.cell? ⟨tb, 0, none⟩ = some (.int .i64 x) := HN6.out.cell 0
            clear hw6 HF6 hN6 htb hca hcb HFR hadb hbw
            obtain ⟨Y, hY⟩ : ∃ Y, Y = X ++ (enc (L : Int) ++ encs (e.ts.take (2 * j2))) := ⟨_, rfl⟩
            have HY := Lib.hid hY
            rw [← hY] at HFF6
            have hYl : Y.length ≤ 280 := by
              rw [hY]
              have h0 := HXL.out
              have h1 := enc_len (L : Int)
              have h2 := encs_len (e.ts.take (2 * j2))
              rw [List.length_take] at h2
              simp only [List.length_append]; omega
            clear hY
            go_wp2_with fail
            refine (refint_ok x w6 hrx.1 hrx.2).mono ?_
            rintro e1 w7 ⟨v7, rfl, f7⟩
            obtain ⟨A7, c7, rfl⟩ := own_slice f7.1
            have F1 := fresh_keep HFF6.out f7.2
            have hN7 := HN6.out.below f7.2 hs6
            have hs7 := f7.2.size
            have hri := fresh_ri f7
            have hle := enc_len (zig x)
            go_upto_region 12 with (at_builtin; refine wpList_appF W0 _ rfl (.tmp 45) (.tmp 48) rfl A2 m2 c2 _ F1 rfl A7 _ c7 (enc (zig x)) rfl rfl hri (by omega) ?_; intro A3 m3 c3 w8 F3 G3)
            have cy : w8.cell? ⟨tb, 1, none⟩ = some (.int .i64 y) := G3 ⟨tb, 1, none⟩ _ (hN7.cell 1) hne
            have HF8 := Lib.hid F3
            clear F1 F3 G3 hri hle hN7 cx hs7 f7 HFF6 HN6 hs6
            go_wp2_with fail
            refine (refint_ok y w8 hry.1 hry.2).mono ?_
            rintro e1 w9 ⟨v9, rfl, f9⟩
            obtain ⟨A9, c9, rfl⟩ := own_slice f9.1
            have F1 := fresh_keep HF8.out f9.2
            have hri := fresh_ri f9
            have hle := enc_len (zig y)
            have hle2 := enc_len (zig x)
            go_wp2_with (at_builtin; refine wpList_appF W0 _ rfl (.tmp 50) (.tmp 53) rfl A3 m3 c3 _ F1 rfl A9 _ c9 (enc (zig y)) rfl rfl hri (by rw [List.length_append]; omega) ?_; intro A10 m10 c10 w10 F10 G10)
            go_roundw
            case rel =>
              refine ⟨j2 + 1, m10, A10, c10, by omega, rfl, by go_num, Lib.hid ?_⟩
              have := F10
              rw [HY.out, HXX.out, HYY.out] at this
              rw [show 2 * (j2 + 1) = 2 * j2 + 1 + 1 from by omega, take_snoc (by have := HL.out; omega), take_snoc (by have := HL.out; omega), encs_snoc, encs_snoc]
              simpa using this
            case measure => simp [intOf]; omega
          · have hjn' : ¬ (j2 : Int) < L := by omega
            have hd2 := decide_eq_false hjn'
            have hj3 : j2 = L := by omega
            go_wp2
            go_ret
            refine ⟨_, rfl, ?_⟩
            have : Event.wr e = X ++ (enc (L : Int) ++ encs (e.ts.take (2 * j2))) := by
              rw [HX.out]
              unfold Event.wr Ev.tail
              have ht : e.ts.take (2 * L) = e.ts := List.take_of_length_le (by have := HL.out; omega)
              rw [if_pos (by rw [← HOP.out]; first | rfl | exact h1), HN.out, ← HOP.out, ← HKEY.out, ← HL.out, hj3, ht]
              simp
            rw [this]
            exact Fresh.then' d0.out HFR.out
      · have e1 : (op == 1) = false := by simpa using h1
        go_wp2
        go_ret
        refine ⟨_, rfl, ?_⟩
        have : Event.wr e = op :: (enc key ++ encs (e.ns.take n)) := by
          unfold Event.wr Ev.tail
          rw [if_neg (by rw [← HOP.out]; exact h1), HN.out, ← HOP.out, ← HKEY.out]
          simp
        rw [this]
        exact Fresh.then' d0.out HFN.out
end Go.Proofs.Ytkcfeaonkgpbdaa.Event
