/- Lemmas of a claim, several texts in one: EvC, EvD, EvE, EvF -/
import Derived.Test.YtlfomhdphbchpaaGreatDoorG19
import Derived.Test.YtlfomhdphbchpaaGreatDoorG02
/-! the document's Form -/
namespace Go.Proofs.YtlfomhdphbchpaaGreatDoor.Event
open Go.RowKit Go.Deep Go.Proofs.YtlfomhdphbchpaaGreatDoor Go.Proofs.YtlfomhdphbchpaaGreatDoor.Pack
set_option linter.unusedVariables false
set_option linter.unusedSimpArgs false
noncomputable def formB (e : Ev) : Bool := @decide e.form (Classical.propDecidable _)
theorem formB_yes {e : Ev} (h : e.form) : formB e = true := by unfold formB; simpa using h
theorem formB_no {e : Ev} (h : ¬ e.form) : formB e = false := by unfold formB; simpa using h
end Go.Proofs.YtlfomhdphbchpaaGreatDoor.Event

/-! event.Write -/
namespace Go.Proofs.YtlfomhdphbchpaaGreatDoor.Event
open Go.RowKit Go.Deep Go.Proofs.YtlfomhdphbchpaaGreatDoor Go.Proofs.YtlfomhdphbchpaaGreatDoor.Pack
set_option linter.unusedVariables false
set_option linter.unusedSimpArgs false
theorem fresh_keep {w w1 w2 : World} {v : Value} {xs : List Int} (h : Fresh w w1 v xs) (hb : Below w1.heap.size w1 w2) : Fresh w w2 v xs :=
  ⟨own_below h.1 hb, below_then' h.2 hb⟩
theorem wpQuiet_got {P : Program} {ops : Array Oper} {C : World → Prop} {Q : Act → Prop} {rest : List Oper} {o : Oper} {a : Act} (v : Value) (hw : Region.wanted o (yielded ops a.tmps) = true)
    (h : ∀ w, C w → (execOp a.eval o).run P w = .ok (.value v) w) (h2 : ∀ K : Act → Prop, (∀ a, wpQuiet P ops C Q rest a → K a) → K (a.put o.dst v)) : wpQuiet P ops C Q (o :: rest) a := by
  simp only [wpQuiet, hw, if_true]
  exact ⟨v, fun w hC => by unfold Oper.quietAt; rw [h w hC]; exact ⟨rfl, rfl⟩, h2 _ (fun _ q => q)⟩
theorem tier_cells {w : World} {B : Nat} {A : Option Addr} {ts : List Int} (h : RI w B .i64 A ts) {j : Nat} (hj : 2 * j + 1 < ts.length) :
    ∃ ad, A = some ad ∧ (ad.add (j * 2)).block < B ∧ w.cell? (ad.add (j * 2)) = some (.int .i64 (rd ts (2 * j))) ∧ w.cell? ⟨(ad.add (j * 2)).block, (ad.add (j * 2)).off + 1, none⟩ = some (.int .i64 (rd ts (2 * j + 1))) := by
  obtain ⟨ad, rfl, hb, h1⟩ := h.one (j := 2 * j) (by omega)
  obtain ⟨_, e, _, h2⟩ := h.one (j := 2 * j + 1) hj
  obtain rfl := Option.some.inj e
  refine ⟨ad, rfl, by rw [block_of_add]; exact hb, by rw [Nat.mul_comm]; exact h1, ?_⟩
  have e2 : (ad.add (2 * j + 1)) = ⟨(ad.add (j * 2)).block, (ad.add (j * 2)).off + 1, none⟩ := by
    rw [← Addr.add_add ad (2 * j) 1, Nat.mul_comm 2 j]
    simp [Addr.add]
  rw [← e2]
  exact h2
theorem take_snoc {l : List Int} {j : Nat} (h : j < l.length) : l.take (j + 1) = l.take j ++ [rd l j] := by
  rw [rd_get h, List.take_add_one, List.getElem?_eq_getElem h]; rfl
theorem fresh_len {w w' : World} {A : Option Addr} {m c : Nat} {xs : List Int} (h : Fresh w w' (.slice A m c) xs) : m = xs.length := by
  have h1 : w'.ownsRow w.heap.size 5 1 (.slice A m c) xs.length (nums .u8 xs) := h.1
  rcases h1.2 with ⟨h2, _⟩ | ⟨g, cap, cur, h2, _⟩
  · injection h2 with h3 h4 h5
    omega
  · injection h2
theorem fresh_ri {w w' : World} {A : Option Addr} {m c : Nat} {xs : List Int} (h : Fresh w w' (.slice A m c) xs) : RI w' w'.heap.size .u8 A xs := by
  have h1 := fresh_len h
  subst h1
  exact (RI.of_own h.1).2
set_option maxRecDepth 100000 in
set_option maxHeartbeats 4000000 in
theorem write_no (e : Ev) (A : Option Addr) (c : Nat) (w : World) (ho : e.ok) (hf : ¬ e.form) (hlen : e.ts.length ≤ 17592186044416) :
    Calls Tryz.prog 121 #[.agg (row e A c)] w fun x w' => x = .returned (.tuple #[.slice none 0 0, .int .i64 3]) ∧ Below w.heap.size w w' := by
  have hck := fun w' => check_ok e A c w' ho hlen
  have hr := row_row e A c
  obtain ⟨R, hR⟩ : ∃ R, R = row e A c := ⟨_, rfl⟩
  rw [← hR] at hr ⊢
  simp only [← hR] at hck
  have HR := Lib.hid hr
  have HCK := Lib.hid hck
  clear hr hR hck
  go_enter Tryz.func121, Tryz.ntmps121
  have hB := Lib.hid (Blk.new w 32 R)
  have d0 := Lib.hid (((Below.refl w.heap.size w).alloc (Nat.le_refl _) (.cells R 32)))
  go_wp2_with (first
    | (refine wpList_load_row rfl 32 (.tmp 1) rfl w.heap.size rfl 32 R (0, 0) _ hB.out Tryz.underlying32 rfl (by rw [HR.out.size]; kernel_rfl) ?_))
  refine (HCK.out _).mono ?_
  rintro e1 w1 ⟨f, rfl, hff, b1⟩
  have hf3 : f = 3 := by
    rcases hff with ⟨_, h⟩ | ⟨h, _⟩
    · exact absurd h hf
    · exact h
  subst hf3
  go_wp2
  go_ret2
  exact ⟨rfl, d0.out.trans (b1.mono (by simp))⟩
set_option maxRecDepth 100000 in
set_option maxHeartbeats 4000000 in
theorem write_ok (e : Ev) (A : Option Addr) (c : Nat) (w : World) (ho : e.ok) (hf : e.form) (hts : RI w w.heap.size .i64 A e.ts) (hcap : e.ts.length / 2 ≤ c) :
    Calls Tryz.prog 121 #[.agg (row e A c)] w fun x w' => ∃ v, x = .returned (.tuple #[v, .int .i64 0]) ∧ Fresh w w' v (wr e) := by
  have hlen16 := hf.2.1
  have hck := fun w' => check_ok e A c w' ho (by omega)
  have hr := row_row e A c
  obtain ⟨R, hR⟩ : ∃ R, R = row e A c := ⟨_, rfl⟩
  rw [← hR] at hr ⊢
  simp only [← hR] at hck
  have HR := Lib.hid hr
  have HCK := Lib.hid hck
  have HO := Lib.hid ho
  have HF := Lib.hid hf
  have HT := Lib.hid hts
  have hop0 := ho.op0
  have hop1 := ho.op1
  have hk0 := ho.key0
  have hk1 := ho.key1
  have hc0 := hf.1
  have hc := cnt_range e.op
  obtain ⟨n, hn⟩ : ∃ n : Nat, cnt e.op = n := ⟨(cnt e.op).toNat, by omega⟩
  have hn8 : n ≤ 8 := by omega
  have HN := Lib.hid hn
  have hcnt := fun w' => count_ok e.op hop0 hop1 w'
  simp only [hn] at hcnt
  have HCNT := Lib.hid (show ∀ w', Calls Tryz.prog 38 #[.int .u8 e.op] w' fun e w'' => e = .returned (.tuple #[.int .i64 n, .int .i64 0]) ∧ w'' = w' from fun w' => by
    have := hcnt w'
    rw [if_neg (by omega), if_neg (by omega)] at this
    exact this)
  clear hcnt hck hr hR hc0 hc hn ho hf hts
  obtain ⟨L, hL⟩ : ∃ L, L = e.ts.length / 2 := ⟨_, rfl⟩
  have HL := Lib.hid hL
  have hL8 : L ≤ 8 := by omega
  rw [← hL] at hcap
  clear hL
  obtain ⟨op, hop⟩ : ∃ op, op = e.op := ⟨_, rfl⟩
  obtain ⟨key, hkey⟩ : ∃ key, key = e.key := ⟨_, rfl⟩
  rw [← hop] at hop0 hop1 HCNT
  rw [← hkey] at hk0 hk1
  have HOP := Lib.hid hop
  have HKEY := Lib.hid hkey
  clear hop hkey
  go_enter Tryz.func121, Tryz.ntmps121
  have hB := Lib.hid (Blk.new w 32 R)
  have d0 := Lib.hid (((Below.refl w.heap.size w).alloc (Nat.le_refl _) (.cells R 32)))
  go_wp2_with (first
    | (refine wpList_load_row rfl 32 (.tmp 1) rfl w.heap.size rfl 32 R (0, 0) _ hB.out Tryz.underlying32 rfl (by rw [HR.out.size]; kernel_rfl) ?_))
  refine (HCK.out _).mono ?_
  rintro e1 w1 ⟨f, rfl, hff, b1⟩
  have hf0 : f = 0 := by
    rcases hff with ⟨h, _⟩ | ⟨_, h⟩
    · exact h
    · exact absurd HF.out h
  subst hf0
  have hB1 := Lib.hid (hB.out.below b1 (by simp))
  have d1 := Lib.hid (d0.out.trans (b1.mono (by simp)))
  have s1 : w.heap.size + 1 ≤ w1.heap.size := by have := b1.size; simpa using this
  have c0 := (hB1.out.cell 0).trans HR.out.op
  have c1 := (hB1.out.cell 1).trans HR.out.key
  rw [← HOP.out] at c0
  rw [← HKEY.out] at c1
  clear hff b1 hB d0
  go_wp2_with fail
  refine (HCNT.out _).mono ?_
  rintro e1 w2 ⟨rfl, rfl⟩
  go_upto_region 5 with fail
  obtain ⟨w3, hw3⟩ : ∃ w3, w3 = w2.alloc (.cells #[.int .u8 op] 5) := ⟨_, rfl⟩
  have hB3 := hB1.out.alloc (.cells #[.int .u8 op] 5)
  have c31 := (hB3.cell 1).trans HR.out.key
  rw [← HKEY.out] at c31
  have hR3 : RI (w2.alloc (.cells #[.int .u8 op] 5)) (w2.alloc (.cells #[.int .u8 op] 5)).heap.size .u8 (some ⟨w2.heap.size, 0, none⟩) [op] := RI.of_lit (Blk.new _ _ _) rfl
  have d3 := d1.out.alloc d1.out.size (.cells #[.int .u8 op] 5)
  have s3 : (w2.alloc (.cells #[.int .u8 op] 5)).heap.size = w2.heap.size + 1 := by simp
  go_wp2_with fail
  refine (uint_ok (some ⟨w2.heap.size, 0, none⟩) 1 [op] key _ hR3 (by simp) hk0 hk1).mono ?_
  rintro e1 w4 ⟨v4, rfl, f4⟩
  obtain ⟨A4, c4, rfl⟩ := own_slice f4.1
  have hB4 := Lib.hid (hB3.below f4.2 (by omega))
  have HF4 := Lib.hid (Fresh.then' d3 f4)
  generalize hm4 : ([op] ++ enc key).length = m4 at *
  clear hm4 f4 c31 hR3 d3 hB3 s3 c0 c1 hB1 s1 d1
  go_wp2_with (first
    | (refine wpList_arr_to rfl (.tmp 29) (.tmp 30) 29 rfl Tryz.underlying29 (fun _ => by kernel_rfl) 8 (by kernel_rfl) (by omega) w.heap.size 2 n .i64 rfl rfl hn8 ?_))
  go_loopw [7, 33] (fun p i wr => ∃ (j m : Nat) (A' : Option Addr) (c' : Nat), j ≤ n ∧ p = .slice A' m c' ∧ i = .int .i64 j ∧ Hid (Fresh w wr (.slice A' m c') (op :: (enc key ++ encs (e.ns.take j)))) ∧ Hid (Blk wr w.heap.size 32 R)) (fun _ i _ => n - (intOf i).toNat)
  case atStart => exact ⟨0, m4, A4, c4, by omega, rfl, rfl, Lib.hid (by simpa [encs] using HF4.out), hB4⟩
  case round =>
    clear HF4 hB4
    obtain ⟨j, m, A', c', hj, rfl, rfl, HFR, HB⟩ := hrel
    by_cases hjn : j < n
    · have hjn' : (j : Int) < n := by omega
      have hd := decide_eq_true hjn'
      have cj := (HB.out.cell (2 + j)).trans (HR.out.n j (by omega))
      have hrdj := HO.out.ns.rd j
      obtain ⟨v, hv⟩ : ∃ v, v = rd e.ns j := ⟨_, rfl⟩
      rw [← hv] at cj hrdj
      have HV := Lib.hid hv
      clear hv
      go_wp2_with fail
      have hlen := fresh_len HFR.out
      have hri := fresh_ri HFR.out
      obtain ⟨X, hX⟩ : ∃ X, X = op :: (enc key ++ encs (e.ns.take j)) := ⟨_, rfl⟩
      rw [← hX] at hlen hri
      have hXl : X.length ≤ 100 := by
        rw [hX]
        have h1 := enc_len key
        have h2 := encs_len (e.ns.take j)
        rw [List.length_take] at h2
        simp only [List.length_cons, List.length_append]; omega
      subst hlen
      refine (int_ok A' c' X v wr hri (by omega) hrdj.1 hrdj.2).mono ?_
      rintro e1 w5 ⟨v5, rfl, f5⟩
      obtain ⟨A5, c5, rfl⟩ := own_slice f5.1
      have hB5 := Lib.hid (HB.out.below f5.2 HB.out.lt)
      have HF5 := Lib.hid (Fresh.then' HFR.out.2 f5)
      generalize hm5 : (X ++ enc (zig v)).length = m5 at *
      have HX := Lib.hid hX
      clear hm5 f5 hri hXl hX HB HFR
      go_wp2
      go_roundw
      case rel =>
        refine ⟨j + 1, m5, A5, c5, by omega, rfl, by go_num, Lib.hid ?_, hB5⟩
        have := HF5.out
        rw [HX.out, HV.out] at this
        rw [take_snoc (by rw [HO.out.len]; omega), encs_snoc]
        simpa using this
      case measure => simp [intOf]; omega
    · have hj' : j = n := by omega
      have hjn' : ¬ (j : Int) < n := by omega
      have hd := decide_eq_false hjn'
      have HFN : Hid (Fresh w wr (.slice A' m c') (op :: (enc key ++ encs (e.ns.take n)))) := by rw [← hj']; exact HFR
      have c0 := (HB.out.cell 0).trans HR.out.op
      have c10 := (HB.out.cell 10).trans HR.out.ts
      rw [← HOP.out] at c0
      rw [← HL.out] at c10
      clear hj' HFR
      by_cases h1 : op = 1
      · go_wp2_with fail
        have hlen := fresh_len HFN.out
        have hri := fresh_ri HFN.out
        obtain ⟨X, hX⟩ : ∃ X, X = op :: (enc key ++ encs (e.ns.take n)) := ⟨_, rfl⟩
        have HX := Lib.hid hX
        rw [← hX] at hlen hri HFN
        have hXl : X.length ≤ 100 := by
          rw [hX]
          have h1 := enc_len key
          have h2 := encs_len (e.ns.take n)
          rw [List.length_take] at h2
          simp only [List.length_cons, List.length_append]; omega
        have HXL := Lib.hid hXl
        clear hX
        subst hlen
        refine (uint_ok A' c' X L wr hri (by omega) (by omega) (by omega)).mono ?_
        rintro e1 w5 ⟨v5, rfl, f5⟩
        obtain ⟨A5, c5, rfl⟩ := own_slice f5.1
        have hB5 := Lib.hid (HB.out.below f5.2 HB.out.lt)
        have HF5 := Lib.hid (Fresh.then' HFN.out.2 f5)
        have c10' := (hB5.out.cell 10).trans HR.out.ts
        rw [← HL.out] at c10'
        generalize hm5 : (X ++ enc (L : Int)).length = m5 at *
        clear hm5 f5 hri hXl HB HFN c0 c10
        go_wp2_with fail
        go_loopw [7, 53] (fun p i wr => ∃ (j m : Nat) (A' : Option Addr) (c' : Nat), j ≤ L ∧ p = .slice A' m c' ∧ i = .int .i64 j ∧ Hid (Fresh w wr (.slice A' m c') (X ++ (enc (L : Int) ++ encs (e.ts.take (2 * j))))) ∧ Hid (Blk wr w.heap.size 32 R)) (fun _ i _ => L - (intOf i).toNat)
        case atStart => exact ⟨0, m5, A5, c5, by omega, rfl, rfl, Lib.hid (by simpa [encs] using HF5.out), hB5⟩
        case round =>
          clear HF5 hB5 c10'
          obtain ⟨j2, m2, A2, c2, hj2, rfl, rfl, HFR, HB⟩ := hrel
          have hTL := HO.out.even
          by_cases hjn : j2 < L
          · have hjn' : (j2 : Int) < L := by omega
            have hd2 := decide_eq_true hjn'
            have hbw := HFR.out.2
            obtain ⟨ad, hAd, hadb, hca, hcb⟩ := tier_cells (j := j2) (HT.out.below hbw) (by have := HL.out; omega)
            subst hAd
            have hrx := HO.out.ts.rd (2 * j2)
            have hry := HO.out.ts.rd (2 * j2 + 1)
            obtain ⟨x, hx⟩ : ∃ x, x = rd e.ts (2 * j2) := ⟨_, rfl⟩
            obtain ⟨y, hy⟩ : ∃ y, y = rd e.ts (2 * j2 + 1) := ⟨_, rfl⟩
            rw [← hx] at hca hrx
            rw [← hy] at hcb hry
            have HXX := Lib.hid hx
            have HYY := Lib.hid hy
            clear hx hy
            go_wp2_with fail
            have hB6 := HB.out.alloc (.cells #[.int .i64 x, .int .i64 y] 66)
            have HF6 := fresh_keep HFR.out ((Below.refl _ _).alloc (Nat.le_refl _) (.cells #[.int .i64 x, .int .i64 y] 66))
            have hN6 := Blk.new wr 66 #[.int .i64 x, .int .i64 y]
            have hs6 : (wr.alloc (.cells #[.int .i64 x, .int .i64 y] 66)).heap.size = wr.heap.size + 1 := by simp
            obtain ⟨w6, hw6⟩ : ∃ w6, w6 = wr.alloc (.cells #[.int .i64 x, .int .i64 y] 66) := ⟨_, rfl⟩
            rw [← hw6] at hB6 HF6 hN6 hs6 ⊢
            obtain ⟨tb, htb⟩ : ∃ tb, tb = wr.heap.size := ⟨_, rfl⟩
            rw [← htb] at hN6 hs6 ⊢
            have HB6 := Lib.hid hB6
            have HFF6 := Lib.hid HF6
            have HN6 := Lib.hid hN6
            clear hw6 hB6 HF6 hN6 htb hca hcb HFR HB hadb hbw
            refine wp_region_mix (C := fun w' => Below w6.heap.size w6 w') [([0, 1, 2, 4, 5], some 3), ([], some 6), ([7], none)] (by kernel_rfl) (by kernel_rfl) (Below.refl _ _).drew ?_
            simp only [List.map_cons, List.map_nil, Option.map_some, Option.map_none, opAt, List.getElem?_cons_succ, List.getElem?_cons_zero, Option.getD_some, wpSegs]
            repeat (go_big_quiet_step (fail))
            refine wpQuiet_got (.pointer (some ⟨tb, 0, none⟩)) (by rfl) (fun w' hw' => ?_) (fun K hK => ?_)
            · go_simp
            go_simp
            refine hK _ ?_
            clear hK K
            repeat (go_big_quiet_step (fail))
            refine wpQuiet_got (.int .i64 x) (by rfl) (fun w' hw' => ?_) (fun K hK => ?_)
            · have hl2 : w'.cell? ⟨tb, 0, none⟩ = some (.int .i64 x) := (HN6.out.below hw' (by omega)).cell 0
              go_simp
            go_simp
            refine hK _ ?_
            clear hK K
            repeat (go_big_quiet_step (fail))
            refine wpQuiet_got (.pointer (some ⟨tb, 1, none⟩)) (by rfl) (fun w' hw' => ?_) (fun K hK => ?_)
            · go_simp
            go_simp
            refine hK _ ?_
            clear hK K
            repeat (go_big_quiet_step (fail))
            refine wpQuiet_got (.int .i64 y) (by rfl) (fun w' hw' => ?_) (fun K hK => ?_)
            · have hl2 : w'.cell? ⟨tb, 1, none⟩ = some (.int .i64 y) := (HN6.out.below hw' (by omega)).cell 1
              go_simp
            go_simp
            refine hK _ ?_
            clear hK K
            repeat (go_big_quiet_step (fail))
            refine wpQuiet_nil ?_
            go_wp2_with fail
            have hlen6 := fresh_len HFF6.out
            have hri6 := fresh_ri HFF6.out
            obtain ⟨Y, hY⟩ : ∃ Y, Y = X ++ (enc (L : Int) ++ encs (e.ts.take (2 * j2))) := ⟨_, rfl⟩
            have HY := Lib.hid hY
            rw [← hY] at hlen6 hri6 HFF6
            have hYl : Y.length ≤ 280 := by
              rw [hY]
              have h0 := HXL.out
              have h1 := enc_len (L : Int)
              have h2 := encs_len (e.ts.take (2 * j2))
              rw [List.length_take] at h2
              simp only [List.length_append]; omega
            clear hY
            subst hlen6
            refine (int_ok A2 c2 Y x w6.drew hri6 (by omega) hrx.1 hrx.2).mono ?_
            rintro e1 w7 ⟨v7, rfl, f7⟩
            obtain ⟨A7, c7, rfl⟩ := own_slice f7.1
            have hlen7 := fresh_len f7
            have hri7 := fresh_ri f7
            have HF7 := Lib.hid (Fresh.then' (below_then' HFF6.out.2 (Below.refl w6.heap.size w6).drew) f7)
            have C7 : Below w6.heap.size w6 w7 := (Below.refl w6.heap.size w6).drew.trans f7.2
            generalize hm7 : (Y ++ enc (zig x)).length = m7 at *
            have hm7l : m7 ≤ 290 := by
              rw [← hm7]
              have := enc_len (zig x)
              simp only [List.length_append]; omega
            go_wp2_with fail
            refine ⟨C7, ?_⟩
            repeat (go_big_quiet_step (fail))
            refine wpQuiet_nil ?_
            go_wp2_with fail
            have hi := int_ok A7 c7 (Y ++ enc (zig x)) y w7 hri7 (by rw [hm7]; omega) hry.1 hry.2
            rw [hm7] at hi
            refine hi.mono ?_
            rintro e1 w8 ⟨v8, rfl, f8⟩
            obtain ⟨A8, c8, rfl⟩ := own_slice f8.1
            have HF8 := Lib.hid (Fresh.then' HF7.out.2 f8)
            have HB8 := Lib.hid ((HB6.out.below C7 HB6.out.lt).below f8.2 (Nat.lt_of_lt_of_le HB6.out.lt C7.size))
            have C8 := C7.trans (f8.2.mono C7.size)
            generalize hm8 : (Y ++ enc (zig x) ++ enc (zig y)).length = m8 at *
            clear hi hm8 f8 hri7 HF7 f7 hlen7 C7 hm7 hm7l
            go_wp2_with fail
            refine ⟨C8, ?_⟩
            repeat (go_big_quiet_step (fail))
            refine wpQuiet_nil ?_
            go_wp2_with fail
            go_wp2
            go_roundw
            case rel =>
              refine ⟨j2 + 1, m8, A8, c8, by omega, rfl, by go_num, Lib.hid ?_, HB8⟩
              have := HF8.out
              rw [HY.out, HXX.out, HYY.out] at this
              rw [show 2 * (j2 + 1) = 2 * j2 + 1 + 1 from by omega, take_snoc (by have := HL.out; omega), take_snoc (by have := HL.out; omega), encs_snoc, encs_snoc]
              simpa using this
            case measure => simp [intOf]; omega
          · have hjn' : ¬ (j2 : Int) < L := by omega
            have hd2 := decide_eq_false hjn'
            have hj3 : j2 = L := by omega
            go_wp2
            go_ret2
            refine ⟨_, rfl, ?_⟩
            have : Event.wr e = X ++ (enc (L : Int) ++ encs (e.ts.take (2 * j2))) := by
              rw [HX.out]
              unfold Event.wr Ev.tail
              have ht : e.ts.take (2 * L) = e.ts := List.take_of_length_le (by have := HL.out; omega)
              rw [if_pos (by rw [← HOP.out]; first | rfl | exact h1), HN.out, ← HOP.out, ← HKEY.out, ← HL.out, hj3, ht]
              simp
            rw [this]
            exact HFR.out
      · have e1 : (op == 1) = false := by simpa using h1
        go_wp2
        go_ret2
        refine ⟨_, rfl, ?_⟩
        have : Event.wr e = op :: (enc key ++ encs (e.ns.take n)) := by
          unfold Event.wr Ev.tail
          rw [if_neg (by rw [← HOP.out]; exact h1), HN.out, ← HOP.out, ← HKEY.out]
          simp
        rw [this]
        exact HFN.out
end Go.Proofs.YtlfomhdphbchpaaGreatDoor.Event

/-! the document's Write -/
namespace Go.Proofs.YtlfomhdphbchpaaGreatDoor.Event
open Go.RowKit Go.Deep Go.Proofs.YtlfomhdphbchpaaGreatDoor Go.Proofs.YtlfomhdphbchpaaGreatDoor.Pack
set_option linter.unusedVariables false
set_option linter.unusedSimpArgs false
section
variable {ops : Array Oper} {rest : List Oper} {o : Oper} {a : Act} {Q : Exit → Act → World → Prop}
/-- 'append(s, x...)' onto fresh bytes -/
theorem wpList_appF (W0 W : World) (hgd : o.guard = none) (s x : Operand) (ho : o.op = .call { callee := .builtin .append, args := #[s, x], argTypes := #[94, 94] })
    (A : Option Addr) (m c : Nat) (xs : List Int) (hf : Fresh W0 W (.slice A m c) xs) (hs : a.eval s = .slice A m c)
    (A1 : Option Addr) (m1 c1 : Nat) (ys : List Int) (hx : a.eval x = .slice A1 m1 c1) (hm : m1 = ys.length) (hr : RI W W.heap.size .u8 A1 ys) (hl : xs.length + ys.length ≤ 140737488355328)
    (h : ∀ A' m' c' w', Fresh W0 w' (.slice A' m' c') (xs ++ ys) → (∀ (ad : Addr) v, W.cell? ad = some v → some ad.block ≠ (Value.slice A m c).ownBlock → w'.cell? ad = some v) → wpList Tryz.prog ops Q rest (a.put o.dst (.slice A' m' c')) w') : wpList Tryz.prog ops Q (o :: rest) a W := by
  have hs0 := hf.2.size
  subst hm
  refine wpList_app W hgd s x 94 ho W0.heap.size 5 .u8 1 Tryz.underlying94 info5 (by omega) (.slice A m c) xs hf.1 hs W.heap.size A1 c1 ys hx hr (by omega) hs0 ?_
  intro v' w' hown hg _
  obtain ⟨A2, c2, rfl⟩ := own_slice hown
  exact h _ _ _ _ ⟨hown, below_own hf.2 hg hf.1 (Nat.le_refl _) hs0⟩ (fun ad v hv hne => hg.cell hv hne)
end
theorem fresh_blk {w w' : World} {v : Value} {xs : List Int} (h : Fresh w w' v xs) {k : Nat} (hk : v.ownBlock = some k) : k < w'.heap.size := (h.1.lt k hk).2
theorem fresh_lit (w : World) (op : Int) : Fresh w (w.alloc (.cells #[.int .u8 op] 5)) (.slice (some ⟨w.heap.size, 0, none⟩) 1 1) [op] :=
  ⟨⟨rfl, .inr ⟨w.heap.size, 1, #[.int .u8 op], rfl, Nat.le_refl _, heap_alloc_new w _, Nat.le_refl _, by simp [maxLen], rfl, rfl⟩⟩, (Below.refl _ _).alloc (Nat.le_refl _) _⟩
end Go.Proofs.YtlfomhdphbchpaaGreatDoor.Event

/-! DocWrite; the reader's two functions -/
namespace Go.Proofs.YtlfomhdphbchpaaGreatDoor.Event
open Go.RowKit Go.Deep Go.Proofs.YtlfomhdphbchpaaGreatDoor Go.Proofs.YtlfomhdphbchpaaGreatDoor.Pack
set_option linter.unusedVariables false
set_option linter.unusedSimpArgs false
theorem grown_set (w : World) (b i : Nat) (u : Value) : w.grownBy (w.setCell ⟨b, i, none⟩ u) (some b) := by
  have h := (Below.refl b w).setCell (p := ⟨b, i, none⟩) (Nat.le_refl _) u
  exact ⟨h.os, h.tape, h.output, h.size, fun k hk hne => Below.heap_setCell w ⟨b, i, none⟩ u k (fun e => hne (by rw [e]))⟩
/-- the reader: what is left of the bytes, and whether it has failed -/
def Rst (w : World) (b B : Nat) (xs : List Int) (bad : Bool) : Prop :=
  ∃ (A : Option Addr) (c : Nat), Blk w b 224 #[.slice A xs.length c, .bool bad] ∧ xs.length ≤ c ∧ RI w B .u8 A xs
def rest (xs : List Int) : List Int := xs.drop (rdU xs).2.1.toNat
def bads (xs : List Int) (bad : Bool) : Bool := bad || ((rdU xs).2.2 != 0)
set_option maxRecDepth 100000 in
set_option maxHeartbeats 4000000 in
theorem rduint_ok (b B : Nat) (xs : List Int) (bad : Bool) (w : World) (h : Rst w b B xs bad) (hBb : B ≤ b) (hl : xs.length ≤ 140737488355328) (hb : Byt xs) :
    Calls Tryz.prog 119 #[.pointer (some ⟨b, 0, none⟩)] w fun e w' => e = .returned (.int .u64 (rdU xs).1) ∧ w.grownBy w' (some b) ∧ Rst w' b B (rest xs) (bads xs bad) := by
  obtain ⟨A, c, hB, hc, hr⟩ := h
  have hcall := fun w' h => readuint_ok A c B xs w' h (by omega) hb
  have hrange := rdU_range xs hb
  obtain ⟨k, hk⟩ : ∃ k : Nat, (rdU xs).2.1 = k := ⟨(rdU xs).2.1.toNat, by omega⟩
  have hkx : k ≤ xs.length := by omega
  have hrest : rest xs = xs.drop k := by unfold rest; rw [hk]; rfl
  have hcode : (rdU xs).2.2 = 0 ∨ (rdU xs).2.2 = 3 := by omega
  rw [hk] at hcall
  obtain ⟨v, hv⟩ : ∃ v, v = (rdU xs).1 := ⟨_, rfl⟩
  obtain ⟨f, hf⟩ : ∃ f, f = (rdU xs).2.2 := ⟨_, rfl⟩
  have hbads : bads xs bad = (bad || (f != 0)) := by unfold bads; rw [hf]
  rw [hrest, hbads]
  rw [← hf] at hcode
  rw [← hv]
  simp only [← hv, ← hf] at hcall
  obtain ⟨L, hL⟩ : ∃ L, L = xs.length := ⟨_, rfl⟩
  have HL := Lib.hid hL
  rw [← hL] at hB hc hl hkx hcall
  have HB := Lib.hid hB
  have HRI := Lib.hid hr
  have HCALL := Lib.hid hcall
  have c0 : w.cell? ⟨b, 0, none⟩ = some (.slice A L c) := hB.cell 0
  have c1 : w.cell? ⟨b, 1, none⟩ = some (.bool bad) := hB.cell 1
  have f0 := hB.frozen 0
  have f1 := hB.frozen 1
  clear hB hr hcall hbads hf hv hrest hk hrange hL hb
  go_enter Tryz.func119, Tryz.ntmps119
  go_wp2_with fail
  refine (HCALL.out w HRI.out).mono ?_
  rintro e1 w1 ⟨rfl, rfl⟩
  go_upto_region 2 with fail
  have hbF : (!bad) = false ∨ (!bad) = true := by cases bad <;> simp
  have hAl : ∀ u, (w1.setCell ⟨b, 1, none⟩ u).cell? ⟨b, 0, none⟩ = some (.slice A L c) := fun u => (HB.out.set_ 1 u).cell 0
  have hAf : ∀ u, (w1.setCell ⟨b, 1, none⟩ u).frozen? ⟨b, 0, none⟩ = false := fun u => (HB.out.set_ 1 u).frozen 0
  have HAL := Lib.hid hAl
  have HAF := Lib.hid hAf
  clear hAl hAf
  cases bad
  · rcases hcode with hcode | hcode <;> subst hcode
    · go_upto_region 3 with fail
      have q1 := HAL.out (.bool true)
      have q2 := HAL.out (.bool false)
      have q3 := HAF.out (.bool true)
      have q4 := HAF.out (.bool false)
      go_wp2_with (first
        | (refine wpList_cut rfl (.tmp 30) (.tmp 31) 94 rfl Tryz.underlying94 (fun _ => by kernel_rfl) A L c k .i64 rfl rfl hkx hc ?_
           intro A' hA'))
      go_ret
      refine ⟨rfl, (grown_set _ _ _ _).trans (grown_set _ _ _ _), A', c - k, ?_, ?_, ?_⟩
      · have := (HB.out.set_ 1 (.bool false)).set_ 0 (.slice A' (L - k) (c - k))
        simp only [List.length_drop, ← HL.out]
        exact this
      · rw [List.length_drop, ← HL.out]; omega
      · exact hA' _ B .u8 xs HL.out.symm ((HRI.out.setCell hBb _).setCell hBb _)
    · go_upto_region 3 with fail
      have q1 := HAL.out (.bool true)
      have q2 := HAL.out (.bool false)
      have q3 := HAF.out (.bool true)
      have q4 := HAF.out (.bool false)
      go_wp2_with (first
        | (refine wpList_cut rfl (.tmp 30) (.tmp 31) 94 rfl Tryz.underlying94 (fun _ => by kernel_rfl) A L c k .i64 rfl rfl hkx hc ?_
           intro A' hA'))
      go_ret
      refine ⟨rfl, (grown_set _ _ _ _).trans (grown_set _ _ _ _), A', c - k, ?_, ?_, ?_⟩
      · have := (HB.out.set_ 1 (.bool true)).set_ 0 (.slice A' (L - k) (c - k))
        simp only [List.length_drop, ← HL.out]
        exact this
      · rw [List.length_drop, ← HL.out]; omega
      · exact hA' _ B .u8 xs HL.out.symm ((HRI.out.setCell hBb _).setCell hBb _)
  · rcases hcode with hcode | hcode <;> subst hcode
    · go_upto_region 3 with fail
      have q1 := HAL.out (.bool true)
      have q2 := HAL.out (.bool false)
      have q3 := HAF.out (.bool true)
      have q4 := HAF.out (.bool false)
      go_wp2_with (first
        | (refine wpList_cut rfl (.tmp 30) (.tmp 31) 94 rfl Tryz.underlying94 (fun _ => by kernel_rfl) A L c k .i64 rfl rfl hkx hc ?_
           intro A' hA'))
      go_ret
      refine ⟨rfl, (grown_set _ _ _ _).trans (grown_set _ _ _ _), A', c - k, ?_, ?_, ?_⟩
      · have := (HB.out.set_ 1 (.bool true)).set_ 0 (.slice A' (L - k) (c - k))
        simp only [List.length_drop, ← HL.out]
        exact this
      · rw [List.length_drop, ← HL.out]; omega
      · exact hA' _ B .u8 xs HL.out.symm ((HRI.out.setCell hBb _).setCell hBb _)
    · go_upto_region 3 with fail
      have q1 := HAL.out (.bool true)
      have q2 := HAL.out (.bool false)
      have q3 := HAF.out (.bool true)
      have q4 := HAF.out (.bool false)
      go_wp2_with (first
        | (refine wpList_cut rfl (.tmp 30) (.tmp 31) 94 rfl Tryz.underlying94 (fun _ => by kernel_rfl) A L c k .i64 rfl rfl hkx hc ?_
           intro A' hA'))
      go_ret
      refine ⟨rfl, (grown_set _ _ _ _).trans (grown_set _ _ _ _), A', c - k, ?_, ?_, ?_⟩
      · have := (HB.out.set_ 1 (.bool true)).set_ 0 (.slice A' (L - k) (c - k))
        simp only [List.length_drop, ← HL.out]
        exact this
      · rw [List.length_drop, ← HL.out]; omega
      · exact hA' _ B .u8 xs HL.out.symm ((HRI.out.setCell hBb _).setCell hBb _)
set_option maxRecDepth 100000 in
set_option maxHeartbeats 4000000 in
theorem rdint_ok (b B : Nat) (xs : List Int) (bad : Bool) (w : World) (h : Rst w b B xs bad) (hBb : B ≤ b) (hl : xs.length ≤ 140737488355328) (hb : Byt xs) :
    Calls Tryz.prog 120 #[.pointer (some ⟨b, 0, none⟩)] w fun e w' => e = .returned (.int .i64 (zag (rdU xs).1)) ∧ w.grownBy w' (some b) ∧ Rst w' b B (rest xs) (bads xs bad) := by
  obtain ⟨A, c, hB, hc, hr⟩ := h
  have hcall := fun w' h => readint_ok A c B xs w' h (by omega) hb
  have hrange := rdU_range xs hb
  obtain ⟨k, hk⟩ : ∃ k : Nat, (rdU xs).2.1 = k := ⟨(rdU xs).2.1.toNat, by omega⟩
  have hkx : k ≤ xs.length := by omega
  have hrest : rest xs = xs.drop k := by unfold rest; rw [hk]; rfl
  have hcode : (rdU xs).2.2 = 0 ∨ (rdU xs).2.2 = 3 := by omega
  rw [hk] at hcall
  obtain ⟨v, hv⟩ : ∃ v, v = zag (rdU xs).1 := ⟨_, rfl⟩
  obtain ⟨f, hf⟩ : ∃ f, f = (rdU xs).2.2 := ⟨_, rfl⟩
  have hbads : bads xs bad = (bad || (f != 0)) := by unfold bads; rw [hf]
  rw [hrest, hbads]
  rw [← hf] at hcode
  rw [← hv]
  simp only [← hv, ← hf] at hcall
  obtain ⟨L, hL⟩ : ∃ L, L = xs.length := ⟨_, rfl⟩
  have HL := Lib.hid hL
  rw [← hL] at hB hc hl hkx hcall
  have HB := Lib.hid hB
  have HRI := Lib.hid hr
  have HCALL := Lib.hid hcall
  have c0 : w.cell? ⟨b, 0, none⟩ = some (.slice A L c) := hB.cell 0
  have c1 : w.cell? ⟨b, 1, none⟩ = some (.bool bad) := hB.cell 1
  have f0 := hB.frozen 0
  have f1 := hB.frozen 1
  clear hB hr hcall hbads hf hv hrest hk hrange hL hb
  go_enter Tryz.func120, Tryz.ntmps120
  go_wp2_with fail
  refine (HCALL.out w HRI.out).mono ?_
  rintro e1 w1 ⟨rfl, rfl⟩
  go_upto_region 2 with fail
  have hbF : (!bad) = false ∨ (!bad) = true := by cases bad <;> simp
  have hAl : ∀ u, (w1.setCell ⟨b, 1, none⟩ u).cell? ⟨b, 0, none⟩ = some (.slice A L c) := fun u => (HB.out.set_ 1 u).cell 0
  have hAf : ∀ u, (w1.setCell ⟨b, 1, none⟩ u).frozen? ⟨b, 0, none⟩ = false := fun u => (HB.out.set_ 1 u).frozen 0
  have HAL := Lib.hid hAl
  have HAF := Lib.hid hAf
  clear hAl hAf
  cases bad
  · rcases hcode with hcode | hcode <;> subst hcode
    · go_upto_region 3 with fail
      have q1 := HAL.out (.bool true)
      have q2 := HAL.out (.bool false)
      have q3 := HAF.out (.bool true)
      have q4 := HAF.out (.bool false)
      go_wp2_with (first
        | (refine wpList_cut rfl (.tmp 30) (.tmp 31) 94 rfl Tryz.underlying94 (fun _ => by kernel_rfl) A L c k .i64 rfl rfl hkx hc ?_
           intro A' hA'))
      go_ret
      refine ⟨rfl, (grown_set _ _ _ _).trans (grown_set _ _ _ _), A', c - k, ?_, ?_, ?_⟩
      · have := (HB.out.set_ 1 (.bool false)).set_ 0 (.slice A' (L - k) (c - k))
        simp only [List.length_drop, ← HL.out]
        exact this
      · rw [List.length_drop, ← HL.out]; omega
      · exact hA' _ B .u8 xs HL.out.symm ((HRI.out.setCell hBb _).setCell hBb _)
    · go_upto_region 3 with fail
      have q1 := HAL.out (.bool true)
      have q2 := HAL.out (.bool false)
      have q3 := HAF.out (.bool true)
      have q4 := HAF.out (.bool false)
      go_wp2_with (first
        | (refine wpList_cut rfl (.tmp 30) (.tmp 31) 94 rfl Tryz.underlying94 (fun _ => by kernel_rfl) A L c k .i64 rfl rfl hkx hc ?_
           intro A' hA'))
      go_ret
      refine ⟨rfl, (grown_set _ _ _ _).trans (grown_set _ _ _ _), A', c - k, ?_, ?_, ?_⟩
      · have := (HB.out.set_ 1 (.bool true)).set_ 0 (.slice A' (L - k) (c - k))
        simp only [List.length_drop, ← HL.out]
        exact this
      · rw [List.length_drop, ← HL.out]; omega
      · exact hA' _ B .u8 xs HL.out.symm ((HRI.out.setCell hBb _).setCell hBb _)
  · rcases hcode with hcode | hcode <;> subst hcode
    · go_upto_region 3 with fail
      have q1 := HAL.out (.bool true)
      have q2 := HAL.out (.bool false)
      have q3 := HAF.out (.bool true)
      have q4 := HAF.out (.bool false)
      go_wp2_with (first
        | (refine wpList_cut rfl (.tmp 30) (.tmp 31) 94 rfl Tryz.underlying94 (fun _ => by kernel_rfl) A L c k .i64 rfl rfl hkx hc ?_
           intro A' hA'))
      go_ret
      refine ⟨rfl, (grown_set _ _ _ _).trans (grown_set _ _ _ _), A', c - k, ?_, ?_, ?_⟩
      · have := (HB.out.set_ 1 (.bool true)).set_ 0 (.slice A' (L - k) (c - k))
        simp only [List.length_drop, ← HL.out]
        exact this
      · rw [List.length_drop, ← HL.out]; omega
      · exact hA' _ B .u8 xs HL.out.symm ((HRI.out.setCell hBb _).setCell hBb _)
    · go_upto_region 3 with fail
      have q1 := HAL.out (.bool true)
      have q2 := HAL.out (.bool false)
      have q3 := HAF.out (.bool true)
      have q4 := HAF.out (.bool false)
      go_wp2_with (first
        | (refine wpList_cut rfl (.tmp 30) (.tmp 31) 94 rfl Tryz.underlying94 (fun _ => by kernel_rfl) A L c k .i64 rfl rfl hkx hc ?_
           intro A' hA'))
      go_ret
      refine ⟨rfl, (grown_set _ _ _ _).trans (grown_set _ _ _ _), A', c - k, ?_, ?_, ?_⟩
      · have := (HB.out.set_ 1 (.bool true)).set_ 0 (.slice A' (L - k) (c - k))
        simp only [List.length_drop, ← HL.out]
        exact this
      · rw [List.length_drop, ← HL.out]; omega
      · exact hA' _ B .u8 xs HL.out.symm ((HRI.out.setCell hBb _).setCell hBb _)
end Go.Proofs.YtlfomhdphbchpaaGreatDoor.Event
