import Derived.Test.YtlgedggjpnmhmaaAwake7
import Derived.Test.YtlgedggjpnmhmaaMix
import Derived.Test.YtlgedggjpnmhmaaCut
/-! numbers and bytes that are written one behind another are read one behind another: the law's walk -/
namespace Go.Proofs.Ytlgedggjpnmhmaa.PackStreamW
open Go.RowKit Go.Deep Go.Proofs.Ytlgedggjpnmhmaa.Pack
set_option linter.unusedVariables false
set_option linter.unusedSimpArgs false
/-- a slice of byte slices, below B: each element's address, capacity and bytes -/
def TRead (w : World) (B : Nat) (T : Option Addr) (ts : List (Option Addr × Nat × List Int)) : Prop :=
  ∀ i t, ts[i]? = some t → ∃ ad : Addr, T = some ad ∧ ad.block < B ∧ w.cell? (ad.add i) = some (.slice t.1 t.2.2.length t.2.1) ∧ RI w B .u8 t.1 t.2.2 ∧ Byt t.2.2 ∧ t.2.2.length ≤ t.2.1 ∧ t.2.2.length ≤ 9223372036854775807
theorem TRead.below {w w' : World} {B : Nat} {T : Option Addr} {ts : List (Option Addr × Nat × List Int)} (h : TRead w B T ts) (hb : Below B w w') : TRead w' B T ts := by
  intro i t ht
  obtain ⟨ad, e, h1, h2, h3, h4⟩ := h i t ht
  exact ⟨ad, e, h1, (hb.cell (p := ad.add i) (by rw [show (ad.add i).block = ad.block from by unfold Addr.add; split <;> rfl]; exact h1)).trans h2, h3.below hb, h4⟩
theorem rd_mem {xs : List Int} {k : Nat} (h : k < xs.length) : rd xs k ∈ xs := by rw [rd_get h]; exact List.getElem_mem h
/-- what round k writes of the numbers, of the texts; what the rounds before k write; what is behind -/
def pn (xs : List Int) (k : Nat) : List Int := if k < xs.length then enc (rd xs k % 18446744073709551616) ++ enc (zig (rd xs k)) else []
def pt (ys : List (Option Addr × Nat × List Int)) (k : Nat) : List Int := match ys[k]? with
  | some t => enc ((t.2.2.take 300).length : Int) ++ t.2.2.take 300
  | none => []
def pre (xs : List Int) (ys : List (Option Addr × Nat × List Int)) : Nat → List Int
  | 0 => []
  | k + 1 => pre xs ys k ++ pn xs k ++ pt ys k
theorem wpQuiet_got {P : Program} {ops : Array Oper} {C : World → Prop} {Q : Act → Prop} {rest : List Oper} {o : Oper} {a : Act} (v : Value) (hw : Region.wanted o (yielded ops a.tmps) = true)
    (h : ∀ w, C w → (execOp a.eval o).run P w = .ok (.value v) w) (h2 : ∀ K : Act → Prop, (∀ a, wpQuiet P ops C Q rest a → K a) → K (a.put o.dst v)) : wpQuiet P ops C Q (o :: rest) a := by
  simp only [wpQuiet, hw, if_true]
  exact ⟨v, fun w hC => by unfold Oper.quietAt; rw [h w hC]; exact ⟨rfl, rfl⟩, h2 _ (fun _ q => q)⟩
theorem pn_len (xs : List Int) (k : Nat) : (pn xs k).length ≤ 20 := by
  unfold pn
  split
  · have := enc_len (rd xs k % 18446744073709551616)
    have := enc_len (zig (rd xs k))
    simp; omega
  · simp
def suf (xs : List Int) (ys : List (Option Addr × Nat × List Int)) : Nat → Nat → List Int
  | 0, _ => []
  | f + 1, k => pn xs k ++ (pt ys k ++ suf xs ys f (k + 1))
theorem pre_suf (xs : List Int) (ys : List (Option Addr × Nat × List Int)) : ∀ f k, pre xs ys (k + f) = pre xs ys k ++ suf xs ys f k
  | 0, k => by simp [suf]
  | f + 1, k => by
    rw [show k + (f + 1) = (k + 1) + f from by omega, pre_suf xs ys f (k + 1)]
    simp [suf, pre]
theorem back_u (n : Int) (r : List Int) (h0 : 0 ≤ n) (h1 : n < 18446744073709551616) : rdU (enc n ++ r) = (n, ((enc n).length : Int), 0) := rdU_some (dec_enc n r h0 h1)
theorem back_b (q r : List Int) (hq : q.length ≤ 300) : rdB (enc q.length ++ (q ++ r)) 300 = (q, ((enc q.length).length : Int) + q.length, 0) := by
  unfold rdB
  rw [if_neg (by omega), dec_enc _ _ (by omega) (by omega)]
  simp only []
  rw [if_pos (by simp; omega)]
  simp
theorem Byt.app {a b : List Int} (h : Byt a) (k : Byt b) : Byt (a ++ b) := fun x hx => by
  rcases List.mem_append.1 hx with q | q
  · exact h x q
  · exact k x q
theorem pn_byt (xs : List Int) (k : Nat) (h : ∀ n ∈ xs, -9223372036854775808 ≤ n ∧ n ≤ 9223372036854775807) : Byt (pn xs k) := by
  unfold pn
  split
  · rename_i hk
    have hr := h _ (rd_mem hk)
    exact Byt.app (enc_byt _ (by omega)) (enc_byt _ (zig_range _ hr.1 hr.2).1)
  · intro x hx; simp at hx
theorem pt_byt {w : World} {B : Nat} {T : Option Addr} {ys : List (Option Addr × Nat × List Int)} (h : TRead w B T ys) (k : Nat) : Byt (pt ys k) := by
  unfold pt
  split
  · rename_i t ht
    obtain ⟨_, _, _, _, _, hb, _⟩ := h k t ht
    exact Byt.app (enc_byt _ (by omega)) (fun x hx => hb x (List.mem_of_mem_take hx))
  · intro x hx; simp at hx
theorem suf_byt {w : World} {B : Nat} {T : Option Addr} {xs : List Int} {ys : List (Option Addr × Nat × List Int)} (hx : ∀ n ∈ xs, -9223372036854775808 ≤ n ∧ n ≤ 9223372036854775807) (h : TRead w B T ys) : ∀ f k, Byt (suf xs ys f k)
  | 0, _ => by intro x hx; simp [suf] at hx
  | f + 1, k => Byt.app (pn_byt xs k hx) (Byt.app (pt_byt h k) (suf_byt hx h f (k + 1)))
theorem TRead.take {w : World} {B : Nat} {T : Option Addr} {ts : List (Option Addr × Nat × List Int)} (h : TRead w B T ts) (n : Nat) : TRead w B T (ts.take n) := by
  intro i t ht
  refine h i t ?_
  rw [List.getElem?_take] at ht
  split at ht
  · exact ht
  · cases ht
theorem sizeU8 (w : World) : (sizeOf (Try.prog.elem 22)).run Try.prog w = .ok 1 w := by kernel_rfl
set_option maxRecDepth 100000 in
set_option maxHeartbeats 8000000 in
theorem walk (Q : Option Addr) (cq : Nat) (qs : List Int) (T : Option Addr) (cm : Nat) (ts : List (Option Addr × Nat × List Int)) (w : World) (h1 : ArrIn w .i64 8 Q cq qs) (h2 : TRead w w.heap.size T ts) (hc : ts.length ≤ cm) (hm : ts.length ≤ 9223372036854775807) :
    Calls Try.prog 7 #[.slice Q qs.length cq, .slice T ts.length cm] w fun e w' => e = .returned (.bool true) ∧ Below w.heap.size w w' := by
  have hqb := h1.wf
  have hqc := h1.cap
  have hql := h1.size
  have HQ := Lib.hid h1.reads
  have HT := Lib.hid h2
  clear h1 h2
  go_enter Try.func7, Try.ntmps7
  go_wp2_with fail
  refine (awake_ok _).mono ?_
  rintro e w1 ⟨rfl, b1⟩
  have s1 := b1.size
  go_upto_region 3 with (fail)
  go_cut [0, 1] (fun v u wc => v = .slice Q (qs.take 50).length cq ∧ u = .slice T (ts.take 50).length cm ∧ ∃ nq, wc = w1.drewN nq)
  case first =>
    have e1 : (50 < qs.length ∧ (qs.take 50).length = 50) ∨ (qs.length ≤ 50 ∧ (qs.take 50).length = qs.length) := by simp; omega
    have e2 : (50 < ts.length ∧ (ts.take 50).length = 50) ∨ (ts.length ≤ 50 ∧ (ts.take 50).length = ts.length) := by simp; omega
    rcases e1 with ⟨h, e1⟩ | ⟨h, e1⟩ <;> rcases e2 with ⟨h', e2⟩ | ⟨h', e2⟩
    · have HE := Lib.hid e1
      have HE2 := Lib.hid e2
      have g1 : (50 : Int) < qs.length := by omega
      have g2 : (50 : Int) < ts.length := by omega
      have g3 : 50 ≤ cq := by omega
      have g4 : 50 ≤ cm := by omega
      clear e1 e2
      repeat (go_quiet (fail); try go_wp2)
      all_goals go_meet
      case rel => exact ⟨by rw [HE.out], by rw [HE2.out], _, rfl⟩
    · have HE := Lib.hid e1
      have HE2 := Lib.hid e2
      have g1 : (50 : Int) < qs.length := by omega
      have g2 : (ts.length : Int) ≤ 50 := by omega
      have g3 : 50 ≤ cq := by omega
      clear e1 e2
      repeat (go_quiet (fail); try go_wp2)
      all_goals go_meet
      case rel => exact ⟨by rw [HE.out], by rw [HE2.out], _, rfl⟩
    · have HE := Lib.hid e1
      have HE2 := Lib.hid e2
      have g1 : (qs.length : Int) ≤ 50 := by omega
      have g2 : (50 : Int) < ts.length := by omega
      have g4 : 50 ≤ cm := by omega
      clear e1 e2
      repeat (go_quiet (fail); try go_wp2)
      all_goals go_meet
      case rel => exact ⟨by rw [HE.out], by rw [HE2.out], _, rfl⟩
    · have HE := Lib.hid e1
      have HE2 := Lib.hid e2
      have g1 : (qs.length : Int) ≤ 50 := by omega
      have g2 : (ts.length : Int) ≤ 50 := by omega
      clear e1 e2
      repeat (go_quiet (fail); try go_wp2)
      all_goals go_meet
      case rel => exact ⟨by rw [HE.out], by rw [HE2.out], _, rfl⟩
  case rest =>
  obtain ⟨rfl, rfl, nq, rfl⟩ := hcut
  have b2 : Below w.heap.size w (w1.drewN nq) := below_drewN b1 nq
  have s2 := b2.size
  have hx5 : (qs.take 50).length ≤ 50 := by simp; omega
  have hy5 : (ts.take 50).length ≤ 50 := by simp; omega
  have hxc : (qs.take 50).length ≤ cq := by simp; omega
  have hyc : (ts.take 50).length ≤ cm := by simp; omega
  have hxw : ∀ n ∈ qs.take 50, -9223372036854775808 ≤ n ∧ n ≤ 9223372036854775807 := fun n hn => bounds_i64 (hqb n (List.mem_of_mem_take hn))
  have HX := Lib.hid ((HQ.out.take 50).below b2)
  have HY := Lib.hid ((HT.out.take 50).below b2)
  generalize qs.take 50 = xs at *
  generalize ts.take 50 = ys at *
  generalize w1.drewN nq = W at *
  clear HQ HT hqb hqc hql hc hm b1 s1
  go_wp2_with fail
  go_loopw [5, 29] (fun p i wr => ∃ (k : Nat) (A : Option Addr) (c : Nat), i = .int .i64 k ∧ k ≤ 50 ∧ p = .slice A (pre xs ys k).length c ∧ Below W.heap.size W wr ∧ Hid (RI wr wr.heap.size .u8 A (pre xs ys k)) ∧ (pre xs ys k).length ≤ 330 * k ∧ (pre xs ys k).length ≤ c) (fun _ i _ => 50 - (intOf i).toNat)
  case atStart => exact ⟨0, none, 0, rfl, by omega, rfl, Below.refl _ _, Lib.hid RI.nil, by simp [pre], by simp [pre]⟩
  case round =>
    obtain ⟨k, A, c, rfl, hk, rfl, hb, HP, hpl, hcap1⟩ := hrel
    by_cases hlt : k < 50
    · go_upto_if 35 with (fail)
      go_cut [5] from 30 to 65 (fun p wr' => ∃ (A' : Option Addr) (c' : Nat), p = .slice A' (pre xs ys k ++ pn xs k).length c' ∧ Below wr.heap.size wr wr' ∧ Hid (RI wr' wr'.heap.size .u8 A' (pre xs ys k ++ pn xs k)) ∧ (pre xs ys k ++ pn xs k).length ≤ c')
      case first =>
        by_cases hx : k < xs.length
        · obtain ⟨adq, rfl, hadb, hcell⟩ := HX.out.one hx
          obtain ⟨r0, r1⟩ := hxw _ (rd_mem hx)
          have hpn : pn xs k = enc (rd xs k % 18446744073709551616) ++ enc (zig (rd xs k)) := by simp [pn, hx]
          have HPN := Lib.hid hpn
          obtain ⟨uu, huu⟩ : ∃ uu : Int, uu = rd xs k % 18446744073709551616 := ⟨_, rfl⟩
          have hur : 0 ≤ uu ∧ uu < 18446744073709551616 := by omega
          have HUU := Lib.hid huu
          clear huu
          clear hpn
          go_wp2_with fail
          refine wp_region_mix (C := fun wr' => Below W.heap.size W wr') [([0, 1, 2, 3, 4, 5, 7, 8, 9, 10], some 6), ([], some 11), ([12], none)] (by kernel_rfl) (by kernel_rfl) hb.drew ?_
          simp only [List.map_cons, List.map_nil, Option.map_some, Option.map_none, opAt, List.getElem?_cons_succ, List.getElem?_cons_zero, Option.getD_some, wpSegs]
          repeat (go_big_quiet_step (fail))
          refine wpQuiet_got (.pointer (some (adq.add k))) (by rfl) (fun w' hw' => ?_) (fun K hK => ?_)
          · go_simp
          go_simp
          refine hK _ ?_
          clear hK K
          repeat (go_big_quiet_step (fail))
          refine wpQuiet_got (.int .i64 (rd xs k)) (by rfl) (fun w' hw' => ?_) (fun K hK => ?_)
          · have hc := (hw'.cell (p := adq.add k) (by rw [show (adq.add k).block = adq.block from by unfold Addr.add; split <;> rfl]; exact Nat.lt_of_lt_of_le hadb s2)).trans hcell
            go_simp
          go_simp
          refine hK _ ?_
          clear hK K
          repeat (go_big_quiet_step (fail))
          refine wpQuiet_got (.int .u64 uu) (by rfl) (fun w' hw' => ?_) (fun K hK => ?_)
          · go_simp
            rw [HUU.out, IntKind.wrap_u64]
          go_simp
          refine hK _ ?_
          clear hK K
          repeat (go_big_quiet_step (fail))
          refine wpQuiet_got (.pointer (some (adq.add k))) (by rfl) (fun w' hw' => ?_) (fun K hK => ?_)
          · go_simp
          go_simp
          refine hK _ ?_
          clear hK K
          repeat (go_big_quiet_step (fail))
          refine wpQuiet_got (.int .i64 (rd xs k)) (by rfl) (fun w' hw' => ?_) (fun K hK => ?_)
          · have hc := (hw'.cell (p := adq.add k) (by rw [show (adq.add k).block = adq.block from by unfold Addr.add; split <;> rfl]; exact Nat.lt_of_lt_of_le hadb s2)).trans hcell
            go_simp
          go_simp
          refine hK _ ?_
          clear hK K
          repeat (go_big_quiet_step (fail))
          refine wpQuiet_nil ?_
          go_wp2_with fail
          refine (uint_ok A c (pre xs ys k) uu wr.drew (HP.out.drew (Drew.step1 (Drew.refl _))) (by omega) hur.1 hur.2).mono ?_
          rintro e w4 ⟨v4, rfl, f4⟩
          obtain ⟨A4, c4, rfl⟩ := own_slice f4.1
          have HV := Lib.hid (RI.of_own f4.1).2
          have b4 := f4.2
          have s4 := b4.size
          clear f4
          go_wp2_with fail
          refine ⟨hb.drew.trans (b4.mono hb.size), ?_⟩
          repeat (go_big_quiet_step (fail))
          refine wpQuiet_nil ?_
          go_wp2_with fail
          have le := enc_len uu
          refine (callsCast (int_ok A4 c4 (pre xs ys k ++ enc uu) (rd xs k) _ HV.out (by simp; omega) r0 r1) (by simp)).mono ?_
          rintro e w5 ⟨v5, rfl, f5⟩
          obtain ⟨A5, c5, rfl⟩ := own_slice f5.1
          have HV5 := Lib.hid (RI.of_own f5.1).2
          have k5 := own_cap f5.1
          have b5 := f5.2
          have s5 := b5.size
          clear f5
          go_wp2_with fail
          refine ⟨(hb.drew.trans (b4.mono hb.size)).trans (b5.mono (Nat.le_trans hb.size s4)), ?_⟩
          repeat (go_big_quiet_step (fail))
          refine wpQuiet_nil ?_
          go_wp2
          go_meet
          case rel =>
            have e : pre xs ys k ++ pn xs k = pre xs ys k ++ enc uu ++ enc (zig (rd xs k)) := by rw [HPN.out, HUU.out]; simp
            rw [e]
            exact ⟨A5, c5, by simp [Nat.add_assoc], below_then' (Below.refl _ _).drew (below_then' b4 b5), HV5, k5⟩
        · go_wp2_with fail
          go_meet
          case rel =>
            have hpn : pn xs k = [] := by simp [pn, hx]
            rw [hpn, List.append_nil]
            exact ⟨A, c, rfl, Below.refl _ _, HP, hcap1⟩
      case rest =>
      obtain ⟨A', c', rfl, hb', HP', hcap2⟩ := hcut
      have hbc := hb.trans (hb'.mono hb.size)
      have sbc := hbc.size
      have hpn := pn_len xs k
      clear HP hb hb'
      by_cases hy : k < ys.length
      · obtain ⟨⟨tA, tc, tx⟩, hyt⟩ : ∃ t, ys[k]? = some t := ⟨_, List.getElem?_eq_getElem hy⟩
        obtain ⟨adt, rfl, hadb, hcell, htr, htb, htc, htl⟩ := HY.out k _ hyt
        simp only at hcell htr htb htc htl
        have hpt : pt ys k = enc ((tx.take 300).length : Int) ++ tx.take 300 := by simp [pt, hyt]
        have HPT := Lib.hid hpt
        have HTR := Lib.hid (((htr.take 300).below (hbc.mono s2)).more (Nat.le_trans s2 sbc))
        have htl3 : (tx.take 300).length ≤ 300 := by simp; omega
        have hmin : min (tx.length : Int) 300 = ((tx.take 300).length : Int) := by simp; omega
        have hmc : (tx.take 300).length ≤ tc := by simp; omega
        clear hpt htr htb hyt
        generalize tx.take 300 = tq at *
        go_wp2_with fail
        refine wp_region_mix (C := fun wr' => Below W.heap.size W wr') [([0, 1, 2, 3, 4, 5, 6, 7, 8, 9, 10, 11], some 12), ([13], none)] (by kernel_rfl) (by kernel_rfl) hbc.drew ?_
        simp only [List.map_cons, List.map_nil, Option.map_some, Option.map_none, opAt, List.getElem?_cons_succ, List.getElem?_cons_zero, Option.getD_some, wpSegs]
        repeat (go_big_quiet_step (fail))
        refine wpQuiet_got (.pointer (some (adt.add k))) (by rfl) (fun w' hw' => ?_) (fun K hK => ?_)
        · go_simp
        go_simp
        refine hK _ ?_
        clear hK K
        repeat (go_big_quiet_step (fail))
        refine wpQuiet_got (.slice tA tx.length tc) (by rfl) (fun w' hw' => ?_) (fun K hK => ?_)
        · have hc := (hw'.cell (p := adt.add k) (by rw [show (adt.add k).block = adt.block from by unfold Addr.add; split <;> rfl]; exact Nat.lt_of_lt_of_le hadb s2)).trans hcell
          go_simp
        go_simp
        refine hK _ ?_
        clear hK K
        repeat (go_big_quiet_step (fail))
        refine wpQuiet_got (.pointer (some (adt.add k))) (by rfl) (fun w' hw' => ?_) (fun K hK => ?_)
        · go_simp
        go_simp
        refine hK _ ?_
        clear hK K
        repeat (go_big_quiet_step (fail))
        refine wpQuiet_got (.slice tA tx.length tc) (by rfl) (fun w' hw' => ?_) (fun K hK => ?_)
        · have hc := (hw'.cell (p := adt.add k) (by rw [show (adt.add k).block = adt.block from by unfold Addr.add; split <;> rfl]; exact Nat.lt_of_lt_of_le hadb s2)).trans hcell
          go_simp
        go_simp
        refine hK _ ?_
        clear hK K
        repeat (go_big_quiet_step (fail))
        refine wpQuiet_got (.int .i64 (tx.length : Int)) (by rfl) (fun w' hw' => ?_) (fun K hK => ?_)
        · go_simp
        go_simp
        refine hK _ ?_
        clear hK K
        repeat (go_big_quiet_step (fail))
        refine wpQuiet_got (.int .i64 (tq.length : Int)) (by rfl) (fun w' hw' => ?_) (fun K hK => ?_)
        · go_simp
          split <;> omega
        go_simp
        refine hK _ ?_
        clear hK K
        repeat (go_big_quiet_step (fail))
        refine wpQuiet_got (.slice tA tq.length tc) (by rfl) (fun w' hw' => ?_) (fun K hK => ?_)
        · go_simp
        go_simp
        refine hK _ ?_
        clear hK K
        repeat (go_big_quiet_step (fail))
        refine wpQuiet_nil ?_
        go_wp2_with fail
        refine (callsCast (bytes_ok A' tA c' tc (pre xs ys k ++ pn xs k) tq wc.drew (HP'.out.drew (Drew.step1 (Drew.refl _))) (HTR.out.drew (Drew.step1 (Drew.refl _))) (by simp; omega)) (by simp)).mono ?_
        rintro e w4 ⟨v4, rfl, f4⟩
        obtain ⟨A4, c4, rfl⟩ := own_slice f4.1
        have HV := Lib.hid (RI.of_own f4.1).2
        have k4 := own_cap f4.1
        have b4 := f4.2
        have s4 := b4.size
        clear f4
        have hb4 := hbc.drew.trans (b4.mono sbc)
        go_wp2_with fail
        refine ⟨hb4, ?_⟩
        repeat (go_big_quiet_step (fail))
        refine wpQuiet_nil ?_
        go_wp2
        go_roundw
        case rel =>
          have e : pre xs ys (k + 1) = pre xs ys k ++ pn xs k ++ enc (tq.length : Int) ++ tq := by simp [pre, HPT.out]
          have le := enc_len (tq.length : Int)
          refine ⟨k + 1, A4, c4, by go_num, by omega, by rw [e]; simp [Nat.add_assoc], hb4, Lib.hid (by rw [e]; exact HV.out), by rw [e]; simp; omega, by rw [e]; exact k4⟩
        case measure => simp [intOf]; omega
      · have hpt : pt ys k = [] := by simp [pt, hy]
        go_wp2_with fail
        go_roundw
        case rel => exact ⟨k + 1, A', c', by go_num, by omega, by simp [pre, hpt], hbc, Lib.hid (by simpa [pre, hpt] using HP'.out), by simp [pre, hpt]; omega, by simpa [pre, hpt] using hcap2⟩
        case measure => simp [intOf]; omega
    · obtain rfl : k = 50 := by omega
      have e50 : pre xs ys 50 = suf xs ys 50 0 := by simpa [pre] using pre_suf xs ys 50 0
      rw [e50] at HP hpl hcap1 ⊢
      have HPc := Lib.hid hcap1
      clear hcap1
      clear e50
      go_wp2_with fail
      go_loopw [5, 66] (fun p i wr => ∃ (k : Nat) (A : Option Addr) (c : Nat), i = .int .i64 k ∧ k ≤ 50 ∧ p = .slice A (suf xs ys (50 - k) k).length c ∧ (suf xs ys (50 - k) k).length ≤ c ∧ Below W.heap.size W wr ∧ Hid (RI wr wr.heap.size .u8 A (suf xs ys (50 - k) k)) ∧ (suf xs ys (50 - k) k).length ≤ 330 * 50) (fun _ i _ => 50 - (intOf i).toNat)
      case atStart => exact ⟨0, A, c, rfl, by omega, rfl, HPc.out, hb, HP, hpl⟩
      case round =>
        clear HP hpl HPc hb
        obtain ⟨k, A, c, rfl, hk, rfl, hc, hb, HP, hpl⟩ := hrel
        by_cases hlt' : k < 50
        · obtain ⟨S', hS'⟩ : ∃ S', S' = suf xs ys (50 - (k + 1)) (k + 1) := ⟨_, rfl⟩
          have hS : suf xs ys (50 - k) k = pn xs k ++ (pt ys k ++ S') := by rw [show 50 - k = (50 - (k + 1)) + 1 from by omega, hS']; rfl
          rw [hS] at HP hc hpl ⊢
          have hSb : Byt (pn xs k ++ (pt ys k ++ S')) := by rw [← hS]; exact suf_byt hxw HY.out _ _
          have HSB := Lib.hid hSb
          have HSS := Lib.hid hS'
          clear hS hSb hS'
          obtain ⟨R, hR⟩ : ∃ R, R = pt ys k ++ S' := ⟨_, rfl⟩
          rw [← hR] at HP hc hpl HSB ⊢
          have HRR := Lib.hid hR
          clear hR
          go_upto_if 72 with (fail)
          go_cut [5] from 67 to 150 (fun p wc => ∃ (A' : Option Addr) (c' : Nat), p = .slice A' R.length c' ∧ R.length ≤ c' ∧ wr = wc ∧ Hid (RI wr wr.heap.size .u8 A' R))
          case first =>
            by_cases hx : k < xs.length
            · obtain ⟨adq, rfl, hadb, hcell⟩ := HX.out.one hx
              obtain ⟨r0, r1⟩ := hxw _ (rd_mem hx)
              have hcell' : wr.cell? (adq.add k) = some (.int .i64 (rd xs k)) := (hb.cell (p := adq.add k) (by rw [show (adq.add k).block = adq.block from by unfold Addr.add; split <;> rfl]; exact Nat.lt_of_lt_of_le hadb s2)).trans hcell
              have hpn : pn xs k = enc (IntKind.u64.wrap (rd xs k)) ++ enc (zig (rd xs k)) := by rw [IntKind.wrap_u64]; simp [pn, hx]
              rw [hpn, List.append_assoc] at HP hc hpl HSB ⊢
              have hzz := zig_range _ r0 r1
              have hur : 0 ≤ IntKind.u64.wrap (rd xs k) ∧ IntKind.u64.wrap (rd xs k) < 18446744073709551616 := by rw [IntKind.wrap_u64]; omega
              clear hpn
              have R1 := readuint_ok A c wr.heap.size _ wr HP.out (by omega) HSB.out
              rw [back_u _ _ hur.1 hur.2] at R1
              have l1 := enc_pos (IntKind.u64.wrap (rd xs k))
              have l2 := enc_pos (zig (rd xs k))
              have hbk := back_u (zig (rd xs k)) R hzz.1 hzz.2
              have hzag := zag_zig (rd xs k)
              generalize (enc (zig (rd xs k))) = ez at *
              generalize (enc (IntKind.u64.wrap (rd xs k))) = eu at *
              obtain ⟨LL, hLL⟩ : ∃ LL, (eu ++ (ez ++ R)).length = LL := ⟨_, rfl⟩
              rw [hLL] at R1 hc hpl ⊢
              obtain ⟨n1, hn1⟩ : ∃ n1, eu.length = n1 := ⟨_, rfl⟩
              obtain ⟨n2, hn2⟩ : ∃ n2, ez.length = n2 := ⟨_, rfl⟩
              have hsum : LL = n1 + n2 + R.length := by rw [← hLL, ← hn1, ← hn2]; simp [Nat.add_assoc]
              rw [hn1] at R1 l1
              rw [hn2] at hbk l2
              have hk1 : n1 ≤ LL := by omega
              have hk2 : n1 + n2 ≤ LL := by omega
              have H1 := Lib.hid hLL
              have H2 := Lib.hid hn1
              have H3 := Lib.hid hn2
              have H4 := Lib.hid hsum
              have H5 := Lib.hid hbk
              have H6 := Lib.hid hzag
              clear hLL hn1 hn2 hsum hbk hzag
              have g1 : (n1 : Int) ≤ LL := by omega
              have g2 : (n1 : Int) + n2 ≤ LL := by omega
              go_wp2_with fail
              refine R1.mono ?_
              rintro e w2 ⟨rfl, rfl⟩
              clear R1
              go_wp2_with (refine wpList_cut rfl (.tmp 97) (.tmp 98) 22 rfl Try.underlying22 sizeU8 A LL c n1 .i64 rfl rfl hk1 hc ?_; intro A1 hA1)
              have hr1 := hA1 _ _ _ _ H1.out HP.out
              rw [← H2.out, List.drop_left] at hr1
              have R2 := readint_ok A1 (c - n1) _ (ez ++ R) _ hr1 (by have := H4.out; have := H3.out; simp; omega) (fun x hx => HSB.out x (by simp at hx ⊢; rcases hx with h | h <;> simp [h]))
              rw [H5.out, H6.out, show (ez ++ R).length = LL - n1 from by rw [H4.out]; simp [H3.out]; omega] at R2
              have R2 := Lib.hid R2
              clear hA1 hr1
              refine R2.out.mono ?_
              rintro e w3 ⟨rfl, rfl⟩
              clear R2
              go_wp2_with (refine wpList_cut rfl (.tmp 122) (.tmp 125) 22 rfl Try.underlying22 sizeU8 A LL c (n1 + n2) .i64 rfl (congrArg (Value.int .i64) (Int.natCast_add n1 n2).symm) hk2 hc ?_; intro A2 hA2)
              go_meet
              case rel =>
                have hr2 := hA2 _ _ _ _ H1.out HP.out
                rw [← H2.out, ← H3.out, ← List.append_assoc, ← List.length_append, List.drop_left] at hr2
                exact ⟨A2, c - (n1 + n2), by rw [H4.out]; congr 1; omega, by have := H4.out; omega, rfl, Lib.hid hr2⟩
            · go_wp2_with fail
              go_meet
              case rel =>
                have hpn : pn xs k = [] := by simp [pn, hx]
                rw [hpn, List.nil_append] at HP hc ⊢
                exact ⟨A, c, rfl, hc, rfl, HP⟩
          case rest =>
          obtain ⟨A', c', rfl, hc', rfl, HP'⟩ := hcut
          have hRl : R.length ≤ 16500 := by simp at hpl; omega
          have hRb : Byt R := fun x hx => HSB.out x (List.mem_append.2 (.inr hx))
          clear HP hc hpl HSB
          by_cases hy : k < ys.length
          · obtain ⟨⟨tA, tc, tx⟩, hyt⟩ : ∃ t, ys[k]? = some t := ⟨_, List.getElem?_eq_getElem hy⟩
            obtain ⟨adt, rfl, hadb, hcell, htr, htb, htc, htl⟩ := HY.out k _ hyt
            simp only at hcell htr htb htc htl
            have hR : R = enc ((tx.take 300).length : Int) ++ (tx.take 300 ++ S') := by rw [HRR.out]; simp [pt, hyt]
            have htl3 : (tx.take 300).length ≤ 300 := by simp; omega
            have hmin : min (tx.length : Int) 300 = ((tx.take 300).length : Int) := by simp; omega
            have hmc : (tx.take 300).length ≤ tc := by simp; omega
            have HTR := Lib.hid (htr.take 300)
            clear htr htb hyt
            generalize tx.take 300 = tq at *
            subst hR
            have R1 := readbytes_ok A' c' _ 300 wr HP'.out (by omega) hc' hRb
            rw [back_b _ _ htl3] at R1
            have l1 := enc_pos (tq.length : Int)
            generalize enc (tq.length : Int) = et at *
            obtain ⟨kk, hkk⟩ : ∃ kk : Nat, (et.length : Int) + (tq.length : Int) = (kk : Int) := ⟨et.length + tq.length, by simp⟩
            rw [hkk] at R1
            obtain ⟨LL, hLL⟩ : ∃ LL : Nat, (et ++ (tq ++ S')).length = LL := ⟨_, rfl⟩
            rw [hLL] at R1 hc' hRl ⊢
            have hsum : LL = kk + S'.length := by simp at hLL; omega
            have hdrop : (et ++ (tq ++ S')).drop kk = S' := by rw [← List.append_assoc, show kk = (et ++ tq).length from by simp; omega, List.drop_left]
            have hg1 : decide ((LL : Int) < (kk : Int)) = false := by simp; omega
            have hg2 : decide (LL < kk) = false := by simp; omega
            have hg3 : kk ≤ LL := by omega
            have H1 := Lib.hid hLL
            have H4 := Lib.hid hsum
            have HD := Lib.hid hdrop
            have HM := Lib.hid hmin
            clear hkk hLL hsum hdrop hmin hRb
            go_wp2_with fail
            refine R1.mono ?_
            rintro e w4 ⟨v4, rfl, f4⟩
            clear R1
            obtain ⟨A4, c4, rfl⟩ := own_slice f4.1
            have HV := Lib.hid (RI.of_own f4.1).2
            have b4 := f4.2
            have s4 := b4.size
            clear f4
            have hb4 := hb.trans (b4.mono hb.size)
            have hcell' : w4.cell? (adt.add k) = some (.slice tA tx.length tc) := (hb4.cell (p := adt.add k) (by rw [show (adt.add k).block = adt.block from by unfold Addr.add; split <;> rfl]; exact Nat.lt_of_lt_of_le hadb s2)).trans hcell
            have HTQ := Lib.hid (((HTR.out.below (hb4.mono s2))).more (Nat.le_trans s2 hb4.size))
            have HSB := Lib.hid (show ∀ nn : Nat, Calls Try.prog 13 #[.slice A4 tq.length c4, .slice tA tq.length tc] (w4.drewN nn) fun e w'' => e = .returned (.bool true) ∧ ∃ m, w'' = w4.drewN m from fun nn => Calls.quiet_of ((SameBytes.same w4.heap.size A4 tA tq.length tq.length c4 tc tq tq (w4.drewN nn) (HV.out.drewN nn) (HTQ.out.drewN nn) (by omega) rfl rfl rfl).mono (fun e w' h => ⟨h.1, h.2.out⟩)))
            have hP4 := Lib.hid ((HP'.out.below b4).more s4)
            have HB4 := Lib.hid hb4
            clear HTQ HTR HV HP' hcell hadb hb4 b4 s4 hb htl l1
            go_wp2_with fail
            refine wp_region_quiet_lit (by kernel_rfl) (by kernel_rfl) ?_
            iterate 19 (quiet_step (fail))
            refine wpQuiet_got (.int .i64 (tq.length : Int)) (by rfl) (fun w' hw' => ?_) (fun K hK => ?_)
            · have hm := HM.out
              go_simp
              split <;> omega
            go_simp
            refine hK _ ?_
            clear hK K
            refine wpQuiet_got (.slice tA tq.length tc) (by rfl) (fun w' hw' => ?_) (fun K hK => ?_)
            · go_simp
            go_simp
            refine hK _ ?_
            clear hK K
            repeat (quiet_step (exact HSB.out _))
            refine wpQuiet_nil ?_
            intro _ hw'
            obtain ⟨nq, hw''⟩ := hw'
            subst hw''
            clear HSB hg1 hg2 htc hmc HM
            go_wp2_with (refine wpList_cut rfl (.tmp 161) (.tmp 162) 22 rfl Try.underlying22 sizeU8 A' LL c' kk .i64 rfl rfl hg3 hc' ?_; intro A2 hA2)
            go_roundw
            case rel =>
              have hr2 := hA2 _ _ _ _ H1.out (hP4.out.drewN nq)
              rw [HD.out] at hr2
              first
                | exact ⟨k + 1, A2, c' - kk, by go_num, by omega, by rw [← HSS.out]; have := H4.out; congr 1; omega, by rw [← HSS.out]; have := H4.out; omega, below_drewN HB4.out _, Lib.hid (by rw [← HSS.out]; exact hr2), by rw [← HSS.out]; have := H4.out; omega⟩
                | ((repeat apply Exists.intro); exact ⟨⟨k + 1, A2, c' - kk, by go_num, by omega, by rw [← HSS.out]; have := H4.out; congr 1; omega, by rw [← HSS.out]; have := H4.out; omega, below_drewN HB4.out _, Lib.hid (by rw [← HSS.out]; exact hr2), by rw [← HSS.out]; have := H4.out; omega⟩, rfl⟩)
            case measure => simp [intOf]; omega
          · have hRS : R = S' := by have := HRR.out; simpa [pt, hy] using this
            go_wp2_with fail
            go_roundw
            case rel =>
              rw [hRS, HSS.out] at HP' hc' hRl ⊢
              exact ⟨k + 1, A', c', by go_num, by omega, rfl, hc', hb, HP', hRl⟩
            case measure => simp [intOf]; omega
        · obtain rfl : k = 50 := by omega
          have e0 : suf xs ys (50 - 50) 50 = [] := rfl
          rw [e0]
          go_wp2
          go_ret
          exact ⟨rfl, below_then' b2 hb⟩

