import Derived.Test.YtkcfeaonkgpbdaaEvO
import Derived.Test.YtkcfeaonkgpbdaaEvJ
/-! EventNumbers: the walk -/
namespace Go.Proofs.Ytkcfeaonkgpbdaa.EventNumbersW
open Go.RowKit Go.Deep Go.Proofs.Ytkcfeaonkgpbdaa Go.Proofs.Ytkcfeaonkgpbdaa.Pack Go.Proofs.Ytkcfeaonkgpbdaa.Event
set_option linter.unusedVariables false
set_option linter.unusedSimpArgs false
/-- one number turned -/
def turn (e : Ev) (k : Nat) (v : Int) : Ev := ⟨e.op, e.key, e.ns.set k v, e.ts⟩
theorem turn_ok {e : Ev} (h : e.ok) (k : Nat) (v : Int) (hv : -9223372036854775808 ≤ v ∧ v ≤ 9223372036854775807) : (turn e k v).ok :=
  ⟨h.op0, h.op1, h.key0, h.key1, by simp [turn, h.len], (fun n hn => by
    rcases List.mem_or_eq_of_mem_set hn with h1 | h1
    · exact h.ns n h1
    · rw [h1]; exact hv), h.ts, h.even⟩
theorem turn_form {e : Ev} (h : e.form) (k : Nat) (v : Int) (hk : k < (cnt e.op).toNat) : (turn e k v).form := by
  refine ⟨h.1, h.2.1, h.2.2.1, fun i h1 h2 => ?_⟩
  have h3 : (cnt e.op).toNat ≤ i := h1
  have := h.2.2.2 i h3 h2
  show rd (e.ns.set k v) i = 0
  unfold rd at *
  rw [List.getD, List.getElem?_set_ne (by omega)]
  exact this
theorem turn_eq {e : Ev} {k : Nat} {v : Int} (hk : k < e.ns.length) : turn e k v = e ↔ v = rd e.ns k := by
  constructor
  · intro h
    have h1 : e.ns.set k v = e.ns := congrArg Ev.ns h
    have h2 : rd (e.ns.set k v) k = rd e.ns k := by rw [h1]
    rw [← h2, rd_get (by simpa using hk)]
    simp
  · intro h
    have : e.ns.set k v = e.ns := by
      rw [h, rd_get hk]; simp
    unfold turn
    rw [this]
theorem wrap_toInt (Y : BitVec 64) : IntKind.i64.wrap (Y.toNat : Int) = Y.toInt := by
  rw [IntKind.wrap_i64, BitVec.toInt_eq_toNat_cond]
  have := Y.isLt
  split <;> omega
theorem ofInt_toInt (x : Int) (hx : -9223372036854775808 ≤ x ∧ x ≤ 9223372036854775807) : (BitVec.ofInt 64 x).toInt = x := by
  rw [← wrap_toInt, IntKind.wrap_i64, BitVec.toNat_ofInt]
  omega
/-- the number turned by bits -/
theorem xor_turn (x b : Int) (hx : -9223372036854775808 ≤ x ∧ x ≤ 9223372036854775807) (hb : -9223372036854775808 ≤ b ∧ b ≤ 9223372036854775807) : (-9223372036854775808 ≤ bits .xor .i64 x b ∧ bits .xor .i64 x b ≤ 9223372036854775807) ∧ (bits .xor .i64 x b = x ↔ b = 0) := by
  have e : bits .xor .i64 x b = (BitVec.ofInt 64 x ^^^ BitVec.ofInt 64 b).toInt := by
    show IntKind.i64.wrap ((BitVec.ofInt 64 x ^^^ BitVec.ofInt 64 b).toNat : Int) = _
    exact wrap_toInt _
  refine ⟨?_, ?_⟩
  · have h1 : bits .xor .i64 x b = IntKind.i64.wrap ((BitVec.ofInt 64 x ^^^ BitVec.ofInt 64 b).toNat : Int) := rfl
    rw [h1, IntKind.wrap_i64]
    omega
  · rw [e]
    constructor
    · intro h
      have h2 : (BitVec.ofInt 64 x ^^^ BitVec.ofInt 64 b) = BitVec.ofInt 64 x := BitVec.eq_of_toInt_eq (by rw [h, ofInt_toInt x hx])
      have h3 : BitVec.ofInt 64 b = 0#64 := by
        have h4 := congrArg (fun Z => BitVec.ofInt 64 x ^^^ Z) h2
        simp only [← BitVec.xor_assoc, BitVec.xor_self, BitVec.zero_xor] at h4
        exact h4
      rw [← ofInt_toInt b hb, h3]
      rfl
    · intro h
      rw [h]
      have : BitVec.ofInt 64 0 = 0#64 := rfl
      rw [this, BitVec.xor_zero, ofInt_toInt x hx]
set_option maxRecDepth 1000000 in
set_option maxHeartbeats 40000000 in
theorem walk (E : Ev) (A : Option Addr) (c : Nat) (at' by' : Int) (w : World) (ho : E.ok) (hts : RI w w.heap.size .i64 A E.ts) (hcap : E.ts.length / 2 ≤ c) (hlen : E.ts.length * 8 ≤ 140737488351232) (wa : (Lit.int .u8 at').wf = true) (wb : (Lit.int .i64 by').wf = true) :
    Calls Try.prog 6 #[.agg (row E A c), .int .u8 at', .int .i64 by'] w fun e w' => e = .returned (.bool true) ∧ Below w.heap.size w w' := by
  have ha := bounds_u8 wa
  have hby := bounds_i64 wb
  have hr := row_row E A c
  obtain ⟨R, hR⟩ : ∃ R, R = row E A c := ⟨_, rfl⟩
  rw [← hR] at hr ⊢
  have HR := Lib.hid hr
  have HRR := Lib.hid hR
  have HO := Lib.hid ho
  have HT := Lib.hid hts
  have HL := Lib.hid hlen
  have hop0 := ho.op0
  have hop1 := ho.op1
  have HALL := Lib.hid (show R.all (·.oneCell') = true by rw [hR]; exact row_all _ _ _)
  clear hr hR ho hts wa wb hlen
  go_enter Try.func6, Try.ntmps6
  go_upto_region 1 with fail
  have hB0 := Blk.new w 26 R
  have d0 := (Below.refl w.heap.size w).alloc (Nat.le_refl _) (.cells R 26)
  have hs0 : w.heap.size < (w.alloc (.cells R 26)).heap.size := by simp
  obtain ⟨W0, hW0⟩ : ∃ W0, W0 = w.alloc (.cells R 26) := ⟨_, rfl⟩
  rw [← hW0] at hB0 d0 hs0 ⊢
  obtain ⟨b0, hb0⟩ : ∃ b, b = w.heap.size := ⟨_, rfl⟩
  rw [← hb0] at hB0 hs0 ⊢
  have hb00 : w.heap.size ≤ b0 := by omega
  have HB0 := Lib.hid hB0
  have HD0 := Lib.hid d0
  clear hW0 hb0 hB0 d0
  go_wp2_with fail
  refine (awake_ok _).mono ?_
  rintro e w1 ⟨rfl, b1⟩
  have HB1 := Lib.hid (HB0.out.below b1 hs0)
  have HD1 := Lib.hid (HD0.out.trans (b1.mono (by omega)))
  have hs1 : b0 < w1.heap.size := Nat.lt_of_lt_of_le hs0 b1.size
  have HT1 := Lib.hid ((HT.out.below HD1.out).more HD1.out.size)
  clear HB0 HD0 b1 hs0
  go_wp2_with (first
    | (refine wpList_load_row rfl 26 (.tmp 3) rfl b0 rfl 26 R (0, 0) _ HB1.out Try.underlying26 rfl (by rw [HR.out.size]; kernel_rfl) ?_))
  have hcnt := fun w' => count_ok E.op hop0 hop1 w'
  obtain ⟨op, hop⟩ : ∃ op, op = E.op := ⟨_, rfl⟩
  rw [← hop] at hop0 hop1 hcnt
  have HOP := Lib.hid hop
  have HCNT := Lib.hid hcnt
  clear hop hcnt
  by_cases hf : E.form
  case neg =>
    have hw := write_no E A c w1 HO.out hf (by have := HL.out; omega)
    rw [← HRR.out] at hw
    refine hw.mono ?_
    rintro e w2 ⟨rfl, b2⟩
    have c0 := ((HB1.out.below b2 hs1).cell 0).trans HR.out.op
    rw [← HOP.out] at c0
    have HD2 := Lib.hid (HD1.out.trans (b2.mono HD1.out.size))
    clear hw b2 HB1
    go_wp2_with fail
    refine (HCNT.out _).mono ?_
    rintro e w3 ⟨rfl, rfl⟩
    go_wp2
    all_goals
      go_ret
      exact ⟨rfl, HD2.out⟩
  have hc0 := hf.1
  rw [← HOP.out] at hc0
  have hcr := cnt_range op
  have hcp := cnt_pos op hc0
  obtain ⟨n, hn⟩ : ∃ n : Nat, cnt op = n := ⟨(cnt op).toNat, by omega⟩
  have HCN := Lib.hid (show ∀ w', Calls Try.prog 11 #[.int .u8 op] w' fun e w'' => e = .returned (.tuple #[.int .i64 n, .int .i64 0]) ∧ w'' = w' from fun w' => by
    have := HCNT.out w'
    rw [if_neg (by omega), if_neg (by omega), hn] at this
    exact this)
  have hn1 : 1 ≤ n := by omega
  have hn8 : n ≤ 8 := by omega
  have HN := Lib.hid hn
  have HF := Lib.hid hf
  clear hc0 hcr hcp hn HCNT hf
  have hw := write_ok E A c w1 HO.out HF.out HT1.out hcap
  rw [← HRR.out] at hw
  refine hw.mono ?_
  rintro e w2 ⟨v2, rfl, f2⟩
  obtain ⟨A2, c2, rfl⟩ := own_slice f2.1
  have b2 := f2.2
  have HP2 := Lib.hid (fresh_ri f2)
  have HB2 := Lib.hid (HB1.out.below b2 hs1)
  have HD2 := Lib.hid (HD1.out.trans (b2.mono HD1.out.size))
  have HT2 := Lib.hid ((HT1.out.below b2).more b2.size)
  have hs2 : b0 < w2.heap.size := Nat.lt_of_lt_of_le hs1 b2.size
  have hpl := (wr_len E HF.out HO.out.len).1
  obtain ⟨pl, hpl'⟩ : ∃ pl, pl = (Event.wr E).length := ⟨_, rfl⟩
  rw [← hpl'] at hpl ⊢
  have HPL := Lib.hid hpl'
  have c0 := (HB2.out.cell 0).trans HR.out.op
  rw [← HOP.out] at c0
  clear hw f2 b2 HB1 HD1 HT1 hpl'
  go_wp2_with fail
  refine (HCN.out _).mono ?_
  rintro e w3 ⟨rfl, rfl⟩
  have hn0 : ((n : Int) == 0) = false := by simp; omega
  clear c0
  obtain ⟨k, hk⟩ : ∃ k : Nat, at' % (n : Int) = k := ⟨(at' % (n : Int)).toNat, by have := Int.emod_nonneg at' (show (n : Int) ≠ 0 by omega); omega⟩
  have hkn : k < n := by have := Int.emod_lt_of_pos at' (show (0 : Int) < n by omega); omega
  go_upto_region 8 with (first
    | (refine wpList_load_row rfl 26 (.tmp 3) rfl b0 rfl 26 R (0, 0) _ HB2.out Try.underlying26 rfl (by rw [HR.out.size]; kernel_rfl) ?_)
    | (refine wpList_put rfl 26 (.tmp 11) (.tmp 46) rfl w3.heap.size R rfl rfl 26 _ (Blk.new w3 _ _) (by rw [HR.out.size]; kernel_rfl) (by rw [HR.out.size]; rfl) HALL.out ?_
       intro W4 HB4 hfar4 hbel4 hsz4 hcl4
       have b4 := hbel4 w3.heap.size w3 (Nat.le_refl _) ((Below.refl _ _).alloc (Nat.le_refl _) _)
       have S4 := Lib.hid (show W4.heap.size = w3.heap.size + 1 by rw [hsz4]; simp)
       clear hfar4 hbel4 hsz4 hcl4) )
  have hs4 := S4.out
  have hx := HO.out.ns.rd k
  have hxt := xor_turn (rd E.ns k) by' hx hby
  obtain ⟨x, hx'⟩ : ∃ x, x = rd E.ns k := ⟨_, rfl⟩
  rw [← hx'] at hxt
  obtain ⟨v, hv⟩ : ∃ v, bits .xor .i64 x by' = v := ⟨_, rfl⟩
  rw [hv] at hxt
  have cx := (HB4.cell (2 + k)).trans (HR.out.n k (by omega))
  rw [← hx'] at cx
  have fx := HB4.frozen (2 + k)
  obtain ⟨xb, hxb⟩ : ∃ xb, xb = w3.heap.size := ⟨_, rfl⟩
  rw [← hxb] at cx fx hs4
  have hB4' : Blk W4 xb 26 R := by rw [hxb]; exact HB4
  have hBT := hB4'.set_ (2 + k) (.int .i64 v)
  have hrow : R.setIfInBounds (2 + k) (.int .i64 v) = row (turn E k v) A c := by
    rw [HRR.out]
    exact row_set_n E.op E.key E.ns E.ts A c k v HO.out.len (by omega)
  rw [hrow] at hBT
  have hb4x : Below xb w3 W4 := by rw [hxb]; exact b4
  have HB5 := Lib.hid hBT
  have hP4 : RI W4 xb .u8 A2 (Event.wr E) := by rw [hxb]; exact HP2.out.below b4
  have HP5 := Lib.hid ((hP4.setCell (p := ⟨xb, 2 + k, none⟩) (Nat.le_refl _) (.int .i64 v)).more (by simp; omega : xb ≤ (W4.setCell ⟨xb, 2 + k, none⟩ (.int .i64 v)).heap.size))
  have hT4 : RI W4 xb .i64 A E.ts := by rw [hxb]; exact HT2.out.below b4
  have HT5 := Lib.hid ((hT4.setCell (p := ⟨xb, 2 + k, none⟩) (Nat.le_refl _) (.int .i64 v)).more (by simp; omega : xb ≤ (W4.setCell ⟨xb, 2 + k, none⟩ (.int .i64 v)).heap.size))
  have hD4 : Below w.heap.size w W4 := HD2.out.trans (b4.mono (by omega))
  have HD5 := Lib.hid (hD4.setCell (p := ⟨xb, 2 + k, none⟩) (by show w.heap.size ≤ xb; omega) (.int .i64 v))
  have hs5 : xb < (W4.setCell ⟨xb, 2 + k, none⟩ (.int .i64 v)).heap.size := by simp; omega
  have HXT := Lib.hid hxt
  have HX := Lib.hid hx'
  have HKN := Lib.hid hkn
  rw [← hxb]
  have hk8 : (k : Int) < 8 := by omega
  have hk0 : (0 : Int) ≤ k := by omega
  clear hrow hBT hB4' hP4 hT4 hD4 hb4x b4 S4 HB4 hxt hx' HP2 HT2 HD2 HB2 hs2 hxb hx
  go_upto_region 9 with fail
  obtain ⟨W5, hW5⟩ : ∃ W5, W5 = W4.setCell ⟨xb, 2 + k, none⟩ (.int .i64 v) := ⟨_, rfl⟩
  rw [← hW5] at HB5 HP5 HT5 HD5 hs5 ⊢
  clear hW5 cx fx hs4 hv hk
  obtain ⟨T, hT⟩ : ∃ T, T = turn E k v := ⟨_, rfl⟩
  rw [← hT] at HB5
  have hTok : T.ok := by rw [hT]; exact turn_ok HO.out k v HXT.out.1
  have hTf : T.form := by rw [hT]; exact turn_form HF.out k v (by rw [← HOP.out, HN.out]; exact HKN.out)
  have hTts : T.ts = E.ts := by rw [hT]; rfl
  have hTE : Event.wr E = Event.wr T ↔ by' = 0 := by
    rw [← HXT.out.2, HX.out, ← turn_eq (e := E) (k := k) (v := v) (by rw [HO.out.len]; omega), ← hT]
    constructor
    · intro h
      exact (wr_inj HO.out HF.out hTok hTf (r := []) (s := []) (by rw [h])).1.symm
    · intro h; rw [h]
  have HTE := Lib.hid hTE
  have HTok := Lib.hid hTok
  have HTf := Lib.hid hTf
  have hT5 := HT5.out
  rw [← hTts] at hT5
  have HT5' := Lib.hid hT5
  have hcapT : T.ts.length / 2 ≤ c := by rw [hTts]; exact hcap
  obtain ⟨R5, hR5⟩ : ∃ R, R = row T A c := ⟨_, rfl⟩
  rw [← hR5] at HB5
  have HR5 := Lib.hid hR5
  have HSZ5 := Lib.hid (show R5.size = 11 by rw [hR5]; rfl)
  clear hT hTE hTok hTf hTts HT5 hT5 hR5
  go_wp2_with (first
    | (refine wpList_load_row rfl 26 (.tmp 11) rfl xb rfl 26 R5 (0, 0) _ HB5.out Try.underlying26 rfl (by rw [HSZ5.out]; kernel_rfl) ?_))
  have hw := write_ok T A c W5 HTok.out HTf.out HT5'.out hcapT
  rw [← HR5.out] at hw
  refine hw.mono ?_
  rintro e w6 ⟨v6, rfl, f6⟩
  obtain ⟨A6, c6, rfl⟩ := own_slice f6.1
  have b6 := f6.2
  have HQ6 := Lib.hid (fresh_ri f6)
  have hc6 := own_cap f6.1
  have HB6 := Lib.hid (HB5.out.below b6 hs5)
  have HD6 := Lib.hid (HD5.out.trans (b6.mono HD5.out.size))
  have HT6 := Lib.hid ((HT5'.out.below b6).more b6.size)
  have HP6 := Lib.hid ((HP5.out.below b6).more b6.size)
  have hs6 : xb < w6.heap.size := Nat.lt_of_lt_of_le hs5 b6.size
  have hql := (wr_len T HTf.out HTok.out.len).1
  obtain ⟨ql, hql'⟩ : ∃ ql, ql = (Event.wr T).length := ⟨_, rfl⟩
  rw [← hql'] at hql hc6 ⊢
  have HQL := Lib.hid hql'
  clear hw f6 b6 HB5 HD5 HT5' HP5 hql'
  go_wp2_with fail
  have hrd := read_ok A6 c6 (Event.wr T) w6 HQ6.out (by rw [← HQL.out]; exact hc6) (by rw [← HQL.out]; omega) (wr_byt HTok.out)
  rw [← HQL.out, rdEv_wr T HTok.out HTf.out] at hrd
  refine hrd.mono ?_
  rintro e W7 ⟨A7, c7, rfl, hri7, hcap7, b7⟩
  have hs7 := b7.size
  have HB7 := Lib.hid (HB6.out.below b7 hs6)
  have HD7 := Lib.hid (HD6.out.trans (b7.mono HD6.out.size))
  have HT7 := Lib.hid ((HT6.out.below b7).more hs7)
  have HP7 := Lib.hid ((HP6.out.below b7).more hs7)
  have HQ7 := Lib.hid ((HQ6.out.below b7).more hs7)
  have HRI7 := Lib.hid hri7
  obtain ⟨R7, hR7⟩ : ∃ R, R = row T A7 c7 := ⟨_, rfl⟩
  have HR7 := Lib.hid hR7
  simp only [← hR7]
  have HSZ7 := Lib.hid (show R7.size = 11 by rw [hR7]; rfl)
  have HALL7 := Lib.hid (show R7.all (·.oneCell') = true by rw [hR7]; exact row_all _ _ _)
  clear hrd hR7 hri7 b7 HB6 HD6 HT6 HP6 HQ6
  go_upto_region 11 with (first
    | (refine wpList_put rfl 26 (.tmp 14) (.tmp 66) rfl W7.heap.size R7 rfl rfl 26 _ (Blk.new W7 _ _) (by rw [HSZ7.out]; kernel_rfl) (by rw [HSZ7.out]; rfl) HALL7.out ?_
       intro W8 HB8 hfar8 hbel8 hsz8 hcl8
       have b8 := hbel8 W7.heap.size W7 (Nat.le_refl _) ((Below.refl _ _).alloc (Nat.le_refl _) _)
       have S8 := Lib.hid (show W8.heap.size = W7.heap.size + 1 by rw [hsz8]; simp)
       clear hfar8 hbel8 hsz8 hcl8) )
  have hs8 := S8.out
  have HB8' := Lib.hid (HB7.out.below b8 (by omega))
  have HB9 := Lib.hid HB8
  have HD8 := Lib.hid (HD7.out.trans (b8.mono HD7.out.size))
  have HT8 := Lib.hid ((HT7.out.below b8).more (by omega : W7.heap.size ≤ W8.heap.size))
  have HP8 := Lib.hid ((HP7.out.below b8).more (by omega : W7.heap.size ≤ W8.heap.size))
  have HQ8 := Lib.hid ((HQ7.out.below b8).more (by omega : W7.heap.size ≤ W8.heap.size))
  have HRI8 := Lib.hid ((HRI7.out.below b8).more (by omega : W7.heap.size ≤ W8.heap.size))
  clear hs8 S8 HB8 b8 HB7 HD7 HT7 HP7 HQ7 HRI7
  go_wp2_with (first
    | (refine wpList_guard (by rfl) (wpList_load_row rfl 26 (.tmp 14) rfl W7.heap.size rfl 26 R7 (0, 0) _ HB9.out Try.underlying26 rfl (by rw [HSZ7.out]; kernel_rfl) ?_))
    | (refine wpList_guard (by rfl) (wpList_load_row rfl 26 (.tmp 11) rfl xb rfl 26 R5 (0, 0) _ HB8'.out Try.underlying26 rfl (by rw [HSZ5.out]; kernel_rfl) ?_)))
  have hlT := HTf.out.2.1
  have hsame := refsame_ok T T A7 A c7 c W8 HTok.out HTok.out HRI8.out HT8.out (by omega) (by omega)
  rw [← HR7.out, ← HR5.out, sameB_yes rfl] at hsame
  refine hsame.mono ?_
  rintro e W9 ⟨rfl, b9⟩
  have HD9 := Lib.hid (HD8.out.trans (b9.mono HD8.out.size))
  have HP9 := Lib.hid ((HP8.out.below b9).more b9.size)
  have HQ9 := Lib.hid ((HQ8.out.below b9).more b9.size)
  clear hsame b9
  go_wp2_with fail
  have hsb := SameBytes.any W9.heap.size A2 A6 c2 c6 (Event.wr E) (Event.wr T) W9 HP9.out HQ9.out (by rw [← HPL.out]; omega) (by rw [← HQL.out]; omega)
  rw [← HPL.out, ← HQL.out] at hsb
  refine hsb.mono ?_
  rintro e W10 ⟨rfl, d10⟩
  by_cases hb0 : by' = 0
  · rw [decide_eq_true (HTE.out.2 hb0)]
    have hb1 : (by' == 0) = true := by simpa using hb0
    go_wp2
    go_ret
    exact ⟨rfl, HD9.out.trans (d10.below _)⟩
  · rw [decide_eq_false (fun h => hb0 (HTE.out.1 h))]
    have hb1 : (by' == 0) = false := by simpa using hb0
    go_wp2
    go_ret
    exact ⟨rfl, HD9.out.trans (d10.below _)⟩
end Go.Proofs.Ytkcfeaonkgpbdaa.EventNumbersW
