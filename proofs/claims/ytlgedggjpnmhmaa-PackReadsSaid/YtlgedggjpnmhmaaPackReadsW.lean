import Derived.Test.YtlgedggjpnmhmaaAwake7
/-! the front of any bytes is read as it is said: the law's walk -/
namespace Go.Proofs.Ytlgedggjpnmhmaa.PackReadsW
open Go.RowKit Go.Deep Go.Proofs.Ytlgedggjpnmhmaa.Pack
set_option linter.unusedVariables false
theorem rdB_len (xs : List Int) (most : Int) : (rdB xs most).1.length ≤ xs.length := by
  unfold rdB
  split
  · simp
  · split
    · split
      · simp; omega
      · simp
    · simp
set_option maxRecDepth 100000 in
set_option maxHeartbeats 4000000 in
theorem walk (P : Option Addr) (c : Nat) (xs : List Int) (most : Int) (w : World) (h0 : ArrIn w .u8 1 P c xs) (w1 : (Lit.int .i64 most).wf = true) :
    Calls Try.prog 4 #[.slice P xs.length c, .int .i64 most] w fun e w' => e = .returned (.bool true) ∧ Below w.heap.size w w' := by
  clear w1
  have hb := h0.byt
  have hc := h0.cap
  have hl := h0.size
  have hx := h0.reads
  have HB := Lib.hid hb
  have HX := Lib.hid hx
  clear hb hx h0
  go_enter Try.func4, Try.ntmps4
  go_wp2_with fail
  refine (awake_ok _).mono ?_
  rintro e w1 ⟨rfl, b1⟩
  have s1 := b1.size
  have HX1 := Lib.hid ((HX.out.below b1).more s1)
  go_wp2_with fail
  refine (spare_ok P c xs _ HX1.out (by omega)).mono ?_
  rintro e w2 ⟨g, cap, rfl, hsp⟩
  have b2 := hsp.2
  have s2 := b2.size
  have HX2 := Lib.hid ((HX1.out.below b2).more s2)
  have hcap := hsp.cap
  have HS := Lib.hid hsp.reads
  have HA := Lib.hid hsp.all
  clear hsp
  go_wp2_with fail
  refine (readuint_ok (some ⟨g, 0, none⟩) cap w2.heap.size xs _ HS.out (by omega) HB.out).mono ?_
  rintro e w3 ⟨rfl, rfl⟩
  go_wp2_with fail
  refine (docreaduint_ok P c xs _ HX2.out hc (by omega) HB.out).mono ?_
  rintro e w4 ⟨rfl, b4⟩
  have s4 := b4.size
  have HX4 := Lib.hid ((HX2.out.below b4).more s4)
  have HS4 := Lib.hid ((HS.out.below b4).more s4)
  have HA4 := Lib.hid ((HA.out.below b4).more s4)
  clear HS HA HX2
  go_wp2_with fail
  refine (readint_ok (some ⟨g, 0, none⟩) cap w4.heap.size xs _ HS4.out (by omega) HB.out).mono ?_
  rintro e w5 ⟨rfl, rfl⟩
  go_wp2_with fail
  refine (docreadint_ok P c xs _ HX4.out hc (by omega) HB.out).mono ?_
  rintro e w6 ⟨rfl, b6⟩
  have s6 := b6.size
  have HX6 := Lib.hid ((HX4.out.below b6).more s6)
  have HS6 := Lib.hid ((HS4.out.below b6).more s6)
  have HA6 := Lib.hid ((HA4.out.below b6).more s6)
  clear HS4 HA4 HX4
  go_wp2_with fail
  refine (readbytes_ok (some ⟨g, 0, none⟩) cap xs most _ HS6.out (by omega) (by omega) HB.out).mono ?_
  rintro e w7 ⟨v7, rfl, f7⟩
  have b7 := f7.2
  have s7 := b7.size
  have o7 := f7.1
  have HX7 := Lib.hid ((HX6.out.below b7).more s7)
  have HA7 := Lib.hid (HA6.out.below b7)
  have HO7 := Lib.hid o7
  clear HS6 HA6 HX6 f7 o7
  go_wp2_with fail
  refine (docreadbytes_ok P c xs most _ HX7.out (by omega) hc HB.out).mono ?_
  rintro e w8 ⟨v8, rfl, f8⟩
  have b8 := f8.2
  have s8 := b8.size
  obtain ⟨A8, c8, rfl⟩ := own_slice f8.1
  have HO8 := Lib.hid (RI.of_own f8.1).2
  have HO7' := Lib.hid (own_below HO7.out b8)
  have HX8 := Lib.hid ((HX7.out.below b8).more s8)
  have HA8 := Lib.hid (HA7.out.below (b8.mono s7))
  clear HX7 HA7 f8 HO7
  have hlen := rdB_len xs most
  generalize (rdB xs most).1 = ys at *
  generalize (rdB xs most).2.1 = k at *
  generalize (rdB xs most).2.2 = f at *
  generalize (rdU xs).1 = n at *
  generalize (rdU xs).2.1 = k' at *
  generalize (rdU xs).2.2 = f' at *
  obtain ⟨A7, c7, rfl⟩ := own_slice HO7'.out
  go_wp2_with fail
  refine (SameBytes.any w8.heap.size A7 A8 c7 c8 ys ys _ (RI.of_own HO7'.out).2 HO8.out (by omega) (by omega)).mono ?_
  rw [decide_eq_true rfl]
  rintro e w9 ⟨rfl, q, rfl⟩
  go_wp2_with fail
  have HO9 := Lib.hid (own_below HO7'.out (below_drewN (Below.refl _ _) q))
  have HX9 := Lib.hid ((HX8.out).drewN q)
  have HA9 := Lib.hid ((HA8.out).drewN q)
  have hb9 : Below w.heap.size w (w8.drewN q) := below_drewN (below_then' (below_then' (below_then' (below_then' (below_then' (below_then' b1 b2) b4) b6) b7) b8) (Below.refl _ _)) q
  have s9 : w8.heap.size ≤ (w8.drewN q).heap.size := Nat.le_refl _
  clear HO7' HX8 HA8 HO8
  generalize w8.drewN q = W at *
  have hend : ∀ wr : World, Below w6.heap.size W wr → Calls Try.prog 18 #[.slice (some ⟨g, 0, none⟩) (xs.length + 3) cap, .slice P xs.length c] wr fun e w' => e = .returned (.bool true) ∧ Drew wr w' := fun wr hwr =>
    kept_ok (some ⟨g, 0, none⟩) P cap c w6.heap.size xs wr (HA9.out.below hwr) (((HX.out.below hb9)).more (by omega) |>.below hwr) hcap (by omega)
  have HE := Lib.hid hend
  clear hend
  rcases Nat.eq_zero_or_pos ys.length with hy | hy
  · have hy0 : ((ys.length : Int)) ≤ 0 := by omega
    refine wp_loop_rounds 1 ?_
    rw [rounds_succ]
    go_wp2_with fail
    refine (HE.out _ (Below.refl _ _)).mono ?_
    rintro e w10 ⟨rfl, q, rfl⟩
    go_wp2
    go_ret
    exact ⟨rfl, below_drewN hb9 _⟩
  · obtain ⟨g7, cap7, cs7, hv, hg7, hblk, hn7, hc7⟩ := own_blk HO9.out hy
    injection hv with hv1 hv2 hv3
    subst hv1
    subst hv3
    clear hv2
    have hyl : ys.length ≤ 140737488351232 := by omega
    go_loopw [117] (fun i wr => ∃ (k : Nat) (cs : Array Value), i = .int .i64 k ∧ k ≤ ys.length ∧ Blk wr g7 5 cs ∧ ys.length ≤ cs.size ∧ Hid (∀ j, j < ys.length → ∃ m, cs[j]? = some (.int .u8 m)) ∧ Below w6.heap.size W wr) (fun i _ => ys.length - (intOf i).toNat)
    case atStart => exact ⟨0, cs7, rfl, Nat.zero_le _, hblk, hn7, Lib.hid hc7, Below.refl _ _⟩
    case round =>
      obtain ⟨k, cs, rfl, hk, hblk', hn', HC, hbr⟩ := hrel
      clear hblk hc7
      by_cases hlt : k < ys.length
      · obtain ⟨m, hm⟩ := HC.out k hlt
        have hcell := (hblk'.cell k).trans hm
        have hfr := hblk'.frozen k
        have HB' := Lib.hid hblk'
        clear hm hblk'
        go_wp2
        go_roundw
        case rel =>
          obtain ⟨cs', h1, h2, h3⟩ := blk_set_num (i := k) (m := bits .xor .u8 m 1) HB'.out hn' HC.out
          exact ⟨k + 1, cs', by go_num, by omega, h1, h2, Lib.hid h3, hbr.setCell hg7 _⟩
        case measure => simp [intOf]; omega
      · go_wp2_with fail
        refine (HE.out _ hbr).mono ?_
        rintro e w10 ⟨rfl, q, rfl⟩
        go_wp2
        go_ret
        exact ⟨rfl, below_drewN (hb9.trans (hbr.mono (by omega))) _⟩
end Go.Proofs.Ytlgedggjpnmhmaa.PackReadsW
