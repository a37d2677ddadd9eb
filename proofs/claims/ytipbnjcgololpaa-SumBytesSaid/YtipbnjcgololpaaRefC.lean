import Derived.Test.YtipbnjcgololpaaRefRounds
/-! the document's SHA-256 whole -/
namespace Go.Proofs.Ytipbnjcgololpaa.Sha
open Go.RowKit Go.Deep Go.Proofs.Ytipbnjcgololpaa.Pack Go.Proofs.Ytipbnjcgololpaa.Crc
set_option linter.unusedVariables false
set_option linter.unusedSimpArgs false
set_option maxHeartbeats 40000000 in
set_option maxRecDepth 1000000 in
theorem refsha_ok (P : Option Addr) (c : Nat) (xs : List Int) (w : World) (hx : RI w w.heap.size .u8 P xs) (hl : xs.length + 80 ≤ 140737488355328) (hb : Byt xs) :
    Calls Try.prog 15 #[.slice P xs.length c] w fun e w' => e = .returned (.agg (rowB (sha (nat xs)) 32)) ∧ Below w.heap.size w w' := by
  have HX := Lib.hid hx
  have HB := Lib.hid hb
  have hz := zeros_lt xs.length
  clear hx hb
  have hmk8 : ∀ w, (Instr.makeSlice 27 (.int .i64 8) (.int .i64 8)).run Try.prog w = .ok (.slice (some ⟨w.heap.size, 0, none⟩) 8 8) (w.alloc (.cells (rowB (List.replicate 8 0) 8) 5)) := fun _ => by kernel_rfl
  have HMK8 := Lib.hid hmk8
  clear hmk8
  go_enter Try.func15, Try.ntmps15
  go_wp2_with fail
  refine (known_ok _).mono ?_
  rintro e w1 ⟨rfl, b1⟩
  have s1 := b1.size
  have d0 : Below w.heap.size w w1 := ((Below.refl _ _).alloc (Nat.le_refl _) _).trans (b1.mono (by simp))
  have hR1 : Blk w1 w.heap.size 33 (rowB [] 32) := (Blk.new w 33 (rowB [] 32)).below b1 (by simp)
  have HR := Lib.hid hR1
  clear hR1
  simp at s1
  go_upto_region 3 with (first
    | (refine wpList_put rfl 23 (.tmp 3) (.tmp 35) rfl w1.heap.size (row K 64) rfl rfl 23 _ (Blk.new _ _ _) (by kernel_rfl) rfl (row_one _ _) ?_
       intro W2 hK hfar hbel hsz hcl
       have HSZ := Lib.hid hsz
       clear hsz))
  have hK3 := Lib.hid (hK.alloc (.cells #[.int .u64 1779033703, .int .u64 3144134277, .int .u64 1013904242, .int .u64 2773480762, .int .u64 1359893119, .int .u64 2600822924, .int .u64 528734635, .int .u64 1541459225] 40))
  have hR3 := Lib.hid ((hfar _ _ _ (by omega) (HR.out.alloc _)).alloc (.cells #[.int .u64 1779033703, .int .u64 3144134277, .int .u64 1013904242, .int .u64 2773480762, .int .u64 1359893119, .int .u64 2600822924, .int .u64 528734635, .int .u64 1541459225] 40))
  have hH3 := Lib.hid (show Blk (W2.alloc (.cells #[.int .u64 1779033703, .int .u64 3144134277, .int .u64 1013904242, .int .u64 2773480762, .int .u64 1359893119, .int .u64 2600822924, .int .u64 528734635, .int .u64 1541459225] 40)) W2.heap.size 40 (rowK .u64 (vals H0) 8) from Blk.new' rfl)
  have e2 := hbel w.heap.size w (by omega) (d0.alloc d0.size _)
  have hkb := hK.lt
  have e3 := e2.alloc e2.size (.cells #[.int .u64 1779033703, .int .u64 3144134277, .int .u64 1013904242, .int .u64 2773480762, .int .u64 1359893119, .int .u64 2600822924, .int .u64 528734635, .int .u64 1541459225] 40)
  have hkb0 : w.heap.size < w1.heap.size := by omega
  obtain ⟨W3, hW3⟩ : ∃ W3, W3 = W2.alloc (.cells #[.int .u64 1779033703, .int .u64 3144134277, .int .u64 1013904242, .int .u64 2773480762, .int .u64 1359893119, .int .u64 2600822924, .int .u64 528734635, .int .u64 1541459225] 40) := ⟨_, rfl⟩
  rw [← hW3] at hK3 hR3 hH3 e3 ⊢
  obtain ⟨gh, hhb⟩ : ∃ gh, gh = W2.heap.size := ⟨_, rfl⟩
  obtain ⟨kb, hkb2⟩ : ∃ kb, kb = w1.heap.size := ⟨_, rfl⟩
  rw [← hhb] at hkb hH3 ⊢
  rw [← hkb2] at hkb hkb0 hK3 ⊢
  have hszW3 : gh < W3.heap.size := hH3.out.lt
  have s3 := e3.size
  have HX3 := Lib.hid ((HX.out.below e3).more s3)
  clear hW3 hhb hkb2 e2 hK hfar hbel hcl HSZ HR d0 b1 s1 HX
  go_wp2_with (first
    | (at_builtin
       refine wpList_app _ rfl (.tmp 37) (.tmp 38) _ rfl W3.heap.size 5 .u8 1 Try.underlying27 info5 (by omega) (.slice (some ⟨W3.heap.size, 0, none⟩) 0 0) [] (World.ownsRow_made W3 #[] 0 (Nat.le_refl _) (by simp [maxLen]) rfl) rfl W3.heap.size P c xs rfl (HX3.out.alloc (Nat.le_refl _) _) (by simp; omega) (by simp) ?_
       intro v1 w3 hown1 hg1 hat1
       have hb1 : Below W3.heap.size W3 w3 := below_own ((Below.refl _ _).alloc (Nat.le_refl _) _) hg1 (World.ownsRow_made W3 #[] 0 (e := 5) (size := 1) (Nat.le_refl _) (by simp [maxLen]) rfl) (Nat.le_refl _) (by simp)
       have s1 := hb1.size
       simp only [List.nil_append] at hown1
       clear hat1 hg1)
    | (at_builtin
       refine wpList_app1 w3 rfl (.tmp 39) (.tmp 40) _ rfl W3.heap.size 5 .u8 1 Try.underlying27 info5 (by omega) v1 xs hown1 rfl 128 rfl (by omega) s1 ?_
       intro v2 w4 hown2 hg2 hat2
       have hb2 : Below W3.heap.size W3 w4 := below_own hb1 hg2 hown1 (Nat.le_refl _) s1
       clear hat2 hg2))
  obtain ⟨A2, c2, rfl⟩ := own_slice hown2
  have HO2 := Lib.hid hown2
  clear hown1 hown2 hb1 s1
  have hl2 : (xs ++ [128]).length = xs.length + 1 := by simp
  rw [hl2] at HO2 ⊢
  go_loopw [5] (fun v wr => ∃ (j n : Nat) (A : Option Addr) (c' : Nat), Hid (n = xs.length + 1 + j) ∧ j ≤ zeros xs.length ∧ v = .slice A n c' ∧ Hid (wr.ownsRow W3.heap.size 5 1 (.slice A n c') n (nums .u8 (xs ++ [128] ++ List.replicate j 0))) ∧ Below W3.heap.size W3 wr) (fun v _ => (xs.length + 65) - slen v)
  case atStart => exact ⟨0, xs.length + 1, A2, c2, Lib.hid rfl, by omega, rfl, Lib.hid (by simpa using HO2.out), hb2⟩
  case round =>
    obtain ⟨j, n, A, c', HN, hj, rfl, HO, hb⟩ := hrel
    have s' := hb.size
    have hst := zeros_stop xs.length j hj
    rw [← HN.out] at hst
    have hn1 : n + 1 ≤ 140737488355328 := by have := HN.out; omega
    by_cases hq : n % 64 = 56
    · have hj2 := hst.1 hq
      have hq' : ((n : Int) % 64 != 56) = false := by simp; omega
      have HJ := Lib.hid hj2
      have hn3 : n + 8 ≤ 140737488355328 := by have := HN.out; omega
      obtain ⟨N, hN⟩ : ∃ N : Nat, N = 8 * xs.length := ⟨_, rfl⟩
      have hsh : IntKind.u64.wrap (8 * (xs.length : Int)) = (N : Int) := by rw [IntKind.wrap_u64]; omega
      have HNN := Lib.hid hN
      have hN64 : N < 18446744073709551616 := by omega
      have HN64 := Lib.hid hN64
      clear hN hN64
      clear hst hj2 hq HO2 hb2
      have hmk8 := HMK8.out
      go_wp2_with fail
      have hfirst : Hid (Blk (wr.alloc (.cells (rowB [0, 0, 0, 0, 0, 0, 0, 0] 8) 5)) wr.heap.size 5 (rowB (eightK N 0) 8)) := Lib.hid (Blk.new' rfl)
      have htbs : wr.heap.size < (wr.alloc (.cells (rowB [0, 0, 0, 0, 0, 0, 0, 0] 8) 5)).heap.size := by simp
      have hbe : Below wr.heap.size wr (wr.alloc (.cells (rowB [0, 0, 0, 0, 0, 0, 0, 0] 8) 5)) := (Below.refl _ _).alloc (Nat.le_refl _) _
      obtain ⟨tb, htb⟩ : ∃ tb, tb = wr.heap.size := ⟨_, rfl⟩
      rw [← htb] at hfirst htbs hbe ⊢
      have HTB := Lib.hid htb
      clear htb hmk8 hsh hq' HMK8
      go_loopw [6, 8] (fun y v wc => ∃ (k y' : Nat) (t : Int), k ≤ 8 ∧ v = .int .i64 t ∧ Hid (t = 7 - (k : Int)) ∧ y = .int .u64 y' ∧ Hid (y' = N / 256 ^ k) ∧ Hid (Blk wc tb 5 (rowB (eightK N k) 8)) ∧ Below tb wr wc) (fun _ v _ => (intOf v + 1).toNat)
      case atStart => exact ⟨0, N, 7, by omega, rfl, Lib.hid rfl, rfl, Lib.hid (by simp), hfirst, hbe⟩
      case round =>
        clear hfirst htbs hbe
        obtain ⟨k, y', t, hk, rfl, HT, rfl, HY, hTB, hbe⟩ := hrel
        by_cases hk8 : k < 8
        · obtain ⟨s, rfl⟩ : ∃ s : Nat, t = s := ⟨t.toNat, by have := HT.out; omega⟩
          have hs7 : s = 7 - k := by have := HT.out; omega
          have hs8 : s < 8 := by omega
          have hs0 : (s : Int) < 8 := by omega
          obtain ⟨x0, hx0⟩ : ∃ x0, (rowB (eightK N k) 8)[s]? = some x0 := ⟨_, Array.getElem?_eq_getElem (by rw [rowB_size (Nat.le_of_eq (eightK_length N k hk))]; exact hs8)⟩
          have hcl := (hTB.out.cell s).trans hx0
          have hfr := hTB.out.frozen s
          have HS7 := Lib.hid hs7
          clear hx0 hs7
          go_wp2
          go_roundw
          case rel =>
            have hset := eightK_set N k hk8
            rw [← HS7.out, ← HY.out] at hset
            have hput := (hTB.out.set_ s (.int .u8 ((y' % 256 : Nat) : Int)))
            have hrow : (rowB (eightK N k) 8).setIfInBounds s (.int .u8 ((y' % 256 : Nat) : Int)) = rowB (eightK N (k + 1)) 8 := by
              rw [← hset]; exact rowK_put (k := .u8) (y' % 256) (by rw [eightK_length N k hk]; exact hs8)
            rw [hrow] at hput
            have hyl : y' ≤ N := by rw [HY.out]; exact Nat.div_le_self _ _
            have hw : IntKind.u64.wrap ((y' : Int) / 256) = ((y' / 256 : Nat) : Int) := by rw [IntKind.wrap_u64]; have := HN64.out; omega
            refine ⟨k + 1, y' / 256, (s : Int) - 1, by omega, rfl, Lib.hid (by have := HT.out; omega), by rw [hw], Lib.hid (by rw [HY.out, Nat.div_div_eq_div_mul, ← Nat.pow_succ]), Lib.hid (by simpa using hput), hbe.setCell (Nat.le_refl _) _⟩
          case measure => simp [intOf]; try omega
        · have hk8' : k = 8 := by omega
          obtain rfl : t = -1 := by have := HT.out; omega
          have hTB8 : Blk wr tb 5 (rowB (be8 N) 8) := by have := hTB.out; rw [hk8'] at this; exact this
          have hTR := Lib.hid (show RI wr wr.heap.size .u8 (some ⟨tb, 0, none⟩) (toI (be8 N)) from RI.of_lit hTB8 (by simp [rowB, nums, toI, be8]))
          have hO8 := Lib.hid (HO.out.kept (only_of_below (by rw [← HTB.out]; exact hbe) none) (by cases hob : (Value.slice A n c').ownBlock <;> simp))
          have hlen : (xs ++ [128] ++ List.replicate j (0 : Int)).length = n := by rw [HN.out]; simp; omega
          have HLEN := Lib.hid hlen
          have hO9 := Lib.hid (show wr.ownsRow W3.heap.size 5 1 (.slice A n c') (xs ++ [128] ++ List.replicate j (0 : Int)).length (nums .u8 (xs ++ [128] ++ List.replicate j 0)) by rw [hlen]; exact hO8.out)
          have hbw := hb.trans (hbe.mono (by have := HTB.out; omega))
          have hsw := hbw.size
          have hbd : ((xs ++ [128] ++ List.replicate j (0 : Int)).length + (toI (be8 N)).length) * 1 ≤ 140737488355328 := by rw [hlen, toI_length]; simp [be8]; omega
          clear hTB8 hlen hO8 HO hTB hk8' hb hbe
          go_wp2_with (at_builtin; refine wpList_app wr rfl (.tmp 66) (.tmp 67) _ rfl W3.heap.size 5 .u8 1 Try.underlying27 info5 (by omega) (.slice A n c') (xs ++ [128] ++ List.replicate j (0 : Int)) hO9.out rfl wr.heap.size (some ⟨tb, 0, none⟩) 8 (toI (be8 N)) rfl hTR.out hbd hsw ?_; intro v5 w5 hown5 hg5 hat5)
          obtain ⟨A5, c5, rfl⟩ := own_slice hown5
          have b5 := below_own hbw hg5 hO9.out (Nat.le_refl _) hsw
          obtain ⟨ys, hys⟩ : ∃ ys, ys = xs ++ [128] ++ List.replicate j (0 : Int) ++ toI (be8 N) := ⟨_, rfl⟩
          rw [← hys] at hown5 ⊢
          have hys2 : ys = xs ++ toI (tail xs.length) := by rw [hys, HJ.out, HNN.out]; simp [tail, toI]
          have hbyt : Byt ys := fun x hx => by
            rw [hys2] at hx
            rcases List.mem_append.1 hx with h | h
            · exact HB.out x h
            · exact byt_toI (tail_byt _) x h
          have hlen5 : ys.length = xs.length + (9 + zeros xs.length) := by rw [hys2]; simp [toI_length, tail_length]
          obtain ⟨M, hM⟩ : ∃ M, ys.length = 64 * M := ⟨ys.length / 64, by have := pad_len xs.length; omega⟩
          have hsha : sha (nat xs) = out (blocks M H0 (nat ys)) := by
            rw [hys2]
            unfold sha
            rw [nat_app, nat_toI, pad_tail, nat_length]
            have : (nat xs ++ tail xs.length).length / 64 = M := by
              have : (nat xs ++ tail xs.length).length = 64 * M := by rw [← hM, hys2]; simp [nat_length, toI_length]
              omega
            rw [this]
          have hc5 := own_cap hown5
          have ha5 := own_above hown5
          have hL5 : ys.length ≤ 140737488355328 := by omega
          have hR5 := Lib.hid (RI.of_own hown5).2
          obtain ⟨L5, hL5'⟩ : ∃ L5, L5 = ys.length := ⟨_, rfl⟩
          rw [← hL5'] at hc5 hL5 hM ⊢
          have HAB := Lib.hid (show ∀ ad, A5 = some ad → gh < ad.block from fun ad had => by have := ha5 ad had; omega)
          have HBY := Lib.hid hbyt
          have HSH := Lib.hid hsha
          have HM := Lib.hid hM
          have HLY := Lib.hid hL5'
          have e5 := e3.trans (b5.mono s3)
          have HK5 := Lib.hid (hK3.out.below b5 hK3.out.lt)
          have HR5 := Lib.hid (hR3.out.below b5 hR3.out.lt)
          have HH5 := Lib.hid (hH3.out.below b5 hszW3)
          have hB5 : gh < w5.heap.size := Nat.lt_of_lt_of_le hszW3 b5.size
          clear hown5 hg5 hat5 hys hys2 hbyt hlen5 hM hsha ha5 hL5' hbw hbd hO9 hTR b5 hK3 hR3 hH3 e3 HB HX3 HJ HNN HN64 HTB HLEN HN HY HT
          go_wp2_with fail
          go_loopw [9] (fun v wr => ∃ (q a0 : Nat) (st : St), q ≤ M ∧ v = .int .i64 a0 ∧ Hid (a0 = 64 * q) ∧ Hid st.ok ∧ Hid (out (blocks (M - q) st ((nat ys).drop (64 * q))) = sha (nat xs)) ∧
              Hid (Blk wr gh 40 (rowK .u64 (vals st) 8)) ∧ Hid (Blk wr kb 23 (row K 64)) ∧ Hid (Blk wr w.heap.size 33 (rowB [] 32)) ∧ Hid (RI wr w5.heap.size .u8 A5 ys) ∧ w5.heap.size ≤ wr.heap.size ∧ Below w.heap.size w wr) (fun v _ => 64 * M - (intOf v).toNat)
          case atStart => exact ⟨0, 0, H0, by omega, rfl, Lib.hid rfl, Lib.hid H0_ok, Lib.hid (by simpa using HSH.out.symm), HH5, HK5, HR5, hR5, Nat.le_refl _, e5⟩
          case round =>
            clear HSH HH5 HK5 HR5 hR5 e5
            obtain ⟨q, a0, st, hq, rfl, HA0, HST, HSH, HH, HK, HR, HY5, hsz5, e5⟩ := hrel
            have sw := e5.size
            by_cases hqM : q < M
            · have ha0L : (a0 : Int) < L5 := by have := HA0.out; have := HM.out; omega
              have hdec1 : decide ((a0 : Int) < (L5 : Int)) = true := by simp; omega
              obtain ⟨lb, hlb⟩ : ∃ lb, lb = (nat ys).drop (64 * q) := ⟨_, rfl⟩
              have hlbl : ∀ x ∈ lb, x < 256 := by rw [hlb]; intro x hx; exact nat_lt HBY.out x (List.mem_of_mem_drop hx)
              have HLB := Lib.hid hlb
              have HLBB := Lib.hid hlbl
              have hmk := fun w => show (Instr.makeSlice 47 (.int .i64 64) (.int .i64 64)).run Try.prog w = .ok (.slice (some ⟨w.heap.size, 0, none⟩) 64 64) (w.alloc (.cells (rowK .u64 [] 64) 40)) from by kernel_rfl
              clear hlb hlbl
              go_wp2_with fail
              clear hmk
              obtain ⟨wb, hwb⟩ : ∃ wb, wb = wr.heap.size := ⟨_, rfl⟩
              have HWB := Lib.hid hwb
              have hg1 := HH.out.lt
              have hk1 := HK.out.lt
              have hr1 := HR.out.lt
              rw [← hwb] at hsz5 sw hg1 hk1 hr1 ⊢
              clear hwb
              go_loopw [76] (fun v wc => ∃ i : Nat, i ≤ 16 ∧ v = .int .i64 i ∧ Hid (Blk wc wb 40 (rowK .u64 (sch lb i) 64)) ∧
                  Hid (Blk wc gh 40 (rowK .u64 (vals st) 8)) ∧ Hid (Blk wc kb 23 (row K 64)) ∧ Hid (Blk wc w.heap.size 33 (rowB [] 32)) ∧ Hid (RI wc w5.heap.size .u8 A5 ys) ∧ wb < wc.heap.size ∧ Below w.heap.size w wc) (fun v _ => 16 - (intOf v).toNat)
              case atStart => exact ⟨0, by omega, rfl, Lib.hid (Blk.new' HWB.out), Lib.hid (HH.out.alloc _), Lib.hid (HK.out.alloc _), Lib.hid (HR.out.alloc _), Lib.hid (HY5.out.alloc (by have := HWB.out; omega) _), by have := HWB.out; simp; omega, e5.alloc (by have := HWB.out; omega) _⟩
              case round =>
                clear HH HK HR HY5 e5
                obtain ⟨i, hi, rfl, HW, HH, HK, HR, HY5, hszc, e5⟩ := hrel
                by_cases hi16 : i < 16
                · have hdec2 : decide ((i : Int) < 16) = true := by simp; omega
                  go_wp2_with fail
                  go_loopw [79] (fun v wc => ∃ j : Nat, j ≤ 4 ∧ v = .int .i64 j ∧ Hid (Blk wc wb 40 (rowK .u64 (sch lb i ++ [pw lb (4 * i) j]) 64)) ∧
                      Hid (Blk wc gh 40 (rowK .u64 (vals st) 8)) ∧ Hid (Blk wc kb 23 (row K 64)) ∧ Hid (Blk wc w.heap.size 33 (rowB [] 32)) ∧ Hid (RI wc w5.heap.size .u8 A5 ys) ∧ wb < wc.heap.size ∧ Below w.heap.size w wc) (fun v _ => 4 - (intOf v).toNat)
                  case atStart => exact ⟨0, by omega, rfl, Lib.hid (by rw [show pw lb (4 * i) 0 = 0 from rfl, rowK_zero (by rw [sch_length]; omega)]; exact HW.out), HH, HK, HR, HY5, hszc, e5⟩
                  case round =>
                    clear HW HH HK HR HY5 hszc e5
                    obtain ⟨j, hj, rfl, HW, HH, HK, HR, HY5, hszc, e5⟩ := hrel
                    by_cases hj4 : j < 4
                    · have hlen := sch_length lb i
                      obtain ⟨x, hx⟩ : ∃ x : Nat, x = a0 + 4 * i + j := ⟨_, rfl⟩
                      have hxy : x < ys.length := by have := HA0.out; have := HM.out; have := HLY.out; omega
                      obtain ⟨ad, rfl, hadb, hcell⟩ := HY5.out.one hxy
                      have hby := HBY.out _ (List.getElem_mem hxy)
                      rw [← rd_get hxy] at hby
                      obtain ⟨b, hb⟩ : ∃ b : Nat, rd ys x = b := ⟨(rd ys x).toNat, by omega⟩
                      rw [hb] at hcell hby
                      have hcw := (HW.out.cell i).trans (rowK_get (by simp; omega))
                      have hfw := HW.out.frozen i
                      rw [show (sch lb i ++ [pw lb (4 * i) j]).getD i 0 = pw lb (4 * i) j from by rw [List.getD, List.getElem?_append_right (by omega)]; simp [hlen]] at hcw
                      have hpl := pw_lt' HLBB.out (4 * i) j hj4
                      obtain ⟨p, hp⟩ : ∃ p, p = pw lb (4 * i) j := ⟨_, rfl⟩
                      rw [← hp] at hcw hpl
                      have hbl : lb.getD (4 * i + j) 0 = b := by
                        rw [HLB.out, List.getD, List.getElem?_drop, show 64 * q + (4 * i + j) = x from by have := HA0.out; omega]
                        have : (nat ys)[x]? = some b := by
                          simp only [nat, List.getElem?_map, List.getElem?_eq_getElem hxy, Option.map_some]
                          rw [← rd_get hxy, hb]; rfl
                        rw [this]; rfl
                      have hset : (rowK .u64 (sch lb i ++ [p]) 64).setIfInBounds i (.int .u64 ((p * 256 + b : Nat) : Int)) = rowK .u64 (sch lb i ++ [pw lb (4 * i) (j + 1)]) 64 := by
                        rw [rowK_put _ (by simp; omega), List.set_append_right _ _ (by omega), hlen, Nat.sub_self]
                        simp only [pw, hbl, ← hp, List.set_cons_zero]
                      have HSET := Lib.hid hset
                      have HP := Lib.hid hp
                      have hxI : (a0 : Int) + 4 * (i : Int) + (j : Int) = (x : Int) := by omega
                      have i1 : (i : Int) < 64 := by omega
                      have x1 : (x : Int) < L5 := by have := HLY.out; omega
                      have p1 : (p : Int) ≤ 16777215 := by omega
                      obtain ⟨r, hr⟩ : ∃ r, r = p * 256 + b := ⟨_, rfl⟩
                      have w1 : IntKind.i64.wrap (4 * (i : Int)) = 4 * (i : Int) := IntWalk.i64_in _ (by omega)
                      have w2 : IntKind.i64.wrap ((a0 : Int) + 4 * (i : Int)) = (a0 : Int) + 4 * (i : Int) := IntWalk.i64_in _ (by omega)
                      have w3 : IntKind.i64.wrap ((a0 : Int) + 4 * (i : Int) + (j : Int)) = (x : Int) := by rw [hxI]; exact IntWalk.i64_in _ (by omega)
                      have w4 : IntKind.u64.wrap ((p : Int) * 256) = (p : Int) * 256 := by rw [IntKind.wrap_u64]; omega
                      have w5' : IntKind.u64.wrap ((p : Int) * 256 + (b : Int)) = (r : Int) := by rw [IntKind.wrap_u64, hr]; omega
                      rw [← hr] at HSET
                      have HRR := Lib.hid hr
                      clear hset hp hbl hb hlen hx hxI hr
                      go_wp2_with fail
                      refine wp_region_tail 19 (by kernel_rfl) (by kernel_rfl) ?_
                      simp only [List.take_succ_cons, List.take_zero, List.drop_succ_cons, List.drop_zero]
                      repeat still_step
                      refine wpStill_nil ?_
                      clear w1 w2 w3 w4 w5' i1 x1 p1
                      go_wp2
                      go_roundw
                      case rel =>
                        refine ⟨j + 1, by omega, by go_num, Lib.hid ?_, Lib.hid (HH.out.far (by simp; omega) _).drew, Lib.hid (HK.out.far (by simp; omega) _).drew, Lib.hid (HR.out.far (by simp; omega) _).drew, Lib.hid (HY5.out.setCell hsz5 _), by simpa using hszc, (e5.setCell sw _).drew⟩
                        have hh := (HW.out.set_ i (.int .u64 ((p : Int) * 256 + (b : Int)))).drew
                        rw [← HP.out] at hh
                        rw [← HSET.out, show ((r : Nat) : Int) = (p : Int) * 256 + (b : Int) from by rw [HRR.out]; push_cast; rfl]
                        exact hh
                      case measure => simp [intOf]; omega
                    · have hj' : j = 4 := by omega
                      have hW4 : Hid (Blk wr wb 40 (rowK .u64 (sch lb (i + 1)) 64)) := by
                        have := HW.out
                        rw [hj', pw_four] at this
                        exact Lib.hid (by simpa [sch, hi16] using this)
                      clear hj' HW
                      go_wp2
                      go_roundw
                      case rel => exact ⟨i + 1, by omega, by go_num, hW4, HH, HK, HR, HY5, hszc, e5⟩
                      case measure => simp [intOf]; omega
                · have hi' : i = 16 := by omega
                  have hW2 := Lib.hid (show Blk wr wb 40 (rowK .u64 (sch lb 16) 64) by have := HW.out; rw [hi'] at this; exact this)
                  have hdec2 : decide ((i : Int) < 16) = false := by simp; omega
                  clear hi' HW
                  go_wp2_with fail
                  refine sched_loop _ (by kernel_rfl) _ w w5 gh kb wb st lb ys A5 HLBB sw hsz5 hg1 hk1 hr1 _ _ _ _ _ _ _ _ _ _ _ _ _ _ _ _ _ _ _ _ _ _ _ _ _ _ _ _ _ _ _ _ _ _ _ _ _ _ _ _ _ _ _ _ _ _ _ _ _ _ _ _ _ _ _ _ _ _ _ _ _ _ _ _ _ _ _ _ _ _ _ _ _ _ _ _ _ _ _ _ _ _ _ _ _ _ _ _ _ _ _ _ _ _ _ _ _ _ _ _ _ _ _ _ _ _ _ _ _ _ _ _ _ _ _ _ _ _ _ _ _ _ _ _ _ _ _ _ _ _ _ _ _ _ _ _ _ _ _ _ _ _ _ _ _ _ _ _ _ _ _ _ _ _ _ _ _ _ _ _ _ _ _ _ _ _ _ _ _ _ _ _ _ _ _ _ _ _ _ _ _ _ _ _ _ _ _ _ _ _ _ _ _ _ _ _ _ _ _ _ _ _ _ _ _ _ _ _ _ _ _ _ _ _ _ _ _ _ _ _ _ _ _ _ _ _ _ _ _ _ _ _ _ _ _ _ _ _ _ _ _ _ _ _ _ _ _ _ _ _ _ _ _ _ _ _ _ _ _ _ _ _ _ _ _ _ _ _ _ _ _ _ _ _ _ _ _ _ _ _ _ _ _ _ _ _ _ _ _ _ _ _ wr hW2 HH HK HR HY5 hszc e5 ?_
                  clear hW2 HH HK HR HY5 hszc e5
                  intro m13 m14 m15 m16 m17 m103 m104 m105 m106 m107 m108 m109 m110 m111 m112 m113 m114 m115 m116 m117 m118 m119 m120 m121 m122 m123 m124 m125 m126 m127 m128 m129 m130 m131 m132 m133 m134 m135 m136 m137 m138 m139 m140 m141 m142 m143 m144 m145 m146 m147 m148 m149 m150 m151 wr hW64 HH HK HR HY5 hszc e5
                  obtain ⟨sa, sb, sc, sd, se, sf, sg, sh⟩ := st
                  have c0 := HH.out.cell 0
                  have c1 := HH.out.cell 1
                  have c2 := HH.out.cell 2
                  have c3 := HH.out.cell 3
                  have c4 := HH.out.cell 4
                  have c5 := HH.out.cell 5
                  have c6 := HH.out.cell 6
                  have c7 := HH.out.cell 7
                  simp only [rowK, vals, List.map_cons, List.map_nil, List.cons_append, List.getElem?_toArray, List.getElem?_cons_zero, List.getElem?_cons_succ] at c0 c1 c2 c3 c4 c5 c6 c7
                  go_wp2_with fail
                  go_quiet (fail)
                  clear c0 c1 c2 c3 c4 c5 c6 c7
                  go_wp2_with fail
                  have HH7 := Lib.hid (HH.out.drewN nq)
                  have HK7 := Lib.hid (HK.out.drewN nq)
                  have HR7 := Lib.hid (HR.out.drewN nq)
                  have HW7 := Lib.hid (hW64.out.drewN nq)
                  have HY7 := Lib.hid (HY5.out.drewN nq)
                  have e7 := below_drewN e5 nq
                  have hsz7 : wb < (wr.drewN nq).heap.size := hszc
                  clear HH HK HR hW64 HY5 e5 hszc
                  generalize wr.drewN nq = W7 at *
                  refine rounds_loop _ (by kernel_rfl) _ lb HLBB sa sb sc sd se sf sg sh HST wb kb _ _ _ _ _ _ _ _ _ _ _ _ _ _ _ _ _ _ _ _ _ _ _ _ _ _ _ _ _ _ _ _ _ _ _ _ _ _ _ _ _ _ _ _ _ _ _ _ _ _ _ _ _ _ _ _ _ _ _ _ _ _ _ _ _ _ _ _ _ _ _ _ _ _ _ _ _ _ _ _ _ _ _ _ _ _ _ _ _ _ _ _ _ _ _ _ _ _ _ _ _ _ _ _ _ _ _ _ _ _ _ _ _ _ _ _ _ _ _ _ _ _ _ _ _ _ _ _ _ _ _ _ _ _ _ _ _ _ _ _ _ _ _ _ _ _ _ _ _ _ _ _ _ _ _ _ _ _ _ _ _ _ _ _ _ _ _ _ _ _ _ _ _ _ _ _ _ _ _ _ _ _ _ _ _ _ _ _ _ _ _ _ _ _ _ _ _ _ _ _ _ _ _ _ _ _ _ _ _ _ _ _ _ _ _ _ _ _ _ _ _ _ _ _ _ _ _ _ _ _ _ _ _ _ _ _ _ _ _ _ _ _ _ _ _ _ _ _ _ _ _ _ _ _ _ _ _ _ _ _ _ _ _ _ _ _ _ _ _ _ _ _ _ _ _ _ _ _ _ _ _ _ _ W7 HW7 HK7 ?_
                  intro m26 m27 m28 m176 m177 m178 m179 m180 m181 m182 m183 m184 m185 m186 m187 m188 m189 m190 m191 m192 m193 m194 m195 m196 m197 m198 m199 m200 m201 m202 m203 m204 m205 m206 m207 m208 m209 m210 m211 m212 m213 m214 m215 m216 m217 m218 m219 m220 m221 m222 m223 m224 m225 m226 m227 m228 m229 m230 m231 m232 m233 m234 m235 m236 m237 m238 m239 m240 m241 m242 m243 m244 va vb vc vd ve vf vg vh nd HS'
                  obtain ⟨s7, hs7⟩ : ∃ s7 : St, s7 = ⟨va, vb, vc, vd, ve, vf, vg, vh⟩ := ⟨_, rfl⟩
                  have hs8 : s7 = rn (sch lb 64) ⟨sa, sb, sc, sd, se, sf, sg, sh⟩ 64 := by rw [hs7, HS'.out]
                  have HS8 := Lib.hid hs8
                  have hok7 : s7.ok := by rw [hs8]; exact rn_ok _ _ HST.out 64
                  have HOK7 := Lib.hid hok7
                  go_wp2_with fail
                  have hX8 : Hid (Blk ((W7.drewN nd).alloc (.cells #[.int .u64 (va : Nat), .int .u64 (vb : Nat), .int .u64 (vc : Nat), .int .u64 (vd : Nat), .int .u64 (ve : Nat), .int .u64 (vf : Nat), .int .u64 (vg : Nat), .int .u64 (vh : Nat)] 40)) W7.heap.size 40 (rowK .u64 (vals s7) 8)) := by
                    rw [hs7]; exact Lib.hid (Blk.new' rfl)
                  have hH8 := Lib.hid ((HH7.out.drewN nd).alloc (.cells #[.int .u64 (va : Nat), .int .u64 (vb : Nat), .int .u64 (vc : Nat), .int .u64 (vd : Nat), .int .u64 (ve : Nat), .int .u64 (vf : Nat), .int .u64 (vg : Nat), .int .u64 (vh : Nat)] 40))
                  have hK8 := Lib.hid ((HK7.out.drewN nd).alloc (.cells #[.int .u64 (va : Nat), .int .u64 (vb : Nat), .int .u64 (vc : Nat), .int .u64 (vd : Nat), .int .u64 (ve : Nat), .int .u64 (vf : Nat), .int .u64 (vg : Nat), .int .u64 (vh : Nat)] 40))
                  have hR8 := Lib.hid ((HR7.out.drewN nd).alloc (.cells #[.int .u64 (va : Nat), .int .u64 (vb : Nat), .int .u64 (vc : Nat), .int .u64 (vd : Nat), .int .u64 (ve : Nat), .int .u64 (vf : Nat), .int .u64 (vg : Nat), .int .u64 (vh : Nat)] 40))
                  have hY8 := Lib.hid ((HY7.out.drewN nd).alloc (show w5.heap.size ≤ (W7.drewN nd).heap.size from Nat.le_trans hsz5 (Nat.le_of_lt hsz7)) (.cells #[.int .u64 (va : Nat), .int .u64 (vb : Nat), .int .u64 (vc : Nat), .int .u64 (vd : Nat), .int .u64 (ve : Nat), .int .u64 (vf : Nat), .int .u64 (vg : Nat), .int .u64 (vh : Nat)] 40))
                  have e8 := (below_drewN e7 nd).alloc (show w.heap.size ≤ (W7.drewN nd).heap.size from Nat.le_trans sw (Nat.le_of_lt hsz7)) (.cells #[.int .u64 (va : Nat), .int .u64 (vb : Nat), .int .u64 (vc : Nat), .int .u64 (vd : Nat), .int .u64 (ve : Nat), .int .u64 (vf : Nat), .int .u64 (vg : Nat), .int .u64 (vh : Nat)] 40)
                  have hsz8 : wb < ((W7.drewN nd).alloc (.cells #[.int .u64 (va : Nat), .int .u64 (vb : Nat), .int .u64 (vc : Nat), .int .u64 (vd : Nat), .int .u64 (ve : Nat), .int .u64 (vf : Nat), .int .u64 (vg : Nat), .int .u64 (vh : Nat)] 40)).heap.size := by
                    have : (W7.drewN nd).heap.size = W7.heap.size := rfl
                    simp; omega
                  obtain ⟨xb, hxb⟩ : ∃ xb, xb = W7.heap.size := ⟨_, rfl⟩
                  rw [← hxb] at hX8 ⊢
                  have hxbw : wb < xb := by omega
                  clear hxb hs7 hs8 hok7 HH7 HK7 HR7 HY7 HW7 e7 hsz7
                  go_loopw [255] (fun v wc => ∃ q8 : Nat, q8 ≤ 8 ∧ v = .int .i64 q8 ∧ Hid (Blk wc xb 40 (rowK .u64 (vals s7) 8)) ∧ Hid (Blk wc gh 40 (rowK .u64 (mixed ⟨sa, sb, sc, sd, se, sf, sg, sh⟩ s7 q8) 8)) ∧ Hid (Blk wc kb 23 (row K 64)) ∧ Hid (Blk wc w.heap.size 33 (rowB [] 32)) ∧ Hid (RI wc w5.heap.size .u8 A5 ys) ∧ wb < wc.heap.size ∧ Below w.heap.size w wc) (fun v _ => 8 - (intOf v).toNat)
                  case atStart => exact ⟨0, by omega, rfl, hX8, hH8, hK8, hR8, hY8, hsz8, e8⟩
                  case round =>
                    clear hX8 hH8 hK8 hR8 hY8 hsz8 e8
                    obtain ⟨q8, hq8, rfl, hX8, hH8, hK8, hR8, hY8, hsz8, e8⟩ := hrel
                    by_cases hq88 : q8 < 8
                    · have hdec5 : decide ((q8 : Int) < 8) = true := by simp; omega
                      have cx := (hX8.out.cell q8).trans (rowK_get (by rw [vals_length]; omega))
                      have ch' := (hH8.out.cell q8).trans (rowK_get (by rw [mixed_length]; omega))
                      have fh := hH8.out.frozen q8
                      rw [mixed_get _ _ hq88] at ch'
                      have o1 := vals_lt HST.out q8
                      have o2 := vals_lt HOK7.out q8
                      have hput := rowK_put (k := .u64) (n := 8) (j := q8) (((vals ⟨sa, sb, sc, sd, se, sf, sg, sh⟩).getD q8 0 + (vals s7).getD q8 0) % 4294967296) (show q8 < (mixed ⟨sa, sb, sc, sd, se, sf, sg, sh⟩ s7 q8).length by rw [mixed_length]; omega)
                      rw [mixed_put _ _ hq88] at hput
                      obtain ⟨y1, hy1⟩ : ∃ y1, y1 = (vals ⟨sa, sb, sc, sd, se, sf, sg, sh⟩).getD q8 0 := ⟨_, rfl⟩
                      obtain ⟨y2, hy2⟩ : ∃ y2, y2 = (vals s7).getD q8 0 := ⟨_, rfl⟩
                      rw [← hy1] at ch' o1 hput
                      rw [← hy2] at cx o2 hput
                      have HPUT := Lib.hid hput
                      have q80 : (0 : Int) ≤ q8 := by omega
                      have q81 : (q8 : Int) < 8 := by omega
                      clear hput hy1 hy2
                      go_wp2
                      go_roundw
                      case rel =>
                        rw [show ((y1 : Int) + y2) % 4294967296 = (((y1 + y2) % 4294967296 : Nat) : Int) from by omega]
                        refine ⟨q8 + 1, by omega, by go_num, Lib.hid (hX8.out.far (by simp; omega) _), Lib.hid ?_, Lib.hid (hK8.out.far (by simp; omega) _), Lib.hid (hR8.out.far (by simp; omega) _), Lib.hid (RI.away (g := gh) hY8.out (fun ad had => by have := HAB.out ad had; omega) (fun p hp => World.cell?_setCell_other _ _ _ _ (fun e => hp (by rw [← e])))), by simpa using hsz8, e8.setCell (by simp; omega) _⟩
                        rw [← HPUT.out]
                        exact hH8.out.set_ _ _
                      case measure => simp [intOf]; omega
                    · have hq8' : q8 = 8 := by omega
                      have hdec5 : decide ((q8 : Int) < 8) = false := by simp; omega
                      have hcomp : compress ⟨sa, sb, sc, sd, se, sf, sg, sh⟩ lb = add ⟨sa, sb, sc, sd, se, sf, sg, sh⟩ s7 := by rw [HS8.out]; rfl
                      have hH9 := Lib.hid (show Blk wr gh 40 (rowK .u64 (vals (add ⟨sa, sb, sc, sd, se, sf, sg, sh⟩ s7)) 8) by have := hH8.out; rw [hq8'] at this; exact this)
                      have hbl : out (blocks (M - (q + 1)) (add ⟨sa, sb, sc, sd, se, sf, sg, sh⟩ s7) ((nat ys).drop (64 * (q + 1)))) = sha (nat xs) := by
                        have h := HSH.out
                        rw [← HLB.out] at h
                        obtain ⟨m', hm'⟩ : ∃ m', M - q = m' + 1 := ⟨M - q - 1, by omega⟩
                        rw [hm', blocks, hcomp] at h
                        rw [show M - (q + 1) = m' from by omega, show 64 * (q + 1) = 64 * q + 64 from by omega, ← List.drop_drop, ← HLB.out]
                        exact h
                      have HBL := Lib.hid hbl
                      have hokA : (add ⟨sa, sb, sc, sd, se, sf, sg, sh⟩ s7).ok := by rw [← hcomp]; exact compress_ok _ _
                      have HOKA := Lib.hid hokA
                      have a0b : (a0 : Int) ≤ 140737488355328 := by omega
                      clear hq8' hcomp hbl hokA hH8
                      go_wp2
                      go_roundw
                      case rel =>
                        exact ⟨q + 1, a0 + 64, _, by omega, by go_num, Lib.hid (by have := HA0.out; omega), HOKA, HBL, hH9, hK8, hR8, hY8, by omega, e8⟩
                      case measure => simp [intOf]; have := HA0.out; omega
            · have hqM' : q = M := by omega
              have hdec6 : decide ((a0 : Int) < (L5 : Int)) = false := by have := HA0.out; have := HM.out; simp; omega
              have ha0 : ¬ (a0 : Int) < (L5 : Int) := by have := HA0.out; have := HM.out; omega
              have hsha0 : out st = sha (nat xs) := by
                have h := HSH.out
                rw [hqM', Nat.sub_self] at h
                exact h
              have HSH0 := Lib.hid hsha0
              clear hqM' hsha0 HSH HK HY5
              go_wp2_with fail
              have hO := Lib.hid (show Blk (wr.alloc (.cells #[.int .u8 0, .int .u8 0, .int .u8 0, .int .u8 0, .int .u8 0, .int .u8 0, .int .u8 0, .int .u8 0, .int .u8 0, .int .u8 0, .int .u8 0, .int .u8 0, .int .u8 0, .int .u8 0, .int .u8 0, .int .u8 0, .int .u8 0, .int .u8 0, .int .u8 0, .int .u8 0, .int .u8 0, .int .u8 0, .int .u8 0, .int .u8 0, .int .u8 0, .int .u8 0, .int .u8 0, .int .u8 0, .int .u8 0, .int .u8 0, .int .u8 0, .int .u8 0] 33)) wr.heap.size 33 (rowB [] 32) from Blk.new' rfl)
              have hob1 := HH.out.lt
              have hob2 := HR.out.lt
              obtain ⟨ob, hob⟩ : ∃ ob, ob = wr.heap.size := ⟨_, rfl⟩
              rw [← hob] at hO hob1 hob2 ⊢
              clear hob
              go_loopw [273] (fun v wc => ∃ q : Nat, q ≤ 8 ∧ v = .int .i64 q ∧ Hid (Blk wc ob 33 (rowB ((out st).take (4 * q)) 32)) ∧ Hid (Blk wc gh 40 (rowK .u64 (vals st) 8)) ∧ Hid (Blk wc w.heap.size 33 (rowB [] 32)) ∧ Below w.heap.size w wc) (fun v _ => 8 - (intOf v).toNat)
              case atStart => exact ⟨0, by omega, rfl, hO, Lib.hid (HH.out.alloc _), Lib.hid (HR.out.alloc _), e5.alloc e5.size _⟩
              case round =>
                clear hO HH HR e5
                obtain ⟨q, hq, rfl, hO, HH, HR, e5⟩ := hrel
                by_cases hq8 : q < 8
                · have hdec7 : decide ((q : Int) < 8) = true := by simp; omega
                  have cx := (HH.out.cell q).trans (rowK_get (by rw [vals_length]; omega))
                  have ox := vals_lt HST.out q
                  have hof := out_four st q hq8
                  obtain ⟨X, hX⟩ : ∃ X, X = (vals st).getD q 0 := ⟨_, rfl⟩
                  rw [← hX] at cx ox hof
                  have HOF := Lib.hid hof
                  have q80 : (0 : Int) ≤ q := by omega
                  have q81 : (q : Int) < 8 := by omega
                  have hlq : ((out st).take (4 * q)).length = 4 * q := by rw [List.length_take, out_length]; omega
                  have HLQ := Lib.hid hlq
                  clear hX hof hlq
                  go_wp2_with fail
                  go_loopw [33, 34] (fun y v wc => ∃ (k y' : Nat) (t : Int), k ≤ 4 ∧ v = .int .i64 t ∧ Hid (t = 3 - (k : Int)) ∧ y = .int .u64 y' ∧ Hid (y' = X / 256 ^ k) ∧ Hid (Blk wc ob 33 (rowB ((out st).take (4 * q) ++ fourK X k) 32)) ∧ Hid (Blk wc gh 40 (rowK .u64 (vals st) 8)) ∧ Hid (Blk wc w.heap.size 33 (rowB [] 32)) ∧ Below w.heap.size w wc) (fun _ v _ => (intOf v + 1).toNat)
                  case atStart => exact ⟨0, X, 3, by omega, rfl, Lib.hid rfl, rfl, Lib.hid (by simp), Lib.hid (by rw [rowB_four (by rw [HLQ.out]; omega)]; exact hO.out), HH, HR, e5⟩
                  case round =>
                    clear hO HH HR e5 cx
                    obtain ⟨k, y', t, hk, rfl, HT, rfl, HY, hO, HH, HR, e5⟩ := hrel
                    by_cases hk4 : k < 4
                    · obtain ⟨s, rfl⟩ : ∃ s : Nat, t = s := ⟨t.toNat, by have := HT.out; omega⟩
                      have hs3 : s = 3 - k := by have := HT.out; omega
                      have hs4 : s < 4 := by omega
                      have hfl : (fourK X k).length = 4 := by simp [fourK, be4]
                      have hll : ((out st).take (4 * q) ++ fourK X k).length = 4 * q + 4 := by rw [List.length_append, HLQ.out, hfl]
                      obtain ⟨x0, hx0⟩ : ∃ x0, (rowB ((out st).take (4 * q) ++ fourK X k) 32)[4 * q + s]? = some x0 := ⟨_, Array.getElem?_eq_getElem (by rw [rowB_size (by omega)]; omega)⟩
                      have hcl := (hO.out.cell (4 * q + s)).trans hx0
                      have hfr := hO.out.frozen (4 * q + s)
                      have hyX : y' ≤ X := by rw [HY.out]; exact Nat.div_le_self _ _
                      have hput := rowK_put (k := .u8) (n := 32) (j := 4 * q + s) (y' % 256) (show 4 * q + s < ((out st).take (4 * q) ++ fourK X k).length by omega)
                      rw [List.set_append_right _ _ (by rw [HLQ.out]; omega), HLQ.out, show 4 * q + s - 4 * q = s from by omega] at hput
                      have hfs := fourK_set X k hk4
                      rw [← HY.out, ← hs3] at hfs
                      rw [hfs] at hput
                      have HPUT := Lib.hid hput
                      have hidx : (4 * (q : Int) + (s : Int)) < 32 := by omega
                      have y1 : (y' : Int) ≤ 4294967295 := by omega
                      clear hput hfs hx0 hll hfl hs3
                      go_wp2
                      go_roundw
                      case rel =>
                        rw [show (y' : Int) % 256 = ((y' % 256 : Nat) : Int) from by omega]
                        refine ⟨k + 1, y' / 256, (s : Int) - 1, by omega, rfl, Lib.hid (by have := HT.out; omega), by go_num, Lib.hid (by rw [HY.out, Nat.div_div_eq_div_mul, ← Nat.pow_succ]), Lib.hid ?_, Lib.hid (HH.out.far (by simp; omega) _), Lib.hid (HR.out.far (by simp; omega) _), e5.setCell (by simp; omega) _⟩
                        show Blk _ ob _ (rowK .u8 _ 32)
                        rw [← HPUT.out]
                        exact hO.out.set_ _ _
                      case measure => simp [intOf]; try omega
                    · have hk' : k = 4 := by omega
                      obtain rfl : t = -1 := by have := HT.out; omega
                      have hO4 := Lib.hid (show Blk wr ob 33 (rowB ((out st).take (4 * (q + 1))) 32) by have := hO.out; rw [hk', HOF.out] at this; exact this)
                      clear hk' hO
                      go_wp2
                      go_roundw
                      case rel => exact ⟨q + 1, by omega, by go_num, hO4, HH, HR, e5⟩
                      case measure => simp [intOf]; omega
                · have hq' : q = 8 := by omega
                  have hO8 : Blk wr ob 33 (rowB (out st) 32) := by have := hO.out; rw [hq'] at this; exact this
                  have hR8 := HR.out
                  clear hq' hO HR
                  go_wp2_with (first
                    | (refine wpList_load_row rfl 33 (.tmp 31) rfl ob rfl 33 (rowB (out st) 32) (0, 0) _ hO8 Try.underlying33 rfl (by rw [rowB_size (Nat.le_of_eq (out_length st))]; kernel_rfl) ?_)
                    | (refine wpList_put rfl 33 (.tmp 2) (.tmp 293) rfl w.heap.size (rowB (out st) 32) rfl rfl 33 _ hR8 (by rw [rowB_size (Nat.le_of_eq (out_length st))]; kernel_rfl) rfl (rowB_one _ _) ?_
                       intro W9 hB9 hfar9 hbel9 hsz9 hcl9))
                  have e9 := hbel9 w.heap.size w (Nat.le_refl _) e5
                  rw [← HSH0.out]
                  exact bodyPost_ret (results_cell_row rfl _ W9 w.heap.size 33 (rowB (out st) 32) (0, 0) _ rfl hB9 Try.underlying33 rfl (by rw [rowB_size (Nat.le_of_eq (out_length st))]; kernel_rfl)) rfl ⟨rfl, e9⟩
    · have hj2 : j < zeros xs.length := by
        rcases Nat.lt_or_ge j (zeros xs.length) with h | h
        · exact h
        · exact absurd (hst.2 (by omega)) hq
      have hq' : ((n : Int) % 64 != 56) = true := by simp; omega
      have e : (xs ++ [128] ++ List.replicate j 0).length = n := by simp [HN.out]; omega
      have HE := Lib.hid e
      have hO := HO.out
      rw [← e] at hO
      have HO' := Lib.hid hO
      have hbd : ((xs ++ [128] ++ List.replicate j 0).length + 1) * 1 ≤ 140737488355328 := by omega
      clear hst hq e hO
      go_wp2_with (at_builtin; refine wpList_app1 wr rfl (.tmp 46) (.tmp 47) _ rfl W3.heap.size 5 .u8 1 Try.underlying27 info5 (by omega) (.slice A n c') (xs ++ [128] ++ List.replicate j 0) (by rw [HE.out]; have := HO'.out; rwa [HE.out] at this) rfl 0 rfl hbd s' ?_; intro v3 w3 hown3 hg3 hat3)
      obtain ⟨A3, c3, rfl⟩ := own_slice hown3
      have e3 : (xs ++ [128] ++ List.replicate j 0 ++ [0]).length = n + 1 := by simp [HN.out]; omega
      have e4 : xs ++ [128] ++ List.replicate j 0 ++ [0] = xs ++ [128] ++ List.replicate (j + 1) (0 : Int) := by rw [List.replicate_succ', List.append_assoc _ _ [0]]
      have b3 := below_own hb hg3 HO.out (Nat.le_refl _) s'
      go_roundw
      case rel => exact ⟨j + 1, _, A3, c3, Lib.hid (by rw [e3, HN.out]; omega), by omega, rfl, Lib.hid (by rw [← e4]; exact hown3), b3⟩
      case measure => have := HN.out; simp only [slen]; rw [e3]; omega
end Go.Proofs.Ytipbnjcgololpaa.Sha
