import Derived.Test.YtlgedggjpnmhmaaAwake7
namespace Go.Proofs.Ytlgedggjpnmhmaa.PackWritesW
open Go.RowKit Go.Deep Go.Proofs.Ytlgedggjpnmhmaa.Pack
set_option linter.unusedVariables false
def Row8 (w : World) (g n : Nat) : Prop := ∃ cs, Blk w g 5 cs ∧ n ≤ cs.size ∧ ∀ j, j < n → ∃ m, cs[j]? = some (.int .u8 m)
theorem Row8.alloc {w : World} {g n : Nat} (h : Row8 w g n) (o : Obj) : Row8 (w.alloc o) g n := by
  obtain ⟨cs, h1, h2, h3⟩ := h
  exact ⟨cs, h1.alloc _, h2, h3⟩
theorem Row8.set {w : World} {g n : Nat} (h : Row8 w g n) (b i : Nat) (m : Int) : Row8 (w.setCell ⟨b, i, none⟩ (.int .u8 m)) g n := by
  obtain ⟨cs, h1, h2, h3⟩ := h
  by_cases e : b = g
  · subst e
    obtain ⟨cs', h4, h5, h6⟩ := blk_set_num (i := i) (m := m) h1 h2 h3
    exact ⟨cs', h4, h5, h6⟩
  · exact ⟨cs, h1.far (Ne.symm e) _, h2, h3⟩
theorem wpList_guard {P : Program} {ops : Array Oper} {rest : List Oper} {o : Oper} {a : Act} {w : World} {Q : Exit → Act → World → Prop} (hw : Region.wanted o (yielded ops a.tmps) = true)
    (h : wpList P ops Q ({ o with guard := none } :: rest) a w) : wpList P ops Q (o :: rest) a w := by
  obtain ⟨dst, op, ty, pos, after, guard⟩ := o
  unfold wpList at h ⊢
  simp only [hw, if_true]
  first | exact h | (rw [if_pos rfl] at h; exact h)
set_option maxRecDepth 100000 in
set_option maxHeartbeats 8000000 in
theorem walk (Q : Option Addr) (cq : Nat) (qs : List Int) (M : Option Addr) (cm : Nat) (ms : List Int) (n : Int) (w : World) (h1 : ArrIn w .u8 1 Q cq qs) (h2 : ArrIn w .u8 1 M cm ms) (w0 : (Lit.int .u64 n).wf = true) (hq : qs.length ≤ 1048576) (hm : ms.length ≤ 1048576) :
    Calls Try.prog 3 #[.slice Q qs.length cq, .slice M ms.length cm, .int .u64 n] w fun e w' => e = .returned (.bool true) ∧ Below w.heap.size w w' := by
  obtain ⟨n0, n1⟩ := bounds_u64 w0
  have hqb := h1.byt
  have hmb := h2.byt
  have hqc := h1.cap
  have hmc := h2.cap
  have HQ := Lib.hid h1.reads
  have HM := Lib.hid h2.reads
  clear w0 h1 h2
  go_enter Try.func3, Try.ntmps3
  go_wp2_with fail
  refine (awake_ok _).mono ?_
  rintro e w1 ⟨rfl, b1⟩
  have s1 := b1.size
  have HQ1 := Lib.hid ((HQ.out.below b1).more s1)
  have HM1 := Lib.hid ((HM.out.below b1).more s1)
  clear HQ HM
  go_wp2_with fail
  refine (spare_ok Q cq qs _ HQ1.out (by omega)).mono ?_
  rintro e w2 ⟨g, cap, rfl, hsp⟩
  have b2 := hsp.2
  have s2 := b2.size
  have HQ2 := Lib.hid ((HQ1.out.below b2).more s2)
  have HM2 := Lib.hid ((HM1.out.below b2).more s2)
  have hcap := hsp.cap
  have HS := Lib.hid hsp.reads
  have HA := Lib.hid hsp.all
  have b12 := below_then' b1 b2
  clear hsp HQ1 HM1 b1 b2
  go_wp2_with fail
  refine (spare_ok M cm ms _ HM2.out (by omega)).mono ?_
  rintro e w3 ⟨g2, cap2, rfl, hsp⟩
  have b3 := hsp.2
  have s3 := b3.size
  have HQ3 := Lib.hid ((HQ2.out.below b3).more s3)
  have HM3 := Lib.hid ((HM2.out.below b3).more s3)
  have HS3 := Lib.hid ((HS.out.below b3).more s3)
  have HA3 := Lib.hid ((HA.out.below b3).more s3)
  have hcap2 := hsp.cap
  have HT3 := Lib.hid hsp.reads
  have HB3 := Lib.hid hsp.all
  have b13 := below_then' b12 b3
  clear hsp HQ2 HM2 HS HA b12 b3
  go_wp2_with fail
  refine (uint_ok (some ⟨g, 0, none⟩) cap qs n _ HS3.out (by omega) n0 (by omega)).mono ?_
  rintro e w4 ⟨v4, rfl, f4⟩
  obtain ⟨A4, c4, rfl⟩ := own_slice f4.1
  have b4 := f4.2
  have s4 := b4.size
  have HO4 := Lib.hid f4.1
  have HQ4 := Lib.hid ((HQ3.out.below b4).more s4)
  have HM4 := Lib.hid ((HM3.out.below b4).more s4)
  have HS4 := Lib.hid ((HS3.out.below b4).more s4)
  have HT4 := Lib.hid ((HT3.out.below b4).more s4)
  have b34 := b4
  clear f4 HS3 HT3 b4
  obtain ⟨z, hz⟩ : ∃ z, z = wrap64 n := ⟨_, rfl⟩
  have hzr : -9223372036854775808 ≤ z ∧ z ≤ 9223372036854775807 := by rw [hz]; unfold wrap64; omega
  have hzz := zig_range z hzr.1 hzr.2
  have HZ := Lib.hid hz
  clear hz
  go_wp2_with fail
  rw [← HZ.out]
  refine (int_ok (some ⟨g, 0, none⟩) cap qs z _ HS4.out (by omega) hzr.1 hzr.2).mono ?_
  rintro e w5 ⟨v5, rfl, f5⟩
  obtain ⟨A5, c5, rfl⟩ := own_slice f5.1
  have b5 := f5.2
  have s5 := b5.size
  have HO5 := Lib.hid f5.1
  have HO4' := Lib.hid (own_below HO4.out b5)
  have HQ5 := Lib.hid ((HQ4.out.below b5).more s5)
  have HM5 := Lib.hid ((HM4.out.below b5).more s5)
  have HS5 := Lib.hid ((HS4.out.below b5).more s5)
  have HT5 := Lib.hid ((HT4.out.below b5).more s5)
  have b35 := below_then' b34 b5
  clear f5 HQ4 HM4 HS4 HT4 b5 HO4 b34
  go_wp2_with fail
  refine (bytes_ok (some ⟨g, 0, none⟩) (some ⟨g2, 0, none⟩) cap cap2 qs ms _ HS5.out HT5.out (by omega)).mono ?_
  rintro e w6 ⟨v6, rfl, f6⟩
  obtain ⟨A6, c6, rfl⟩ := own_slice f6.1
  have b6 := f6.2
  have s6 := b6.size
  have HO6 := Lib.hid f6.1
  have HO4 := Lib.hid (own_below HO4'.out b6)
  have HO5' := Lib.hid (own_below HO5.out b6)
  have HQ6 := Lib.hid ((HQ5.out.below b6).more s6)
  have HM6 := Lib.hid ((HM5.out.below b6).more s6)
  have b36 := below_then' b35 b6
  clear f6 HQ5 HM5 HS5 HT5 b6 HO4' HO5 b35
  go_wp2_with fail
  refine (twin_ok Q cq qs _ HQ6.out (by omega)).mono ?_
  rintro e w7 ⟨v7, rfl, f7⟩
  have b7 := f7.2
  have s7 := b7.size
  have HO7 := Lib.hid f7.1
  clear f7
  go_wp2_with fail
  refine (refuint_ok n _ n0 (by omega)).mono ?_
  rintro e w8 ⟨v8, rfl, f8⟩
  have b8 := f8.2
  have s8 := b8.size
  obtain ⟨A8, c8, rfl⟩ := own_slice f8.1
  have HR8 := Lib.hid (RI.of_own f8.1).2
  have HO7' := Lib.hid (own_below HO7.out b8)
  have b68 := below_then' b7 b8
  clear f8 b7 b8 HO7
  go_wp2_with (at_builtin; refine wpList_app w8 rfl (.tmp 42) (.tmp 44) _ rfl w6.heap.size 5 .u8 1 Try.underlying22 info5 (by omega) v7 qs HO7'.out rfl w8.heap.size A8 c8 (enc n) rfl HR8.out (by have := enc_len n; simp; omega) (by omega) ?_; intro v9 w9 o9 g9 at9)
  have b69 : Below w6.heap.size w6 w9 := below_own b68 g9 HO7'.out (Nat.le_refl _) (by omega)
  have s9 := b69.size
  obtain ⟨A9, c9, rfl⟩ := own_slice o9
  have HR9 := Lib.hid (RI.of_own o9).2
  have HR4 := Lib.hid ((RI.of_own (own_below HO4.out b69)).2)
  clear o9 g9 at9 b68 HO7' HR8
  go_wp2_with fail
  refine (SameBytes.same w9.heap.size A4 A9 _ _ c4 c9 (qs ++ enc n) (qs ++ enc n) w9 HR4.out HR9.out (by have := enc_len n; simp; omega) rfl (by simp) (by simp)).mono ?_
  rintro e w10 ⟨rfl, q10, rfl⟩
  have b610 := below_drewN b69 q10
  clear HR4 HR9 b69
  have s10 := b610.size
  generalize w9.drewN q10 = W10 at *
  have HQ10 := Lib.hid ((HQ6.out.below b610).more s10)
  have HM10 := Lib.hid ((HM6.out.below b610).more s10)
  go_wp2_with fail
  refine (twin_ok Q cq qs _ HQ10.out (by omega)).mono ?_
  rintro e w7 ⟨v7, rfl, f7⟩
  have b7 := f7.2
  have s7 := b7.size
  have HO7 := Lib.hid f7.1
  clear f7
  go_wp2_with fail
  rw [← HZ.out]
  refine (refint_ok z _ hzr.1 hzr.2).mono ?_
  rintro e w8 ⟨v8, rfl, f8⟩
  have b8 := f8.2
  have s8 := b8.size
  obtain ⟨A8, c8, rfl⟩ := own_slice f8.1
  have HR8 := Lib.hid (RI.of_own f8.1).2
  have HO7' := Lib.hid (own_below HO7.out b8)
  have b68 := below_then' b7 b8
  clear f8 b7 b8 HO7
  go_wp2_with (at_builtin; refine wpList_guard (by rfl) (wpList_app w8 rfl (.tmp 50) (.tmp 53) _ rfl W10.heap.size 5 .u8 1 Try.underlying22 info5 (by omega) v7 qs HO7'.out rfl w8.heap.size A8 c8 (enc (zig z)) rfl HR8.out (by have := enc_len (zig z); simp; omega) (by omega) ?_); intro v9 w9 o9 g9 at9)
  have b69 : Below W10.heap.size W10 w9 := below_own b68 g9 HO7'.out (Nat.le_refl _) (by omega)
  have s9 := b69.size
  obtain ⟨A11, c11, rfl⟩ := own_slice o9
  have HR9 := Lib.hid (RI.of_own o9).2
  have HR5 := Lib.hid ((RI.of_own (own_below HO5'.out (below_then' b610 b69))).2)
  clear o9 g9 at9 b68 HO7' HR8
  go_wp2_with fail
  refine (SameBytes.same w9.heap.size A5 A11 _ _ c5 c11 (qs ++ enc (zig z)) (qs ++ enc (zig z)) w9 HR5.out HR9.out (by have := enc_len (zig z); simp; omega) rfl (by simp) (by simp)).mono ?_
  rintro e w11 ⟨rfl, q11, rfl⟩
  have b611 := below_then' b610 (below_drewN b69 q11)
  clear HR5 HR9 b69 b610 HQ10 HM10 s7 s8
  have s11 := b611.size
  generalize w9.drewN q11 = W11 at *
  have HQ11 := Lib.hid ((HQ6.out.below b611).more s11)
  have HM11 := Lib.hid ((HM6.out.below b611).more s11)
  go_wp2_with fail
  refine (twin_ok Q cq qs _ HQ11.out (by omega)).mono ?_
  rintro e w7 ⟨v7, rfl, f7⟩
  have b7 := f7.2
  have s7 := b7.size
  have HO7 := Lib.hid f7.1
  have HM7 := Lib.hid ((HM11.out.below b7).more s7)
  clear f7
  go_wp2_with fail
  refine (refbytes_ok M cm ms _ HM7.out (by omega)).mono ?_
  rintro e w8 ⟨v8, rfl, f8⟩
  have b8 := f8.2
  have s8 := b8.size
  obtain ⟨A8, c8, rfl⟩ := own_slice f8.1
  have HR8 := Lib.hid (RI.of_own f8.1).2
  have HO7' := Lib.hid (own_below HO7.out b8)
  have b68 := below_then' b7 b8
  clear f8 b7 b8 HO7
  go_wp2_with (at_builtin; go_loud (refine wpList_guard (by rfl) (wpList_app w8 rfl (.tmp 60) (.tmp 62) _ rfl W11.heap.size 5 .u8 1 Try.underlying22 info5 (by omega) v7 qs HO7'.out rfl w8.heap.size A8 c8 (enc ms.length ++ ms) (by rw [List.length_append]; rfl) HR8.out (by have := enc_len ms.length; simp; omega) (by omega) ?_)); intro v9 w9 o9 g9 at9)
  have b69 : Below W11.heap.size W11 w9 := below_own b68 g9 HO7'.out (Nat.le_refl _) (by omega)
  have s9 := b69.size
  obtain ⟨A12, c12, rfl⟩ := own_slice o9
  have HR9 := Lib.hid (RI.of_own o9).2
  have HR6 := Lib.hid ((RI.of_own (own_below HO6.out (below_then' b611 b69))).2)
  clear o9 g9 at9 b68 HO7' HR8
  go_wp2_with fail
  refine (SameBytes.same w9.heap.size A6 A12 _ _ c6 c12 (qs ++ enc ms.length ++ ms) (qs ++ (enc ms.length ++ ms)) w9 HR6.out HR9.out (by have := enc_len ms.length; simp; omega) (by simp) (by simp) (by simp)).mono ?_
  rintro e w12 ⟨rfl, q12, rfl⟩
  have b612 := below_then' b611 (below_drewN b69 q12)
  clear HR6 HR9 b69 b611 HQ11 HM11 HM7 s7 s8 s9
  have s12 := b612.size
  generalize w9.drewN q12 = W12 at *
  have HO4z := Lib.hid (own_below HO4.out b612)
  have HO5z := Lib.hid (own_below HO5'.out b612)
  have HO6z := Lib.hid (own_below HO6.out b612)
  have b312 := below_then' b36 b612
  clear HO4 HO5' HO6 HQ6 HM6 b36 b612
  have l4 := enc_len n
  have l5 := enc_len (zig z)
  have l6 := enc_len ms.length
  have p4 := enc_pos n
  have p5 := enc_pos (zig z)
  have p6 := enc_pos ms.length
  obtain ⟨g4, cap4, cs4, hv4, hg4, hblk4, hn4, hc4⟩ := own_blk HO4z.out (by simp; omega)
  obtain ⟨g5, cap5, cs5, hv5, hg5, hblk5, hn5, hc5⟩ := own_blk HO5z.out (by simp; omega)
  obtain ⟨g6, cap6, cs6, hv6, hg6, hblk6, hn6, hc6⟩ := own_blk HO6z.out (by simp; omega)
  injection hv4 with hv1 hv2 hv3
  subst hv1
  subst hv3
  clear hv2
  injection hv5 with hv1 hv2 hv3
  subst hv1
  subst hv3
  clear hv2
  injection hv6 with hv1 hv2 hv3
  subst hv1
  subst hv3
  clear hv2
  have t4 := hblk4.lt
  have t5 := hblk5.lt
  have t6 := hblk6.lt
  simp only [List.length_append] at hn4 hc4 hn5 hc5 hn6 hc6
  have R4 : Row8 W12 g4 (qs.length + (enc n).length) := ⟨cs4, hblk4, hn4, hc4⟩
  have R5 : Row8 W12 g5 (qs.length + (enc (zig z)).length) := ⟨cs5, hblk5, hn5, hc5⟩
  have R6 : Row8 W12 g6 (qs.length + ((enc (ms.length : Int)).length + ms.length)) := ⟨cs6, hblk6, by omega, fun j hj => hc6 j (by omega)⟩
  clear hblk4 hblk5 hblk6 hn4 hn5 hn6 hc4 hc5 hc6 HO4z HO5z HO6z
  obtain ⟨L, hL⟩ : ∃ L : List (Nat × Nat), L = [(g4, qs.length + (enc n).length), (g5, qs.length + (enc (zig z)).length), (g6, qs.length + ((enc (ms.length : Int)).length + ms.length))] := ⟨_, rfl⟩
  have HR := Lib.hid (show ∀ gn ∈ L, Row8 W12 gn.1 gn.2 by rw [hL]; intro gn h; simp at h; rcases h with rfl | rfl | rfl <;> assumption)
  have HG := Lib.hid (show ∀ gn ∈ L, w3.heap.size ≤ gn.1 ∧ gn.1 < W12.heap.size ∧ gn.2 ≤ 10000000 by rw [hL]; intro gn h; simp at h; rcases h with rfl | rfl | rfl <;> exact ⟨by omega, by omega, by simp; omega⟩)
  have HN := Lib.hid (show ∀ k : Nat, k < 3 → ∃ g m c, (#[Value.slice (some ⟨g4, 0, none⟩) (qs.length + (enc n).length) c4, .slice (some ⟨g5, 0, none⟩) (qs.length + (enc (zig z)).length) c5, .slice (some ⟨g6, 0, none⟩) (qs.length + ((enc (ms.length : Int)).length + ms.length)) c6] : Array Value)[k]? = some (.slice (some ⟨g, 0, none⟩) m c) ∧ (g, m) ∈ L by
    intro k hk
    rcases (show k = 0 ∨ k = 1 ∨ k = 2 by omega) with rfl | rfl | rfl
    · exact ⟨_, _, _, rfl, by rw [hL]; simp⟩
    · exact ⟨_, _, _, rfl, by rw [hL]; simp⟩
    · exact ⟨_, _, _, rfl, by rw [hL]; simp⟩)
  clear hL R4 R5 R6
  go_wp2_with fail
  have hba : Blk (W12.alloc (.cells #[Value.slice (some ⟨g4, 0, none⟩) (qs.length + (enc n).length) c4, .slice (some ⟨g5, 0, none⟩) (qs.length + (enc (zig z)).length) c5, .slice (some ⟨g6, 0, none⟩) (qs.length + ((enc (ms.length : Int)).length + ms.length)) c6] 22)) W12.heap.size 22 #[Value.slice (some ⟨g4, 0, none⟩) (qs.length + (enc n).length) c4, .slice (some ⟨g5, 0, none⟩) (qs.length + (enc (zig z)).length) c5, .slice (some ⟨g6, 0, none⟩) (qs.length + ((enc (ms.length : Int)).length + ms.length)) c6] := heap_alloc_new _ _
  have hbe : Below w3.heap.size w3 (W12.alloc (.cells #[Value.slice (some ⟨g4, 0, none⟩) (qs.length + (enc n).length) c4, .slice (some ⟨g5, 0, none⟩) (qs.length + (enc (zig z)).length) c5, .slice (some ⟨g6, 0, none⟩) (qs.length + ((enc (ms.length : Int)).length + ms.length)) c6] 22)) := b312.alloc (by omega) _
  have HRa := Lib.hid (show ∀ gn ∈ L, Row8 (W12.alloc (.cells #[Value.slice (some ⟨g4, 0, none⟩) (qs.length + (enc n).length) c4, .slice (some ⟨g5, 0, none⟩) (qs.length + (enc (zig z)).length) c5, .slice (some ⟨g6, 0, none⟩) (qs.length + ((enc (ms.length : Int)).length + ms.length)) c6] 22)) gn.1 gn.2 from fun gn h => (HR.out gn h).alloc _)
  clear HR b312
  generalize (#[Value.slice (some ⟨g4, 0, none⟩) (qs.length + (enc n).length) c4, .slice (some ⟨g5, 0, none⟩) (qs.length + (enc (zig z)).length) c5, .slice (some ⟨g6, 0, none⟩) (qs.length + ((enc (ms.length : Int)).length + ms.length)) c6] : Array Value) = arr at hba hbe HRa HN ⊢
  go_loopw [71] (fun i wr => ∃ k : Nat, i = .int .i64 k ∧ k ≤ 3 ∧ Hid (Blk wr W12.heap.size 22 arr) ∧ Hid (∀ gn ∈ L, Row8 wr gn.1 gn.2) ∧ Below w3.heap.size w3 wr) (fun i _ => 3 - (intOf i).toNat)
  case atStart => exact ⟨0, rfl, by omega, Lib.hid hba, HRa, hbe⟩
  case round =>
    obtain ⟨k, rfl, hk, HB, HW, hbr⟩ := hrel
    clear hba hbe HRa
    by_cases hlt : k < 3
    · obtain ⟨ga, na, ca, he, hin⟩ := HN.out k hlt
      have hcell := (HB.out.cell k).trans he
      obtain ⟨u1, u2, u3⟩ := HG.out _ hin
      simp only at u1 u2 u3
      clear he
      go_wp2_with fail
      clear hcell
      go_loopw [77] (fun i wr => ∃ k : Nat, i = .int .i64 k ∧ k ≤ na ∧ Hid (Blk wr W12.heap.size 22 arr) ∧ Hid (∀ gn ∈ L, Row8 wr gn.1 gn.2) ∧ Below w3.heap.size w3 wr) (fun i _ => na - (intOf i).toNat)
      case atStart => exact ⟨0, rfl, by omega, HB, HW, hbr⟩
      case round =>
        obtain ⟨i, rfl, hi, HB', HW', hbr'⟩ := hrel
        clear HB HW hbr
        by_cases hlt' : i < na
        · obtain ⟨cs, hr1, hr2, hr3⟩ := HW'.out _ hin
          simp only at hr1 hr2 hr3
          obtain ⟨m, hm⟩ := hr3 i hlt'
          have hcell := (hr1.cell i).trans hm
          have hfr := hr1.frozen i
          clear hm hr1 hr2 hr3
          go_wp2
          go_roundw
          case rel => exact ⟨i + 1, by go_num, by omega, Lib.hid (HB'.out.far (show W12.heap.size ≠ ga by omega) _), Lib.hid (fun gn h => (HW'.out gn h).set _ _ _), hbr'.setCell u1 _⟩
          case measure => simp [intOf]; omega
        · go_wp2
          go_roundw
          case rel => exact ⟨k + 1, by go_num, by omega, HB', HW', hbr'⟩
          case measure => simp [intOf]; omega
    · go_wp2_with fail
      refine (kept_ok (some ⟨g, 0, none⟩) Q cap cq w3.heap.size qs wr (HA3.out.below hbr) (HQ3.out.below hbr) hcap (by omega)).mono ?_
      rintro e wa ⟨rfl, qa, rfl⟩
      have hbr2 := below_drewN hbr qa
      go_wp2_with fail
      refine (kept_ok (some ⟨g2, 0, none⟩) M cap2 cm w3.heap.size ms _ (HB3.out.below hbr2) (HM3.out.below hbr2) hcap2 (by omega)).mono ?_
      rintro e wb ⟨rfl, qb, rfl⟩
      go_wp2
      go_ret
      exact ⟨rfl, below_drewN (below_then' b13 hbr) _⟩
end Go.Proofs.Ytlgedggjpnmhmaa.PackWritesW
