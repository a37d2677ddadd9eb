import Derived.Test.YtkcfeaonkgpbdaaEvO
import Derived.Test.YtkcfeaonkgpbdaaEvJ
import Derived.Test.YtkcfeaonkgpbdaaSpare
/-! EventReads: the walk -/
namespace Go.Proofs.Ytkcfeaonkgpbdaa.EventReadsW
open Go.RowKit Go.Deep Go.Proofs.Ytkcfeaonkgpbdaa Go.Proofs.Ytkcfeaonkgpbdaa.Pack Go.Proofs.Ytkcfeaonkgpbdaa.Event
set_option linter.unusedVariables false
set_option linter.unusedSimpArgs false
theorem rdEv_small {p : List Int} (hb : Byt p) : (rdEv p).1.ts.length ≤ 16 := by
  by_cases hl : 4096 < p.length
  · rw [rdEv_long hl]; simp [Ev.zero]
  · by_cases h : ∃ e, par p = some (e, [])
    · obtain ⟨e, h⟩ := h
      rw [(rdEv_some hb (by omega) h).1]
      exact (par_some hb h).2.1.2.1
    · rw [rdEv_none (by omega) (fun e he => h ⟨e, he⟩)]; simp [Ev.zero]
set_option maxRecDepth 1000000 in
set_option maxHeartbeats 40000000 in
theorem walk (P : Option Addr) (c : Nat) (xs : List Int) (w : World) (h0 : ArrIn w .u8 1 P c xs) :
    Calls Try.prog 4 #[.slice P xs.length c] w fun e w' => e = .returned (.bool true) ∧ Below w.heap.size w w' := by
  have hb := h0.byt
  have hc := h0.cap
  have hl := h0.size
  have HB := Lib.hid (show Byt xs from hb)
  have HX := Lib.hid h0.reads
  have hx := rdEv_ok (p := xs) hb
  have hsm := rdEv_small (p := xs) hb
  obtain ⟨E, hE⟩ : ∃ E, E = (rdEv xs).1 := ⟨_, rfl⟩
  obtain ⟨F, hF⟩ : ∃ F, F = (rdEv xs).2 := ⟨_, rfl⟩
  rw [← hE, ← hF] at hx
  rw [← hE] at hsm
  have HE := Lib.hid (And.intro hE hF)
  have HOK := Lib.hid hx
  have HSM := Lib.hid hsm
  obtain ⟨n, hn⟩ : ∃ n, n = xs.length := ⟨_, rfl⟩
  rw [← hn] at hc hl ⊢
  have HN := Lib.hid hn
  clear h0 hb hE hF hx hsm hn
  go_enter Try.func4, Try.ntmps4
  go_wp2_with fail
  refine (awake_ok _).mono ?_
  rintro e w1 ⟨rfl, b1⟩
  have hX1 := Lib.hid ((HX.out.below b1).more b1.size)
  have D1 := Lib.hid b1
  clear HX b1
  go_wp2_with fail
  have hsp := spare_ok P c xs w1 hX1.out (by rw [← HN.out]; omega)
  rw [← HN.out] at hsp
  refine hsp.mono ?_
  rintro e w2 ⟨g, cap, rfl, f2⟩
  have hcap := f2.cap
  rw [← HN.out] at hcap
  have b2 := f2.2
  have hT := Lib.hid f2.reads
  have hA := Lib.hid f2.all
  have hX2 := Lib.hid ((hX1.out.below b2).more b2.size)
  have D2 := Lib.hid (D1.out.trans (b2.mono D1.out.size))
  clear hsp f2 b2 hX1 D1
  go_wp2_with fail
  have hrd := read_ok (some ⟨g, 0, none⟩) cap xs w2 hT.out (by rw [← HN.out]; omega) (by rw [← HN.out]; omega) HB.out
  rw [← HN.out, ← HE.out.1, ← HE.out.2] at hrd
  refine hrd.mono ?_
  rintro e W3 ⟨A3, c3, rfl, hri3, hcap3, b3⟩
  have hs3 := b3.size
  have HX3 := Lib.hid ((hX2.out.below b3).more hs3)
  have HA3 := Lib.hid (hA.out.below b3)
  have HD3 := Lib.hid (D2.out.trans (b3.mono D2.out.size))
  have HRI3 := Lib.hid hri3
  obtain ⟨R3, hR3⟩ : ∃ R, R = row E A3 c3 := ⟨_, rfl⟩
  have HR3 := Lib.hid hR3
  rw [← hR3]
  have HSZ3 := Lib.hid (show R3.size = 11 by rw [hR3]; rfl)
  have HALL3 := Lib.hid (show R3.all (·.oneCell') = true by rw [hR3]; exact row_all _ _ _)
  clear hR3 hri3 b3 hrd hX2 hT hA D2
  go_upto_region 5 with (first
    | (refine wpList_put rfl 26 (.tmp 5) (.tmp 21) rfl W3.heap.size R3 rfl rfl 26 _ (Blk.new W3 _ _) (by rw [HSZ3.out]; kernel_rfl) (by rw [HSZ3.out]; rfl) HALL3.out ?_
       intro W4 HB4 hfar4 hbel4 hsz4 hcl4
       have b4 := hbel4 W3.heap.size W3 (Nat.le_refl _) ((Below.refl _ _).alloc (Nat.le_refl _) _)
       have S4 := Lib.hid (show W4.heap.size = W3.heap.size + 1 by rw [hsz4]; simp)
       clear hfar4 hbel4 hsz4 hcl4) )
  have hs4 := S4.out
  have HB4' := Lib.hid HB4
  have HX4 := Lib.hid ((HX3.out.below b4).more (by omega : W3.heap.size ≤ W4.heap.size))
  have HA4 := Lib.hid (HA3.out.below (b4.mono hs3))
  have HRI4 := Lib.hid ((HRI3.out.below b4).more (by omega : W3.heap.size ≤ W4.heap.size))
  have HD4 := Lib.hid (HD3.out.trans (b4.mono HD3.out.size))
  have hlt5 : W3.heap.size < W4.heap.size := by omega
  obtain ⟨eb, heb⟩ : ∃ xb, xb = W3.heap.size := ⟨_, rfl⟩
  rw [← heb] at HB4' hlt5 hs3 ⊢
  clear heb hs4 S4 HB4 b4 HX3 HRI3 HD3 HA3
  go_wp2_with fail
  have hrd := docread_ok P c xs W4 HX4.out (by rw [← HN.out]; exact hc) (by rw [← HN.out]; omega) HB.out
  rw [← HN.out, ← HE.out.1, ← HE.out.2] at hrd
  refine hrd.mono ?_
  rintro e W5 ⟨A5, c5, rfl, hri5, hcap5, b5⟩
  have hs5 := b5.size
  have HX5 := Lib.hid ((HX4.out.below b5).more hs5)
  have HA5 := Lib.hid (HA4.out.below (b5.mono (by omega)))
  have HB5 := Lib.hid (HB4'.out.below b5 hlt5)
  have HRI5 := Lib.hid ((HRI4.out.below b5).more hs5)
  have HD5 := Lib.hid (HD4.out.trans (b5.mono HD4.out.size))
  have HRI5' := Lib.hid hri5
  obtain ⟨R5, hR5⟩ : ∃ R, R = row E A5 c5 := ⟨_, rfl⟩
  have HR5 := Lib.hid hR5
  rw [← hR5]
  have HSZ5 := Lib.hid (show R5.size = 11 by rw [hR5]; rfl)
  have HALL5 := Lib.hid (show R5.all (·.oneCell') = true by rw [hR5]; exact row_all _ _ _)
  clear hR5 hri5 b5 hrd HX4 HA4 HB4' HRI4 HD4
  go_upto_region 6 with (first
    | (refine wpList_put rfl 26 (.tmp 7) (.tmp 26) rfl W5.heap.size R5 rfl rfl 26 _ (Blk.new W5 _ _) (by rw [HSZ5.out]; kernel_rfl) (by rw [HSZ5.out]; rfl) HALL5.out ?_
       intro W6 HB6 hfar6 hbel6 hsz6 hcl6
       have b6 := hbel6 W5.heap.size W5 (Nat.le_refl _) ((Below.refl _ _).alloc (Nat.le_refl _) _)
       have S6 := Lib.hid (show W6.heap.size = W5.heap.size + 1 by rw [hsz6]; simp)
       clear hfar6 hbel6 hsz6 hcl6) )
  have hs6 := S6.out
  have HB6' := Lib.hid HB6
  have HB7 := Lib.hid (HB5.out.below b6 (by omega))
  have HX6 := Lib.hid ((HX5.out.below b6).more (by omega : W5.heap.size ≤ W6.heap.size))
  have HA6 := Lib.hid (HA5.out.below (b6.mono (by omega)))
  have HRI6 := Lib.hid ((HRI5.out.below b6).more (by omega : W5.heap.size ≤ W6.heap.size))
  have HRI6' := Lib.hid ((HRI5'.out.below b6).more (by omega : W5.heap.size ≤ W6.heap.size))
  have HD6 := Lib.hid (HD5.out.trans (b6.mono HD5.out.size))
  have hlt6 : W5.heap.size < W6.heap.size := by omega
  have hlt7 : eb < W6.heap.size := by omega
  obtain ⟨xb, hxb⟩ : ∃ xb, xb = W5.heap.size := ⟨_, rfl⟩
  rw [← hxb] at HB6' hlt6 ⊢
  have hs7 : w2.heap.size ≤ W6.heap.size := by omega
  clear hxb hs6 S6 HB6 b6 HX5 HRI5 HRI5' HD5 HA5 HB5 hlt5 hs5 hs3
  have hFF : (F != F) = false := by simp
  go_wp2_with (first
    | (refine wpList_load_row rfl 26 (.tmp 5) rfl eb rfl 26 R3 (0, 0) _ HB7.out Try.underlying26 rfl (by rw [HSZ3.out]; kernel_rfl) ?_)
    | (refine wpList_load_row rfl 26 (.tmp 7) rfl xb rfl 26 R5 (0, 0) _ HB6'.out Try.underlying26 rfl (by rw [HSZ5.out]; kernel_rfl) ?_))
  have hsame := refsame_ok E E A3 A5 c3 c5 W6 HOK.out.1 HOK.out.1 HRI6.out HRI6'.out (by have := HSM.out; omega) (by have := HSM.out; omega)
  rw [← HR3.out, ← HR5.out, sameB_yes rfl] at hsame
  refine hsame.mono ?_
  rintro e W7 ⟨rfl, b7⟩
  have HB8 := Lib.hid (HB7.out.below b7 hlt7)
  have HX7 := Lib.hid ((HX6.out.below b7).more b7.size)
  have HA7 := Lib.hid (HA6.out.below (b7.mono hs7))
  have HRI7 := Lib.hid ((HRI6.out.below b7).more b7.size)
  have HD7 := Lib.hid (HD6.out.trans (b7.mono HD6.out.size))
  have hlt8 : eb < W7.heap.size := Nat.lt_of_lt_of_le hlt7 b7.size
  have hxl7 : w2.heap.size ≤ W7.heap.size := Nat.le_trans hs7 b7.size
  clear hsame b7 HB7 HX6 HA6 HRI6 HRI6' HD6 HB6'
  go_wp2_with fail
  have hk := kept_ok (some ⟨g, 0, none⟩) P cap c W7.heap.size xs W7 (HA7.out.more hxl7) HX7.out (by rw [← HN.out]; exact hcap) (by rw [← HN.out]; omega)
  rw [← HN.out] at hk
  refine hk.mono ?_
  rintro e W8 ⟨rfl, d8⟩
  have HB9 := Lib.hid (HB8.out.below (d8.below W7.heap.size) hlt8)
  have HX8 := Lib.hid (HX7.out.below (d8.below W7.heap.size))
  have HRI8 := Lib.hid (HRI7.out.below (d8.below W7.heap.size))
  have HD8 := Lib.hid (HD7.out.trans (d8.below w.heap.size))
  have hsz8 : W8.heap.size = W7.heap.size := by obtain ⟨q, rfl⟩ := d8; rfl
  have HX9 := Lib.hid (HX8.out.more (Nat.le_of_eq hsz8.symm))
  have HRI9 := Lib.hid (HRI8.out.more (Nat.le_of_eq hsz8.symm))
  have hlt9 : eb < W8.heap.size := by omega
  clear hk d8 HB8 HX7 HA7 HRI7 HD7 HX8 HRI8 hsz8
  by_cases hF0 : F = 0
  · have hform := HOK.out.2.resolve_right (by omega)
    have HFORM := Lib.hid hform
    clear hform
    subst hF0
    go_wp2_with (first
      | (refine wpList_load_row rfl 26 (.tmp 5) rfl eb rfl 26 R3 (0, 0) _ HB9.out Try.underlying26 rfl (by rw [HSZ3.out]; kernel_rfl) ?_))
    have hw := write_ok E A3 c3 W8 HOK.out.1 HFORM.out.2.1 HRI9.out hcap3
    rw [← HR3.out, HFORM.out.2.2.1] at hw
    refine hw.mono ?_
    rintro e W9 ⟨v9, rfl, f9⟩
    obtain ⟨A9, c9, rfl⟩ := own_slice f9.1
    have hri9 := fresh_ri f9
    have HD9 := Lib.hid (HD8.out.trans (f9.2.mono HD8.out.size))
    have HX10 := Lib.hid ((HX9.out.below f9.2).more f9.2.size)
    clear hw
    rw [← HN.out] at f9 ⊢
    go_wp2_with fail
    refine (SameBytes.same W9.heap.size A9 P n n c9 c xs xs W9 hri9 HX10.out (by rw [← HN.out]; omega) rfl HN.out.symm HN.out.symm).mono ?_
    rintro e W10 ⟨rfl, d10⟩
    go_wp2
    go_ret
    exact ⟨rfl, HD9.out.trans (d10.below _)⟩
  · have hF1 : (F != 0) = true := by simpa using hF0
    go_wp2
    go_ret
    exact ⟨rfl, HD8.out⟩
end Go.Proofs.Ytkcfeaonkgpbdaa.EventReadsW
