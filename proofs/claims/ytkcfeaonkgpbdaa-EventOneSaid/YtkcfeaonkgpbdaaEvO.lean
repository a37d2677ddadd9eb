import Derived.Test.YtkcfeaonkgpbdaaEvN
/-! the document's first example -/
namespace Go.Proofs.Ytkcfeaonkgpbdaa.Event
open Go.RowKit Go.Deep Go.Proofs.Ytkcfeaonkgpbdaa Go.Proofs.Ytkcfeaonkgpbdaa.Pack
set_option linter.unusedVariables false
set_option linter.unusedSimpArgs false
def exE : Ev := ⟨3, 300, [7, 0, 0, 0, 0, 0, 0, 0], []⟩
theorem exE_ok : exE.ok := ⟨by decide, by decide, by decide, by decide, rfl, (fun n hn => by simp [exE] at hn; omega), (fun n hn => by simp [exE] at hn), rfl⟩
theorem exE_form : exE.form := ⟨by decide, by decide, .inl rfl, (fun i h1 h2 => by
  have hc : cnt exE.op = 1 := rfl
  rw [hc] at h1
  have : i = 1 ∨ i = 2 ∨ i = 3 ∨ i = 4 ∨ i = 5 ∨ i = 6 ∨ i = 7 := by simp at h1; omega
  rcases this with rfl | rfl | rfl | rfl | rfl | rfl | rfl <;> rfl)⟩
theorem exE_wr : wr exE = [3, 172, 2, 14] := by decide
theorem exE_zero : exE ≠ Ev.zero := fun h => by have := congrArg Ev.op h; simp [exE, Ev.zero] at this
theorem wpList_guard {P : Program} {ops : Array Oper} {rest : List Oper} {o : Oper} {a : Act} {w : World} {Q : Exit → Act → World → Prop} (hw : Region.wanted o (yielded ops a.tmps) = true)
    (h : wpList P ops Q ({ o with guard := none } :: rest) a w) : wpList P ops Q (o :: rest) a w := by
  obtain ⟨dst, op, ty, pos, after, guard⟩ := o
  unfold wpList at h ⊢
  simp only [hw, if_true]
  first | exact h | (rw [if_pos rfl] at h; exact h)
theorem exE_row : (#[.int .u8 3, .int .u64 300, .int .i64 7, .int .i64 0, .int .i64 0, .int .i64 0, .int .i64 0, .int .i64 0, .int .i64 0, .int .i64 0, .slice none 0 0] : Array Value) = row exE none 0 := by simp [row, rd, exE]
theorem zero_lit : (#[.int .u8 0, .int .u64 0, .int .i64 0, .int .i64 0, .int .i64 0, .int .i64 0, .int .i64 0, .int .i64 0, .int .i64 0, .int .i64 0, .slice none 0 0] : Array Value) = row Ev.zero none 0 := by simp [row, rd, Ev.zero]
set_option maxRecDepth 100000 in
set_option maxHeartbeats 4000000 in
theorem awake_ok (w : World) : Calls Try.prog 7 #[] w fun e w' => e = .returned (.bool true) ∧ Below w.heap.size w w' := by
  go_enter Try.func7, Try.ntmps7
  go_upto_region 3 with fail
  rw [exE_row]
  have hB1 := Blk.new w 26 (row exE none 0)
  have d1 := (Below.refl w.heap.size w).alloc (Nat.le_refl _) (.cells (row exE none 0) 26)
  have hs1 : w.heap.size < (w.alloc (.cells (row exE none 0) 26)).heap.size := by simp
  obtain ⟨W1, hW1⟩ : ∃ W1, W1 = w.alloc (.cells (row exE none 0) 26) := ⟨_, rfl⟩
  rw [← hW1] at hB1 d1 hs1 ⊢
  obtain ⟨eb, heb⟩ : ∃ eb, eb = w.heap.size := ⟨_, rfl⟩
  rw [← heb] at hB1 hs1 ⊢
  have heb0 : w.heap.size ≤ eb := by omega
  clear heb hW1
  have HB1 := Lib.hid hB1
  have HD1 := Lib.hid d1
  clear hB1 d1
  go_wp2_with (first
    | (refine wpList_load_row rfl 26 (.tmp 1) rfl eb rfl 26 (row exE none 0) (0, 0) _ HB1.out Try.underlying26 rfl (by rw [row_size]; kernel_rfl) ?_))
  refine (write_ok exE none 0 W1 exE_ok exE_form RI.nil (by simp [exE])).mono ?_
  rintro e W2 ⟨v2, rfl, f2⟩
  rw [exE_wr] at f2
  obtain ⟨A2, c2, rfl⟩ := own_slice f2.1
  have hri2 := fresh_ri f2
  have hcap2 : [3, 172, 2, 14].length ≤ c2 := own_cap f2.1
  have HB2 := Lib.hid (HB1.out.below f2.2 hs1)
  have hs2 := f2.2.size
  have HD2 := Lib.hid (HD1.out.trans (f2.2.mono (by omega)))
  have hrd : rdEv [3, 172, 2, 14] = (exE, 0) := by rw [← exE_wr]; exact rdEv_wr exE exE_ok exE_form
  have HRD := Lib.hid hrd
  have HRI2 := Lib.hid hri2
  clear hrd hri2 f2
  go_wp2_with fail
  refine (read_ok A2 c2 [3, 172, 2, 14] W2 HRI2.out hcap2 (by simp) (by intro n hn; simp at hn; omega)).mono ?_
  rintro e W3 ⟨A3, c3, rfl, hri3, hcap3, b3⟩
  rw [HRD.out] at hri3 hcap3
  rw [HRD.out]
  have hri4 := Lib.hid ((HRI2.out.below b3).more b3.size)
  have HB3 := Lib.hid (HB2.out.below b3 (by omega))
  have hs3 := b3.size
  have HD3 := Lib.hid (HD2.out.trans (b3.mono (by omega)))
  have HRI3 := Lib.hid hri3
  obtain ⟨R3, hR3⟩ : ∃ R, R = row exE A3 c3 := ⟨_, rfl⟩
  have HR3 := Lib.hid hR3
  simp only [← hR3]
  have hsz3 : R3.size = 11 := by rw [hR3]; rfl
  have hall3 : R3.all (·.oneCell') = true := by rw [hR3]; exact row_all _ _ _
  have HSZ3 := Lib.hid hsz3
  have HALL3 := Lib.hid hall3
  clear hR3 hsz3 hall3 hri3 b3
  go_upto_region 5 with (first
    | (refine wpList_put rfl 26 (.tmp 4) (.tmp 17) rfl W3.heap.size R3 rfl rfl 26 _ (Blk.new W3 _ _) (by rw [HSZ3.out]; kernel_rfl) (by rw [HSZ3.out]; rfl) HALL3.out ?_
       intro W4 HB4 hfar4 hbel4 hsz4 hcl4
       have b4 := hbel4 W3.heap.size W3 (Nat.le_refl _) ((Below.refl _ _).alloc (Nat.le_refl _) _)
       have S4 := Lib.hid (show W4.heap.size = W3.heap.size + 1 by rw [hsz4]; simp)
       clear hfar4 hbel4 hsz4 hcl4) )
  have hs4 := S4.out
  have HB4' := Lib.hid HB4
  have HB5 := Lib.hid (HB3.out.below b4 (by omega))
  have HRI5 := Lib.hid ((hri4.out.below b4).more (by omega : W3.heap.size ≤ W4.heap.size))
  have HRI6 := Lib.hid ((HRI3.out.below b4).more (by omega : W3.heap.size ≤ W4.heap.size))
  have HD4 := Lib.hid (HD3.out.trans (b4.mono (by omega)))
  have hlt4 : eb < W4.heap.size := by omega
  have hlt5 : W3.heap.size < W4.heap.size := by omega
  obtain ⟨xb, hxb⟩ : ∃ xb, xb = W3.heap.size := ⟨_, rfl⟩
  rw [← hxb] at HB4' hlt5 ⊢
  clear hxb hs4 S4 HB4 b4 hri4 HRI3 HB3 HD3
  have hri7 := Lib.hid (show RI (W4.alloc (.cells #[.int .u8 3, .int .u8 172, .int .u8 2, .int .u8 14] 5)) (W4.alloc (.cells #[.int .u8 3, .int .u8 172, .int .u8 2, .int .u8 14] 5)).heap.size .u8 (some ⟨W4.heap.size, 0, none⟩) [3, 172, 2, 14] from RI.of_lit (Blk.new _ _ _) rfl)
  have hs5 : W4.heap.size < (W4.alloc (.cells #[.int .u8 3, .int .u8 172, .int .u8 2, .int .u8 14] 5)).heap.size := by simp
  have HB6 := Lib.hid (HB5.out.alloc (.cells #[.int .u8 3, .int .u8 172, .int .u8 2, .int .u8 14] 5))
  have HB7 := Lib.hid (HB4'.out.alloc (.cells #[.int .u8 3, .int .u8 172, .int .u8 2, .int .u8 14] 5))
  have HRI8 := Lib.hid (HRI5.out.alloc (Nat.le_refl _) (.cells #[.int .u8 3, .int .u8 172, .int .u8 2, .int .u8 14] 5))
  have HRI9 := Lib.hid ((HRI6.out.alloc (Nat.le_refl _) (.cells #[.int .u8 3, .int .u8 172, .int .u8 2, .int .u8 14] 5)).more (Nat.le_of_lt hs5))
  have HD5 := Lib.hid (HD4.out.alloc HD4.out.size (.cells #[.int .u8 3, .int .u8 172, .int .u8 2, .int .u8 14] 5))
  go_wp2_with fail
  obtain ⟨W5, hW5⟩ : ∃ W5, W5 = W4.alloc (.cells #[.int .u8 3, .int .u8 172, .int .u8 2, .int .u8 14] 5) := ⟨_, rfl⟩
  rw [← hW5] at hri7 hs5 HB6 HB7 HRI8 HRI9 HD5 ⊢
  clear hW5
  refine (SameBytes.same W5.heap.size A2 (some ⟨W4.heap.size, 0, none⟩) 4 4 c2 4 [3, 172, 2, 14] [3, 172, 2, 14] W5 (HRI8.out.more (by omega)) hri7.out (by simp) rfl rfl rfl).mono ?_
  rintro e W6 ⟨rfl, q6, rfl⟩
  have HB8 := Lib.hid (HB7.out.drewN q6)
  have HB9 := Lib.hid (HB6.out.drewN q6)
  have HD6 := Lib.hid (below_drewN HD5.out q6)
  have hri10 := Lib.hid (show RI (W5.drewN q6) (W5.drewN q6).heap.size .i64 A3 exE.ts from HRI9.out)
  clear HB6 HB7 hri7 HRI8 HRI9 HD5
  obtain ⟨W6, hW6⟩ : ∃ W6, W6 = W5.drewN q6 := ⟨_, rfl⟩
  have hs6 : eb < W6.heap.size := by have := HB9.out.lt; rw [hW6]; exact this
  have hs7 : xb < W6.heap.size := by have := HB8.out.lt; rw [hW6]; exact this
  rw [← hW6] at HB8 HB9 HD6 hri10 ⊢
  clear hW6
  go_wp2_with (first
    | (refine wpList_guard (by rfl) (wpList_load_row rfl 26 (.tmp 4) rfl xb rfl 26 R3 (0, 0) _ HB8.out Try.underlying26 rfl (by rw [HSZ3.out]; kernel_rfl) ?_))
    | (refine wpList_guard (by rfl) (wpList_load_row rfl 26 (.tmp 1) rfl eb rfl 26 (row exE none 0) (0, 0) _ HB9.out Try.underlying26 rfl (by rw [row_size]; kernel_rfl) ?_)))
  have hsame := same_ok exE exE A3 none c3 0 W6 exE_ok exE_ok hri10.out RI.nil (by simp [exE]) (by simp [exE])
  rw [← HR3.out, sameB_yes rfl] at hsame
  refine hsame.mono ?_
  rintro e W7 ⟨rfl, b7⟩
  have HB10 := Lib.hid (HB8.out.below b7 hs7)
  have HD7 := Lib.hid (HD6.out.trans (b7.mono HD6.out.size))
  have hri11 := Lib.hid ((hri10.out.below b7).more b7.size)
  clear hsame
  go_wp2_with (first
    | (refine wpList_guard (by rfl) (wpList_load_row rfl 26 (.tmp 4) rfl xb rfl 26 R3 (0, 0) _ HB10.out Try.underlying26 rfl (by rw [HSZ3.out]; kernel_rfl) ?_)))
  have hsame := same_ok exE Ev.zero A3 none c3 0 W7 exE_ok Ev.zero_ok hri11.out RI.nil (by simp [exE]) (by simp [Ev.zero])
  rw [← HR3.out, sameB_no exE_zero, ← zero_lit] at hsame
  refine hsame.mono ?_
  rintro e W8 ⟨rfl, b8⟩
  clear hsame
  go_wp2
  go_ret
  exact ⟨rfl, HD7.out.trans (b8.mono HD7.out.size)⟩
end Go.Proofs.Ytkcfeaonkgpbdaa.Event
