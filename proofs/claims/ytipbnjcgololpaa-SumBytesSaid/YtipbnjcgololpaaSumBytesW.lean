import Derived.Test.YtipbnjcgololpaaChainR
import Derived.Test.YtipbnjcgololpaaNeq
import Derived.Test.YtipbnjcgololpaaAwake6
import Derived.Test.YtipbnjcgololpaaMix
import Derived.Test.YtipbnjcgololpaaSpareB
import Derived.Test.YtipbnjcgololpaaCrcR
import Derived.Test.YtipbnjcgololpaaRefB
/-! crc, sha and chain agree with the document's: the law's walk, over what the document's Sha does -/
namespace Go.Proofs.Ytipbnjcgololpaa.SumBytesW
open Go.RowKit Go.Deep Go.Proofs.Ytipbnjcgololpaa.Pack Go.Proofs.Ytipbnjcgololpaa.Crc Go.Proofs.Ytipbnjcgololpaa.Sha
set_option linter.unusedVariables false
set_option linter.unusedSimpArgs false
theorem out_lt (s : St) : ∀ x ∈ out s, x < 256 := by
  have h4 : ∀ v, ∀ x ∈ be4 v, x < 256 := by
    intro v x hx
    simp [be4] at hx
    omega
  intro x hx
  simp only [out, List.mem_append] at hx
  rcases hx with ((((((h | h) | h) | h) | h) | h) | h) | h <;> exact h4 _ _ h
theorem sha_lt (xs : List Nat) : ∀ x ∈ sha xs, x < 256 := out_lt _
theorem exec_load_row {P : Program} {o : Oper} {ρ : Operand → Value} {w : World} (ty : TypeId) (x : Operand) (ho : o.op = .load ty x) (g : Nat) (hx : ρ x = .pointer (some ⟨g, 0, none⟩)) (t : TypeId) (cs : Array Value) (d : TypeDesc) (hg : Blk w g t cs)
    (hu : P.underlying ty = some d) (hd : (match d with | .struct _ | .array _ _ => true | _ => false) = true) (hi : (P.info? ty).map (·.size) = some cs.size) : (execOp ρ o).run P w = .ok (.value (.agg cs)) w := by
  unfold execOp
  simp only [ho, hx, Instr.loadAt, Instr.sureAddr, Sem.run_bind, Sem.run_pure, Result.andThen_ok, run_loadVar_row w g t ty cs (0, 0) d hg hu hd hi]
set_option maxRecDepth 100000 in
set_option maxHeartbeats 4000000 in
theorem walk_of (HS : ∀ (P : Option Addr) (c : Nat) (xs : List Int) (w : World), RI w w.heap.size .u8 P xs → xs.length + 80 ≤ 140737488355328 → Byt xs →
      Calls Try.prog 15 #[.slice P xs.length c] w fun e w' => e = .returned (.agg (rowB (sha (nat xs)) 32)) ∧ Below w.heap.size w w')
    (P : Option Addr) (c : Nat) (xs : List Int) (ps : List Nat) (w : World) (h0 : ArrIn w .u8 1 P c xs) (h32 : ps.length = 32) (hp : ∀ x ∈ ps, x < 256) :
    Calls Try.prog 6 #[.slice P xs.length c, .agg (rowB ps 32)] w fun e w' => e = .returned (.bool true) ∧ Below w.heap.size w w' := by
  have hb := h0.byt
  have hc := h0.cap
  have hl := h0.size
  have hpb : Byt (toI ps) := byt_toI hp
  have HB := Lib.hid (show Byt xs from hb)
  have HX := Lib.hid h0.reads
  have HP := Lib.hid hpb
  have HSS := Lib.hid HS
  have hsz := rowB_size (ws := ps) (n := 32) (by omega)
  have hone := rowB_one ps 32
  obtain ⟨R, hR⟩ : ∃ R, R = rowB ps 32 := ⟨_, rfl⟩
  rw [← hR] at hsz hone ⊢
  have HR := Lib.hid hR
  have HSZ := Lib.hid hsz
  clear hb h0 hpb HS hsz hR hone
  go_enter Try.func6, Try.ntmps6
  go_wp2_with fail
  refine (awake_ok _).mono ?_
  rintro e w1 ⟨rfl, b1⟩
  have hB1 := Lib.hid ((Blk.new w 33 R).below b1 (by simp))
  have d0 := Lib.hid (((Below.refl w.heap.size w).alloc (Nat.le_refl _) (.cells R 33)).trans (b1.mono (by simp)))
  have hX1 := Lib.hid ((HX.out.below d0.out).more d0.out.size)
  have s1 : w.heap.size + 1 ≤ w1.heap.size := by have := b1.size; simpa using this
  clear b1 HX
  go_wp2_with fail
  refine (spare_ok P c xs w1 hX1.out (by omega)).mono ?_
  rintro e w2 ⟨g, cap, rfl, f2⟩
  have hcap := f2.cap
  have b2 := f2.2
  have hT := Lib.hid f2.reads
  have hA := Lib.hid f2.all
  have hX2 := Lib.hid ((hX1.out.below b2).more b2.size)
  have hB2 := Lib.hid (hB1.out.below b2 hB1.out.lt)
  have d2 := Lib.hid (d0.out.trans (b2.mono d0.out.size))
  have s2 : w.heap.size + 1 ≤ w2.heap.size := by have := b2.size; omega
  clear f2 b2 hX1 hB1 d0 s1
  go_upto_region 4 with fail
  refine wp_region_mix (C := fun w' => Below w2.heap.size w2 w') [([0, 2], some 1), ([], some 3), ([4, 5, 6, 8], some 7), ([], some 9), ([10, 11, 12, 13, 14, 16, 17], some 15), ([], some 18), ([19, 20], none)] (by kernel_rfl) (by kernel_rfl) (Below.refl _ _).drew ?_
  simp only [List.map_cons, List.map_nil, Option.map_some, Option.map_none, opAt, List.getElem?_cons_succ, List.getElem?_cons_zero, Option.getD_some, wpSegs]
  repeat (go_big_quiet_step (fail))
  refine wpQuiet_nil ?_
  go_wp2_with fail
  have hTd : RI w2.drew w2.drew.heap.size .u8 (some ⟨g, 0, none⟩) xs := hT.out
  have hXd : RI w2.drew w2.drew.heap.size .u8 P xs := hX2.out
  have HTD := Lib.hid hTd
  have HXD := Lib.hid hXd
  clear hTd hXd
  have C3 : Below w2.heap.size w2 w2.drew := (Below.refl _ _).drew
  refine (crc_ok _ cap w2.drew.heap.size xs w2.drew HTD.out (by omega) HB.out).mono ?_
  rintro e w3 ⟨rfl, rfl⟩
  go_wp2_with fail
  refine ⟨C3, ?_⟩
  repeat (go_big_quiet_step (fail))
  refine wpQuiet_nil ?_
  go_wp2_with fail
  refine (refcrc_ok P c w2.drew.heap.size xs w2.drew HXD.out (by omega) HB.out).mono ?_
  rintro e w3 ⟨rfl, rfl⟩
  go_wp2_with fail
  refine ⟨C3, ?_⟩
  repeat (go_big_quiet_step (fail))
  refine wpQuiet_got (.bool false) (by rfl) (fun w' hw' => ?_) (fun K hK => ?_)
  · go_simp
  go_simp
  refine hK _ ?_
  clear hK K
  repeat (go_big_quiet_step (fail))
  refine wpQuiet_nil ?_
  go_wp2_with fail
  have hlx : xs.length + 112 ≤ 140737488355328 := by omega
  refine (sha_ok (some ⟨g, 0, none⟩) cap xs w2.drew HTD.out (by omega) HB.out).mono ?_
  rintro e w3 ⟨rfl, b3⟩
  have s3 := b3.size
  have C4 := C3.trans (b3.mono C3.size)
  have HX3 := Lib.hid ((HXD.out.below b3).more s3)
  go_wp2_with fail
  refine ⟨C4, ?_⟩
  repeat (go_big_quiet_step (fail))
  refine wpQuiet_nil ?_
  go_wp2_with fail
  refine (HSS.out P c xs w3 HX3.out (by omega) HB.out).mono ?_
  rintro e w4 ⟨rfl, b4⟩
  have s4 := b4.size
  have C5 := C4.trans (b4.mono C4.size)
  go_wp2_with fail
  refine ⟨C5, ?_⟩
  repeat (go_big_quiet_step (fail))
  have HEQ := fun (w' : World) => equal_same (sha (nat xs)) (out_length _) (sha_lt _) w'
  refine wpQuiet_got (.bool false) (by rfl) (fun w' hw' => ?_) (fun K hK => ?_)
  · go_simp
  go_simp
  refine hK _ ?_
  clear hK K
  repeat (go_big_quiet_step (fail))
  refine wpQuiet_got (.bool false) (by rfl) (fun w' hw' => ?_) (fun K hK => ?_)
  · go_simp
  go_simp
  refine hK _ ?_
  clear hK K
  repeat (go_big_quiet_step (fail))
  refine wpQuiet_got (.agg R) (by rfl) (fun w' hw' => exec_load_row 33 (.tmp 3) rfl w.heap.size rfl 33 R _ (hB2.out.below hw' (by omega)) Try.underlying33 rfl (by rw [HSZ.out]; kernel_rfl)) (fun K hK => ?_)
  go_simp
  refine hK _ ?_
  clear hK K
  repeat (go_big_quiet_step (fail))
  refine wpQuiet_got (.agg R) (by rfl) (fun w' hw' => exec_load_row 33 (.tmp 3) rfl w.heap.size rfl 33 R _ (hB2.out.below hw' (by omega)) Try.underlying33 rfl (by rw [HSZ.out]; kernel_rfl)) (fun K hK => ?_)
  go_simp
  refine hK _ ?_
  clear hK K
  repeat (go_big_quiet_step (fail))
  refine wpQuiet_nil ?_
  go_wp2_with fail
  have HT4 : RI w4 w4.heap.size .u8 (some ⟨g, 0, none⟩) xs := (hT.out.below C5).more C5.size
  have hch := chain_ok ps h32 (some ⟨g, 0, none⟩) cap xs w4 HT4 hlx HB.out HP.out
  rw [← HR.out] at hch
  refine hch.mono ?_
  rintro e w5 ⟨rfl, b5⟩
  have s5 := b5.size
  have C6 := C5.trans (b5.mono C5.size)
  have HX5 : Hid (RI w5 w5.heap.size .u8 P xs) := Lib.hid ((hX2.out.below C6).more C6.size)
  clear HT4 hch
  go_wp2_with fail
  refine ⟨C6, ?_⟩
  repeat (go_big_quiet_step (fail))
  refine wpQuiet_nil ?_
  go_wp2_with fail
  have hch := refchain_of HSS.out ps h32 P c xs w5 HX5.out hlx HB.out HP.out
  rw [← HR.out] at hch
  refine hch.mono ?_
  rintro e w6 ⟨rfl, b6⟩
  have s6 := b6.size
  have C7 := C6.trans (b6.mono C6.size)
  clear hch
  go_wp2_with fail
  refine ⟨C7, ?_⟩
  have hpl : ∀ x ∈ ps ++ nat xs, x < 256 := by
    intro x hx
    rcases List.mem_append.1 hx with h | h
    · exact hp x h
    · exact nat_lt HB.out x h
  have HEQ2 := fun (w' : World) => equal_same (sha (ps ++ nat xs)) (out_length _) (sha_lt _) w'
  repeat (go_big_quiet_step (fail))
  refine wpQuiet_got (.bool false) (by rfl) (fun w' hw' => ?_) (fun K hK => ?_)
  · go_simp
  go_simp
  refine hK _ ?_
  clear hK K
  repeat (go_big_quiet_step (fail))
  refine wpQuiet_got (.bool false) (by rfl) (fun w' hw' => ?_) (fun K hK => ?_)
  · go_simp
  go_simp
  refine hK _ ?_
  clear hK K
  repeat (go_big_quiet_step (fail))
  refine wpQuiet_nil ?_
  go_wp2_with fail

  refine (kept_ok (some ⟨g, 0, none⟩) P cap c w2.heap.size xs w6 (hA.out.below C7) (hX2.out.below C7) hcap (by omega)).mono ?_
  rintro e w7 ⟨rfl, d7⟩
  go_wp2
  go_ret
  exact ⟨rfl, (d2.out.trans (C7.mono (by omega))).trans (d7.below _)⟩
end Go.Proofs.Ytipbnjcgololpaa.SumBytesW
