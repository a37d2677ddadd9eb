import Derived.Test.YtipbnjcgololpaaRootsB
import Derived.Test.YtipbnjcgololpaaAwake6
import Derived.Test.YtipbnjcgololpaaMix
/-! the numbers k are the cube roots that they are told to be: the law's walk -/
namespace Go.Proofs.Ytipbnjcgololpaa.SumRootsW
open Go.RowKit Go.Deep Go.Proofs.Ytipbnjcgololpaa.Pack Go.Proofs.Ytipbnjcgololpaa.Crc Go.Proofs.Ytipbnjcgololpaa.Sha Go.Proofs.Ytipbnjcgololpaa.Roots
set_option linter.unusedVariables false
theorem wpQuiet_got {P : Program} {ops : Array Oper} {C : World → Prop} {Q : Act → Prop} {rest : List Oper} {o : Oper} {a : Act} (v : Value) (hw : Region.wanted o (yielded ops a.tmps) = true)
    (h : ∀ w, C w → (execOp a.eval o).run P w = .ok (.value v) w) (h2 : ∀ K : Act → Prop, (∀ a, wpQuiet P ops C Q rest a → K a) → K (a.put o.dst v)) : wpQuiet P ops C Q (o :: rest) a := by
  simp only [wpQuiet, hw, if_true]
  exact ⟨v, fun w hC => by unfold Oper.quietAt; rw [h w hC]; exact ⟨rfl, rfl⟩, h2 _ (fun _ q => q)⟩
set_option maxRecDepth 100000 in
set_option maxHeartbeats 4000000 in
theorem walk (i : Int) (w : World) (w0 : (Lit.int .u8 i).wf = true) :
    Calls Try.prog 3 #[.int .u8 i] w fun e w' => e = .returned (.bool true) ∧ Below w.heap.size w w' := by
  have hi := bounds_u8 w0
  obtain ⟨j, hj⟩ : ∃ j : Nat, i % 64 = j := ⟨(i % 64).toNat, by omega⟩
  have hj64 : j < 64 := by omega
  clear w0
  go_enter Try.func3, Try.ntmps3
  go_wp2_with fail
  refine (roots_ok _).mono ?_
  rintro e w1 ⟨rfl, b1⟩
  have s1 := b1.size
  go_wp2_with (refine wpList_put rfl 23 (.tmp 3) (.tmp 5) rfl w1.heap.size (row K 64) rfl rfl 23 _ (Blk.new _ _ _) (by kernel_rfl) rfl (row_one _ _) ?_; intro W2 hK hfar hbel hsz hcl; have HSZ := Lib.hid hsz; clear hsz)
  have b2 := hbel w.heap.size w s1 (b1.alloc s1 _)
  have hK2 := Lib.hid hK
  have s2 := b2.size
  clear hfar hbel hcl hK HSZ
  refine (refroots_ok _).mono ?_
  rintro e w3 ⟨rfl, b3⟩
  have s3 := b3.size
  have b23 := b2.trans (b3.mono s2)
  have hK3 := Lib.hid (hK2.out.below b3 hK2.out.lt)
  go_wp2_with (refine wpList_put rfl 23 (.tmp 4) (.tmp 6) rfl w3.heap.size (row K 64) rfl rfl 23 _ (Blk.new _ _ _) (by kernel_rfl) rfl (row_one _ _) ?_; intro W4 hK4 hfar hbel hsz hcl; have HSZ := Lib.hid hsz; clear hsz)
  have b4 := hbel w.heap.size w (by omega) (b23.alloc (by omega) _)
  have hK5 := Lib.hid (hfar _ _ _ (by have := hK3.out.lt; omega) (hK3.out.alloc _))
  have hK6 := Lib.hid hK4
  have s4 := b4.size
  obtain ⟨kk, hkk⟩ : ∃ kk : Nat, kk = K.getD j 0 := ⟨_, rfl⟩
  have C1 : ∀ w', Below W4.heap.size W4 w' → w'.cell? ⟨w1.heap.size, j, none⟩ = some (.int .u32 (kk : Int)) := fun w' hb => by
    rw [hkk]; exact ((hK5.out.below hb hK5.out.lt).cell j).trans (row_get (by exact hj64))
  have C2 : ∀ w', Below W4.heap.size W4 w' → w'.cell? ⟨w3.heap.size, j, none⟩ = some (.int .u32 (kk : Int)) := fun w' hb => by
    rw [hkk]; exact ((hK6.out.below hb hK6.out.lt).cell j).trans (row_get (by exact hj64))
  have HC1 := Lib.hid C1
  have HC2 := Lib.hid C2
  clear C1 C2 hkk hK4 hfar hbel hcl HSZ b23 b3 b2 b1
  refine wp_region_mix (C := fun w' => Below W4.heap.size W4 w') [([], some 0), ([1, 2, 3, 4, 5, 6, 7, 8, 9, 10, 11, 12], none)] (by kernel_rfl) (by kernel_rfl) (Below.refl _ _).drew ?_
  simp only [List.map_cons, List.map_nil, Option.map_some, Option.map_none, opAt, List.getElem?_cons_succ, List.getElem?_cons_zero, Option.getD_some, wpSegs]
  refine wpQuiet_nil ?_
  go_wp2_with fail
  refine (awake_ok _).mono ?_
  rintro e w5 ⟨rfl, b5⟩
  go_wp2_with fail
  refine ⟨(Below.refl _ _).drew.trans b5, ?_⟩
  repeat (go_big_quiet_step (fail))
  refine wpQuiet_got (.int .u8 (j : Int)) (by rfl) (fun w' hw' => ?_) (fun K hK => ?_)
  · go_simp
    rw [Int.tmod_eq_emod_of_nonneg hi.1]; exact hj
  go_simp
  refine hK _ ?_
  clear hK K
  repeat (go_big_quiet_step (fail))
  refine wpQuiet_got (.pointer (some ⟨w1.heap.size, j, none⟩)) (by rfl) (fun w' hw' => ?_) (fun K hK => ?_)
  · go_simp
    intro h; omega
  go_simp
  refine hK _ ?_
  clear hK K
  repeat (go_big_quiet_step (fail))
  refine wpQuiet_got (.int .u32 (kk : Int)) (by rfl) (fun w' hw' => ?_) (fun K hK => ?_)
  · have hc := HC1.out w' hw'
    go_simp
  go_simp
  refine hK _ ?_
  clear hK K
  repeat (go_big_quiet_step (fail))
  refine wpQuiet_got (.int .u8 (j : Int)) (by rfl) (fun w' hw' => ?_) (fun K hK => ?_)
  · go_simp
    rw [Int.tmod_eq_emod_of_nonneg hi.1]; exact hj
  go_simp
  refine hK _ ?_
  clear hK K
  repeat (go_big_quiet_step (fail))
  refine wpQuiet_got (.pointer (some ⟨w3.heap.size, j, none⟩)) (by rfl) (fun w' hw' => ?_) (fun K hK => ?_)
  · go_simp
    intro h; omega
  go_simp
  refine hK _ ?_
  clear hK K
  repeat (go_big_quiet_step (fail))
  refine wpQuiet_got (.int .u32 (kk : Int)) (by rfl) (fun w' hw' => ?_) (fun K hK => ?_)
  · have hc := HC2.out w' hw'
    go_simp
  go_simp
  refine hK _ ?_
  clear hK K
  repeat (go_big_quiet_step (fail))
  refine wpQuiet_got (.bool true) (by rfl) (fun w' hw' => ?_) (fun K hK => ?_)
  · go_simp
  go_simp
  refine hK _ ?_
  clear hK K
  repeat (go_big_quiet_step (fail))
  refine wpQuiet_got (.bool true) (by rfl) (fun w' hw' => ?_) (fun K hK => ?_)
  · go_simp
  go_simp
  refine hK _ ?_
  clear hK K
  repeat (go_big_quiet_step (fail))
  refine wpQuiet_nil ?_
  go_wp2
  go_ret
  exact ⟨rfl, b4.trans (((Below.refl _ _).drew.trans b5).mono s4)⟩
end Go.Proofs.Ytipbnjcgololpaa.SumRootsW
