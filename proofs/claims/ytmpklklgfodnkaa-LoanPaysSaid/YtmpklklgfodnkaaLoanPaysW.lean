import Derived.Test.YtmpklklgfodnkaaAwakeLoan
import Derived.Test.YtmpklklgfodnkaaDocPays
/-! every payment pays what it should: the law's walk -/
namespace Go.Proofs.Ytmpklklgfodnkaa.LoanPaysW
open Go.RowKit Go.Deep
set_option linter.unusedVariables false
set_option maxHeartbeats 1000000 in
theorem walk (a0 : Int) (a1 : Int) (a2 : Int) (a3 : Int) (w0 : (Lit.int .i64 a0).wf = true) (w1 : (Lit.int .i64 a1).wf = true) (w2 : (Lit.int .i64 a2).wf = true) (w3 : (Lit.int .i64 a3).wf = true) (w : World) :
    Calls Try.prog 3 #[.int .i64 a0, .int .i64 a1, .int .i64 a2, .int .i64 a3] w fun e w' => e = .returned (.bool true) ∧ Below w.heap.size w w' := by
  clear w0 w1 w2 w3
  cases hr : (Pays.inR a0 && Pays.inR a1 && Pays.inR a2 && Pays.inR a3) with
  | false =>
    have HR := Lib.hid hr
    clear hr
    go_enter Try.func3, Try.ntmps3
    go_wp2_with fail
    refine (Pays.pays_bad a0 a1 a2 a3 _ HR.out).mono ?_
    rintro e w1 ⟨rfl, hb1⟩
    have s1 := hb1.size
    go_wp2_with fail
    refine (DocPays.pays_bad a0 a1 a2 a3 _ HR.out).mono ?_
    rintro e w2 ⟨rfl, hb2⟩
    have s2 := hb2.size
    have B1 := (Blk.new w1 23 #[Value.int .i64 0, Value.int .i64 0, Value.int .i64 0, Value.int .i64 0]).below hb2 (by simp)
    go_wp2_with fail
    refine (AwakeLoan.ok _).mono ?_
    rintro e w3 ⟨rfl, hb3⟩
    have s3 := hb3.size
    have B2 := ((Blk.new w2 27 #[Value.int .i64 0, Value.int .i64 0, Value.int .i64 0, Value.int .i64 0])).below hb3 (by simp)
    have B3 := (B1.alloc (.cells #[Value.int .i64 0, Value.int .i64 0, Value.int .i64 0, Value.int .i64 0] 27)).below hb3 (by have := B1.lt; simp; omega)
    have c10 := B3.cell 0
    have c11 := B3.cell 1
    have c12 := B3.cell 2
    have c13 := B3.cell 3
    have c20 := B2.cell 0
    have c21 := B2.cell 1
    have c22 := B2.cell 2
    have c23 := B2.cell 3
    simp at c10 c11 c12 c13 c20 c21 c22 c23
    go_wp2
    go_ret
    have b12 := below_then' (below_then' (below_then' hb1 ((Below.refl _ _).alloc (Nat.le_refl _) _)) hb2) (below_then' ((Below.refl _ _).alloc (Nat.le_refl _) _) hb3)
    exact ⟨rfl, b12⟩
  | true =>
    have h0 := Pays.inR_yes (a := a0) (by cases h : Pays.inR a0 <;> simp [h] at hr ⊢)
    have h1 := Pays.inR_yes (a := a1) (by cases h : Pays.inR a1 <;> simp [h] at hr ⊢)
    have h2 := Pays.inR_yes (a := a2) (by cases h : Pays.inR a2 <;> simp [h] at hr ⊢)
    have h3 := Pays.inR_yes (a := a3) (by cases h : Pays.inR a3 <;> simp [h] at hr ⊢)
    obtain ⟨x, y, z, u, hf⟩ : ∃ x y z u, Pays.f a0 a1 a2 a3 = .agg #[.int .i64 x, .int .i64 y, .int .i64 z, .int .i64 u] := ⟨_, _, _, _, rfl⟩
    have HF := Lib.hid hf
    clear hf
    clear hr
    go_enter Try.func3, Try.ntmps3
    go_wp2_with fail
    refine (Pays.pays_ok a0 a1 a2 a3 _ h0.1 h0.2 h1.1 h1.2 h2.1 h2.2 h3.1 h3.2).mono ?_
    rw [HF.out]
    rintro e w1 ⟨rfl, hb1⟩
    have s1 := hb1.size
    go_wp2_with fail
    refine (DocPays.pays_ok a0 a1 a2 a3 _ h0.1 h0.2 h1.1 h1.2 h2.1 h2.2 h3.1 h3.2).mono ?_
    rw [HF.out]
    rintro e w2 ⟨rfl, hb2⟩
    have s2 := hb2.size
    have B1 := (Blk.new w1 23 #[Value.int .i64 x, Value.int .i64 y, Value.int .i64 z, Value.int .i64 u]).below hb2 (by simp)
    go_wp2_with fail
    refine (AwakeLoan.ok _).mono ?_
    rintro e w3 ⟨rfl, hb3⟩
    have s3 := hb3.size
    have B2 := ((Blk.new w2 27 #[Value.int .i64 x, Value.int .i64 y, Value.int .i64 z, Value.int .i64 u])).below hb3 (by simp)
    have B3 := (B1.alloc (.cells #[Value.int .i64 x, Value.int .i64 y, Value.int .i64 z, Value.int .i64 u] 27)).below hb3 (by have := B1.lt; simp; omega)
    have c10 := B3.cell 0
    have c11 := B3.cell 1
    have c12 := B3.cell 2
    have c13 := B3.cell 3
    have c20 := B2.cell 0
    have c21 := B2.cell 1
    have c22 := B2.cell 2
    have c23 := B2.cell 3
    simp at c10 c11 c12 c13 c20 c21 c22 c23
    go_wp2
    go_ret
    have b12 := below_then' (below_then' (below_then' hb1 ((Below.refl _ _).alloc (Nat.le_refl _) _)) hb2) (below_then' ((Below.refl _ _).alloc (Nat.le_refl _) _) hb3)
    exact ⟨rfl, b12⟩
end Go.Proofs.Ytmpklklgfodnkaa.LoanPaysW
