import Derived.Test.YtipbnjcgololpaaAwake6
/-! the document's SHA-256: its parts -/
namespace Go.Proofs.Ytipbnjcgololpaa.Sha
open Go.RowKit Go.Deep Go.Proofs.Ytipbnjcgololpaa.Pack Go.Proofs.Ytipbnjcgololpaa.Crc
set_option linter.unusedVariables false
set_option linter.unusedSimpArgs false
/-- an array of n numbers, the first of them given -/
def rowK (k : IntKind) (ws : List Nat) (n : Nat) : Array Value := (ws.map (fun x : Nat => Value.int k (x : Nat)) ++ List.replicate (n - ws.length) (Value.int k 0)).toArray
theorem rowK_get {k : IntKind} {ws : List Nat} {n j : Nat} (h : j < ws.length) : (rowK k ws n)[j]? = some (.int k (ws.getD j 0 : Nat)) := by
  have h' : j < (ws.map (fun x : Nat => Value.int k (x : Nat))).length := by simpa using h
  rw [rowK, List.getElem?_toArray, List.getElem?_append_left h']
  simp [h, List.getD]
theorem rowK_size {k : IntKind} {ws : List Nat} {n : Nat} (h : ws.length ≤ n) : (rowK k ws n).size = n := by
  simp [rowK]; omega
theorem rowK_put {k : IntKind} {ws : List Nat} {n j : Nat} (x : Nat) (h : j < ws.length) : (rowK k ws n).setIfInBounds j (.int k (x : Nat)) = rowK k (ws.set j x) n := by
  unfold rowK
  rw [List.setIfInBounds_toArray, List.set_append_left _ _ (by simpa using h), List.map_set]
  simp
theorem rowK_zero {k : IntKind} {ws : List Nat} {n : Nat} (h : ws.length < n) : rowK k (ws ++ [0]) n = rowK k ws n := by
  unfold rowK
  rw [show n - ws.length = (n - (ws ++ [0]).length) + 1 from by simp; omega, List.replicate_succ]
  simp
theorem right_val (x n : Nat) (hx : x < 4294967296) (h1 : 1 ≤ n) (h2 : n ≤ 31) : x * 2 ^ (32 - n) < 18446744073709551616 := by
  have := Nat.pow_le_pow_right (n := 2) (by omega) (show 32 - n ≤ 31 by omega)
  have h3 : x * 2 ^ (32 - n) ≤ 4294967295 * 2147483648 := Nat.mul_le_mul (by omega) (by simpa using this)
  omega
set_option maxRecDepth 100000 in
set_option maxHeartbeats 1000000 in
theorem known_ok (w : World) : Calls Try.prog 23 #[] w fun e w' => e = .returned (.agg (row K 64)) ∧ Below w.heap.size w w' := by
  go_enter Try.func23, Try.ntmps23
  go_wp2_with (first
    | (refine wpList_built rfl 23 _ rfl (row K 64) (by kernel_rfl) ?_)
    | (refine wpList_put rfl 23 (.tmp 0) (.tmp 1) rfl w.heap.size (row K 64) rfl rfl 23 _ (Blk.new _ _ _) (by kernel_rfl) rfl (row_one _ _) ?_
       intro W2 hB hfar hbel hsz hcl))
  have hb2 := hbel w.heap.size w (Nat.le_refl _) ((Below.refl _ _).alloc (Nat.le_refl _) _)
  exact bodyPost_ret (results_cell_row rfl _ W2 w.heap.size 23 (row K 64) (0, 0) _ rfl hB Try.underlying23 rfl (by kernel_rfl)) rfl ⟨rfl, hb2⟩
set_option maxRecDepth 100000 in
set_option maxHeartbeats 1000000 in
theorem right_ok (x n : Nat) (hx : x < 4294967296) (h1 : 1 ≤ n) (h2 : n ≤ 31) (w : World) :
    Calls Try.prog 24 #[.int .u64 (x : Int), .int .i64 (n : Int)] w fun e w' => e = .returned (.int .u64 ((ror x n : Nat) : Int)) ∧ Drew w w' := by
  obtain ⟨s, hs⟩ : ∃ s, s = 32 - n := ⟨_, rfl⟩
  have hsI : (32 : Int) - n = (s : Int) := by omega
  have hv := right_val x n hx h1 h2
  rw [← hs] at hv
  have HV := Lib.hid hv
  have HS := Lib.hid hs
  have g1 : (0 : Int) ≤ n := by omega
  have g2 : (0 : Int) ≤ s := by omega
  have hs31 : s ≤ 31 := by omega
  have hn31 : (n : Int) ≤ 31 := by omega
  clear hv hs
  go_enter Try.func24, Try.ntmps24
  go_wp2
  go_quiet (fail)
  go_wp2
  go_ret
  refine ⟨congrArg (fun y => Ending.returned (.int .u64 y)) ?_, by repeat (first | exact Drew.refl _ | apply Drew.step)⟩
  have hlt := ror_lt x n hx (by omega)
  have hv := HV.out
  have e1 : (x : Int) * 2 ^ s = ((x * 2 ^ s : Nat) : Int) := by push_cast; rfl
  have e2 : (x : Int) / 2 ^ n = ((x / 2 ^ n : Nat) : Int) := by push_cast; rfl
  have e3 : ror x n = x / 2 ^ n + x * 2 ^ s % 4294967296 := by rw [ror, ← HS.out]
  rw [e1, e2]
  rw [e3] at hlt ⊢
  generalize x * 2 ^ s = y at *
  generalize x / 2 ^ n = z at *
  simp only [IntKind.wrap_u64]
  rw [show (y : Int) % 18446744073709551616 = y from by omega, Int.tmod_eq_emod_of_nonneg (by omega)]
  omega
/-- the same as a quiet call -/
theorem right_quiet (x n : Nat) (hx : x < 4294967296) (h1 : 1 ≤ n) (h2 : n ≤ 31) (w : World) (q : Nat) :
    Calls Try.prog 24 #[.int .u64 (x : Int), .int .i64 (n : Int)] (w.drewN q) fun e w'' => e = .returned (.int .u64 ((ror x n : Nat) : Int)) ∧ ∃ m, w'' = w.drewN m :=
  Calls.quiet_of ((right_ok x n hx h1 h2 (w.drewN q)).mono fun e w' h => ⟨h.1, h.2.out⟩)
end Go.Proofs.Ytipbnjcgololpaa.Sha
