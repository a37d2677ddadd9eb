import Derived.Test.YtipbnjcgololpaaShaE
import Derived.DeepKeys
/-! '!=' of two equal arrays of 32 bytes -/
namespace Go.Proofs.Ytipbnjcgololpaa.Sha
open Go.RowKit Go.Deep Go.Proofs.Ytipbnjcgololpaa.Pack Go.Proofs.Ytipbnjcgololpaa.Crc
set_option linter.unusedVariables false
set_option linter.unusedSimpArgs false
theorem mapM_some {α β : Type} {f : α → Option β} {g : α → β} : ∀ (l : List α), (∀ x ∈ l, f x = some (g x)) → l.mapM f = some (l.map g)
  | [], _ => rfl
  | x :: r, h => by
    rw [List.mapM_cons, h x (by simp), mapM_some r fun y hy => h y (by simp [hy])]
    rfl
theorem equal_same (ws : List Nat) (h : ws.length = 32) (hb : ∀ x ∈ ws, x < 256) (w : World) : (Op.equalIn 10000 33 (.agg (rowB ws 32)) (.agg (rowB ws 32))).run Try.prog w = .ok true w := by
  have hu : Try.prog.underlying 33 = some (.array 32 5) := by kernel_rfl
  have hv : Try.prog.underlying 5 = some (.int .u8) := by kernel_rfl
  have hc1 : Try.prog.cellsOf 33 = 32 := by kernel_rfl
  have hc2 : Try.prog.cellsOf 5 = 1 := by kernel_rfl
  have hcs : (rowB ws 32).toList = nums .u8 (toI ws) := by simp [rowB, h, nums, toI, Function.comp_def]
  have hf : Value.formed Try.prog 33 (.agg (rowB ws 32)) = true := by
    simp [Value.formed, hu, hc1, rowB_size (Nat.le_of_eq h)]
  have hk : ∃ L, Try.prog.keyLits 2 33 (rowB ws 32).toList = some L := by
    rw [hcs]
    simp only [Program.keyLits, hu, hc1, hc2]
    rw [if_pos (by simp [nums, toI_length, h])]
    rw [mapM_some (g := fun i => [Lit.int .u8 (rd (toI ws) i)])]
    · exact ⟨_, rfl⟩
    · intro i hi
      have hi' : i < 32 := by simpa using hi
      have e : ((nums .u8 (toI ws)).drop (i * 1)).take 1 = [.int .u8 (rd (toI ws) i)] := by
        have h1 := nums_get .u8 (toI ws) i (by rw [toI_length, h]; exact hi')
        obtain ⟨h2, h3⟩ := List.getElem?_eq_some_iff.1 h1
        rw [Nat.mul_one, List.drop_eq_getElem_cons h2, h3]
        rfl
      have hw : (Lit.int .u8 (rd (toI ws) i)).wf = true := by
        rw [rd_get (by rw [toI_length, h]; exact hi')]
        simp only [toI, List.getElem_map]
        have := hb ws[i] (List.getElem_mem _)
        simp [Lit.wf, IntKind.min, IntKind.max, IntKind.signed, IntKind.bits]
        omega
      rw [e]
      simp [Program.keyLits, hv, hw]
  obtain ⟨L, hL⟩ := hk
  obtain ⟨r, hr, hiff⟩ := run_equalIn_deep (P := Try.prog) 9998 2 33 (by kernel_rfl) w 2 2 _ _ L L hf hf hL hL
  obtain rfl : r = true := hiff.2 rfl
  exact hr
end Go.Proofs.Ytipbnjcgololpaa.Sha
