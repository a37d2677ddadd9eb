import Derived.Test.YtipbnjcgololpaaShaE
import Derived.Lib.SlBytesConst
/-! the document's examples of layer 6 -/
namespace Go.Proofs.Ytipbnjcgololpaa.Sha
open Go.RowKit Go.Deep Go.Proofs.Ytipbnjcgololpaa.Pack Go.Proofs.Ytipbnjcgololpaa.Crc
set_option linter.unusedVariables false
theorem RI.of_lit' {w : World} {b : Nat} {t : TypeId} {k : IntKind} {cs : Array Value} {xs : List Int} {fr : Nat × Nat} (h : w.heap[b]? = some (.cells cs t fr)) (hx : cs.toList = nums k xs) : RI w w.heap.size k (some ⟨b, 0, none⟩) xs := by
  refine ⟨by simp [nums], fun hn => ⟨_, rfl, (Array.getElem?_eq_some_iff.1 h).1, fun j u hu => ?_⟩⟩
  rw [Addr.add_lit, Nat.zero_add, cell_of_row w b j cs t fr h, ← hu, ← hx]
  simp
theorem rowB_get {ws : List Nat} {n j x : Nat} (h : ws[j]? = some x) : (rowB ws n)[j]? = some (.int .u8 (x : Nat)) := by
  have hl := (List.getElem?_eq_some_iff.1 h).1
  have h' : j < (ws.map (fun x : Nat => Value.int .u8 (x : Nat))).length := by simpa using hl
  rw [rowB, List.getElem?_toArray, List.getElem?_append_left h', List.getElem?_map, h]
  rfl
theorem sha_length (l : List Nat) : (sha l).length = 32 := rfl
set_option maxRecDepth 100000 in
theorem sha_abc0 : (sha [97, 98, 99])[0]? = some 186 := by decide +kernel
set_option maxRecDepth 100000 in
theorem sha_abc31 : (sha [97, 98, 99])[31]? = some 173 := by decide +kernel
set_option maxRecDepth 100000 in
set_option maxHeartbeats 2000000 in
theorem awake_ok (w : World) : Calls Try.prog 9 #[] w fun e w' => e = .returned (.bool true) ∧ Below w.heap.size w w' := by
  have kc := fun (w : World) (C : Array Value) (n c : Nat) => Lib.run_convert_bytes_const (P := Try.prog) w 27 5 C n c Try.underlying27 Try.underlying5
  go_enter Try.func9, Try.ntmps9
  go_wp2_with fail
  have H1 := sha_ok (some ⟨w.heap.size, 0, none⟩) 3 [97, 98, 99] (w.alloc (.cells #[.int .u8 97, .int .u8 98, .int .u8 99] 5 (3, 4))) (RI.of_lit' (cs := #[.int .u8 97, .int .u8 98, .int .u8 99]) (b := w.heap.size) (heap_alloc_new _ _) rfl) (by simp) (by intro n hn; simp at hn; omega)
  rw [show nat [97, 98, 99] = [97, 98, 99] from rfl] at H1
  refine H1.mono ?_
  rintro e w1 ⟨rfl, b1⟩
  have b01 : Below w.heap.size w w1 := ((Below.refl _ _).alloc (Nat.le_refl _) _).trans (b1.mono (by simp))
  have s1 := b01.size
  have c0 := sha_abc0
  have c31 := sha_abc31
  have hs := rowB_size (ws := sha [97, 98, 99]) (n := 32) (Nat.le_of_eq (sha_length _))
  generalize sha [97, 98, 99] = sh at *
  have HC0 := Lib.hid (rowB_get (n := 32) c0)
  have HC31 := Lib.hid (rowB_get (n := 32) c31)
  have HS := Lib.hid hs
  clear H1 b1 c0 c31 hs
  go_wp2_with (refine wpList_put rfl 33 (.tmp 1) (.tmp 4) rfl w1.heap.size (rowB sh 32) rfl rfl 33 _ (Blk.new _ _ _) (by rw [HS.out]; kernel_rfl) (by rw [HS.out]; rfl) (rowB_one _ _) ?_; intro W2 hB hfar hbel hsz hcl; have HSZ := Lib.hid hsz; clear hsz)
  have e2 := hbel w.heap.size w s1 (b01.alloc s1 _)
  have s2 := e2.size
  have d0 : W2.cell? ⟨w1.heap.size, 0, none⟩ = some (.int .u8 186) := (hB.cell 0).trans HC0.out
  have d31 : W2.cell? ⟨w1.heap.size, 31, none⟩ = some (.int .u8 173) := (hB.cell 31).trans HC31.out
  have hW : w1.heap.size < W2.heap.size := hB.lt
  clear hB hfar hbel HSZ hcl
  have H2 := crc_ok (some ⟨W2.heap.size, 0, none⟩) 9 (W2.heap.size + 1) [49, 50, 51, 52, 53, 54, 55, 56, 57] (W2.alloc (.cells #[.int .u8 49, .int .u8 50, .int .u8 51, .int .u8 52, .int .u8 53, .int .u8 54, .int .u8 55, .int .u8 56, .int .u8 57] 5 (9, 10))) ((RI.of_lit' (cs := #[.int .u8 49, .int .u8 50, .int .u8 51, .int .u8 52, .int .u8 53, .int .u8 54, .int .u8 55, .int .u8 56, .int .u8 57]) (b := W2.heap.size) (heap_alloc_new _ _) rfl).more (by simp)) (by simp) (by intro n hn; simp at hn; omega)
  rw [show nat [49, 50, 51, 52, 53, 54, 55, 56, 57] = [49, 50, 51, 52, 53, 54, 55, 56, 57] from rfl, crc_example] at H2
  go_wp2_with fail
  refine H2.mono ?_
  rintro e w3 ⟨rfl, rfl⟩
  have d0' : (W2.alloc (.cells #[.int .u8 49, .int .u8 50, .int .u8 51, .int .u8 52, .int .u8 53, .int .u8 54, .int .u8 55, .int .u8 56, .int .u8 57] 5 (9, 10))).cell? ⟨w1.heap.size, 0, none⟩ = some (.int .u8 186) := by rw [World.cell?_alloc_past _ _ _ hW]; exact d0
  go_wp2
  go_ret
  exact ⟨rfl, e2.alloc s2 _⟩
end Go.Proofs.Ytipbnjcgololpaa.Sha
