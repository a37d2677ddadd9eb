import Derived.Test.YtipbnjcgololpaaShaC
import Derived.Test.YtipbnjcgololpaaCut
import Derived.Laws.Tables
/-! the numbers k; SHA-256 whole -/
namespace Go.Proofs.Ytipbnjcgololpaa.Sha
open Go.RowKit Go.Deep Go.Proofs.Ytipbnjcgololpaa.Pack Go.Proofs.Ytipbnjcgololpaa.Crc
set_option linter.unusedVariables false
/-- a whole array is stored into its block; the world behind it is left open -/
theorem wpList_put {P : Program} {ops : Array Oper} {rest : List Oper} {o : Oper} {a : Act} {w : World} {Q : Exit → Act → World → Prop} (hgd : o.guard = none) (ty : TypeId) (x y : Operand) (ho : o.op = .store ty x y)
    (g : Nat) (cells : Array Value) (hx : a.eval x = .pointer (some ⟨g, 0, none⟩)) (hy : a.eval y = .agg cells) (t : TypeId) (old : Array Value) (hg : Blk w g t old) (hi : (P.info? ty).map (·.size) = some cells.size)
    (hold : old.size = cells.size) (h1 : cells.all (·.oneCell') = true)
    (h : ∀ W2, Blk W2 g t cells → (∀ g' t' cs, g' ≠ g → Blk w g' t' cs → Blk W2 g' t' cs) → (∀ B w0, B ≤ g → Below B w0 w → Below B w0 W2) → W2.heap.size = w.heap.size → (∀ p : Addr, p.block ≠ g → W2.cell? p = w.cell? p) → wpList P ops Q rest (a.put o.dst undef) W2) : wpList P ops Q (o :: rest) a w :=
  wpList_store_row hgd ty x y ho g cells hx hy t old hg hi hold h1 (h _ (setRow_heap w g old cells t (0, 0) hg) (fun g' t' cs hne hb => (setRow_other w g g' _ hne).trans hb) (fun B w0 hB hb => below_setRow hb hB _) (by simp) (fun p hp => cell_setRow_other w g cells p hp))
theorem wpList_built {P : Program} {ops : Array Oper} {rest : List Oper} {o : Oper} {a : Act} {w : World} {Q : Exit → Act → World → Prop} (hg : o.guard = none) (t : TypeId) (parts : Array (Nat × Operand)) (ho : o.op = .build t parts) (v : Array Value)
    (hf : P.built t (parts.map fun (i, x) => (i, a.eval x)).toList = some v) (h : wpList P ops Q rest (a.put o.dst (.agg v)) w) : wpList P ops Q (o :: rest) a w :=
  wpList_build hg t parts ho (by rw [hf]; rfl) (by rw [hf]; exact h)
theorem RI.away {w w' : World} {B g : Nat} {k : IntKind} {A : Option Addr} {xs : List Int} (h : RI w B k A xs) (hA : ∀ ad, A = some ad → ad.block ≠ g) (hc : ∀ p : Addr, p.block ≠ g → w'.cell? p = w.cell? p) : RI w' B k A xs := by
  refine ⟨h.1, fun hn => ?_⟩
  obtain ⟨ad, rfl, hb, hcell⟩ := h.2 hn
  exact ⟨ad, rfl, hb, fun j u hu => (hc _ (by rw [block_of_add]; exact hA ad rfl)).trans (hcell j u hu)⟩
theorem own_above {w : World} {base n c : Nat} {e : TypeId} {size : Nat} {A : Option Addr} {xs : List Value} (h : w.ownsRow base e size (.slice A n c) n xs) : ∀ ad, A = some ad → base ≤ ad.block := by
  intro ad hA
  rcases h.2 with ⟨h1, _⟩ | ⟨g, cap, cur, hv, hb, _⟩
  · injection h1 with h1; rw [hA] at h1; cases h1
  · injection hv with hv; rw [hA] at hv; injection hv with hv; rw [hv]; exact hb
theorem wpList_cut2 {P : Program} {ops : Array Oper} {rest : List Oper} {o : Oper} {a : Act} {w : World} {Q : Exit → Act → World → Prop} (hgd : o.guard = none) (x lo : Operand) (T : TypeId) (ho : o.op = .slice T x (some lo) none none)
    (hu : P.underlying T = some (.slice (P.elem T))) (hs : ∀ w, (sizeOf (P.elem T)).run P w = .ok 1 w) (A : Option Addr) (n c k : Nat) (kk : IntKind) (hx : a.eval x = .slice A n c) (hl : a.eval lo = .int kk (k : Int)) (hk : k ≤ n) (hc : n ≤ c)
    (h : ∀ A' : Option Addr, (∀ W B K xs, xs.length = n → RI W B K A xs → RI W B K A' (xs.drop k)) → (∀ ad, A' = some ad → ∃ ad0, A = some ad0 ∧ ad.block = ad0.block) → wpList P ops Q rest (a.put o.dst (.slice A' (n - k) (c - k))) w) : wpList P ops Q (o :: rest) a w := by
  refine wpList_plain hgd fun K hK => ?_
  have hrun := run_cut (P := P) T hu hs A n c k kk hk w
  unfold Oper.wp
  simp only [execOp, ho, Option.map_some, Option.map_none, hx, hl, Sem.run_bind, run_sliceAt_slice (P := P) (w := w) T _ _ _ _ hu, hrun, Result.andThen, Sem.run_pure, Oper.upon]
  refine hK _ _ (h _ (fun W B k' xs hl' hr => hr.cutIf k c (by omega) (by omega)) (fun ad had => ?_))
  split at had
  · exact ⟨ad, had, rfl⟩
  · obtain ⟨ad0, h0, rfl⟩ := Option.map_eq_some_iff.1 had
    exact ⟨ad0, h0, block_of_add _ _⟩
theorem row_one (ws : List Nat) (n : Nat) : (row ws n).all (·.oneCell') = true := by
  rw [row, List.all_toArray, List.all_append, Bool.and_eq_true]
  constructor
  · rw [List.all_map, List.all_eq_true]; intro x _; rfl
  · rw [List.all_replicate]; split <;> simp [Value.oneCell']
set_option maxHeartbeats 4000000 in
set_option maxRecDepth 100000 in
theorem roots_ok (w : World) : Calls Try.prog 7 #[] w fun e w' => e = .returned (.agg (row K 64)) ∧ Below w.heap.size w w' := by
  go_enter Try.func7, Try.ntmps7
  go_wp2_with (first
    | (refine wpList_built rfl 23 _ rfl (row K 64) (by kernel_rfl) ?_)
    | (refine wpList_put rfl 23 (.tmp 0) (.tmp 1) rfl w.heap.size (row K 64) rfl rfl 23 _ (Blk.new _ _ _) (by kernel_rfl) rfl (row_one _ _) ?_
       intro W2 hB hfar hbel hsz hcl))
  have hb2 := hbel w.heap.size w (Nat.le_refl _) ((Below.refl _ _).alloc (Nat.le_refl _) _)
  exact bodyPost_ret (results_cell_row rfl _ W2 w.heap.size 23 (row K 64) (0, 0) _ rfl hB Try.underlying23 rfl (by kernel_rfl)) rfl ⟨rfl, hb2⟩
end Go.Proofs.Ytipbnjcgololpaa.Sha
