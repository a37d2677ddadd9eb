import Derived.Test.YtkcfeaonkgpbdaaEvF
import Derived.Test.YtkcfeaonkgpbdaaMixK
import Derived.Laws.Tables
import Derived.Laws.CopyOwn
/-! reading an event: plain, and laws for tiers -/
namespace Go.Proofs.Ytkcfeaonkgpbdaa.Event
open Go.RowKit Go.Deep Go.Proofs.Ytkcfeaonkgpbdaa Go.Proofs.Ytkcfeaonkgpbdaa.Pack
set_option linter.unusedVariables false
set_option linter.unusedSimpArgs false
/-- what is left behind i numbers, the i-th number, and whether one of the first i failed -/
def rs : Nat → List Int → List Int
  | 0, xs => xs
  | i + 1, xs => rest (rs i xs)
def vl (xs : List Int) (i : Nat) : Int := zag (rdU (rs i xs)).1
def bd (bad : Bool) (xs : List Int) : Nat → Bool
  | 0 => bad
  | i + 1 => bads (rs i xs) (bd bad xs i)
def vls (xs : List Int) (m : Nat) : List Int := (List.range m).map (vl xs)
theorem vls_len (xs : List Int) (m : Nat) : (vls xs m).length = m := by simp [vls]
theorem vls_succ (xs : List Int) (m : Nat) : vls xs (m + 1) = vls xs m ++ [vl xs m] := by simp [vls, List.range_succ]
theorem rest_byt {xs : List Int} (h : Byt xs) : Byt (rest xs) := fun n hn => h n (List.mem_of_mem_drop hn)
theorem rest_len (xs : List Int) : (rest xs).length ≤ xs.length := by unfold rest; simp
theorem rs_byt {xs : List Int} (h : Byt xs) : ∀ i, Byt (rs i xs)
  | 0 => h
  | i + 1 => rest_byt (rs_byt h i)
theorem rs_len (xs : List Int) : ∀ i, (rs i xs).length ≤ xs.length
  | 0 => Nat.le_refl _
  | i + 1 => Nat.le_trans (rest_len _) (rs_len xs i)
theorem vl_range {xs : List Int} (h : Byt xs) (i : Nat) : -9223372036854775808 ≤ vl xs i ∧ vl xs i ≤ 9223372036854775807 := by
  have := rdU_range (rs i xs) (rs_byt h i)
  exact zag_range _ this.1 this.2.1
theorem vls_I64 {xs : List Int} (h : Byt xs) (m : Nat) : I64 (vls xs m) := by
  intro n hn
  obtain ⟨i, _, rfl⟩ := List.mem_map.1 hn
  exact vl_range h i
theorem rs_front (xs : List Int) : ∀ i, rs (i + 1) xs = rs i (rest xs)
  | 0 => rfl
  | i + 1 => by rw [rs, rs_front xs i, rs]
theorem vl_front (xs : List Int) (i : Nat) : vl xs (i + 1) = vl (rest xs) i := by unfold vl; rw [rs_front]
theorem bd_front (b : Bool) (xs : List Int) : ∀ i, bd b xs (i + 1) = bd (bads xs b) (rest xs) i
  | 0 => rfl
  | i + 1 => by rw [bd, bd_front b xs i, rs_front, bd]
theorem bads_true (xs : List Int) : bads xs true = true := rfl
theorem bd_true (xs : List Int) : ∀ i, bd true xs i = true
  | 0 => rfl
  | i + 1 => by rw [bd, bd_true xs i]; rfl
theorem vls_front (xs : List Int) (m : Nat) : vls xs (m + 1) = vl xs 0 :: vls (rest xs) m := by
  unfold vls
  rw [List.range_succ_eq_map]
  simp [vl_front, Function.comp_def]
theorem rdU_ok {xs : List Int} (h : (rdU xs).2.2 = 0) : ∃ k : Nat, dec xs = some ((rdU xs).1, k) ∧ (rdU xs).2.1 = k := by
  unfold rdU at *
  split at h
  · rename_i n k hd; simp [hd]
  · cases h
theorem rdU_bad {xs : List Int} (h : (rdU xs).2.2 ≠ 0) : dec xs = none := by
  unfold rdU at h
  split at h
  · exact absurd rfl h
  · rename_i hd; exact hd
theorem dec_rest {xs : List Int} {n : Int} {k : Nat} (h : dec xs = some (n, k)) : rest xs = xs.drop k ∧ (rdU xs).1 = n ∧ (rdU xs).2.2 = 0 := by
  unfold rest rdU; rw [h]; exact ⟨rfl, rfl, rfl⟩
theorem decs_it : ∀ (m : Nat) (xs : List Int), (bd false xs m = false → decs m xs = some (vls xs m, rs m xs)) ∧ (bd false xs m = true → decs m xs = none)
  | 0, xs => ⟨fun _ => rfl, fun h => by cases h⟩
  | m + 1, xs => by
    have ih := decs_it m (rest xs)
    rw [bd_front]
    by_cases h0 : (rdU xs).2.2 = 0
    · obtain ⟨k, hk, hk2⟩ := rdU_ok h0
      have hb : bads xs false = false := by unfold bads; rw [h0]; rfl
      have hr : xs.drop k = rest xs := (dec_rest hk).1.symm
      rw [hb]
      refine ⟨fun h => ?_, fun h => ?_⟩
      · simp only [decs, hk, hr, ih.1 h]
        rw [vls_front, rs_front]
        rfl
      · simp only [decs, hk, hr, ih.2 h]
    · have hb : bads xs false = true := by unfold bads; simp; exact h0
      rw [hb, bd_true]
      refine ⟨fun h => (by cases h), fun _ => ?_⟩
      simp only [decs, rdU_bad h0]
def pad (l : List Int) : List Int := l ++ List.replicate (8 - l.length) 0
theorem pad_len {l : List Int} (h : l.length ≤ 8) : (pad l).length = 8 := by unfold pad; simp; omega
theorem pad_set {xs : List Int} {i : Nat} (h : i < 8) : (pad (vls xs i)).set i (vl xs i) = pad (vls xs (i + 1)) := by
  unfold pad
  rw [vls_succ, List.set_append_right _ _ (by rw [vls_len]; omega)]
  simp only [vls_len, List.length_append, List.length_singleton, Nat.sub_self]
  rw [show 8 - i = (8 - (i + 1)) + 1 from by omega, List.replicate_succ]
  simp
theorem pad_I64 {l : List Int} (h : I64 l) : I64 (pad l) := by
  intro n hn
  unfold pad at hn
  rcases List.mem_append.1 hn with h1 | h1
  · exact h n h1
  · rw [List.eq_of_mem_replicate h1]; omega
theorem pad_zero {l : List Int} {i : Nat} (h : l.length ≤ i) : rd (pad l) i = 0 := by
  unfold pad
  by_cases hi : i < (l ++ List.replicate (8 - l.length) (0 : Int)).length
  · rw [rd_get hi, List.getElem_append_right h]
    simp
  · exact rd_out (by omega)
theorem row_set_n (op key : Int) (ns ts : List Int) (A : Option Addr) (c i : Nat) (v : Int) (h8 : ns.length = 8) (hi : i < 8) : (row ⟨op, key, ns, ts⟩ A c).setIfInBounds (2 + i) (.int .i64 v) = row ⟨op, key, ns.set i v, ts⟩ A c := by
  have hr : ∀ j, j < 8 → rd (ns.set i v) j = if i = j then v else rd ns j := by
    intro j hj
    rw [rd_get (by simp; omega), List.getElem_set]
    split
    · rfl
    · rw [rd_get (by omega)]
  unfold row
  simp only [hr 0 (by omega), hr 1 (by omega), hr 2 (by omega), hr 3 (by omega), hr 4 (by omega), hr 5 (by omega), hr 6 (by omega), hr 7 (by omega)]
  have : i = 0 ∨ i = 1 ∨ i = 2 ∨ i = 3 ∨ i = 4 ∨ i = 5 ∨ i = 6 ∨ i = 7 := by omega
  rcases this with rfl | rfl | rfl | rfl | rfl | rfl | rfl | rfl <;> simp
theorem row_set_ts (op key : Int) (ns ts ts' : List Int) (A A' : Option Addr) (c c' : Nat) : (row ⟨op, key, ns, ts⟩ A c).setIfInBounds 10 (.slice A' (ts'.length / 2) c') = row ⟨op, key, ns, ts'⟩ A' c' := rfl
theorem row_set_key (op key key' : Int) (ns ts : List Int) (A : Option Addr) (c : Nat) : (row ⟨op, key, ns, ts⟩ A c).setIfInBounds 1 (.int .u64 key') = row ⟨op, key', ns, ts⟩ A c := rfl
/-! ### tiers -/
def TOwn (w : World) (base : Nat) (v : Value) (fl : List Int) : Prop := fl.length % 2 = 0 ∧ w.ownsRow base 44 2 v (fl.length / 2) (nums .i64 fl)
theorem infoT : ∃ i z, Try.prog.info? 44 = some i ∧ i.zero = some z ∧ i.size = 2 ∧ i.bytes = 16 ∧ z.cells.size = 2 := by
  have h : (Try.prog.info? 44).map (fun i => (i.zero.isSome, i.size, i.bytes, (i.zero.getD undef).cells.size)) = some (true, 2, 16, 2) := by kernel_rfl
  cases hi : Try.prog.info? 44 with
  | none => rw [hi] at h; cases h
  | some i =>
    rw [hi] at h
    simp only [Option.map_some, Option.some.injEq, Prod.mk.injEq] at h
    obtain ⟨h1, h2, h3, h4⟩ := h
    obtain ⟨z, hz⟩ := Option.isSome_iff_exists.1 h1
    rw [hz] at h4
    exact ⟨i, z, rfl, hz, h2, h3, h4⟩
theorem ri_tiers {w : World} {B m : Nat} {A : Option Addr} {fl : List Int} (h : RI w B .i64 A fl) (hm : fl.length = 2 * m) : Reads w B 2 A m (nums .i64 fl) :=
  ⟨by rw [nums_length]; omega, fun h0 => h.2 (by omega)⟩
theorem town_ri {w : World} {base n c : Nat} {A : Option Addr} {fl : List Int} (h : TOwn w base (.slice A n c) fl) : n = fl.length / 2 ∧ n ≤ c ∧ RI w w.heap.size .i64 A fl := by
  have hn : n = fl.length / 2 := by
    rcases h.2.2 with ⟨h1, h2⟩ | ⟨g, cap, cur, h1, _⟩
    · injection h1 with _ h3 _; omega
    · injection h1
  subst hn
  refine ⟨rfl, own_cap h.2, ?_⟩
  have hr := Reads.of_own h.2
  exact ⟨by simp [nums], fun h0 => hr.2 (by have := h.1; omega)⟩
theorem town_nil (w : World) (base : Nat) : TOwn w base (.slice none 0 0) [] := ⟨rfl, World.ownsRow_nil _ _ _ _⟩
theorem wpList_appT {ops : Array Oper} {rest : List Oper} {o : Oper} {a : Act} {Q : Exit → Act → World → Prop} (W : World) (hgd : o.guard = none) (s x : Operand) (ho : o.op = .call { callee := .builtin .append, args := #[s, x], argTypes := #[24, 24] })
    (base : Nat) (v : Value) (fl : List Int) (hown : TOwn W base v fl) (hs : a.eval s = v) (B : Nat) (A : Option Addr) (m c : Nat) (fl2 : List Int) (hx : a.eval x = .slice A m c) (hm : fl2.length = 2 * m) (hr : RI W B .i64 A fl2)
    (hl : (fl.length + fl2.length) * 8 ≤ 140737488355328) (hbase : base ≤ W.heap.size)
    (h : ∀ A' n' c' w', TOwn w' base (.slice A' n' c') (fl ++ fl2) → W.grownBy w' v.ownBlock → wpList Try.prog ops Q rest (a.put o.dst (.slice A' n' c')) w') : wpList Try.prog ops Q (o :: rest) a W := by
  obtain ⟨i, z, hi, hz, h2, h3, h4⟩ := infoT
  have he := hown.1
  refine wpList_append_any W hgd s x 24 ho base 44 i z 2 16 Try.underlying24 hi hz h2 h3 h4 (by omega) v (fl.length / 2) (nums .i64 fl) hs hown.2 B A m c (nums .i64 fl2) hx (ri_tiers hr hm) (nums_one _ _) (by simp only [maxLen]; omega) (by omega) hbase ?_
  intro v' w' h5 h6 _
  obtain ⟨A', c', rfl⟩ := own_slice h5
  refine h A' _ c' w' ⟨by rw [List.length_append]; omega, ?_⟩ h6
  rw [nums_append, show (fl ++ fl2).length / 2 = fl.length / 2 + m from by rw [List.length_append]; omega]
  exact h5
/-- a whole array is stored into its block; the world behind it is left open -/
theorem wpList_put {P : Program} {ops : Array Oper} {rest : List Oper} {o : Oper} {a : Act} {w : World} {Q : Exit → Act → World → Prop} (hgd : o.guard = none) (ty : TypeId) (x y : Operand) (ho : o.op = .store ty x y)
    (g : Nat) (cells : Array Value) (hx : a.eval x = .pointer (some ⟨g, 0, none⟩)) (hy : a.eval y = .agg cells) (t : TypeId) (old : Array Value) (hg : Blk w g t old) (hi : (P.info? ty).map (·.size) = some cells.size)
    (hold : old.size = cells.size) (h1 : cells.all (·.oneCell') = true)
    (h : ∀ W2, Blk W2 g t cells → (∀ g' t' cs, g' ≠ g → Blk w g' t' cs → Blk W2 g' t' cs) → (∀ B w0, B ≤ g → Below B w0 w → Below B w0 W2) → W2.heap.size = w.heap.size → (∀ p : Addr, p.block ≠ g → W2.cell? p = w.cell? p) → wpList P ops Q rest (a.put o.dst undef) W2) : wpList P ops Q (o :: rest) a w :=
  wpList_store_row hgd ty x y ho g cells hx hy t old hg hi hold h1 (h _ (setRow_heap w g old cells t (0, 0) hg) (fun g' t' cs hne hb => (setRow_other w g g' _ hne).trans hb) (fun B w0 hB hb => below_setRow hb hB _) (by simp) (fun p hp => cell_setRow_other w g cells p hp))
theorem wpList_built {P : Program} {ops : Array Oper} {rest : List Oper} {o : Oper} {a : Act} {w : World} {Q : Exit → Act → World → Prop} (hg : o.guard = none) (t : TypeId) (parts : Array (Nat × Operand)) (ho : o.op = .build t parts) (v : Array Value)
    (hf : P.built t (parts.map fun (i, x) => (i, a.eval x)).toList = some v) (h : wpList P ops Q rest (a.put o.dst (.agg v)) w) : wpList P ops Q (o :: rest) a w :=
  wpList_build hg t parts ho (by rw [hf]; rfl) (by rw [hf]; exact h)
theorem results_cell_row2 {P : Program} {fn : Func} {p u : Tmp} {ty : TypeId} (h : fn.results = #[.cell p ty, .tmp u]) (tmps : Array Value) (w : World) (g : Nat) (t : TypeId) (cs : Array Value) (d : TypeDesc) (v : Value)
    (hp : tmps.getD p undef = .pointer (some ⟨g, 0, none⟩)) (hg : Blk w g t cs)
    (hu : P.underlying ty = some d) (hd : (match d with | .struct _ | .array _ _ => true | _ => false) = true) (hi : (P.info? ty).map (·.size) = some cs.size) (hv : tmps.getD u undef = v) :
    (results fn tmps).run P w = .ok (.tuple #[.agg cs, v]) w := by
  rw [results_cell_tmp h, hp, hv]
  simp [asAddr, run_loadVar_row w g t ty cs (0, 0) d hg hu hd hi, Result.andThen]
end Go.Proofs.Ytkcfeaonkgpbdaa.Event
