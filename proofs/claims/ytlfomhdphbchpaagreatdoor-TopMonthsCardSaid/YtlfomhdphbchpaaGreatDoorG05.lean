/- Lemmas of a claim, several texts in one: Shelf, WideB, WideC, WideD, WideE -/
import Derived.Shelf.Small.Bits
import Derived.Shelf.LaysM
import Derived.Shelf.Bits.Mul64
import Derived.Ground.SlbNamesProg
import Derived.Ground.SlbCloneProg
import Derived.Shelf.Bytes.SlClone
import Derived.Test.YtlfomhdphbchpaaGreatDoorProg
import Derived.Test.YtlfomhdphbchpaaGreatDoorG01
import Derived.Test.YtlfomhdphbchpaaGreatDoorG04
import Derived.Shelf.Spec.BitsCarry
import Derived.StillTailTactics
import Derived.Laws.CopyOwn
import Derived.Test.YtlfomhdphbchpaaGreatDoorG03
import Derived.BigQuiet
import Derived.Lib.BitFns
namespace Go.Proofs
open Go.Shelf
def Tryz.lays129_ren : Go.Shelf.Ren := ⟨fun | 129 => 188 | n => n, fun | 53 => 28 | 3 => 3 | 4 => 4 | 46 => 54 | 5 => 5 | 9 => 9 | n => n, fun | n => n⟩
theorem Tryz.lays129 : Go.Proofs.Lays.n129 Tryz.prog Tryz.lays129_ren := {
  mixed := by kernel_rfl
  f129 := Tryz.func188.trans (congrArg some (by kernel_rfl))
  t3 := Tryz.underlying3
  a3 := Tryz.isAgg3
  z3 := Tryz.sizeOf3
  v3 := Tryz.zeroValue3
  t4 := Tryz.underlying4
  a4 := Tryz.isAgg4
  z4 := Tryz.sizeOf4
  v4 := Tryz.zeroValue4
  t5 := Tryz.underlying5
  a5 := Tryz.isAgg5
  z5 := Tryz.sizeOf5
  v5 := Tryz.zeroValue5
  t9 := Tryz.underlying9
  a9 := Tryz.isAgg9
  z9 := Tryz.sizeOf9
  v9 := Tryz.zeroValue9
  t46 := Tryz.underlying54
  a46 := Tryz.isAgg54
  z46 := Tryz.sizeOf54
  v46 := Tryz.zeroValue54
  t53 := Tryz.underlying28
  a53 := Tryz.isAgg28
  z53 := Tryz.sizeOf28
  v53 := Tryz.zeroValue28 }
/-- bits.Len64: "Len64 returns the minimum number of bits required to represent x; the result is 0 for x == 0.": IT RETURNS 'Lib.bitLen x'; the world is as it was. ('h0', 'h1': x is a uint64.) (LAID: no walk: one application.) -/
theorem Tryz.bits_Len64 (x : Int) (w : World) (h0 : 0 ≤ x) (h1 : x ≤ 18446744073709551615) :
    Calls Tryz.prog 188 #[.int .u64 x] w fun e w' => e = .returned (.int .i64 (Lib.bitLen x.toNat)) ∧ w' = w := Any.bits_Len64 Tryz.lays129 x w h0 h1
def Tryz.lays264_ren : Go.Shelf.Ren := ⟨fun | 264 => 189 | n => n, fun | 53 => 28 | 46 => 54 | n => n, fun | n => n⟩
theorem Tryz.lays264 : Go.Proofs.Lays.n264 Tryz.prog Tryz.lays264_ren := {
  mixed := by kernel_rfl
  f264 := Tryz.func189.trans (congrArg some (by kernel_rfl))
  t46 := Tryz.underlying54
  a46 := Tryz.isAgg54
  z46 := Tryz.sizeOf54
  v46 := Tryz.zeroValue54
  t53 := Tryz.underlying28
  a53 := Tryz.isAgg28
  z53 := Tryz.sizeOf28
  v53 := Tryz.zeroValue28 }
open Go.RowKit Go.Lib in
theorem Tryz.bits_Mul64 (x y : Nat) (hx : x < 18446744073709551616) (hy : y < 18446744073709551616) (w : World) :
    Calls Tryz.prog 189 #[.int .u64 x, .int .u64 y] w fun e w' => e = .returned (.tuple #[.int .u64 ((x * y / 18446744073709551616 : Nat) : Int), .int .u64 ((x * y % 18446744073709551616 : Nat) : Int)]) ∧ w' = w := Any.bits_Mul64 Tryz.lays264 x y hx hy w
def Tryz.laysSlK4_ren : Go.Shelf.Ren := ⟨fun | 4 => 118 | n => n, fun | 22 => 94 | 4 => 4 | 5 => 5 | n => n, fun | n => n⟩
theorem Tryz.laysSlK4 : Go.Proofs.SlLaysK.n4 Tryz.prog Tryz.laysSlK4_ren := {
  mixed := by kernel_rfl
  f4 := Tryz.func118.trans (congrArg some (by kernel_rfl))
  t4 := Tryz.underlying4
  a4 := Tryz.isAgg4
  z4 := Tryz.sizeOf4
  v4 := Tryz.zeroValue4
  t22 := Tryz.underlying94
  a22 := Tryz.isAgg94
  z22 := Tryz.sizeOf94
  v22 := Tryz.zeroValue94
  t5 := Tryz.underlying5
  i5 := by kernel_rfl }
open Go.RowKit Go.Lib in
/-- bytes.Clone: "Clone returns a copy of b[:len(b)]. The result may have additional unused capacity.": OF A SLICE THAT IS NOT nil IT RETURNS A SLICE THAT IS NOT nil, OF THE SAME BYTES, IN MEMORY OF THE CALL's OWN: in the how-to's words (6f): 'w'.ownsRow B e 1 v' n cells' · 'Below B w w'', B the heap's size at the call. b AT WHATEVER ADDRESS, its cells as 'open_ints' hands them ('a.add i'; the numbers 'xs'). No byte: no cell is asked for. (LAID: no walk: one application.) -/
theorem Tryz.bytes_Clone_at (a : Addr) (n c : Nat) (xs : List Int) (w : World) (hx : xs.length = n) (hbig : n ≤ 140737488355328) (hc : ∀ i, i < n → w.cell? (a.add i) = some (.int .u8 (xs.getD i 0))) :
    Calls Tryz.prog 118 #[.slice (some a) n c] w fun e w' => ∃ v', e = .returned v' ∧ w'.ownsRow w.heap.size 5 1 v' n (xs.map (Value.int .u8)) ∧ v' ≠ .slice none 0 0 ∧ Below w.heap.size w w' := Any.bytes_Clone_at Tryz.laysSlK4 a n c xs w hx hbig hc
open Go.RowKit Go.Lib in
/-- "Clone(nil) returns nil.": the world is as it was. (LAID: no walk: one application.) -/
theorem Tryz.bytes_Clone_nil (n c : Nat) (w : World) :
    Calls Tryz.prog 118 #[.slice none n c] w fun e w' => e = .returned (.slice none 0 0) ∧ w' = w := Any.bytes_Clone_nil Tryz.laysSlK4 n c w
end Go.Proofs

/-! wide: Add, Sub, Cmp -/
namespace Go.Proofs.YtlfomhdphbchpaaGreatDoor.Wide
open Go.RowKit Go.Deep
set_option linter.unusedVariables false
set_option linter.unusedSimpArgs false
/-- six words -/
def six (f : Nat → Nat) : Array Value := ((List.range 6).map fun k => Value.int .u64 (f k : Nat)).toArray
theorem six_lit (f : Nat → Nat) : six f = #[.int .u64 (f 0 : Nat), .int .u64 (f 1 : Nat), .int .u64 (f 2 : Nat), .int .u64 (f 3 : Nat), .int .u64 (f 4 : Nat), .int .u64 (f 5 : Nat)] := rfl
theorem six_size (f : Nat → Nat) : (six f).size = 6 := by simp [six]
theorem six_get (f : Nat → Nat) {k : Nat} (h : k < 6) : (six f)[k]? = some (.int .u64 (f k : Nat)) := by
  have : k = 0 ∨ k = 1 ∨ k = 2 ∨ k = 3 ∨ k = 4 ∨ k = 5 := by omega
  rcases this with rfl | rfl | rfl | rfl | rfl | rfl <;> rfl
theorem six_ext {f g : Nat → Nat} (h : ∀ k, k < 6 → f k = g k) : six f = six g := by
  simp only [six_lit]; rw [h 0 (by omega), h 1 (by omega), h 2 (by omega), h 3 (by omega), h 4 (by omega), h 5 (by omega)]
theorem six_set (f : Nat → Nat) {k : Nat} (v : Nat) (h : k < 6) : (six f).setIfInBounds k (.int .u64 (v : Nat)) = six (fun j => if j = k then v else f j) := by
  have : k = 0 ∨ k = 1 ∨ k = 2 ∨ k = 3 ∨ k = 4 ∨ k = 5 := by omega
  rcases this with rfl | rfl | rfl | rfl | rfl | rfl <;> rfl
/-- a number as an array's parts -/
def enc (n : Nat) : Array Value := six (w n)
theorem add64_run (x y c : Nat) (hc : c ≤ 1) (w : World) : (callFunc 190 #[.int .u64 x, .int .u64 y, .int .u64 c]).run Tryz.prog w =
    .ok (.value (.tuple #[.int .u64 (((x + y + c) % 18446744073709551616 : Nat) : Int), .int .u64 (((x + y + c) / 18446744073709551616 : Nat) : Int)])) w := by
  rw [run_callFunc_extern Tryz.func190 (by kernel_rfl) (by kernel_rfl) (by kernel_rfl) (e := add64Entry) (by kernel_rfl), run_add64 x y c (by omega) (by omega) (by omega) (by omega)]
  simp only [Result.andThen]
  congr 5 <;> omega
theorem sub64_run (x y b : Nat) (hb : b ≤ 1) (w : World) : (callFunc 216 #[.int .u64 x, .int .u64 y, .int .u64 b]).run Tryz.prog w =
    .ok (.value (.tuple #[.int .u64 (((x + 18446744073709551616 - y - b) % 18446744073709551616 : Nat) : Int), .int .u64 ((if x < y + b then 1 else 0 : Nat) : Int)])) w := by
  rw [run_callFunc_extern Tryz.func216 (by kernel_rfl) (by kernel_rfl) (by kernel_rfl) (e := sub64Entry) (by kernel_rfl), run_sub64 x y b hb]
  rfl
theorem wp_region_tail {P : Program} {id : Nat} {Q : Exit → Act → World → Prop} {a : Act} {w : World} {l : List Oper} (n : Nat) (hm : P.follows .mixedOrders = true) (hB : Region.lexTailB .any l.toArray n = true)
    (h : wpStill P l.toArray w.drew (fun a' => wpList P l.toArray Q (l.drop n) a' w.drew) (l.take n) a) : (Code.region id l.toArray true).wp P Q a w := wp_region_still_tail n hm hB h
theorem wp_region_same {P : Program} {id : Nat} {Q : Exit → Act → World → Prop} {a : Act} {w : World} {l : List Oper} (hm : P.follows .mixedOrders = true) (hB : Region.lexB .any l.toArray = true)
    (h : wpStill P l.toArray w.drew (fun a' => Q .normal a' w.drew) l a) : (Code.region id l.toArray true).wp P Q a w := wp_region_still_lit hm hB h
theorem wpList_put {P : Program} {ops : Array Oper} {rest : List Oper} {o : Oper} {a : Act} {w : World} {Q : Exit → Act → World → Prop} (hgd : o.guard = none) (ty : TypeId) (x y : Operand) (ho : o.op = .store ty x y)
    (g : Nat) (cells : Array Value) (hx : a.eval x = .pointer (some ⟨g, 0, none⟩)) (hy : a.eval y = .agg cells) (t : TypeId) (old : Array Value) (hg : Blk w g t old) (hi : (P.info? ty).map (·.size) = some cells.size)
    (hold : old.size = cells.size) (h1 : cells.all (·.oneCell') = true)
    (h : ∀ W2, Blk W2 g t cells → (∀ g' t' cs, g' ≠ g → Blk w g' t' cs → Blk W2 g' t' cs) → (∀ B w0, B ≤ g → Below B w0 w → Below B w0 W2) → W2.heap.size = w.heap.size → (∀ p : Addr, p.block ≠ g → W2.cell? p = w.cell? p) → wpList P ops Q rest (a.put o.dst undef) W2) : wpList P ops Q (o :: rest) a w :=
  wpList_store_row hgd ty x y ho g cells hx hy t old hg hi hold h1 (h _ (setRow_heap w g old cells t (0, 0) hg) (fun g' t' cs hne hb => (setRow_other w g g' _ hne).trans hb) (fun B w0 hB hb => below_setRow hb hB _) (by simp) (fun p hp => cell_setRow_other w g cells p hp))
theorem six_all (f : Nat → Nat) : (six f).all (·.oneCell') = true := by rw [six_lit, Array.all_eq_true']; simp [Value.oneCell']
theorem Blk.new' {w : World} {g : Nat} {t : TypeId} {cs : Array Value} (h : g = w.heap.size) : Blk (w.alloc (.cells cs t)) g t cs := by subst h; exact Blk.new w t cs
set_option maxHeartbeats 4000000 in
set_option maxRecDepth 100000 in
theorem add_ok (a b : Nat) (W : World) :
    Calls Tryz.prog 185 #[.agg (enc a), .agg (enc b)] W fun e w' => e = .returned (.agg (enc (a + b))) ∧ Below W.heap.size W w' := by
  go_enter Tryz.func185, Tryz.ntmps185
  go_wp2_with fail
  go_loopw [5, 7] (fun c i wr => ∃ k : Nat, k ≤ 6 ∧ c = .int .u64 (carry a b k : Nat) ∧ i = .int .i64 k ∧ Below W.heap.size W wr ∧ Hid (Blk wr W.heap.size 246 (six fun j => if j < k then w (a + b) j else w a j)) ∧ Hid (Blk wr (W.heap.size + 1) 246 (enc b)) ∧ Hid (Blk wr (W.heap.size + 2) 246 (six fun _ => 0))) (fun _ i _ => 6 - (intOf i).toNat)
  case atStart =>
    exact ⟨0, by omega, by rw [carry_zero]; rfl, rfl, (((Below.refl _ _).alloc (Nat.le_refl _) _).alloc (by simp) _).alloc (by simp; omega) _, Lib.hid (((Blk.new _ _ _).alloc _).alloc _), Lib.hid ((Blk.new' (by simp)).alloc _), Lib.hid (Blk.new' (by simp))⟩
  case round =>
    obtain ⟨k, hk, rfl, rfl, hbl, HA, HB, HR⟩ := hrel
    by_cases hlt : k < 6
    · have ca := HA.out.cell k
      rw [six_get _ hlt] at ca
      simp only [Nat.lt_irrefl, if_false] at ca
      have cb := HB.out.cell k
      rw [enc, six_get _ hlt] at cb
      have fa := HA.out.frozen k
      have fb := HB.out.frozen k
      have hc := carry_le a b k
      go_wp2_with fail
      refine wp_region_store [0, 1, 2, 3, 4, 5, 6, 7, 8, 9, 10, 11, 12] 13 [14] (by kernel_rfl) (by kernel_rfl) ?_
      simp only [List.map_cons, List.map_nil, opAt, List.getElem?_cons_succ, List.getElem?_cons_zero, Option.getD_some]
      iterate 8 still_step
      refine wpStill_step (fun K hK => ?_)
      go_simp
      rw [add64_run _ _ _ hc]
      go_simp
      refine hK _ ?_
      clear hK K
      repeat still_step
      refine wpStill_nil ?_
      have hs := HA.out.set_ k (.int .u64 ((w a k + w b k + carry a b k) % 18446744073709551616 : Nat))
      rw [six_set _ _ hlt] at hs
      have ec : carry a b (k + 1) = (w a k + w b k + carry a b k) / 18446744073709551616 := carry_succ a b k
      have ew : w (a + b) k = (w a k + w b k + carry a b k) % 18446744073709551616 := w_add a b k
      have EC := Lib.hid ec
      have EW := Lib.hid ew
      clear ec ew
      go_wp2_with fail
      rw [onlyNormal_normal]
      go_wp2_with fail
      go_roundw
      case rel =>
        refine ⟨k + 1, by omega, by rw [EC.out]; congr 1, by go_num, hbl.drew.setCell (by simp) _, Lib.hid ?_, Lib.hid (HB.out.drew.far (by simp) _), Lib.hid (HR.out.drew.far (by simp) _)⟩
        have e : (six fun j => if j < k + 1 then w (a + b) j else w a j) = six (fun j => if j = k then (w a k + w b k + carry a b k) % 18446744073709551616 else if j < k then w (a + b) j else w a j) := by
          refine six_ext fun j hj => ?_
          rcases Nat.lt_trichotomy j k with h | h | h
          · rw [if_pos (by omega), if_neg (by omega), if_pos h]
          · subst h; rw [if_pos (by omega), if_pos rfl, EW.out]
          · rw [if_neg (by omega), if_neg (by omega), if_neg (by omega)]
        rw [e]
        exact hs
      case measure => simp [intOf]; omega
    · have hk6 : k = 6 := by omega
      subst hk6
      have HS : Hid (Blk wr W.heap.size 246 (enc (a + b))) := Lib.hid (by rw [enc, six_ext (g := fun j => if j < 6 then w (a + b) j else w a j) (fun j hj => by rw [if_pos hj])]; exact HA.out)
      clear HA
      go_wp2_with (first
        | (refine wpList_load_row rfl 246 (.tmp 2) rfl W.heap.size rfl 246 (enc (a + b)) (0, 0) _ HS.out Tryz.underlying246 rfl (by kernel_rfl) ?_)
        | (refine wpList_put rfl 246 (.tmp 4) (.tmp 24) rfl (W.heap.size + 2) (enc (a + b)) rfl rfl 246 _ HR.out (by kernel_rfl) (by rw [enc, six_size, six_size]) (six_all _) ?_
           intro W2 HB2 hfar2 hbel2 hsz2 hcell2))
      exact bodyPost_ret (results_cell_row rfl _ W2 (W.heap.size + 2) 246 (enc (a + b)) (0, 0) _ rfl HB2 Tryz.underlying246 rfl (by kernel_rfl)) rfl ⟨rfl, hbel2 _ _ (by omega) hbl⟩
/-- Sub64 at the words of two numbers -/
theorem sub64_at {a b : Nat} (hab : b ≤ a) (k : Nat) (W : World) : (callFunc 216 #[.int .u64 (w a k : Nat), .int .u64 (w b k : Nat), .int .u64 (carry (a - b) b k : Nat)]).run Tryz.prog W =
    .ok (.value (.tuple #[.int .u64 (w (a - b) k : Nat), .int .u64 (carry (a - b) b (k + 1) : Nat)])) W := by
  have st := sub_step (i := k) hab
  have l1 := w_lt (a - b) k
  have l2 := w_lt b k
  have l3 := w_lt a k
  have l4 := carry_le (a - b) b (k + 1)
  have l5 := carry_le (a - b) b k
  have ec : (if w a k < w b k + carry (a - b) b k then 1 else 0) = carry (a - b) b (k + 1) := by
    unfold B at st l1 l2 l3; split <;> omega
  have ew : (w a k + 18446744073709551616 - w b k - carry (a - b) b k) % 18446744073709551616 = w (a - b) k := by
    unfold B at st l1 l2 l3; omega
  rw [sub64_run _ _ _ l5, ec, ew]
set_option maxHeartbeats 4000000 in
set_option maxRecDepth 100000 in
theorem sub_ok (a b : Nat) (hab : b ≤ a) (W : World) :
    Calls Tryz.prog 187 #[.agg (enc a), .agg (enc b)] W fun e w' => e = .returned (.agg (enc (a - b))) ∧ Below W.heap.size W w' := by
  go_enter Tryz.func187, Tryz.ntmps187
  go_wp2_with fail
  go_loopw [5, 7] (fun c i wr => ∃ k : Nat, k ≤ 6 ∧ c = .int .u64 (carry (a - b) b k : Nat) ∧ i = .int .i64 k ∧ Below W.heap.size W wr ∧ Hid (Blk wr W.heap.size 246 (six fun j => if j < k then w (a - b) j else w a j)) ∧ Hid (Blk wr (W.heap.size + 1) 246 (enc b)) ∧ Hid (Blk wr (W.heap.size + 2) 246 (six fun _ => 0))) (fun _ i _ => 6 - (intOf i).toNat)
  case atStart =>
    exact ⟨0, by omega, by rw [carry_zero]; rfl, rfl, (((Below.refl _ _).alloc (Nat.le_refl _) _).alloc (by simp) _).alloc (by simp; omega) _, Lib.hid (((Blk.new _ _ _).alloc _).alloc _), Lib.hid ((Blk.new' (by simp)).alloc _), Lib.hid (Blk.new' (by simp))⟩
  case round =>
    obtain ⟨k, hk, rfl, rfl, hbl, HA, HB, HR⟩ := hrel
    by_cases hlt : k < 6
    · have ca := HA.out.cell k
      rw [six_get _ hlt] at ca
      simp only [Nat.lt_irrefl, if_false] at ca
      have cb := HB.out.cell k
      rw [enc, six_get _ hlt] at cb
      have fa := HA.out.frozen k
      have fb := HB.out.frozen k
      have hc := carry_le (a - b) b k
      go_wp2_with fail
      refine wp_region_store [0, 1, 2, 3, 4, 5, 6, 7, 8, 9, 10, 11, 12] 13 [14] (by kernel_rfl) (by kernel_rfl) ?_
      simp only [List.map_cons, List.map_nil, opAt, List.getElem?_cons_succ, List.getElem?_cons_zero, Option.getD_some]
      iterate 8 still_step
      refine wpStill_step (fun K hK => ?_)
      go_simp
      rw [sub64_at hab]
      go_simp
      refine hK _ ?_
      clear hK K
      repeat still_step
      refine wpStill_nil ?_
      have hs := HA.out.set_ k (.int .u64 (w (a - b) k : Nat))
      rw [six_set _ _ hlt] at hs
      go_wp2_with fail
      rw [onlyNormal_normal]
      go_wp2_with fail
      go_roundw
      case rel =>
        refine ⟨k + 1, by omega, rfl, by go_num, hbl.drew.setCell (by simp) _, Lib.hid ?_, Lib.hid (HB.out.drew.far (by simp) _), Lib.hid (HR.out.drew.far (by simp) _)⟩
        have e : (six fun j => if j < k + 1 then w (a - b) j else w a j) = six (fun j => if j = k then w (a - b) k else if j < k then w (a - b) j else w a j) := by
          refine six_ext fun j hj => ?_
          rcases Nat.lt_trichotomy j k with h | h | h
          · rw [if_pos (by omega), if_neg (by omega), if_pos h]
          · subst h; rw [if_pos (by omega), if_pos rfl]
          · rw [if_neg (by omega), if_neg (by omega), if_neg (by omega)]
        rw [e]
        exact hs
      case measure => simp [intOf]; omega
    · have hk6 : k = 6 := by omega
      subst hk6
      have HS : Hid (Blk wr W.heap.size 246 (enc (a - b))) := Lib.hid (by rw [enc, six_ext (g := fun j => if j < 6 then w (a - b) j else w a j) (fun j hj => by rw [if_pos hj])]; exact HA.out)
      clear HA
      go_wp2_with (first
        | (refine wpList_load_row rfl 246 (.tmp 2) rfl W.heap.size rfl 246 (enc (a - b)) (0, 0) _ HS.out Tryz.underlying246 rfl (by kernel_rfl) ?_)
        | (refine wpList_put rfl 246 (.tmp 4) (.tmp 24) rfl (W.heap.size + 2) (enc (a - b)) rfl rfl 246 _ HR.out (by kernel_rfl) (by rw [enc, six_size, six_size]) (six_all _) ?_
           intro W2 HB2 hfar2 hbel2 hsz2 hcell2))
      exact bodyPost_ret (results_cell_row rfl _ W2 (W.heap.size + 2) 246 (enc (a - b)) (0, 0) _ rfl HB2 Tryz.underlying246 rfl (by kernel_rfl)) rfl ⟨rfl, hbel2 _ _ (by omega) hbl⟩
end Go.Proofs.YtlfomhdphbchpaaGreatDoor.Wide

/-! wide: Cmp -/
namespace Go.Proofs.YtlfomhdphbchpaaGreatDoor.Wide
open Go.RowKit Go.Deep
set_option linter.unusedVariables false
set_option linter.unusedSimpArgs false
def cmpv (a b : Nat) : Int := if a < b then -1 else if b < a then 1 else 0
theorem enc_cell {W : World} {g : Nat} {t : TypeId} {n : Nat} (h : Blk W g t (enc n)) {k : Nat} (hk : k < 6) : W.cell? ⟨g, k, none⟩ = some (.int .u64 (w n k : Nat)) := by
  rw [h.cell k, enc, six_get _ hk]
set_option maxHeartbeats 4000000 in
set_option maxRecDepth 100000 in
theorem cmp_ok (a b : Nat) (ha : a < P 6) (hb : b < P 6) (W : World) :
    Calls Tryz.prog 186 #[.agg (enc a), .agg (enc b)] W fun e w' => e = .returned (.int .i64 (cmpv a b)) ∧ Below W.heap.size W w' := by
  go_enter Tryz.func186, Tryz.ntmps186
  go_wp2_with fail
  go_loopw [5] (fun i wr => ∃ k : Nat, k ≤ 6 ∧ i = .int .i64 ((k : Int) - 1) ∧ Hid (a / P k = b / P k) ∧ Below W.heap.size W wr ∧ Hid (Blk wr W.heap.size 246 (enc a)) ∧ Hid (Blk wr (W.heap.size + 1) 246 (enc b))) (fun i _ => (intOf i + 1).toNat)
  case atStart =>
    exact ⟨6, by omega, rfl, Lib.hid (by rw [top_zero ha, top_zero hb]), ((Below.refl _ _).alloc (Nat.le_refl _) _).alloc (by simp) _, Lib.hid ((Blk.new _ _ _).alloc _), Lib.hid (Blk.new' (by simp))⟩
  case round =>
    obtain ⟨k, hk, rfl, HE, hbl, HA, HB⟩ := hrel
    cases k with
    | zero =>
      go_wp2_with fail
      have e := eq_of_zero HE.out
      refine bodyPost_ret (results_tmp rfl _ _ _) rfl ⟨?_, hbl⟩
      subst e
      simp [cmpv]
    | succ k =>
      have hlt : k < 6 := by omega
      have hi : ((k + 1 : Nat) : Int) - 1 = (k : Int) := by omega
      rw [hi]
      clear hi
      have hki : (k : Int) < 6 := by omega
      have ca := enc_cell HA.out hlt
      have cb := enc_cell HB.out hlt
      have l1 := w_lt a k
      have l2 := w_lt b k
      unfold B at l1 l2
      go_wp2_with fail
      rcases Nat.lt_trichotomy (w a k) (w b k) with h | h | h
      · refine wp_region_same (by kernel_rfl) (by kernel_rfl) ?_
        repeat still_step
        refine wpStill_nil ?_
        go_wp2_with fail
        rw [show cmpv a b = -1 from by rw [cmpv, if_pos (cmp_lt HE.out h)]]
        exact bodyPost_ret (results_tmp rfl _ _ _) rfl ⟨rfl, hbl.drew⟩
      · refine wp_region_same (by kernel_rfl) (by kernel_rfl) ?_
        repeat still_step
        refine wpStill_nil ?_
        go_wp2_with fail
        refine wp_region_same (by kernel_rfl) (by kernel_rfl) ?_
        repeat still_step
        refine wpStill_nil ?_
        go_wp2_with fail
        go_roundw
        case rel => exact ⟨k, by omega, by go_num, Lib.hid (cmp_eq HE.out h), hbl.drew.drew, Lib.hid HA.out.drew.drew, Lib.hid HB.out.drew.drew⟩
        case measure => simp [intOf]
      · have h' : ¬ w a k < w b k := by omega
        refine wp_region_same (by kernel_rfl) (by kernel_rfl) ?_
        repeat still_step
        refine wpStill_nil ?_
        go_wp2_with fail
        refine wp_region_same (by kernel_rfl) (by kernel_rfl) ?_
        repeat still_step
        refine wpStill_nil ?_
        go_wp2_with fail
        have h2 := cmp_lt HE.out.symm h
        rw [show cmpv a b = 1 from by rw [cmpv, if_neg (by omega), if_pos h2]]
        exact bodyPost_ret (results_tmp rfl _ _ _) rfl ⟨rfl, hbl.drew.drew⟩
end Go.Proofs.YtlfomhdphbchpaaGreatDoor.Wide

/-! wide: Len -/
namespace Go.Proofs.YtlfomhdphbchpaaGreatDoor.Wide
open Go.RowKit Go.Deep
set_option linter.unusedVariables false
set_option linter.unusedSimpArgs false
theorem bits_same : ∀ (k n : Nat), k ≤ 64 → n < 2 ^ k → Lib.bitLen n = Go.bitLen n := by
  intro k
  induction k with
  | zero => intro n _ h; have : n = 0 := by simpa using h
            subst this; rfl
  | succ k ih =>
    intro n hk h
    by_cases h0 : n = 0
    · subst h0; rfl
    · have h64 : n < 2 ^ 64 := Nat.lt_of_lt_of_le h (Nat.pow_le_pow_right (by decide) hk)
      have h2 : n / 2 < 2 ^ k := by rw [Nat.pow_succ] at h; omega
      rw [Lib.bitLen_half n h0 h64, ih (n / 2) (by omega) h2]
      unfold Go.bitLen
      rw [if_neg h0]
      by_cases h1 : n / 2 = 0
      · rw [if_pos h1]
        have : n = 1 := by omega
        subst this; rfl
      · rw [if_neg h1, Nat.log2_def n, if_pos (by omega)]; omega
theorem len64_still (n : Nat) (h : n < 18446744073709551616) (W : World) : Calls Tryz.prog 188 #[.int .u64 (n : Nat)] W fun e w' => e = .returned (.int .i64 (Go.bitLen n : Nat)) ∧ w' = W := by
  have := Tryz.bits_Len64 (n : Nat) W (by omega) (by omega)
  rwa [Int.toNat_natCast, bits_same 64 n (by omega) h] at this
set_option maxHeartbeats 4000000 in
set_option maxRecDepth 100000 in
theorem len_ok (a : Nat) (ha : a < P 6) (W : World) :
    Calls Tryz.prog 147 #[.agg (enc a)] W fun e w' => e = .returned (.int .i64 (Go.bitLen a : Nat)) ∧ Below W.heap.size W w' := by
  go_enter Tryz.func147, Tryz.ntmps147
  go_wp2_with fail
  go_loopw [3] (fun i wr => ∃ k : Nat, k ≤ 6 ∧ i = .int .i64 ((k : Int) - 1) ∧ Hid (a / P k = 0) ∧ Below W.heap.size W wr ∧ Hid (Blk wr W.heap.size 246 (enc a))) (fun i _ => (intOf i + 1).toNat)
  case atStart =>
    exact ⟨6, by omega, rfl, Lib.hid (top_zero ha), (Below.refl _ _).alloc (Nat.le_refl _) _, Lib.hid (Blk.new _ _ _)⟩
  case round =>
    obtain ⟨k, hk, rfl, HE, hbl, HA⟩ := hrel
    cases k with
    | zero =>
      go_wp2_with fail
      have e : a = 0 := by have := HE.out; rwa [P_zero, Nat.div_one] at this
      refine bodyPost_ret (results_tmp rfl _ _ _) rfl ⟨?_, hbl⟩
      subst e
      rfl
    | succ k =>
      have hlt : k < 6 := by omega
      have hi : ((k + 1 : Nat) : Int) - 1 = (k : Int) := by omega
      rw [hi]
      clear hi
      have hki : (k : Int) < 6 := by omega
      have ca := enc_cell HA.out hlt
      have l1 := w_lt a k
      unfold B at l1
      by_cases h0 : w a k = 0
      · have hz : ¬ (0 : Int) < (w a k : Nat) := by omega
        go_wp2_with fail
        go_roundw
        case rel => exact ⟨k, by omega, by go_num, Lib.hid (len_miss HE.out h0), hbl, HA⟩
        case measure => simp [intOf]
      · have hz : (0 : Int) < (w a k : Nat) := by omega
        have hl := len_hit HE.out h0
        have HL := Lib.hid hl
        clear hl
        go_wp2_with fail
        refine (len64_still _ l1 _).mono ?_
        rintro e w1 ⟨rfl, rfl⟩
        have l2 : Go.bitLen (w a k) ≤ 64 := bitLen_lt (by rw [← show (18446744073709551616 : Nat) = 2 ^ 64 from by decide]; exact l1)
        have hw2 : IntKind.i64.wrap (64 * (k : Int) + (Go.bitLen (w a k) : Nat)) = ((64 * k + Go.bitLen (w a k) : Nat) : Int) := by rw [IntWalk.i64_in _ (by omega)]; omega
        go_wp2_with fail
        rw [HL.out]
        exact bodyPost_ret (results_tmp rfl _ _ _) rfl ⟨by first | rfl | (simp; done) | (go_simp; done), hbl⟩
end Go.Proofs.YtlfomhdphbchpaaGreatDoor.Wide

/-! wide: Left -/
namespace Go.Proofs.YtlfomhdphbchpaaGreatDoor.Wide
open Go.RowKit Go.Deep
set_option linter.unusedVariables false
set_option linter.unusedSimpArgs false
theorem pow_split (q s : Nat) : 2 ^ (64 * q + s) = P q * 2 ^ s := by rw [P_two, ← Nat.pow_add]
theorem left_low (a : Nat) {q s j : Nat} (h : j < q) : w (a * 2 ^ (64 * q + s)) j = 0 := by rw [pow_split]; exact w_left_low h _
theorem left_first (a : Nat) {q s : Nat} : w (a * 2 ^ (64 * q + s)) q = w a 0 * 2 ^ s % B := by
  have := w_shift a q 0 (2 ^ s)
  rw [Nat.add_zero] at this
  rw [pow_split, this]; unfold w; rw [P_zero, Nat.div_one, Nat.div_one, Nat.mod_mul_mod]
theorem left_next (a : Nat) {q s d : Nat} (hs : s < 64) : w (a * 2 ^ (64 * q + s)) (q + (d + 1)) = w a (d + 1) * 2 ^ s % B + w a d / 2 ^ (64 - s) := by
  rw [pow_split, w_shift, w_bits (by omega)]
theorem and63 (n : Nat) (h : n < 9223372036854775808) : bits .and .i64 (n : Int) 63 = ((n % 64 : Nat) : Int) := by
  have := i64_and_nat n 63 h (by decide)
  rw [show ((63 : Nat) : Int) = 63 from rfl] at this
  rw [this, show (63 : Nat) = 2 ^ 6 - 1 from rfl, Nat.and_two_pow_sub_one_eq_mod]
theorem u64_or_nat (a b : Nat) (ha : a < 18446744073709551616) (hb : b < 18446744073709551616) : bits .or .u64 (a : Int) (b : Int) = ((a ||| b : Nat) : Int) := by
  have h : a ||| b < 2 ^ 64 := Nat.or_lt_two_pow (by omega) (by omega)
  show IntKind.u64.wrap ((BitVec.ofInt 64 (a : Int) ||| BitVec.ofInt 64 (b : Int)).toNat : Int) = _
  rw [BitVec.ofInt_natCast, BitVec.ofInt_natCast, BitVec.toNat_or, BitVec.toNat_ofNat, BitVec.toNat_ofNat, Nat.mod_eq_of_lt (by omega), Nat.mod_eq_of_lt (by omega)]
  exact IntWalk.u64_in _ (by omega)
theorem or_fill (x y s : Nat) (hs : s < 64) (hy : y < B) : bits .or .u64 ((x * 2 ^ s % B : Nat) : Int) ((y / 2 ^ (64 - s) : Nat) : Int) = ((x * 2 ^ s % B + y / 2 ^ (64 - s) : Nat) : Int) := by
  have hB : B = 2 ^ s * 2 ^ (64 - s) := by rw [← Nat.pow_add]; unfold B; rw [show s + (64 - s) = 64 by omega]
  have h3 : 0 < 2 ^ (64 - s) := Nat.pow_pos (by decide)
  have hy2 : y / 2 ^ (64 - s) < 2 ^ s := by rw [Nat.div_lt_iff_lt_mul h3, ← hB]; exact hy
  have hx : x * 2 ^ s % B = 2 ^ s * (x % 2 ^ (64 - s)) := by rw [hB, Nat.mul_comm x, Nat.mul_mod_mul_left]
  have h1 : x * 2 ^ s % B < B := Nat.mod_lt _ B_pos
  have h2 : y / 2 ^ (64 - s) < B := Nat.lt_of_le_of_lt (Nat.div_le_self _ _) hy
  rw [u64_or_nat _ _ (by unfold B at h1; exact h1) (by unfold B at h2; exact h2), hx, Nat.two_pow_add_eq_or_of_lt hy2]
set_option maxHeartbeats 4000000 in
set_option maxRecDepth 100000 in
theorem left_ok (a q s : Nat) (hq : q < 6) (hs : s < 64) (W : World) :
    Calls Tryz.prog 192 #[.agg (enc a), .int .i64 ((64 * q + s : Nat) : Int)] W fun e w' => e = .returned (.agg (enc (a * 2 ^ (64 * q + s)))) ∧ Below W.heap.size W w' := by
  obtain ⟨n, hn⟩ : ∃ n : Nat, n = 64 * q + s := ⟨_, rfl⟩
  obtain ⟨r, hr⟩ : ∃ r : Nat, r = a * 2 ^ (64 * q + s) := ⟨_, rfl⟩
  have e1 : (n : Int) / 64 = (q : Int) := by omega
  have e2 : bits .and .i64 (n : Int) 63 = (s : Int) := by rw [and63 n (by omega)]; omega
  have e3 : IntKind.u64.wrap (s : Int) = (s : Int) := IntWalk.u64_in _ (by omega)
  have hnb : n < 384 := by omega
  rw [← hr, ← hn]
  have HN := Lib.hid hn
  have HR := Lib.hid hr
  clear hn hr
  go_enter Tryz.func192, Tryz.ntmps192
  go_wp2_with fail
  clear e1 e2 e3
  go_loopw [8] (fun i wr => ∃ k : Nat, k ≤ 6 ∧ q ≤ k ∧ i = .int .i64 ((k : Int) - 1) ∧ Below W.heap.size W wr ∧ Hid (Blk wr W.heap.size 246 (enc a)) ∧ Hid (Blk wr (W.heap.size + 1) 246 (six fun _ => 0)) ∧ Hid (Blk wr (W.heap.size + 2) 246 (six fun j => if k ≤ j then w r j else 0))) (fun i _ => (intOf i + 1).toNat)
  case atStart =>
    exact ⟨6, by omega, by omega, rfl, (((Below.refl _ _).alloc (Nat.le_refl _) _).alloc (by simp) _).alloc (by simp; omega) _, Lib.hid (((Blk.new _ _ _).alloc _).alloc _), Lib.hid ((Blk.new' (by simp)).alloc _), Lib.hid (Blk.new' (by simp))⟩
  case round =>
    obtain ⟨k, hk, hqk, rfl, hbl, HA, HZ, HC⟩ := hrel
    by_cases hlt : q < k
    · obtain ⟨d, rfl⟩ : ∃ d, k = q + d + 1 := ⟨k - q - 1, by omega⟩
      have hi : ((q + d + 1 : Nat) : Int) - 1 = ((q + d : Nat) : Int) := by omega
      rw [hi]
      clear hi
      have ei : ((q + d : Nat) : Int) - (q : Int) = (d : Int) := by omega
      have hki : ((q + d : Nat) : Int) < 6 := by omega
      have hge : decide (q ≤ q + d) = true := by simp
      have hd6 : d < 6 := by omega
      have hiq : q + d < 6 := by omega
      have ca := enc_cell HA.out hd6
      obtain ⟨i, hi⟩ : ∃ i : Nat, i = q + d := ⟨_, rfl⟩
      rw [← hi] at ei hki hge hiq ⊢
      have HI := Lib.hid hi
      have l1 := w_lt a d
      have fc := HC.out.frozen i
      have cc := HC.out.cell i
      rw [six_get _ hiq] at cc
      have hset := fun (v : Nat) => HC.out.set_ i (.int .u64 (v : Nat))
      have ewr : ∀ v : Nat, v = w r i → (six fun j => if q + d + 1 ≤ j then w r j else 0).setIfInBounds i (.int .u64 (v : Nat)) = six fun j => if i ≤ j then w r j else 0 := fun v hv => by
        rw [six_set _ _ hiq]
        refine six_ext fun j hj => ?_
        rcases Nat.lt_trichotomy j i with h | h | h
        · rw [if_neg (by omega), if_neg (by omega), if_neg (by omega)]
        · subst h; rw [if_pos rfl, if_pos (Nat.le_refl _), hv]
        · rw [if_neg (by omega), if_pos (by omega), if_pos (by omega)]
      have esh : IntKind.u64.wrap ((w a d : Nat) * 2 ^ s) = ((w a d * 2 ^ s % B : Nat) : Int) := by
        rw [show ((w a d : Nat) : Int) * 2 ^ s = ((w a d * 2 ^ s : Nat) : Int) by simp]
        simp only [IntKind.wrap_u64]; unfold B; omega
      have ESH := Lib.hid esh
      have hlow : w a d * 2 ^ s % B < B := Nat.mod_lt _ B_pos
      obtain ⟨v, hv⟩ : ∃ v : Nat, v = w a d * 2 ^ s % B := ⟨_, rfl⟩
      rw [← hv] at hlow
      by_cases h1 : s = 0 ∨ d = 0
      · have hw : v = w r i := by
          rw [hv, HR.out, hi]
          rcases h1 with rfl | rfl
          · cases d with
            | zero => rw [Nat.add_zero q, left_first]
            | succ d => rw [left_next a (by omega)]; have : w a d / 2 ^ (64 - 0) = 0 := Nat.div_eq_of_lt (by have := w_lt a d; simpa [B] using this)
                        omega
          · rw [Nat.add_zero q, left_first]
        have HS := Lib.hid (ewr v hw)
        have hdec : decide (0 < s) = false ∨ (decide (0 < s) = true ∧ decide (q < i) = false) := by
          rcases h1 with rfl | rfl
          · exact .inl rfl
          · rcases Nat.eq_zero_or_pos s with h0 | h0
            · exact .inl (by simpa using h0)
            · exact .inr ⟨by simpa using h0, by simpa using (by omega : i ≤ q)⟩
        clear hi hw ewr hset esh
        unfold B at l1 hlow
        have e0 : IntKind.u64.wrap ((w a d : Nat) * 2 ^ s) = (v : Int) := by rw [ESH.out, hv]
        clear hv
        rcases hdec with hdec | ⟨hdec, hdec'⟩
        all_goals
          go_wp2_with fail
          go_roundw
          case rel => exact ⟨i, by omega, by omega, by go_num, hbl.setCell (by simp; omega) _, Lib.hid (HA.out.far (by simp; omega) _), Lib.hid (HZ.out.far (by simp) _), Lib.hid (by have := HC.out.set_ i (.int .u64 (v : Nat)); rw [HS.out] at this; exact this)⟩
          case measure => simp [intOf]
      · have h2 : 0 < s := by omega
        obtain ⟨d, rfl⟩ : ∃ d', d = d' + 1 := ⟨d - 1, by omega⟩
        have hdec : decide (0 < s) = true := by simpa using h2
        have hdec' : decide (q < i) = true := by simpa using (by omega : q < i)
        have hw : v + w a d / 2 ^ (64 - s) = w r i := by rw [hv, HR.out, hi, left_next a (by omega)]
        have l2 := w_lt a d
        have hd5 : d < 6 := by omega
        have ca' := enc_cell HA.out hd5
        have ej : ((d + 1 : Nat) : Int) - 1 = (d : Int) := by omega
        have es : IntKind.u64.wrap (64 - (s : Int)) = ((64 - s : Nat) : Int) := by rw [IntWalk.u64_in _ (by omega)]; omega
        have e0 : IntKind.u64.wrap ((w a (d + 1) : Nat) * 2 ^ s) = (v : Int) := by rw [ESH.out, hv]
        obtain ⟨x, hx⟩ : ∃ x : Nat, x = w a d / 2 ^ (64 - s) := ⟨_, rfl⟩
        obtain ⟨z, hz⟩ : ∃ z : Nat, z = v + x := ⟨_, rfl⟩
        rw [← hx, ← hz] at hw
        have HS := Lib.hid (ewr z hw)
        have ex : ((w a d : Nat) : Int) / 2 ^ (64 - s) = (x : Int) := by rw [hx]; simp
        have eo : bits .or .u64 (v : Int) (x : Int) = (z : Int) := by
          have := or_fill (w a (d + 1)) (w a d) s hs l2
          rw [← hv, ← hx, ← hz] at this
          exact this
        clear hx hz
        have HV := Lib.hid hv
        clear hi hw ewr hset esh hv
        unfold B at l1 hlow l2
        go_wp2_with fail
        have ew1 : IntKind.i64.wrap ((d : Int) + 1) = (d : Int) + 1 := IntWalk.i64_in _ (by omega)
        have ew2 : IntKind.i64.wrap (d : Int) = (d : Int) := IntWalk.i64_in _ (by omega)
        have hd5' : (d : Int) < 6 := by omega
        refine wp_region_last [0, 1, 2, 3, 4, 5, 6, 7, 8, 9, 10, 11, 12, 13] 14 (by kernel_rfl) (by kernel_rfl) ?_
        simp only [List.map_cons, List.map_nil, opAt, List.getElem?_cons_succ, List.getElem?_cons_zero, Option.getD_some]
        repeat still_step
        refine wpStill_nil ?_
        go_wp2_with fail
        rw [onlyNormal_normal]
        go_wp2_with fail
        go_roundw
        case rel => exact ⟨i, by omega, by omega, by go_num, ((hbl.setCell (by simp; omega) _).setCell (by simp; omega) _).drew, Lib.hid ((HA.out.far (by simp; omega) _).far (by simp; omega) _).drew, Lib.hid ((HZ.out.far (by simp) _).far (by simp) _).drew, Lib.hid (by have := (HC.out.set_ i (.int .u64 (v : Nat))).set_ i (.int .u64 (z : Nat)); rw [Array.setIfInBounds_setIfInBounds, HS.out] at this; exact this.drew)⟩
        case measure => simp [intOf]
    · obtain rfl : q = k := by omega
      have hge : decide ((q : Int) ≤ ((q : Nat) : Int) - 1) = false := by simp; omega
      have HS : Hid (Blk wr (W.heap.size + 2) 246 (enc r)) := Lib.hid (by
        rw [enc, six_ext (g := fun j => if q ≤ j then w r j else 0) (fun j hj => ?_)]
        · exact HC.out
        · by_cases h : q ≤ j
          · rw [if_pos h]
          · rw [if_neg h, HR.out, left_low a (by omega)])
      clear HC
      go_wp2_with (first
        | (refine wpList_load_row rfl 246 (.tmp 5) rfl (W.heap.size + 2) rfl 246 (enc r) (0, 0) _ HS.out Tryz.underlying246 rfl (by kernel_rfl) ?_)
        | (refine wpList_put rfl 246 (.tmp 4) (.tmp 49) rfl (W.heap.size + 1) (enc r) rfl rfl 246 _ HZ.out (by kernel_rfl) (by rw [enc, six_size, six_size]) (six_all _) ?_
           intro W2 HB2 hfar2 hbel2 hsz2 hcell2))
      exact bodyPost_ret (results_cell_row rfl _ W2 (W.heap.size + 1) 246 (enc r) (0, 0) _ rfl HB2 Tryz.underlying246 rfl (by kernel_rfl)) rfl ⟨rfl, hbel2 _ _ (by omega) hbl⟩
end Go.Proofs.YtlfomhdphbchpaaGreatDoor.Wide
