/- Lemmas of a claim: EvE, EvF, EvG, EvL, EvK -/
import Derived.Test.YtkdnebalpdebeaaGreatDoorG17
import Derived.Test.YtkdnebalpdebeaaGreatDoorG02
import Derived.Laws.Tables
import Derived.Laws.CopyOwn
import Derived.DeepKeys
set_option linter.unusedVariables false
set_option linter.unusedSimpArgs false
set_option maxHeartbeats 16000000
set_option maxRecDepth 100000
namespace Go.Proofs.YtkdnebalpdebeaaGreatDoor
namespace Event
open Go.RowKit Go.Deep Go.Proofs.YtkdnebalpdebeaaGreatDoor Pack
section
variable {ops : Array Oper} {rest : List Oper} {o : Oper} {a : Act} {Q : Exit -> Act -> World -> Prop}
end
end Event
namespace Event
open Go.RowKit Go.Deep Go.Proofs.YtkdnebalpdebeaaGreatDoor Pack
def rest (xs : List Int) : List Int := xs.drop (rdU xs).2.1.toNat
def bads (xs : List Int) (bad : Bool) : Bool := bad || ((rdU xs).2.2 != 0)
end Event
namespace Event
open Go.RowKit Go.Deep Go.Proofs.YtkdnebalpdebeaaGreatDoor Pack
def rs : Nat -> List Int -> List Int
 | 0, xs => xs
 | i + 1, xs => rest (rs i xs)
def bd (bad : Bool) (xs : List Int) : Nat -> Bool
 | 0 => bad
 | i + 1 => bads (rs i xs) (bd bad xs i)
def pad (l : List Int) : List Int := l ++ List.replicate (8 - l.length) 0
theorem pad_len {l : List Int} (h : l.length <= 8) : (pad l).length = 8 := by unfold pad; simp; omega
theorem wpList_put {P : Program} {ops : Array Oper} {rest : List Oper} {o : Oper} {a : Act} {w : World} {Q : Exit -> Act -> World -> Prop} (hgd : o.guard = none) (ty : TypeId) (x y : Operand) (ho : o.op = .store ty x y)
 (g : Nat) (cells : Array Value) (hx : a.eval x = .pointer (some ⟨g, 0, none⟩)) (hy : a.eval y = .agg cells) (t : TypeId) (old : Array Value) (hg : Blk w g t old) (hi : (P.info? ty).map (·.size) = some cells.size)
 (hold : old.size = cells.size) (h1 : cells.all (·.oneCell') = true)
 (h : ∀ W2, Blk W2 g t cells -> (∀ g' t' cs, g' ≠ g -> Blk w g' t' cs -> Blk W2 g' t' cs) -> (∀ B w0, B <= g -> Below B w0 w -> Below B w0 W2) -> W2.heap.size = w.heap.size -> (∀ p : Addr, p.block ≠ g -> W2.cell? p = w.cell? p) -> wpList P ops Q rest (a.put o.dst undef) W2) : wpList P ops Q (o :: rest) a w :=
 wpList_store_row hgd ty x y ho g cells hx hy t old hg hi hold h1 (h _ (setRow_heap w g old cells t (0, 0) hg) (fun g' t' cs hne hb => (setRow_other w g g' _ hne).trans hb) (fun B w0 hB hb => below_setRow hb hB _) (by simp) (fun p hp => cell_setRow_other w g cells p hp))
theorem wpList_built {P : Program} {ops : Array Oper} {rest : List Oper} {o : Oper} {a : Act} {w : World} {Q : Exit -> Act -> World -> Prop} (hg : o.guard = none) (t : TypeId) (parts : Array (Nat × Operand)) (ho : o.op = .build t parts) (v : Array Value)
 (hf : P.built t (parts.map fun (i, x) => (i, a.eval x)).toList = some v) (h : wpList P ops Q rest (a.put o.dst (.agg v)) w) : wpList P ops Q (o :: rest) a w :=
 wpList_build hg t parts ho (by rw [hf]; rfl) (by rw [hf]; exact h)
end Event
namespace Event
open Go.RowKit Go.Deep Go.Proofs.YtkdnebalpdebeaaGreatDoor Pack
theorem mapM_some' {α β : Type} {f : α -> Option β} {g : α -> β} : ∀ (l : List α), (∀ x ∈ l, f x = some (g x)) -> l.mapM f = some (l.map g)
 | [], _ => rfl
 | x :: r, h => by
   rw [List.mapM_cons, h x (by simp), mapM_some' r fun y hy => h y (by simp [hy])]
   rfl
theorem i64_wf {x : Int} (h : -9223372036854775808 <= x /\ x <= 9223372036854775807) : (Lit.int .i64 x).wf = true := by
 simp [Lit.wf, IntKind.min, IntKind.max, IntKind.signed, IntKind.bits]
 omega
theorem keyLits8 (xs : List Int) (h : xs.length = 8) (hb : I64 xs) : Tryz.prog.keyLits 2 29 (nums .i64 xs) = some ((List.range 8).map fun i => Lit.int .i64 (rd xs i)) := by
 have hu : Tryz.prog.underlying 29 = some (.array 8 2) := by kernel_rfl
 have hv : Tryz.prog.underlying 2 = some (.int .i64) := by kernel_rfl
 have hc1 : Tryz.prog.cellsOf 29 = 8 := by kernel_rfl
 have hc2 : Tryz.prog.cellsOf 2 = 1 := by kernel_rfl
 simp only [Program.keyLits, hu, hc1, hc2]
 rw [if_pos (by simp [nums, h])]
 rw [mapM_some' (g := fun i => [Lit.int .i64 (rd xs i)])]
 . rfl
 . intro i hi
   have hi' : i < 8 := by simpa using hi
   have e : ((nums .i64 xs).drop (i * 1)).take 1 = [.int .i64 (rd xs i)] := by
    have h1 := nums_get .i64 xs i (by rw [h]; exact hi')
    obtain ⟨h2, h3⟩ := List.getElem?_eq_some_iff.1 h1
    rw [Nat.mul_one, List.drop_eq_getElem_cons h2, h3]
    rfl
   have hw := i64_wf (hb.rd i)
   rw [e]
   simp [Program.keyLits, hv, hw]
theorem eq8 (xs ys : List Int) (h : xs.length = 8) (h' : ys.length = 8) (hb : I64 xs) (hb' : I64 ys) (w : World) :
 (Op.equalIn 10000 29 (.agg (nums .i64 xs).toArray) (.agg (nums .i64 ys).toArray)).run Tryz.prog w = .ok (decide (xs = ys)) w := by
 have hu : Tryz.prog.underlying 29 = some (.array 8 2) := by kernel_rfl
 have hc1 : Tryz.prog.cellsOf 29 = 8 := by kernel_rfl
 have hf : ∀ zs : List Int, zs.length = 8 -> Value.formed Tryz.prog 29 (.agg (nums .i64 zs).toArray) = true := by
  intro zs hz
  simp [Value.formed, hu, hc1, nums, hz]
 obtain ⟨r, hr, hiff⟩ := run_equalIn_deep (P := Tryz.prog) 9998 2 29 (by kernel_rfl) w 2 2 _ _ _ _ (hf xs h) (hf ys h') (keyLits8 xs h hb) (keyLits8 ys h' hb')
 have : r = decide (xs = ys) := by
  by_cases hxy : xs = ys
  . rw [decide_eq_true hxy]; exact hiff.2 (by rw [hxy])
  . rw [decide_eq_false hxy]
    cases r with
    | false => rfl
    | true =>
      exfalso
      refine hxy (decide_lists (by rw [h, h']) fun j hj => ?_)
      have := List.map_inj_left.1 (hiff.1 rfl) j (by simp; omega)
      simpa using this
 rw [<- this]
 exact hr
theorem keyLitsT (x y : Int) (hx : -9223372036854775808 <= x /\ x <= 9223372036854775807) (hy : -9223372036854775808 <= y /\ y <= 9223372036854775807) : Tryz.prog.keyLits 2 31 [.int .i64 x, .int .i64 y] = some [.int .i64 x, .int .i64 y] := by
 have hu := Tryz.underlying31
 have hv : Tryz.prog.underlying 2 = some (.int .i64) := by kernel_rfl
 have hc1 : Tryz.prog.cellsOf 31 = 2 := by kernel_rfl
 have hc2 : Tryz.prog.cellsOf 2 = 1 := by kernel_rfl
 have w1 := i64_wf hx
 have w2 := i64_wf hy
 simp [Program.keyLits, hu, hv, hc1, hc2, w1, w2]
theorem eqT (x y x' y' : Int) (hx : -9223372036854775808 <= x /\ x <= 9223372036854775807) (hy : -9223372036854775808 <= y /\ y <= 9223372036854775807) (hx' : -9223372036854775808 <= x' /\ x' <= 9223372036854775807) (hy' : -9223372036854775808 <= y' /\ y' <= 9223372036854775807) (w : World) :
 (Op.equalIn 10000 31 (.agg #[.int .i64 x, .int .i64 y]) (.agg #[.int .i64 x', .int .i64 y'])).run Tryz.prog w = .ok (decide (x = x' /\ y = y')) w := by
 have hu := Tryz.underlying31
 have hc1 : Tryz.prog.cellsOf 31 = 2 := by kernel_rfl
 have hf : ∀ u v : Int, Value.formed Tryz.prog 31 (.agg #[.int .i64 u, .int .i64 v]) = true := by
  intro u v
  simp [Value.formed, hu, hc1]
 obtain ⟨r, hr, hiff⟩ := run_equalIn_deep (P := Tryz.prog) 9998 2 31 (by kernel_rfl) w 2 2 _ _ _ _ (hf x y) (hf x' y') (keyLitsT x y hx hy) (keyLitsT x' y' hx' hy')
 have : r = decide (x = x' /\ y = y') := by
  by_cases hxy : x = x' /\ y = y'
  . rw [decide_eq_true hxy]; exact hiff.2 (by rw [hxy.1, hxy.2])
  . rw [decide_eq_false hxy]
    cases r with
    | false => rfl
    | true =>
      exfalso
      have := hiff.1 rfl
      simp at this
      exact hxy this
 rw [<- this]
 exact hr
end Event
namespace Event
open Go.RowKit Go.Deep Go.Proofs.YtkdnebalpdebeaaGreatDoor Pack
theorem eqtiers_ok (B : Nat) (P S : Option Addr) (c d : Nat) (xs ys : List Int) (w : World) (hx : RI w B .i64 P xs) (hy : RI w B .i64 S ys) (ex : xs.length % 2 = 0) (ey : ys.length % 2 = 0) (hl : xs.length <= 281474976710656) (hl' : ys.length <= 281474976710656)
 (ix : I64 xs) (iy : I64 ys) :
 Calls Tryz.prog 69 #[.slice P (xs.length / 2) c, .slice S (ys.length / 2) d] w fun e w' => e = .returned (.bool (decide (xs = ys))) /\ Drew w w' := by
 have HX := Hd hx
 have HY := Hd hy
 have HIX := Hd ix
 have HIY := Hd iy
 obtain ⟨n, hn⟩ : ∃ n, n = xs.length / 2 := ⟨_, rfl⟩
 obtain ⟨m, hm⟩ : ∃ m, m = ys.length / 2 := ⟨_, rfl⟩
 rw [<- hn, <- hm]
 have hn2 : xs.length = 2 * n := by omega
 have hm2 : ys.length = 2 * m := by omega
 have hnl : n <= 140737488355328 := by omega
 have hml : m <= 140737488355328 := by omega
 have HN := Hd hn2
 have HM := Hd hm2
 clear hx hy ix iy hn hm hn2 hm2 ex ey hl hl'
 go_enter Tryz.func69, Tryz.ntmps69
 by_cases hnm : n = m
 . subst hnm
   have hne : ((n : Int) != n) = false := by simp
   go_wp2_with fail
   go_loopw [13] (fun v wr => ∃ j : Nat, j <= n /\ v = .int .i64 j /\ Hi (∀ i, i < 2 * j -> rd xs i = rd ys i) /\ ∃ q, wr = w.drewN q) (fun v _ => n - (intOf v).toNat)
   case atStart => exact ⟨0, by omega, rfl, Hd (fun i hi => by omega), 0, rfl⟩
   case round =>
    obtain ⟨j, hj, rfl, hz, q, rfl⟩ := hrel
    by_cases hjn : j < n
    . have hjn' : (j : Int) < n := by omega
      have hd := decide_eq_true hjn'
      obtain ⟨ad, hA, hb1, _, _⟩ := tier_cells (j := j) (HX.o.drewN q) (by have := HN.o; omega)
      obtain ⟨bd', hB, hb2, _, _⟩ := tier_cells (j := j) (HY.o.drewN q) (by have := HM.o; omega)
      subst hA
      subst hB
      have hcells : ∀ w' : World, (∃ q', w' = w.drewN q') -> (w'.cell? (ad.add (j * 2)) = some (.int .i64 (rd xs (2 * j))) /\ w'.cell? ⟨(ad.add (j * 2)).block, (ad.add (j * 2)).off + 1, none⟩ = some (.int .i64 (rd xs (2 * j + 1)))) /\
       (w'.cell? (bd'.add (j * 2)) = some (.int .i64 (rd ys (2 * j))) /\ w'.cell? ⟨(bd'.add (j * 2)).block, (bd'.add (j * 2)).off + 1, none⟩ = some (.int .i64 (rd ys (2 * j + 1)))) := by
       rintro w' ⟨q', rfl⟩
       obtain ⟨ad2, h1, _, c1, c2⟩ := tier_cells (j := j) (HX.o.drewN q') (by have := HN.o; omega)
       obtain ⟨bd2, h2, _, d1, d2⟩ := tier_cells (j := j) (HY.o.drewN q') (by have := HM.o; omega)
       obtain rfl := Option.some.inj h1
       obtain rfl := Option.some.inj h2
       exact ⟨⟨c1, c2⟩, d1, d2⟩
      have HCE := Hd hcells
      have rx1 := HIX.o.rd (2 * j)
      have rx2 := HIX.o.rd (2 * j + 1)
      have ry1 := HIY.o.rd (2 * j)
      have ry2 := HIY.o.rd (2 * j + 1)
      obtain ⟨x1, hx1⟩ : ∃ x, x = rd xs (2 * j) := ⟨_, rfl⟩
      obtain ⟨x2, hx2⟩ : ∃ x, x = rd xs (2 * j + 1) := ⟨_, rfl⟩
      obtain ⟨y1, hy1⟩ : ∃ x, x = rd ys (2 * j) := ⟨_, rfl⟩
      obtain ⟨y2, hy2⟩ : ∃ x, x = rd ys (2 * j + 1) := ⟨_, rfl⟩
      rw [<- hx1] at rx1
      rw [<- hx2] at rx2
      rw [<- hy1] at ry1
      rw [<- hy2] at ry2
      rw [<- hx1, <- hx2, <- hy1, <- hy2] at HCE
      have heq := fun w' => eqT x1 x2 y1 y2 rx1 rx2 ry1 ry2 w'
      have H1 := Hd (And.intro (And.intro hx1 hx2) (And.intro hy1 hy2))
      clear hcells hb1 hb2 rx1 rx2 ry1 ry2 hx1 hx2 hy1 hy2
      go_upto_region 6 with fail
      by_cases hxy : x1 = y1 /\ x2 = y2
      . rw [decide_eq_true hxy] at heq
        obtain ⟨rfl, rfl⟩ := hxy
        refine wp_region_tree (C := fun w' => ∃ q', w' = w.drewN q') (.seg [0, 1, 2, 3, 4, 5, 6, 7, 8] .nil) (by kernel_rfl) (by kernel_rfl) ⟨_, (World.drew_drewN (w := w) (n := q))⟩ ?_
        simp only [wpPlan, List.map_cons, List.map_nil, opAt, List.getElem?_cons_succ, List.getElem?_cons_zero, Option.getD_some]
        repeat (go_big_quiet_step (fail))
        refine wpQuiet_got (.agg #[.int .i64 x1, .int .i64 x2]) (by rfl) (fun w' hw' => ?_) (fun K hK => ?_)
        . have hl2 := (HCE.o w' hw').1.1
          have hl3 := (HCE.o w' hw').1.2
          go_simp
        go_simp
        refine hK _ ?_
        clear hK K
        repeat (go_big_quiet_step (fail))
        refine wpQuiet_got (.agg #[.int .i64 x1, .int .i64 x2]) (by rfl) (fun w' hw' => ?_) (fun K hK => ?_)
        . have hl2 := (HCE.o w' hw').2.1
          have hl3 := (HCE.o w' hw').2.2
          go_simp
        go_simp
        refine hK _ ?_
        clear hK K
        repeat (go_big_quiet_step (fail))
        refine wpQuiet_nil ?_
        go_wp2
        go_roundw
        case rel =>
         refine ⟨j + 1, by omega, by go_num, Hd (fun i hi => ?_), _, rfl⟩
         have hH := H1.o
         rcases (by omega : i < 2 * j ∨ i = 2 * j ∨ i = 2 * j + 1) with h | h | h
         . exact hz.o i h
         . rw [h, <- hH.1.1, <- hH.2.1]
         . rw [h, <- hH.1.2, <- hH.2.2]
        case measure => simp [intOf]; omega
      . rw [decide_eq_false hxy] at heq
        refine wp_region_tree (C := fun w' => ∃ q', w' = w.drewN q') (.seg [0, 1, 2, 3, 4, 5, 6, 7, 8] .nil) (by kernel_rfl) (by kernel_rfl) ⟨_, (World.drew_drewN (w := w) (n := q))⟩ ?_
        simp only [wpPlan, List.map_cons, List.map_nil, opAt, List.getElem?_cons_succ, List.getElem?_cons_zero, Option.getD_some]
        repeat (go_big_quiet_step (fail))
        refine wpQuiet_got (.agg #[.int .i64 x1, .int .i64 x2]) (by rfl) (fun w' hw' => ?_) (fun K hK => ?_)
        . have hl2 := (HCE.o w' hw').1.1
          have hl3 := (HCE.o w' hw').1.2
          go_simp
        go_simp
        refine hK _ ?_
        clear hK K
        repeat (go_big_quiet_step (fail))
        refine wpQuiet_got (.agg #[.int .i64 y1, .int .i64 y2]) (by rfl) (fun w' hw' => ?_) (fun K hK => ?_)
        . have hl2 := (HCE.o w' hw').2.1
          have hl3 := (HCE.o w' hw').2.2
          go_simp
        go_simp
        refine hK _ ?_
        clear hK K
        repeat (go_big_quiet_step (fail))
        refine wpQuiet_nil ?_
        go_wp2
        go_ret
        have : xs ≠ ys := fun h => hxy (by have hH := H1.o; rw [hH.1.1, hH.1.2, hH.2.1, hH.2.2, h]; exact ⟨rfl, rfl⟩)
        exact ⟨by rw [decide_eq_false this]; rfl, ⟨⟨q + 1, World.drew_drewN _ _⟩⟩⟩
    . have hjn' : ¬ (j : Int) < n := by omega
      have hd := decide_eq_false hjn'
      go_wp2
      go_ret
      have : xs = ys := decide_lists (by rw [HN.o, HM.o]) (fun i hi => hz.o i (by have := HN.o; omega))
      exact ⟨by rw [decide_eq_true this]; rfl, ⟨⟨q, rfl⟩⟩⟩
 . have hne : ((n : Int) != m) = true := by simp; omega
   go_wp2
   go_ret
   have : xs ≠ ys := fun h => hnm (by have h1 := HN.o; have h2 := HM.o; rw [h] at h1; omega)
   exact ⟨by rw [decide_eq_false this]; rfl, Drew.refl w⟩
theorem blk_at {w : World} {g : Nat} {t : TypeId} {cs : Array Value} (h : g = w.heap.size) : Blk (w.alloc (.cells cs t)) g t cs := by subst h; exact Blk.new w t cs
noncomputable def sameB (e f : Ev) : Bool := @decide (e = f) (Classical.propDecidable _)
theorem sameB_yes {e f : Ev} (h : e = f) : sameB e f = true := by unfold sameB; simpa using h
theorem sameB_no {e f : Ev} (h : e ≠ f) : sameB e f = false := by unfold sameB; simpa using h
theorem ev_ext {e f : Ev} (h1 : e.op = f.op) (h2 : e.key = f.key) (h3 : e.ns = f.ns) (h4 : e.ts = f.ts) : e = f := by
 cases e; cases f; simp only at h1 h2 h3 h4; subst h1 h2 h3 h4; rfl
theorem nums8 {ns : List Int} (h : ns.length = 8) : (nums .i64 ns).toArray = #[.int .i64 (rd ns 0), .int .i64 (rd ns 1), .int .i64 (rd ns 2), .int .i64 (rd ns 3), .int .i64 (rd ns 4), .int .i64 (rd ns 5), .int .i64 (rd ns 6), .int .i64 (rd ns 7)] := by
 match ns, h with
 | [a, b, c, d, e, f, g, i], _ => rfl
theorem eq8' (xs ys : List Int) (h : xs.length = 8) (h' : ys.length = 8) (hb : I64 xs) (hb' : I64 ys) (w : World) :
 (Op.equalIn 10000 29 (.agg #[.int .i64 (rd xs 0), .int .i64 (rd xs 1), .int .i64 (rd xs 2), .int .i64 (rd xs 3), .int .i64 (rd xs 4), .int .i64 (rd xs 5), .int .i64 (rd xs 6), .int .i64 (rd xs 7)])
   (.agg #[.int .i64 (rd ys 0), .int .i64 (rd ys 1), .int .i64 (rd ys 2), .int .i64 (rd ys 3), .int .i64 (rd ys 4), .int .i64 (rd ys 5), .int .i64 (rd ys 6), .int .i64 (rd ys 7)])).run Tryz.prog w = .ok (decide (xs = ys)) w := by
 have := eq8 xs ys h h' hb hb' w
 rw [nums8 h, nums8 h'] at this
 exact this
theorem same_ok (e f : Ev) (A A' : Option Addr) (c c' : Nat) (w : World) (he : e.ok) (hf : f.ok) (hA : RI w w.heap.size .i64 A e.ts) (hA' : RI w w.heap.size .i64 A' f.ts) (hl : e.ts.length <= 281474976710656) (hl' : f.ts.length <= 281474976710656) :
 Calls Tryz.prog 27 #[.agg (row e A c), .agg (row f A' c')] w fun x w' => x = .returned (.bool (sameB e f)) /\ Below w.heap.size w w' := by
 have heq := fun w' => eq8' e.ns f.ns he.len hf.len he.ns hf.ns w'
 have hts := fun w' hx hy => eqtiers_ok w.heap.size A A' c c' e.ts f.ts w' hx hy he.even hf.even hl hl' he.ts hf.ts
 have H1 := row_row e A c
 have H2 := row_row f A' c'
 obtain ⟨R1, hR1⟩ : ∃ R, R = row e A c := ⟨_, rfl⟩
 obtain ⟨R2, hR2⟩ : ∃ R, R = row f A' c' := ⟨_, rfl⟩
 rw [<- hR1] at H1 ⊢
 rw [<- hR2] at H2 ⊢
 have HR1 := Hd H1
 have HR2 := Hd H2
 have HTS := Hd hts
 have HRA := Hd hA
 have HRA' := Hd hA'
 clear hR1 hR2 H1 H2 hts hA hA' hl hl'
 go_enter Tryz.func27, Tryz.ntmps27
 have hB1 := (Blk.new w 34 R1).alloc (.cells R2 34)
 have hB2 : Blk ((w.alloc (.cells R1 34)).alloc (.cells R2 34)) (w.heap.size + 1) 34 R2 := blk_at (by simp)
 have d0 : Below w.heap.size w ((w.alloc (.cells R1 34)).alloc (.cells R2 34)) := ((Below.refl _ _).alloc (Nat.le_refl _) _).alloc (by simp) _
 obtain ⟨W, hW⟩ : ∃ W, W = ((w.alloc (.cells R1 34)).alloc (.cells R2 34)) := ⟨_, rfl⟩
 have HD := Hd d0
 go_upto_region 1 with fail
 rw [<- hW] at hB1 hB2 HD ⊢
 have a0 := (hB1.cell 0).trans HR1.o.op
 have a1 := (hB1.cell 1).trans HR1.o.key
 have a2 := (hB1.cell 2).trans (HR1.o.n 0 (by omega))
 have a3 := (hB1.cell 3).trans (HR1.o.n 1 (by omega))
 have a4 := (hB1.cell 4).trans (HR1.o.n 2 (by omega))
 have a5 := (hB1.cell 5).trans (HR1.o.n 3 (by omega))
 have a6 := (hB1.cell 6).trans (HR1.o.n 4 (by omega))
 have a7 := (hB1.cell 7).trans (HR1.o.n 5 (by omega))
 have a8 := (hB1.cell 8).trans (HR1.o.n 6 (by omega))
 have a9 := (hB1.cell 9).trans (HR1.o.n 7 (by omega))
 have a10 := (hB1.cell 10).trans HR1.o.ts
 have b0 := (hB2.cell 0).trans HR2.o.op
 have b1 := (hB2.cell 1).trans HR2.o.key
 have b2 := (hB2.cell 2).trans (HR2.o.n 0 (by omega))
 have b3 := (hB2.cell 3).trans (HR2.o.n 1 (by omega))
 have b4 := (hB2.cell 4).trans (HR2.o.n 2 (by omega))
 have b5 := (hB2.cell 5).trans (HR2.o.n 3 (by omega))
 have b6 := (hB2.cell 6).trans (HR2.o.n 4 (by omega))
 have b7 := (hB2.cell 7).trans (HR2.o.n 5 (by omega))
 have b8 := (hB2.cell 8).trans (HR2.o.n 6 (by omega))
 have b9 := (hB2.cell 9).trans (HR2.o.n 7 (by omega))
 have b10 := (hB2.cell 10).trans HR2.o.ts
 clear hW hB1 hB2 d0
 by_cases h1 : e.op = f.op
 . have e1 : (e.op == f.op) = true := by simpa using h1
   by_cases h2 : e.key = f.key
   . have e2 : (e.key == f.key) = true := by simpa using h2
     by_cases h3 : e.ns = f.ns
     . rw [decide_eq_true h3] at heq
       have H123 := Hd (And.intro h1 (And.intro h2 h3))
       clear h1 h2 h3
       go_wp2_with fail
       refine (HTS.o _ (HRA.o.below HD.o) (HRA'.o.below HD.o)).mono ?_
       rintro x W2 ⟨rfl, d2⟩
       go_wp2
       go_ret
       refine ⟨?_, HD.o.trans (d2.below _)⟩
       by_cases h4 : e.ts = f.ts
       . rw [decide_eq_true h4, sameB_yes (ev_ext H123.o.1 H123.o.2.1 H123.o.2.2 h4)]; rfl
       . rw [decide_eq_false h4, sameB_no fun h => h4 (by rw [h])]; rfl
     . rw [decide_eq_false h3] at heq
       go_wp2
       go_ret
       exact ⟨by rw [sameB_no fun h => h3 (by rw [h])]; rfl, HD.o⟩
   . have e2 : (e.key == f.key) = false := by simpa using h2
     go_wp2
     go_ret
     exact ⟨by rw [sameB_no fun h => h2 (by rw [h])]; rfl, HD.o⟩
 . have e1 : (e.op == f.op) = false := by simpa using h1
   go_wp2
   go_ret
   exact ⟨by rw [sameB_no fun h => h1 (by rw [h])]; rfl, HD.o⟩
end Event
end Go.Proofs.YtkdnebalpdebeaaGreatDoor
