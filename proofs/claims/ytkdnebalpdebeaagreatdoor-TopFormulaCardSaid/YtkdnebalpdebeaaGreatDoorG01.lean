/- Lemmas of a claim: Hi, Lib, Mix -/
import Derived.Lib.Hide
import Derived.Test.YtkdnebalpdebeaaGreatDoorProg
import Derived.WalkKit
import Derived.ProofKit
import Derived.OpenShut
import Derived.Deep.QuietTactic
import Derived.Deep.OwnRows
import Derived.BigQuiet
import Derived.WalkLawsBesides
import Derived.WalkSpells
import Derived.Deep.LoopGhost
import Derived.Handy
import Derived.Deep.AppendLies
import Derived.Deep.Draws
import Derived.Maps.AppendAt
import Derived.Deep.CutBlock
import Derived.Deep.DeepCutAuto
import Derived.Deep.RegionHeld3
import Derived.ChangeSame
import Derived.Laws.BitsAllLaws
import Derived.Tactics
set_option linter.unusedVariables false
set_option linter.unusedSimpArgs false
set_option maxHeartbeats 16000000
set_option maxRecDepth 100000
namespace Go.Proofs.YtkdnebalpdebeaaGreatDoor
section
structure Hi (p : Prop) : Prop where o : p
theorem Hd {p : Prop} (h : p) : Hi p := ⟨h⟩
end
section
open Go.RowKit Go.Deep Go.WideShapes Go.ChangeShapes
theorem block_of_add (a : Addr) (n : Nat) : (a.add n).block = a.block := by unfold Addr.add; split <;> rfl
theorem add_of_add (a : Addr) (i j : Nat) : (a.add i).add j = a.add (i + j) := by
 unfold Addr.add
 by_cases hi : i = 0 <;> by_cases hj : j = 0 <;> simp [hi, hj, Nat.add_assoc]
def Reads (w : World) (B size : Nat) (A : Option Addr) (n : Nat) (xs : List Value) : Prop :=
 xs.length = n * size /\ (0 < n -> ∃ ad, A = some ad /\ ad.block < B /\ ∀ j u, xs[j]? = some u -> w.cell? (ad.add j) = some u)
section
variable {w w' : World} {B B' size n : Nat} {A : Option Addr} {xs : List Value}
theorem Reads.none_ : Reads w B size A 0 [] := ⟨by simp, fun h => absurd h (by omega)⟩
theorem Reads.at_ {k : Nat} (h : Reads w B 1 A n xs) (hk : k < n) : ∃ ad u, A = some ad /\ ad.block < B /\ xs[k]? = some u /\ w.cell? (ad.add k) = some u := by
 obtain ⟨ad, e, hb, hc⟩ := h.2 (by omega)
 have hl : k < xs.length := by have := h.1; omega
 exact ⟨ad, xs[k], e, hb, List.getElem?_eq_getElem hl, hc k _ (List.getElem?_eq_getElem hl)⟩
theorem Reads.keep (h : Reads w B size A n xs) (hk : ∀ p : Addr, p.block < B -> w'.cell? p = w.cell? p) : Reads w' B size A n xs :=
 ⟨h.1, fun hn => by
  obtain ⟨ad, e, hb, hc⟩ := h.2 hn
  exact ⟨ad, e, hb, fun j u hu => (hk _ (by rw [block_of_add]; exact hb)).trans (hc j u hu)⟩⟩
theorem Reads.more (h : Reads w B size A n xs) (hB : B <= B') : Reads w B' size A n xs :=
 ⟨h.1, fun hn => by
  obtain ⟨ad, e, hb, hc⟩ := h.2 hn
  exact ⟨ad, e, by omega, hc⟩⟩
theorem Reads.below (h : Reads w B size A n xs) (hb : Below B w w') : Reads w' B size A n xs := h.keep fun _ hp => hb.cell hp
theorem Reads.drew (h : Reads w B size A n xs) : Reads w.drew B size A n xs := h
theorem Reads.drewN (h : Reads w B size A n xs) (k : Nat) : Reads (w.drewN k) B size A n xs := h
theorem Reads.alloc (h : Reads w B size A n xs) (hB : B <= w.heap.size) (o : Obj) : Reads (w.alloc o) B size A n xs := h.keep fun p hp => World.cell?_alloc_lt w o p (by omega)
theorem Reads.setCell (h : Reads w B size A n xs) {p : Addr} (hB : B <= p.block) (u : Value) : Reads (w.setCell p u) B size A n xs :=
 h.keep fun q hq => World.cell?_setCell_other w p q u (fun e => by subst e; omega)
theorem Reads.grown (h : Reads w B size A n xs) {row : Option Nat} (hg : w.grownBy w' row) (hB : B <= w.heap.size) (hr : ∀ g, row = some g -> B <= g) : Reads w' B size A n xs :=
 h.keep fun p hp => World.cell?_of_block (hg.block p.block (by omega) (fun e => by have := hr _ e.symm; omega))
theorem Reads.cut (h : Reads w B size A n xs) {k cap : Nat} (hk : k <= n) (hc : n <= cap) :
 Reads w B size (if cap = k then A else A.map (·.add (k * size))) (n - k) (xs.drop (k * size)) := by
 refine ⟨by rw [List.length_drop, h.1, Nat.sub_mul], fun hn => ?_⟩
 obtain ⟨ad, rfl, hb, hcell⟩ := h.2 (by omega)
 rw [if_neg (by omega)]
 refine ⟨ad.add (k * size), rfl, by rw [block_of_add]; exact hb, fun j u hu => ?_⟩
 rw [add_of_add]
 exact hcell _ u (by rw [<- hu, List.getElem?_drop])
theorem Reads.of_own {base : Nat} {e : TypeId} {c : Nat} (h : w.ownsRow base e size (.slice A n c) n xs) : Reads w w.heap.size size A n xs := by
 refine ⟨h.1, fun hn => ?_⟩
 obtain ⟨g, cap, hv, _, hlt⟩ := h.form hn
 have hA : A = some ⟨g, 0, none⟩ := by injection hv
 subst hA
 exact ⟨_, rfl, hlt, h.cells (g := g) rfl⟩
end
def Blk (w : World) (g : Nat) (t : TypeId) (cs : Array Value) : Prop := w.heap[g]? = some (.cells cs t (0, 0))
section
variable {w w' : World} {g : Nat} {t : TypeId} {cs : Array Value}
theorem Blk.lt (h : Blk w g t cs) : g < w.heap.size := by
 rcases Nat.lt_or_ge g w.heap.size with hlt | hge
 . exact hlt
 . unfold Blk at h; rw [Array.getElem?_eq_none hge] at h; cases h
theorem Blk.cell (h : Blk w g t cs) (i : Nat) : w.cell? ⟨g, i, none⟩ = cs[i]? := cell_of_row w g i cs t (0, 0) h
theorem Blk.frozen (h : Blk w g t cs) (i : Nat) : w.frozen? ⟨g, i, none⟩ = false := by
 unfold Blk at h
 simp [World.frozen?, h]
theorem Blk.new (w : World) (t : TypeId) (cs : Array Value) : Blk (w.alloc (.cells cs t)) w.heap.size t cs := heap_alloc_new w _
theorem Blk.drew (h : Blk w g t cs) : Blk w.drew g t cs := h
theorem Blk.drewN (h : Blk w g t cs) (n : Nat) : Blk (w.drewN n) g t cs := h
theorem Blk.alloc (h : Blk w g t cs) (o : Obj) : Blk (w.alloc o) g t cs := (Below.heap_alloc w o g h.lt).trans h
theorem Blk.set_ (h : Blk w g t cs) (i : Nat) (u : Value) : Blk (w.setCell ⟨g, i, none⟩ u) g t (cs.setIfInBounds i u) := by
 unfold Blk at h ⊢
 simp [World.setCell, Array.getElem?_modify, h]
theorem Blk.far (h : Blk w g t cs) {p : Addr} (hp : g ≠ p.block) (u : Value) : Blk (w.setCell p u) g t cs := (Below.heap_setCell w p u g hp).trans h
theorem Blk.below {B : Nat} (h : Blk w g t cs) (hb : Below B w w') (hg : g < B) : Blk w' g t cs := (hb.block g hg).trans h
theorem Blk.grown {row : Option Nat} (h : Blk w g t cs) (hb : w.grownBy w' row) (hg : some g ≠ row) : Blk w' g t cs := (hb.block g h.lt hg).trans h
end
section
variable {P : Program} (w : World)
theorem run_append_of_nil (base : Nat) (t ty e : TypeId) (i : TypeInfo) (size : Nat) (ht : P.underlying t = some (.slice e)) (hi : P.info? e = some i)
 (v : Value) (n : Nat) (xs : List Value) (hown : w.ownsRow base e size v n xs) (c : Nat) : (Builtin.append_ #[t, t] ty #[v, .slice none 0 c]).run P w = .ok v w := by
 rcases hown.2 with ⟨rfl, rfl⟩ | ⟨g, cap, cur, rfl, _, _, hnc, _⟩
 . simp [Builtin.append_, run_underlying ht, sizeOf, typeInfo, hi, Builtin.lenOf, Builtin.firstCells]
 . simp [Builtin.append_, run_underlying ht, sizeOf, typeInfo, hi, Builtin.lenOf, Builtin.firstCells, hnc, storeCells]
theorem run_append_any (base : Nat) (t ty e : TypeId) (i : TypeInfo) (z : Value) (size bytes : Nat) (ht : P.underlying t = some (.slice e)) (hi : P.info? e = some i) (hz : i.zero = some z)
 (hsize : i.size = size) (hby : i.bytes = bytes) (hzs : z.cells.size = size) (hsz : 0 < size)
 (v : Value) (n : Nat) (xs : List Value) (hown : w.ownsRow base e size v n xs)
 (B : Nat) (A : Option Addr) (m c : Nat) (news : List Value) (hr : Reads w B size A m news) (h1 : ∀ u ∈ news, u.oneCell' = true)
 (h63 : n + m <= maxLen) (hbytes : (n + m) * bytes <= 140737488355328) (hbase : base <= w.heap.size) :
 ∃ v' w', (Builtin.append_ #[t, t] ty #[v, .slice A m c]).run P w = .ok v' w' /\ w'.ownsRow base e size v' (n + m) (xs ++ news) /\ w.grownBy w' v.ownBlock /\
   (v'.ownBlock = v.ownBlock ∨ v'.ownBlock = some w.heap.size) := by
 rcases A with _ | ad
 . have hm : m = 0 := by
    rcases Nat.eq_zero_or_pos m with h0 | h0
    . exact h0
    . obtain ⟨ad, h, _⟩ := hr.2 h0
      cases h
   subst hm
   have hn : news = [] := List.eq_nil_of_length_eq_zero (by simpa using hr.1)
   subst hn
   exact ⟨v, w, run_append_of_nil w base t ty e i size ht hi v n xs hown c, by simpa using hown, World.grownBy.refl w _, .inl rfl⟩
 . have hcells : ∀ j u, news[j]? = some u -> w.cell? (ad.add j) = some u := by
    intro j u hu
    rcases Nat.eq_zero_or_pos m with h0 | h0
    . subst h0
      have hn : news = [] := List.eq_nil_of_length_eq_zero (by simpa using hr.1)
      subst hn
      simp at hu
    . obtain ⟨ad', h, _, hc⟩ := hr.2 h0
      injection h with h
      subst h
      exact hc j u hu
   obtain ⟨v', w', hrun, h2, h3, _, h5⟩ := run_append_own_at (P := P) w base t ty e i z size bytes ht hi hz hsize hby hzs hsz v n xs hown ad m c news hr.1 hcells h1 h63 hbytes hbase
   exact ⟨v', w', hrun, h2, h3, h5⟩
theorem wp_append_any {o : Oper} {a : Act} {K : Act -> World -> Prop} {Q : Exit -> Act -> World -> Prop} (s x : Operand) (t : TypeId)
 (ho : o.op = .call { callee := .builtin .append, args := #[s, x], argTypes := #[t, t] })
 (base : Nat) (e : TypeId) (i : TypeInfo) (z : Value) (size bytes : Nat) (ht : P.underlying t = some (.slice e)) (hi : P.info? e = some i) (hz : i.zero = some z)
 (hsize : i.size = size) (hby : i.bytes = bytes) (hzs : z.cells.size = size) (hsz : 0 < size)
 (v : Value) (n : Nat) (xs : List Value) (hs : a.eval s = v) (hown : w.ownsRow base e size v n xs)
 (B : Nat) (A : Option Addr) (m c : Nat) (news : List Value) (hx : a.eval x = .slice A m c) (hr : Reads w B size A m news) (h1 : ∀ u ∈ news, u.oneCell' = true)
 (h63 : n + m <= maxLen) (hbytes : (n + m) * bytes <= 140737488355328) (hbase : base <= w.heap.size)
 (h : ∀ v' w', w'.ownsRow base e size v' (n + m) (xs ++ news) -> w.grownBy w' v.ownBlock -> (v'.ownBlock = v.ownBlock ∨ v'.ownBlock = some w.heap.size) -> K (a.put o.dst v') w') : o.wp P a w K Q := by
 obtain ⟨v', w', hrun, h2, h3, h4⟩ := run_append_any (P := P) w base t o.type e i z size bytes ht hi hz hsize hby hzs hsz v n xs hown B A m c news hr h1 h63 hbytes hbase
 unfold Oper.wp execOp
 simp only [ho, resolve, invoke, builtin, Sem.run_bind, Sem.run_pure, Result.andThen_ok, List.map_toArray, List.map_cons, List.map_nil, hs, hx, hrun]
 exact h v' w' h2 h3 h4
theorem wpList_append_any {ops : Array Oper} {rest : List Oper} {o : Oper} {a : Act} {Q : Exit -> Act -> World -> Prop} (hgd : o.guard = none) (s x : Operand) (t : TypeId)
 (ho : o.op = .call { callee := .builtin .append, args := #[s, x], argTypes := #[t, t] })
 (base : Nat) (e : TypeId) (i : TypeInfo) (z : Value) (size bytes : Nat) (ht : P.underlying t = some (.slice e)) (hi : P.info? e = some i) (hz : i.zero = some z)
 (hsize : i.size = size) (hby : i.bytes = bytes) (hzs : z.cells.size = size) (hsz : 0 < size)
 (v : Value) (n : Nat) (xs : List Value) (hs : a.eval s = v) (hown : w.ownsRow base e size v n xs)
 (B : Nat) (A : Option Addr) (m c : Nat) (news : List Value) (hx : a.eval x = .slice A m c) (hr : Reads w B size A m news) (h1 : ∀ u ∈ news, u.oneCell' = true)
 (h63 : n + m <= maxLen) (hbytes : (n + m) * bytes <= 140737488355328) (hbase : base <= w.heap.size)
 (h : ∀ v' w', w'.ownsRow base e size v' (n + m) (xs ++ news) -> w.grownBy w' v.ownBlock -> (v'.ownBlock = v.ownBlock ∨ v'.ownBlock = some w.heap.size) -> wpList P ops Q rest (a.put o.dst v') w') : wpList P ops Q (o :: rest) a w :=
 wpList_plain hgd fun _ hK => wp_append_any w s x t ho base e i z size bytes ht hi hz hsize hby hzs hsz v n xs hs hown B A m c news hx hr h1 h63 hbytes hbase fun v' w' h2 h3 h4 => hK _ _ (h v' w' h2 h3 h4)
end
theorem below_drewN {B : Nat} {a w : World} (h : Below B a w) (n : Nat) : Below B a (w.drewN n) := ⟨h.os, h.tape, h.output, h.size, h.block⟩
theorem only_of_below {a w : World} (h : Below a.heap.size a w) (row : Option Nat) : a.grownBy w row := ⟨h.os, h.tape, h.output, h.size, fun i hi _ => h.block i hi⟩
theorem run_make_rowN {P : Program} (t e : TypeId) (i : TypeInfo) (z : Value) (ht : P.underlying t = some (.slice e)) (hi : P.info? e = some i) (hz : i.zero = some z)
 (kl kc : IntKind) (n c : Nat) (hnc : n <= c) (hbytes : i.bytes * c <= 281474976710656) (h63 : c <= 9223372036854775807) (w : World) :
 (Instr.makeSlice t (.int kl (n : Int)) (.int kc (c : Int))).run P w = .ok (.slice (some ⟨w.heap.size, 0, none⟩) n c) (w.alloc (.cells (madeCells z.cells (c * i.size)) e)) := by
 have hb : (i.bytes : Int) * (c : Int) <= 281474976710656 := by
  have h : ((i.bytes * c : Nat) : Int) <= 281474976710656 := by omega
  rwa [Int.natCast_mul] at h
 have hr := run_make (P := P) w t e i z ht hi hz kl kc n c (by omega) (by omega) hb (by omega)
 simp only [Int.toNat_natCast] at hr
 exact hr
theorem ofInt_i64 (a : Nat) (ha : a < 9223372036854775808) : (BitVec.ofInt 64 (a : Int)).toNat = a := by
 rw [BitVec.ofInt_natCast, BitVec.toNat_ofNat]; exact Nat.mod_eq_of_lt (by omega)
theorem i64_and_nat (a b : Nat) (ha : a < 9223372036854775808) (hb : b < 9223372036854775808) : bits .and .i64 (a : Int) (b : Int) = ((a &&& b : Nat) : Int) := by
 have hx : a &&& b < 2 ^ 63 := Nat.and_lt_two_pow _ (by omega)
 show IntKind.i64.wrap ((BitVec.ofInt 64 (a : Int) &&& BitVec.ofInt 64 (b : Int)).toNat : Int) = _
 rw [BitVec.toNat_and, ofInt_i64 a ha, ofInt_i64 b hb, IntKind.wrap_i64]
 omega
section
variable {H : Type} {enc : TypeId × Value -> H} {P : Program}
end
def rd (xs : List Int) (j : Nat) : Int := xs.getD j 0
theorem rd_get {xs : List Int} {j : Nat} (h : j < xs.length) : rd xs j = xs[j] := by simp [rd, List.getD, h]
theorem rd_out {xs : List Int} {j : Nat} (h : xs.length <= j) : rd xs j = 0 := by simp [rd, List.getD, h]
theorem decide_lists {xs ys : List Int} (hl : xs.length = ys.length) (h : ∀ j, j < xs.length -> rd xs j = rd ys j) : xs = ys := by
 apply List.ext_getElem hl
 intro i h1 h2
 have := h i h1
 simpa [rd, List.getD, h1, h2] using this
def nums (k : IntKind) (xs : List Int) : List Value := xs.map fun x => .int k x
theorem nums_length (k : IntKind) (xs : List Int) : (nums k xs).length = xs.length := by simp [nums]
theorem nums_append (k : IntKind) (xs ys : List Int) : nums k (xs ++ ys) = nums k xs ++ nums k ys := by simp [nums]
theorem nums_one (k : IntKind) (xs : List Int) : ∀ u ∈ nums k xs, u.oneCell' = true := by
 intro u hu; obtain ⟨_, _, rfl⟩ := List.mem_map.1 hu; rfl
theorem nums_get (k : IntKind) (xs : List Int) (j : Nat) (h : j < xs.length) : (nums k xs)[j]? = some (.int k (rd xs j)) := by
 simp [nums, h, rd_get h]
def RI (w : World) (B : Nat) (k : IntKind) (A : Option Addr) (xs : List Int) : Prop := Reads w B 1 A xs.length (nums k xs)
theorem RI.one {w : World} {B : Nat} {k : IntKind} {A : Option Addr} {xs : List Int} (h : RI w B k A xs) {j : Nat} (hj : j < xs.length) : ∃ ad, A = some ad /\ ad.block < B /\ w.cell? (ad.add j) = some (.int k (rd xs j)) := by
 obtain ⟨ad, u, e, hb, hu, hc⟩ := Reads.at_ h hj
 rw [nums_get k xs j hj] at hu
 obtain rfl := Option.some.inj hu
 exact ⟨ad, e, hb, hc⟩
theorem RI.reads {w : World} {B : Nat} {k : IntKind} {A : Option Addr} {xs : List Int} (h : RI w B k A xs) : Reads w B 1 A xs.length (nums k xs) := h
theorem RI.nil {w : World} {B : Nat} {k : IntKind} {A : Option Addr} : RI w B k A [] := Reads.none_
theorem RI.more {w : World} {B B' : Nat} {k : IntKind} {A : Option Addr} {xs : List Int} (h : RI w B k A xs) (hB : B <= B') : RI w B' k A xs := Reads.more h hB
theorem RI.below {w w' : World} {B : Nat} {k : IntKind} {A : Option Addr} {xs : List Int} (h : RI w B k A xs) (hb : Below B w w') : RI w' B k A xs := Reads.below h hb
theorem RI.drewN {w : World} {B : Nat} {k : IntKind} {A : Option Addr} {xs : List Int} (h : RI w B k A xs) (n : Nat) : RI (w.drewN n) B k A xs := h
theorem RI.of_own {w : World} {base : Nat} {e : TypeId} {k : IntKind} {A : Option Addr} {c n : Nat} {xs : List Int} (h : w.ownsRow base e 1 (.slice A n c) n (nums k xs)) : n = xs.length /\ RI w w.heap.size k A xs := by
 have h1 : n = xs.length := by have := h.1; simp [nums] at this; omega
 subst h1
 exact ⟨rfl, Reads.of_own h⟩
theorem RI.of_lit {w : World} {b : Nat} {t : TypeId} {k : IntKind} {cs : Array Value} {xs : List Int} (h : w.heap[b]? = some (.cells cs t (0, 0))) (hx : cs.toList = nums k xs) : RI w w.heap.size k (some ⟨b, 0, none⟩) xs := by
 refine ⟨by simp [nums], fun hn => ⟨_, rfl, (Array.getElem?_eq_some_iff.1 h).1, fun j u hu => ?_⟩⟩
 rw [Addr.add_lit, Nat.zero_add, cell_of_row w b j cs t (0, 0) h, <- hu, <- hx]
 simp
structure Drew (w w' : World) : Prop where mk :: (out : ∃ n, w' = w.drewN n)
theorem Drew.refl (w : World) : Drew w w := ⟨⟨0, rfl⟩⟩
theorem Drew.step {w w' : World} (h : Drew w w') (n : Nat) : Drew w (w'.drewN n) := by
 obtain ⟨m, rfl⟩ := h
 exact ⟨⟨m + n, World.drewN_drewN ..⟩⟩
theorem Drew.trans {w w' w'' : World} (h : Drew w w') (h' : Drew w' w'') : Drew w w'' := by
 obtain ⟨m, rfl⟩ := h'
 exact h.step m
theorem Drew.below {w w' : World} (h : Drew w w') (B : Nat) : Below B w w' := by
 obtain ⟨n, rfl⟩ := h
 induction n with
 | zero => exact Below.refl _ _
 | succ n ih => rw [<- World.drew_drewN]; exact ih.drew
theorem below_then' {a b c : World} (h : Below a.heap.size a b) (k : Below b.heap.size b c) : Below a.heap.size a c := h.trans (k.mono h.size)
theorem own_slice {w : World} {base n : Nat} {e : TypeId} {size : Nat} {v : Value} {xs : List Value} (h : w.ownsRow base e size v n xs) : ∃ A c, v = .slice A n c := by
 rcases h.2 with ⟨rfl, rfl⟩ | ⟨g, cap, cur, rfl, _⟩
 . exact ⟨none, 0, rfl⟩
 . exact ⟨_, cap, rfl⟩
theorem own_nil (W : World) (base : Nat) (e : TypeId) (size : Nat) : W.ownsRow base e size (.slice none 0 0) 0 [] := ⟨by simp, .inl ⟨rfl, rfl⟩⟩
theorem own_base {w : World} {base : Nat} {e : TypeId} {size n : Nat} {v : Value} {xs : List Value} (h : w.ownsRow base e size v n xs) (k : Nat) (hk : v.ownBlock = some k) : base <= k := by
 rcases h.2 with ⟨rfl, _⟩ | ⟨g, cap, cur, rfl, hb, _⟩
 . simp [Value.ownBlock] at hk
 . have : g = k := by simpa [Value.ownBlock] using hk
   omega
theorem own_below {w w1 : World} {base : Nat} {e : TypeId} {size n : Nat} {v : Value} {xs : List Value} (h : w.ownsRow base e size v n xs) (hb : Below w.heap.size w w1) : w1.ownsRow base e size v n xs :=
 h.kept (only_of_below hb none) (by cases v.ownBlock <;> simp)
theorem below_own {B : Nat} {w W w1 : World} {base : Nat} {e : TypeId} {size n : Nat} {v : Value} {xs : List Value} (h : Below B w W) (hg : W.grownBy w1 v.ownBlock) (hown : W.ownsRow base e size v n xs) (hB : B <= base) (hb : B <= W.heap.size) : Below B w w1 :=
 h.grown hg hb (fun k hk => Nat.le_trans hB (own_base hown k hk))
theorem RI.alloc {w : World} {B : Nat} {k : IntKind} {A : Option Addr} {xs : List Int} (h : RI w B k A xs) (hB : B <= w.heap.size) (o : Obj) : RI (w.alloc o) B k A xs := Reads.alloc h hB o
theorem RI.setCell {w : World} {B : Nat} {k : IntKind} {A : Option Addr} {xs : List Int} (h : RI w B k A xs) {p : Addr} (hB : B <= p.block) (u : Value) : RI (w.setCell p u) B k A xs := Reads.setCell h hB u
theorem RI.grown {w w' : World} {B : Nat} {k : IntKind} {A : Option Addr} {xs : List Int} (h : RI w B k A xs) {row : Option Nat} (hg : w.grownBy w' row) (hB : B <= w.heap.size) (hr : ∀ g, row = some g -> B <= g) : RI w' B k A xs := Reads.grown h hg hB hr
theorem RI.drew {w w' : World} {B : Nat} {k : IntKind} {A : Option Addr} {xs : List Int} (h : RI w B k A xs) (hd : Drew w w') : RI w' B k A xs := by
 obtain ⟨n, rfl⟩ := hd; exact h
section
variable {P : Program} {ops : Array Oper} {rest : List Oper} {o : Oper} {a : Act} {Q : Exit -> Act -> World -> Prop}
theorem wpList_app (W : World) (hgd : o.guard = none) (s x : Operand) (t : TypeId) (ho : o.op = .call { callee := .builtin .append, args := #[s, x], argTypes := #[t, t] })
 (base : Nat) (e : TypeId) (k : IntKind) (bytes : Nat) (ht : P.underlying t = some (.slice e)) (hinfo : (P.info? e).map (fun i => (i.zero, i.size, i.bytes)) = some (some (.int k 0), 1, bytes)) (hb0 : 0 < bytes)
 (v : Value) (xs : List Int) (hown : W.ownsRow base e 1 v xs.length (nums k xs)) (hs : a.eval s = v)
 (B : Nat) (A : Option Addr) (c : Nat) (ys : List Int) (hx : a.eval x = .slice A ys.length c) (hr : RI W B k A ys)
 (hl : (xs.length + ys.length) * bytes <= 140737488355328) (hbase : base <= W.heap.size)
 (h : ∀ v' w', w'.ownsRow base e 1 v' (xs ++ ys).length (nums k (xs ++ ys)) -> W.grownBy w' v.ownBlock -> (v'.ownBlock = v.ownBlock ∨ v'.ownBlock = some W.heap.size) -> wpList P ops Q rest (a.put o.dst v') w') : wpList P ops Q (o :: rest) a W := by
 obtain ⟨i0, hi, hz0, hz1, hz2⟩ := info_parts hinfo
 have hlen : xs.length + ys.length <= 140737488355328 := Nat.le_trans (Nat.le_mul_of_pos_right _ hb0) hl
 refine wpList_append_any W hgd s x t ho base e i0 (.int k 0) 1 bytes ht hi hz0 hz1 hz2 rfl (by omega) v xs.length (nums k xs) hs hown B A ys.length c (nums k ys) hx hr (nums_one k ys) (by simp only [maxLen]; omega) hl hbase ?_
 intro v' w' h1 h2 h3
 exact h v' w' (by rw [nums_append, List.length_append]; exact h1) h2 h3
theorem wpList_app1 (W : World) (hgd : o.guard = none) (s x : Operand) (t : TypeId) (ho : o.op = .call { callee := .builtin .append, args := #[s, x], argTypes := #[t, t] })
 (base : Nat) (e : TypeId) (k : IntKind) (bytes : Nat) (ht : P.underlying t = some (.slice e)) (hinfo : (P.info? e).map (fun i => (i.zero, i.size, i.bytes)) = some (some (.int k 0), 1, bytes)) (hb0 : 0 < bytes)
 (v : Value) (xs : List Int) (hown : W.ownsRow base e 1 v xs.length (nums k xs)) (hs : a.eval s = v)
 (y : Int) (hx : a.eval x = .slice (some ⟨W.heap.size, 0, none⟩) 1 1)
 (hl : (xs.length + 1) * bytes <= 140737488355328) (hbase : base <= W.heap.size)
 (h : ∀ v' w', w'.ownsRow base e 1 v' (xs ++ [y]).length (nums k (xs ++ [y])) -> W.grownBy w' v.ownBlock -> (v'.ownBlock = v.ownBlock ∨ ∃ b, v'.ownBlock = some b /\ W.heap.size <= b) -> wpList P ops Q rest (a.put o.dst v') w') :
 wpList P ops Q (o :: rest) a (W.alloc (.cells #[.int k y] e)) :=
 wpList_app (W.alloc (.cells #[.int k y] e)) hgd s x t ho base e k bytes ht hinfo hb0 v xs (hown.alloc _) hs (W.heap.size + 1) (some ⟨W.heap.size, 0, none⟩) 1 [y] hx
  ((RI.of_lit (t := e) (cs := #[.int k y]) (b := W.heap.size) (heap_alloc_new _ _) rfl).more (by simp)) hl (by simp; omega)
  (fun v' w' h1 h2 h3 => h v' w' h1 (World.grownBy.trans (World.grownBy_alloc W _ _) h2) (by
    rcases h3 with h3 | h3
    . exact .inl h3
    . exact .inr ⟨_, h3, by simp⟩))
end
theorem RI.take {w : World} {B : Nat} {k : IntKind} {A : Option Addr} {xs : List Int} (h : RI w B k A xs) (n : Nat) : RI w B k A (xs.take n) := by
 refine ⟨by simp [nums], fun hn => ?_⟩
 obtain ⟨ad, e, hb, hc⟩ := h.2 (by simp at hn; omega)
 refine ⟨ad, e, hb, fun j u hu => hc j u ?_⟩
 have hj := (List.getElem?_eq_some_iff.1 hu).1
 simp only [nums, List.length_map, List.length_take] at hj
 rw [<- hu]
 simp [nums, List.getElem?_take]
 omega
theorem RI.cut {w : World} {B : Nat} {k : IntKind} {A : Option Addr} {xs : List Int} (h : RI w B k A xs) (j n : Nat) : RI w B k (A.map (·.add j)) ((xs.drop j).take n) := by
 refine ⟨by simp [nums], fun hn => ?_⟩
 obtain ⟨ad, rfl, hb, hc⟩ := h.2 (by simp at hn; omega)
 refine ⟨ad.add j, rfl, by rw [block_of_add]; exact hb, fun i u hu => ?_⟩
 rw [add_of_add]
 refine hc (j + i) u ?_
 have hj := (List.getElem?_eq_some_iff.1 hu).1
 simp only [nums, List.length_map, List.length_take, List.length_drop] at hj
 rw [<- hu]
 simp [nums, List.getElem?_take]
 omega
theorem RI.none {w : World} {B : Nat} {k : IntKind} {A : Option Addr} {xs : List Int} (h : xs.length = 0) : RI w B k A xs := by
 obtain rfl := List.eq_nil_of_length_eq_zero h; exact RI.nil
theorem own_cap {w : World} {base : Nat} {e : TypeId} {size n c : Nat} {A : Option Addr} {xs : List Value} (h : w.ownsRow base e size (.slice A n c) n xs) : n <= c := by
 rcases h.2 with ⟨h1, h2⟩ | ⟨g, cap, cur, hv, _, _, h1, _⟩
 . omega
 . injection hv with _ _ h3; omega
theorem callsCast {P : Program} {f : FuncId} {args args' : Array Value} {w : World} {R : Ending -> World -> Prop} (h : Calls P f args w R) (e : args = args') : Calls P f args' w R := e ▸ h
end
section
open Go
section
variable {P : Program} {ops : Array Oper} {md : Region.Mode} {C : World -> Prop}
theorem noEnter_v (s : Sem Value) (w : World) (f : FuncId) (args : Array Value) (w' : World) : (do let x <- s; pure (Next.value x) : Sem Next).run P w ≠ .ok (.enter f args) w' := by
 simp only [Sem.run_bind]
 cases h : s.run P w with
 | ok v w1 => simp [Result.andThen]
 | halt x w1 => simp [Result.andThen]
def plainOp (o : Op) : Bool :=
 match o with
 | .move _ | .assign _ | .pick .. | .binOp .. | .unOp .. | .convert .. | .extract .. | .slice .. | .fieldAddr .. | .field .. | .indexAddr .. | .index .. | .load .. | .build .. => true
 | .nilCheck _ => true
 | .call { callee := .builtin .len, .. } | .call { callee := .builtin .min, .. } | .call { callee := .builtin .max, .. } | .call { callee := .builtin .cap, .. } => true
 | _ => false
theorem noEnter {o : Oper} (h : plainOp o.op = true) (ρ : Operand -> Value) (w : World) (f : FuncId) (args : Array Value) (w' : World) : (execOp ρ o).run P w ≠ .ok (.enter f args) w' := by
 obtain ⟨dst, op, ty, pos, after, guard⟩ := o
 cases op <;> (try simp only [plainOp, Bool.false_eq_true] at h)
 case call c =>
  obtain ⟨callee, cargs, at_⟩ := c
  cases callee <;> (try simp only [plainOp, Bool.false_eq_true] at h)
  rename_i b
  cases b <;> (try simp only [plainOp, Bool.false_eq_true] at h)
  all_goals
   simp only [execOp, resolve, invoke, builtin]
   exact noEnter_v _ w f args w'
 case pick c a b =>
  simp only [execOp, Sem.run_bind]
  cases (asBool (ρ c)).run P w with
  | ok v w1 => simp [Result.andThen]
  | halt x w1 => simp [Result.andThen]
 case nilCheck x =>
  intro hh
  simp only [execOp] at hh
  split at hh
  . simp [go_sem] at hh
  . simp [go_sem] at hh
  . simp [go_sem] at hh
  . split at hh
    . simp [go_sem] at hh
    . simp only [Sem.run_bind] at hh
      cases h1 : (program : Sem Program).run P w with
      | ok p w1 =>
        rw [h1] at hh
        simp only [Result.andThen_ok] at hh
        generalize hz : (nilAhead _ _ _ _).run P w1 = z at hh
        cases z with
        | ok b w2 =>
          simp only [Result.andThen_ok] at hh
          split at hh
          . simp [go_sem] at hh
          . simp [go_sem] at hh
        | halt x w2 => simp [Result.andThen] at hh
      | halt x w1 => rw [h1] at hh; simp [Result.andThen] at hh
    . simp [go_sem] at hh
  . simp [go_sem] at hh
 all_goals first
  | (simp only [execOp]; exact noEnter_v _ w f args w')
  | (simp [execOp]; done)
def pureUpon (w : World) (v : Value) : Result Next -> Prop
 | .ok (.value u) w' => w' = w /\ u = v
 | .ok .skip w' => w' = w /\ v = undef
 | _ => False
def PureIn (P : Program) (ops : Array Oper) (C : World -> Prop) (o : Oper) (v : Value) (a : Act) : Prop :=
 (Region.wanted o (yielded ops a.tmps) = true /\ ∀ w, C w -> pureUpon w v ((execOp a.eval o).run P w)) ∨ (Region.wanted o (yielded ops a.tmps) = false /\ v = undef)
def NoQ : Exit -> Act -> World -> Prop := fun _ _ _ => False
def wpOpM (P : Program) (ops : Array Oper) (i : Nat) (K : Act -> World -> Prop) (a : Act) (w : World) : Prop :=
 match ops[i]? with
 | none => K a w
 | some o => if Region.wanted o (yielded ops a.tmps) then o.wp P a w K NoQ else K (a.put o.dst undef) w
def wpAnyM (P : Program) (md : Region.Mode) (ops : Array Oper) (C : World -> Prop) (Q : Act -> World -> Prop) : Nat -> Array Bool -> Act -> World -> Prop
 | 0, listed, a, w => Region.ready md ops listed = [] /\ Q a w
 | fuel + 1, listed, a, w => (Region.ready md ops listed = [] -> Q a w) /\
   ∀ i ∈ Region.ready md ops listed, wpOpM P ops i (fun a w => C w /\ wpAnyM P md ops C Q fuel (listed.setIfInBounds i true) a w) a w
theorem wp_weaken {o : Oper} {a : Act} {w : World} {K K' : Act -> World -> Prop} {Q' : Exit -> Act -> World -> Prop} (h : ∀ a w, K a w -> K' a w) (hh : o.wp P a w K NoQ) : o.wp P a w K' Q' := by
 unfold Oper.wp at *
 generalize (execOp a.eval o).run P w = r at *
 cases r with
 | ok n w' =>
   cases n <;> simp only [Oper.upon] at hh ⊢
   case enter f args =>
    exact Calls.mono hh (fun e w'' he => by
     cases e with
     | returned v => exact h _ _ he
     | panicked c => exact absurd he (by simp [NoQ])
     | outgrown => obtain ⟨_, _, h0⟩ := he; exact absurd h0 (by simp [NoQ]))
   case row r args => exact Rows.mono hh (fun _ _ he => h _ _ he)
   all_goals exact h _ _ hh
 | halt x w' => cases x <;> simp only [Oper.upon, NoQ] at hh
theorem wpOp_of_M {i : Nat} {K K' : Act -> World -> Prop} {Q' : Exit -> Act -> World -> Prop} {a : Act} {w : World} (h : ∀ a w, K a w -> K' a w) (hh : wpOpM P ops i K a w) : wpOp P ops Q' i K' a w := by
 unfold wpOpM at hh
 unfold wpOp
 split
 . rename_i ho; simp only [ho] at hh; exact h _ _ hh
 . rename_i o ho
   simp only [ho] at hh
   split
   . rename_i hw; simp only [hw, if_true] at hh; exact .inl (wp_weaken h hh)
   . rename_i hw; simp only [hw] at hh; exact h _ _ hh
theorem wpOpM_mono {i : Nat} {K K' : Act -> World -> Prop} {a : Act} {w : World} (h : ∀ a w, K a w -> K' a w) (hh : wpOpM P ops i K a w) : wpOpM P ops i K' a w := by
 unfold wpOpM at *
 split
 . rename_i ho; simp only [ho] at hh; exact h _ _ hh
 . rename_i o ho
   simp only [ho] at hh
   split
   . rename_i hw; simp only [hw, if_true] at hh; exact wp_weaken h hh
   . rename_i hw; simp only [hw] at hh; exact h _ _ hh
theorem wpAny_of_M {Q : Act -> World -> Prop} {Q' : Exit -> Act -> World -> Prop} (hQ : ∀ a w, Q a w -> Q' .normal a w) : ∀ (fuel : Nat) (listed : Array Bool) (a : Act) (w : World),
 wpAnyM P md ops C Q fuel listed a w -> wpAny P md ops Q' fuel listed a w
 | 0, _, _, _, h => ⟨h.1, hQ _ _ h.2⟩
 | fuel + 1, _, _, _, h => ⟨fun h0 => hQ _ _ (h.1 h0), fun i hi => wpOp_of_M (fun a' w' hk => wpAny_of_M hQ fuel _ a' w' hk.2) (h.2 i hi)⟩
theorem PureIn.wpOpM {i : Nat} {o : Oper} {v : Value} {a : Act} {w : World} (hi : ops[i]? = some o) (hy : PureIn P ops C o v a) (hC : C w) {K : Act -> World -> Prop} (h : K (a.put o.dst v) w) : wpOpM P ops i K a w := by
 unfold Go.Proofs.YtkdnebalpdebeaaGreatDoor.wpOpM
 simp only [hi]
 rcases hy with ⟨hw, hv⟩ | ⟨hw, rfl⟩
 . simp only [hw, if_true]
   have h1 := hv w hC
   unfold Oper.wp
   generalize (execOp a.eval o).run P w = r at *
   cases r with
   | ok n w' =>
     cases n <;> simp only [pureUpon] at h1 <;> simp only [Oper.upon]
     case value u => obtain ⟨rfl, rfl⟩ := h1; exact h
     case skip => obtain ⟨rfl, rfl⟩ := h1; exact h
   | halt x w' => simp only [pureUpon] at h1
 . simp only [hw, Bool.false_eq_true, if_false]; exact h
theorem PureIn.of_same {o : Oper} {v : Value} {a a' : Act} (hy : PureIn P ops C o v a) (he : execOp a'.eval o = execOp a.eval o)
 (hw : Region.wanted o (yielded ops a'.tmps) = Region.wanted o (yielded ops a.tmps)) : PureIn P ops C o v a' := by
 unfold PureIn at *
 rw [he, hw]
 exact hy
theorem wpOpM_put {j : Nat} {oi oj : Oper} {v : Value} (hj : ops[j]? = some oj) (hap : oi.apart ops oj = true)
 (hsi : ∀ cs b, oi.op ≠ .select cs b) (hsj : ∀ cs b, oj.op ≠ .select cs b) {K : Act -> World -> Prop} {a : Act} {w : World}
 (hy : PureIn P ops C oi v a) (h : wpOpM P ops j K (a.put oi.dst v) w) :
 wpOpM P ops j (fun a' w' => PureIn P ops C oi v a' /\ K (a'.put oi.dst v) w') a w := by
 obtain ⟨h1, h2, h3⟩ := Oper.apart_spec hap
 have keep : ∀ (a : Act), PureIn P ops C oi v a -> ∀ u, PureIn P ops C oi v (a.put oj.dst u) := fun a hy u =>
  hy.of_same (execOp_put oi hsi a oj.dst u h3) (wanted_put oi a oj.dst u h3)
 unfold wpOpM at *
 simp only [hj] at *
 rw [wanted_put oj a oi.dst v h1] at h
 split
 . rename_i hw
   simp only [hw, if_true] at h
   unfold Oper.wp at *
   rw [execOp_put oj hsj a oi.dst v h1] at h
   generalize (execOp a.eval oj).run P w = r at *
   cases r with
   | ok n w' =>
     cases n <;> simp only [Oper.upon] at h ⊢
     case value u => exact ⟨keep a hy u, by rw [<- Act.put_comm a v u h2]; exact h⟩
     case skip => exact ⟨keep a hy _, by rw [<- Act.put_comm a v undef h2]; exact h⟩
     case enter f args =>
      exact Calls.mono h (fun e w'' he => by
       cases e with
       | returned u => exact ⟨keep a hy u, by rw [<- Act.put_comm a v u h2]; exact he⟩
       | panicked c => exact absurd he (by simp [NoQ])
       | outgrown => obtain ⟨_, _, h0⟩ := he; exact absurd h0 (by simp [NoQ]))
     case row rr args => exact Rows.mono h (fun u _ he => ⟨keep a hy u, by rw [<- Act.put_comm a v u h2]; exact he⟩)
     case defer d =>
      have hd : ∀ x : Act, PureIn P ops C oi v x -> PureIn P ops C oi v { x with defers := d :: x.defers } := fun x hx => hx
      refine ⟨keep { a with defers := d :: a.defers } hy _, ?_⟩
      have e : ({ a.put oi.dst v with defers := d :: (a.put oi.dst v).defers } : Act).put oj.dst undef = ((({ a with defers := d :: a.defers } : Act).put oj.dst undef).put oi.dst v) := by
       rw [<- Act.put_comm { a with defers := d :: a.defers } v undef h2]
       cases oi.dst <;> rfl
      rw [<- e]
      exact h
     all_goals exact h.elim
   | halt x w' => cases x <;> simp only [Oper.upon, NoQ] at h
 . rename_i hw
   simp only [hw] at h
   exact ⟨keep a hy _, by rw [<- Act.put_comm a v undef h2]; exact h⟩
theorem wpAnyM_first {Q : Act -> World -> Prop} {i : Nat} {oi : Oper} {v : Value} (hi : ops[i]? = some oi) (hsel : ∀ (j : Nat) (o : Oper) cs b, ops[j]? = some o -> o.op ≠ .select cs b) :
 ∀ (fuel : Nat) (listed : Array Bool) (a : Act) (w : World), C w ->
   (∀ j oj, ops[j]? = some oj -> j ≠ i -> listed.getD j true = false -> (∀ e ∈ oj.after, Region.binds md e = true -> e.on ≠ i) -> oi.apart ops oj = true) ->
   i ∈ Region.ready md ops listed -> PureIn P ops C oi v a ->
   wpAnyM P md ops C Q fuel (listed.setIfInBounds i true) (a.put oi.dst v) w -> wpAnyM P md ops C Q (fuel + 1) listed a w := by
 intro fuel
 induction fuel with
 | zero =>
   intro listed a w hC _ hr hy H
   refine ⟨fun h => (by rw [h] at hr; cases hr), fun j hj => ?_⟩
   by_cases hji : j = i
   . subst hji; exact hy.wpOpM hi hC ⟨hC, H⟩
   . have := ready_mono hj hji
     rw [H.1] at this
     cases this
 | succ fuel ih =>
   intro listed a w hC hfree hr hy H
   refine ⟨fun h => (by rw [h] at hr; cases hr), fun j hj => ?_⟩
   by_cases hji : j = i
   . subst hji; exact hy.wpOpM hi hC ⟨hC, H⟩
   . have h1 := H.2 j (ready_mono hj hji)
     obtain ⟨hjun, oj, hoj, hall⟩ := mem_ready.1 hj
     have hnot : ∀ e ∈ oj.after, Region.binds md e = true -> e.on ≠ i := fun e he hb heq => by
      have h1 := hall e he hb
      have h0 := (mem_ready.1 hr).1
      rw [heq] at h1
      rcases Nat.lt_or_ge i listed.size with h' | h'
      . simp [h'] at h0 h1; rw [h0] at h1; cases h1
      . simp [Array.getElem?_eq_none h'] at h1
     have h2 := wpOpM_put hoj (hfree j oj hoj hji hjun hnot) (fun cs b => hsel i oi cs b hi) (fun cs b => hsel j oj cs b hoj) hy h1
     have hfree' : ∀ k ok, ops[k]? = some ok -> k ≠ i -> (listed.setIfInBounds j true).getD k true = false ->
      (∀ e ∈ ok.after, Region.binds md e = true -> e.on ≠ i) -> oi.apart ops ok = true := fun k ok hk hki hun hno => by
      refine hfree k ok hk hki ?_ hno
      by_cases hjk : j = k
      . subst hjk; exact hjun
      . rw [getD_set_ne true hjk] at hun; exact hun
     refine wpOpM_mono (fun a' w' h3 => ⟨h3.2.1, ih (listed.setIfInBounds j true) a' w' h3.2.1 hfree' (ready_mono hr (Ne.symm hji)) h3.1 ?_⟩) h2
     rw [Array.setIfInBounds_comm _ _ hji]
     exact h3.2.2
def planB (md : Region.Mode) (ops : Array Oper) : List (Bool × Nat) -> Array Bool -> Bool
 | [], listed => (Region.ready md ops listed).isEmpty
 | (true, k) :: r, listed => (Region.ready md ops listed).contains k && Region.free md ops listed k && ((ops[k]?).map (plainOp ·.op)).getD false && planB md ops r (listed.setIfInBounds k true)
 | (false, k) :: r, listed => Region.ready md ops listed == [k] && planB md ops r (listed.setIfInBounds k true)
def wpFlat (P : Program) (ops : Array Oper) (C : World -> Prop) (Q : Act -> World -> Prop) : List (Bool × Nat) -> Act -> World -> Prop
 | [], a, w => Q a w
 | (true, k) :: r, a, w => qOp P ops C k (fun a' => wpFlat P ops C Q r a' w) a
 | (false, k) :: r, a, w => wpOpM P ops k (fun a w => C w /\ wpFlat P ops C Q r a w) a w
theorem pure_of_quiet {o : Oper} {a : Act} {v : Value} (hp : plainOp o.op = true) (h : YieldsIn P ops C o v a) : PureIn P ops C o v a := by
 rcases h with ⟨hw, h⟩ | h
 . refine .inl ⟨hw, fun w hC => ?_⟩
   have h1 := h w hC
   unfold Oper.quietAt at h1
   have hne := noEnter (P := P) hp a.eval w
   generalize (execOp a.eval o).run P w = r at *
   cases r with
   | ok n w' =>
     cases n <;> simp only [Oper.quietUpon] at h1 <;> simp only [pureUpon]
     case value u => exact h1
     case skip => exact h1
     case enter f args => exact absurd rfl (hne f args w')
   | halt x w' => simp only [Oper.quietUpon] at h1
 . exact .inr h
theorem wpAnyM_of_flat {Q : Act -> World -> Prop} (hs : Region.noSelect ops = true) : ∀ (l : List (Bool × Nat)) (listed : Array Bool) (a : Act) (w : World), C w ->
 planB md ops l listed = true -> wpFlat P ops C Q l a w -> wpAnyM P md ops C Q l.length listed a w
 | [], _, _, _, _, hB, h => ⟨by simpa [planB] using hB, h⟩
 | (true, k) :: l, listed, a, w, hC, hB, h => by
   simp only [planB, Bool.and_eq_true] at hB
   obtain ⟨⟨⟨hr, hf⟩, hp⟩, hB'⟩ := hB
   cases h0 : ops[k]? with
   | none => rw [h0] at hp; simp at hp
   | some o =>
     rw [h0] at hp
     obtain ⟨v, hy, hK⟩ := yieldsIn_of_qOp h0 h
     exact wpAnyM_first h0 (Region.noSelect_spec hs) l.length listed a w hC (Region.free_spec h0 hf) (by simpa using hr) (pure_of_quiet (by simpa using hp) hy)
      (wpAnyM_of_flat hs l _ _ w hC hB' hK)
 | (false, k) :: l, listed, a, w, hC, hB, h => by
   simp only [planB, Bool.and_eq_true, beq_iff_eq] at hB
   obtain ⟨hr, hB'⟩ := hB
   refine ⟨fun h0 => (by rw [hr] at h0; cases h0), fun i hi => ?_⟩
   rw [hr] at hi
   obtain rfl : i = k := by simpa using hi
   exact wpOpM_mono (fun a' w' hk => ⟨hk.1, wpAnyM_of_flat hs l _ a' w' hk.1 hB' hk.2⟩) h
def onlyNormal (K : Act -> World -> Prop) : Exit -> Act -> World -> Prop
 | .normal, a, w => K a w
 | _, _, _ => False
theorem onlyNormal_normal (K : Act -> World -> Prop) (a : Act) (w : World) : onlyNormal K .normal a w = K a w := rfl
theorem wp_of_onlyNormal {o : Oper} {a : Act} {w : World} {K K' : Act -> World -> Prop} (h : o.wp P a w K (onlyNormal K')) : o.wp P a w K NoQ := by
 unfold Oper.wp at *
 generalize (execOp a.eval o).run P w = r at *
 cases r with
 | ok n w' =>
   cases n <;> simp only [Oper.upon] at h ⊢
   case enter f args =>
    exact Calls.mono h (fun e w'' he => by
     cases e with
     | returned u => exact he
     | panicked c => exact absurd he (by simp [onlyNormal])
     | outgrown => obtain ⟨_, _, h0⟩ := he; exact absurd h0 (by simp [onlyNormal]))
   all_goals exact h
 | halt x w' => cases x <;> simp only [Oper.upon, onlyNormal] at h
theorem wpOpM_of_list {k : Nat} {o : Oper} (h0 : ops[k]? = some o) {K : Act -> World -> Prop} {a : Act} {w : World} (h : wpList P ops (onlyNormal K) [o] a w) : wpOpM P ops k K a w := by
 unfold wpOpM
 simp only [h0]
 unfold wpList at h
 split
 . rename_i hw
   rw [if_pos hw] at h
   rcases h with h | ⟨_, _, _, h⟩
   . exact wp_of_onlyNormal h
   . exact absurd h (by simp [onlyNormal])
 . rename_i hw
   rw [if_neg hw] at h
   exact h
def opAt (l : List Oper) (k : Nat) : Oper := (l[k]?).getD default
def wpSegs (P : Program) (ops : Array Oper) (C : World -> Prop) (Q : Act -> World -> Prop) : List (List Oper × Option Oper) -> Act -> World -> Prop
 | [], a, w => Q a w
 | (seg, none) :: r, a, w => wpQuiet P ops C (fun a' => wpSegs P ops C Q r a' w) seg a
 | (seg, some o) :: r, a, w => wpQuiet P ops C (fun a' => wpList P ops (onlyNormal fun a w => C w /\ wpSegs P ops C Q r a w) [o] a' w) seg a
def flatOf : List (List Nat × Option Nat) -> List (Bool × Nat)
 | [] => []
 | (seg, e) :: r => seg.map (fun k => (true, k)) ++ (e.toList.map (fun k => (false, k)) ++ flatOf r)
theorem wpFlat_of_quiet {Q : Act -> World -> Prop} {l : List Oper} {r : List (Bool × Nat)} {w : World} : ∀ (seg : List Nat) (a : Act), (∀ k ∈ seg, k < l.length) ->
 wpQuiet P l.toArray C (fun a' => wpFlat P l.toArray C Q r a' w) (seg.map (opAt l)) a -> wpFlat P l.toArray C Q (seg.map (fun k => (true, k)) ++ r) a w
 | [], a, _, h => h
 | k :: seg, a, hk, h => by
   have h0 : l.toArray[k]? = some (opAt l k) := by
    have := hk k (by simp)
    simp [opAt, this]
   simp only [List.map_cons, List.cons_append, wpFlat]
   unfold qOp
   simp only [h0]
   simp only [List.map_cons, wpQuiet] at h
   split
   . rename_i hw
     rw [if_pos hw] at h
     exact Oper.quiet_mono (fun a' ha => wpFlat_of_quiet seg a' (fun k hk' => hk k (by simp [hk'])) ha) h
   . rename_i hw
     rw [if_neg hw] at h
     exact wpFlat_of_quiet seg _ (fun k hk' => hk k (by simp [hk'])) h
theorem wpQuiet_mono {Q Q' : Act -> Prop} (h : ∀ a, Q a -> Q' a) : ∀ (l : List Oper) (a : Act), wpQuiet P ops C Q l a -> wpQuiet P ops C Q' l a
 | [], a, hq => h _ hq
 | o :: l, a, hq => by
   simp only [wpQuiet] at hq ⊢
   split
   . rename_i hw; rw [if_pos hw] at hq; exact Oper.quiet_mono (fun a' ha => wpQuiet_mono h l a' ha) hq
   . rename_i hw; rw [if_neg hw] at hq; exact wpQuiet_mono h l _ hq
theorem wpFlat_of_segs {Q : Act -> World -> Prop} {l : List Oper} : ∀ (plan : List (List Nat × Option Nat)) (a : Act) (w : World), (∀ p ∈ flatOf plan, p.2 < l.length) ->
 wpSegs P l.toArray C Q (plan.map fun p => (p.1.map (opAt l), p.2.map (opAt l))) a w -> wpFlat P l.toArray C Q (flatOf plan) a w
 | [], a, w, _, h => h
 | (seg, none) :: r, a, w, hk, h => by
   simp only [flatOf, Option.toList_none, List.map_nil, List.nil_append]
   refine wpFlat_of_quiet seg a (fun k hk' => hk (true, k) (by simp [flatOf, hk'])) ?_
   simp only [List.map_cons, Option.map_none, wpSegs] at h
   exact wpQuiet_mono (fun a' ha => wpFlat_of_segs r a' w (fun p hp => hk p (by simp [flatOf, hp])) ha) _ _ h
 | (seg, some k) :: r, a, w, hk, h => by
   simp only [flatOf, Option.toList_some, List.map_cons, List.map_nil, List.cons_append, List.nil_append]
   refine wpFlat_of_quiet seg a (fun k hk' => hk (true, k) (by simp [flatOf, hk'])) ?_
   simp only [List.map_cons, Option.map_some, wpSegs] at h
   refine wpQuiet_mono (fun a' ha => ?_) _ _ h
   have hkl := hk (false, k) (by simp [flatOf])
   have h0 : l.toArray[k]? = some (opAt l k) := by simp [opAt, show k < l.length from hkl]
   simp only [wpFlat]
   exact wpOpM_mono (fun a2 w2 h2 => ⟨h2.1, wpFlat_of_segs r a2 w2 (fun p hp => hk p (by simp [flatOf, hp])) h2.2⟩) (wpOpM_of_list h0 ha)
def mixB (l : List Oper) (plan : List (List Nat × Option Nat)) : Bool :=
 Region.noSelect l.toArray && planB .any l.toArray (flatOf plan) (Array.replicate l.toArray.size false) && (flatOf plan).length == l.length && (flatOf plan).all (fun p => decide (p.2 < l.length))
theorem wp_region_mix {id : Nat} {Q : Exit -> Act -> World -> Prop} {a : Act} {w : World} {l : List Oper} (plan : List (List Nat × Option Nat)) (hm : P.follows .mixedOrders = true) (hB : mixB l plan = true)
 (hC : C w.drew) (h : wpSegs P l.toArray C (fun a' w' => Q .normal a' w') (plan.map fun p => (p.1.map (opAt l), p.2.map (opAt l))) a w.drew) : (Code.region id l.toArray true).wp P Q a w := by
 simp only [mixB, Bool.and_eq_true, beq_iff_eq, List.all_eq_true, decide_eq_true_eq] at hB
 obtain ⟨⟨⟨h1, h2⟩, h3⟩, h4⟩ := hB
 refine wp_region_any hm (wpAny_of_M (Q := fun a' w' => Q .normal a' w') (C := C) (fun _ _ h => h) _ _ _ _ ?_)
 have := wpAnyM_of_flat (P := P) (C := C) (md := .any) (Q := fun a' w' => Q .normal a' w') h1 (flatOf plan) _ a w.drew hC h2 (wpFlat_of_segs plan a w.drew h4 h)
 rw [h3] at this
 simpa using this
end
end
end Go.Proofs.YtkdnebalpdebeaaGreatDoor
