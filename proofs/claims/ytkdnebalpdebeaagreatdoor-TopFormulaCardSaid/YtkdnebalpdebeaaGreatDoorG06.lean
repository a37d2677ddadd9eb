/- Lemmas of a claim: Part, Dec, DecA, DecB, DecC -/
import Derived.Laws.CopyRow
import Derived.Test.YtkdnebalpdebeaaGreatDoorG05
set_option linter.unusedVariables false
set_option linter.unusedSimpArgs false
set_option maxHeartbeats 16000000
set_option maxRecDepth 100000
namespace Go.Proofs.YtkdnebalpdebeaaGreatDoor
section
open Go.RowKit Go.Deep
theorem Has.upd {W w w' : World} {g : Nat} {t : TypeId} {old new : Array Value} {fs : List (Nat × TypeId × Array Value)} (h : Has W fs w) (i : Nat) (hi : fs[i]? = some (g, t, old)) (hg : W.heap.size <= g) (hne : ∀ f ∈ fs.eraseIdx i, f.1 ≠ g)
 (hn : Blk w' g t new) (hfar : ∀ g' t' c', g' ≠ g -> Blk w g' t' c' -> Blk w' g' t' c') (hbel : ∀ B w0, B <= g -> Below B w0 w -> Below B w0 w') : Has W (fs.set i (g, t, new)) w' := by
 refine ⟨hbel _ _ hg h.1, fun f hf => ?_⟩
 obtain ⟨j, hj⟩ := List.mem_iff_getElem?.1 hf
 by_cases hij : i = j
 . subst hij
   have hlt : i < fs.length := (List.getElem?_eq_some_iff.1 hi).1
   rw [List.getElem?_set_self hlt] at hj
   cases hj; exact hn
 . rw [List.getElem?_set_ne hij] at hj
   exact hfar _ _ _ (hne f (List.mem_eraseIdx_iff_getElem?.2 ⟨j, fun e => hij e.symm, hj⟩)) (h.2 f (List.mem_of_getElem? hj))
theorem Has.setAt {W w : World} {g : Nat} {t : TypeId} {old : Array Value} {fs : List (Nat × TypeId × Array Value)} (h : Has W fs w) (i : Nat) (hi : fs[i]? = some (g, t, old)) (hg : W.heap.size <= g) (hne : ∀ f ∈ fs.eraseIdx i, f.1 ≠ g) (k : Nat) (v : Value) :
 Has W (fs.set i (g, t, old.setIfInBounds k v)) (w.setCell ⟨g, k, none⟩ v) :=
 h.upd i hi hg hne ((h.get i hi).set_ k v) (fun g' t' c' hne hb => hb.far (by simpa using hne) _) (fun B w0 hB hb => hb.setCell hB _)
section
variable {P : Program}
theorem run_loadVar_part (w : World) (g off : Nat) (t ty : TypeId) (cs part : Array Value) (d : TypeDesc) (hg : Blk w g t cs) (hp : ∀ j v, part.toList[j]? = some v -> cs[off + j]? = some v)
 (hu : P.underlying ty = some d) (hd : (match d with | .struct _ | .array _ _ => true | _ => false) = true) (hi : (P.info? ty).map (·.size) = some part.size) :
 (loadVar ty ⟨g, off, none⟩).run P w = .ok (.agg part) w := by
 have hl : (loadCells ⟨g, off, none⟩ part.toList.length).run P w = .ok part.toList.toArray w :=
  run_loadCells_list (P := P) w ⟨g, off, none⟩ part.toList (fun j v hv => by
   have hadd : (⟨g, off, none⟩ : Addr).add j = ⟨g, off + j, none⟩ := by unfold Addr.add; split <;> simp_all
   rw [hadd, hg.cell (off + j)]
   exact hp j v hv)
 cases hq : P.info? ty with
 | none => simp [hq] at hi
 | some i =>
   have hs : i.size = part.size := by simpa [hq] using hi
   have hagg : (isAgg ty).run P w = .ok true w := by
    unfold isAgg
    rw [Sem.run_bind, run_underlying hu w]
    cases d <;> simp_all
   simp only [Array.length_toList, Array.toArray_toList] at hl
   simp [loadVar, Sem.run_bind, hagg, sizeOf, typeInfo, hq, hs, hl]
theorem wpList_load_part {ops : Array Oper} {rest : List Oper} {o : Oper} {a : Act} {w : World} {Q : Exit -> Act -> World -> Prop} (hgd : o.guard = none) (ty : TypeId) (x : Operand) (ho : o.op = .load ty x)
 (g off : Nat) (hx : a.eval x = .pointer (some ⟨g, off, none⟩)) (t : TypeId) (cs part : Array Value) (d : TypeDesc) (hg : Blk w g t cs) (hp : ∀ j v, part.toList[j]? = some v -> cs[off + j]? = some v)
 (hu : P.underlying ty = some d) (hd : (match d with | .struct _ | .array _ _ => true | _ => false) = true) (hi : (P.info? ty).map (·.size) = some part.size)
 (h : wpList P ops Q rest (a.put o.dst (.agg part)) w) : wpList P ops Q (o :: rest) a w :=
 wpList_plain hgd fun _ hK => by
  unfold Oper.wp execOp
  simp only [ho, hx, Instr.loadAt, Instr.sureAddr, Sem.run_bind, Sem.run_pure, Result.andThen_ok, run_loadVar_part w g off t ty cs part d hg hp hu hd hi]
  exact hK _ _ h
theorem wpQuiet_part {ops : Array Oper} {C : World -> Prop} {Q : Act -> Prop} {rest : List Oper} {o : Oper} {a : Act} (ty : TypeId) (x : Operand) (ho : o.op = .load ty x) (hw : Region.wanted o (yielded ops a.tmps) = true)
 (g off : Nat) (hx : a.eval x = .pointer (some ⟨g, off, none⟩)) (t : TypeId) (cs part : Array Value) (d : TypeDesc) (hg : ∀ w, C w -> Blk w g t cs) (hp : ∀ j v, part.toList[j]? = some v -> cs[off + j]? = some v)
 (hu : P.underlying ty = some d) (hd : (match d with | .struct _ | .array _ _ => true | _ => false) = true) (hi : (P.info? ty).map (·.size) = some part.size)
 (h2 : ∀ K : Act -> Prop, (∀ a, wpQuiet P ops C Q rest a -> K a) -> K (a.put o.dst (.agg part))) : wpQuiet P ops C Q (o :: rest) a := by
 refine wpQuiet_val (.agg part) hw (fun w hC => ?_) h2
 unfold execOp
 simp only [ho, hx, Instr.loadAt, Instr.sureAddr, Sem.run_bind, Sem.run_pure, Result.andThen_ok, run_loadVar_part w g off t ty cs part d (hg w hC) hp hu hd hi]
def splice (old : Array Value) (off : Nat) (part : Array Value) : Array Value := (old.toList.take off ++ part.toList ++ old.toList.drop (off + part.size)).toArray
theorem wpList_putP {ops : Array Oper} {rest : List Oper} {o : Oper} {a : Act} {w : World} {Q : Exit -> Act -> World -> Prop} (hgd : o.guard = none) (ty : TypeId) (x y : Operand) (ho : o.op = .store ty x y)
 (g off : Nat) (part : Array Value) (hx : a.eval x = .pointer (some ⟨g, off, none⟩)) (hy : a.eval y = .agg part) (t : TypeId) (old new : Array Value) (hg : Blk w g t old) (hi : (P.info? ty).map (·.size) = some part.size)
 (hfit : off + part.size <= old.size) (h1 : part.all (·.oneCell') = true) (hnew : splice old off part = new)
 (h : ∀ W2, Blk W2 g t new -> (∀ g' t' cs, g' ≠ g -> Blk w g' t' cs -> Blk W2 g' t' cs) -> (∀ B w0, B <= g -> Below B w0 w -> Below B w0 W2) -> W2.heap.size = w.heap.size -> (∀ p : Addr, p.block ≠ g -> W2.cell? p = w.cell? p) -> wpList P ops Q rest (a.put o.dst undef) W2) : wpList P ops Q (o :: rest) a w := by
 refine wpList_plain hgd fun _ hK => ?_
 have hst := run_storeCells_at P g off t part.toList 0 old w hg (by simpa using hfit) (fun v hv => by rw [Array.all_eq_true'] at h1; exact h1 v (by simpa using hv))
 have hsv : (storeVar ty ⟨g, off, none⟩ (.agg part)).run P w = .ok () (w.setRow g new) := by
  cases hq : P.info? ty with
  | none => simp [hq] at hi
  | some i =>
    have hs : i.size = part.size := by simpa [hq] using hi
    rw [<- hnew]
    simp [storeVar, Sem.run_bind, Value.cells, sizeOf, typeInfo, hq, hs, hst, splice]
 unfold Oper.wp execOp
 simp only [ho, hx, hy, Instr.storeAt, Instr.sureAddr, Sem.run_bind, Sem.run_pure, Result.andThen_ok, hsv]
 exact hK _ _ (h _ (setRow_heap w g old new t (0, 0) hg) (fun g' t' cs hne hb => (setRow_other w g g' _ hne).trans hb) (fun B w0 hB hb => below_setRow hb hB _) (by simp) (fun p hp => cell_setRow_other w g new p hp))
end
end
namespace Dec
open Go Wide
def T : Nat := 170141183460469231731687303715884105728
theorem T_lt : T < P 2 := by decide
theorem T_pow : T = 2 ^ 127 := by decide
def decE (c s : Int) : Array Value := #[.int .i64 (c / 18446744073709551616), .int .u64 (c % 18446744073709551616), .int .i64 s]
def numE (m : Bool) (n : Nat) (s : Int) : Array Value := #[.bool m, .int .u64 (w n 0 : Nat), .int .u64 (w n 1 : Nat), .int .u64 (w n 2 : Nat), .int .u64 (w n 3 : Nat), .int .u64 (w n 4 : Nat), .int .u64 (w n 5 : Nat), .int .i64 s]
theorem w_zero (n : Nat) : w n 0 = n % 18446744073709551616 := by unfold w; rw [P_zero, Nat.div_one]; rfl
theorem w_one (n : Nat) : w n 1 = n / 18446744073709551616 % 18446744073709551616 := by unfold w; rw [show P 1 = 18446744073709551616 from rfl]; rfl
theorem w_high {n k : Nat} (h : n < P k) : w n k = 0 := by unfold w; rw [Nat.div_eq_of_lt h]; rfl
theorem P_mono {i j : Nat} (h : i <= j) : P i <= P j := Nat.pow_le_pow_right B_pos h
theorem two_lit : P 2 = 340282366920938463463374607431768211456 := by decide
theorem words_two {n : Nat} (h : n < P 2) : (w n 0 : Nat) + 18446744073709551616 * w n 1 = n /\ w n 2 = 0 /\ w n 3 = 0 /\ w n 4 = 0 /\ w n 5 = 0 := by
 refine ⟨?_, w_high h, w_high (Nat.lt_of_lt_of_le h (P_mono (by omega))), w_high (Nat.lt_of_lt_of_le h (P_mono (by omega))), w_high (Nat.lt_of_lt_of_le h (P_mono (by omega)))⟩
 rw [w_zero, w_one]; rw [two_lit] at h; omega
def InT (c : Int) : Prop := -170141183460469231731687303715884105728 <= c /\ c < 170141183460469231731687303715884105728
theorem inT_hi {c : Int} (h : InT c) : -9223372036854775808 <= c / 18446744073709551616 /\ c / 18446744073709551616 <= 9223372036854775807 := by
 unfold InT at h; omega
theorem apart_pos {c : Int} (h : InT c) (h0 : 0 <= c) : c % 18446744073709551616 = (w c.natAbs 0 : Nat) /\ c / 18446744073709551616 = (w c.natAbs 1 : Nat) := by
 unfold InT at h; rw [w_zero, w_one]; omega
theorem apart_neg {c : Int} (h : InT c) (h0 : c < 0) : (18446744073709551616 - c % 18446744073709551616) % 18446744073709551616 = (w c.natAbs 0 : Nat) /\
 (c % 18446744073709551616 = 0 -> -1 - c / 18446744073709551616 + 1 = (w c.natAbs 1 : Nat)) /\ (c % 18446744073709551616 ≠ 0 -> -1 - c / 18446744073709551616 = (w c.natAbs 1 : Nat)) := by
 unfold InT at h; rw [w_zero, w_one]; omega
theorem len_lt {n : Nat} : ((127 : Int) < (Go.bitLen n : Nat)) ↔ ¬ n < T := by
 have h1 := (Go.bitLen_spec n).1
 rw [T_pow]
 constructor
 . intro h h'
   have := bitLen_lt h'
   omega
 . intro h
   rcases Nat.lt_or_ge 127 (Go.bitLen n) with h2 | h2
   . omega
   . exact absurd (Nat.lt_of_lt_of_le h1 (Nat.pow_le_pow_right (by decide) h2)) h
def coef (m : Bool) (n : Nat) : Int := if m then -(n : Int) else n
def moreB (mode : Int) (m : Bool) (q r b : Nat) : Bool :=
 if r = 0 then false else
 if mode = 0 then false else if mode = 1 then true else if mode = 2 then m else if mode = 3 then !m
 else if mode = 4 then decide (b <= 2 * r) else if mode = 5 then decide (b < 2 * r) else decide (b < 2 * r) || (decide (b = 2 * r) && decide (q % 2 = 1))
def roundN (mode : Int) (m : Bool) (a b : Nat) : Nat := if moreB mode m (a / b) (a % b) b then a / b + 1 else a / b
end Dec
namespace Dec
open Go.RowKit Go.Deep Wide
def chk (c s : Int) : Int := if s < 0 ∨ 18 < s ∨ c = -170141183460469231731687303715884105728 then 3 else 0
theorem chk_no {c s : Int} (h : s < 0 ∨ 18 < s ∨ c = -170141183460469231731687303715884105728) : chk c s = 3 := if_pos h
theorem chk_yes {c s : Int} (h : ¬ (s < 0 ∨ 18 < s ∨ c = -170141183460469231731687303715884105728)) : chk c s = 0 := if_neg h
theorem results_one {fn : Func} {u : Tmp} (h : fn.results = #[.tmp u]) (tmps : Array Value) (w : World) {v : Value} (hv : tmps.getD u undef = v) : (results fn tmps).run Tryz.prog w = .ok v w := by
 subst hv; exact results_tmp h _ _ _
theorem check_ok (c s : Int) (hc : InT c) (W : World) :
 Calls Tryz.prog 42 #[.agg (decE c s)] W fun e w' => e = .returned (.int .i64 (chk c s)) /\ Below W.heap.size W w' := by
 obtain ⟨h, hh⟩ : ∃ h, h = c / 18446744073709551616 := ⟨_, rfl⟩
 obtain ⟨l, hl⟩ : ∃ l, l = c % 18446744073709551616 := ⟨_, rfl⟩
 rw [decE, <- hh, <- hl]
 have hiff : (c = -170141183460469231731687303715884105728) ↔ (h = -9223372036854775808 /\ l = 0) := by omega
 have hbl : Below W.heap.size W (W.alloc (.cells #[.int .i64 h, .int .u64 l, .int .i64 s] 56)) := (Below.refl _ _).alloc (Nat.le_refl _) _
 clear hh hl hc
 by_cases h1 : s < 0
 . rw [chk_no (.inl h1)]
   clear hiff
   go_enter Tryz.func42, Tryz.ntmps42
   go_wp2_with fail
   exact bodyPost_ret (results_one rfl _ _ rfl) rfl ⟨rfl, hbl⟩
 . by_cases h2 : 18 < s
   . rw [chk_no (.inr (.inl h2))]
     clear hiff
     go_enter Tryz.func42, Tryz.ntmps42
     go_wp2_with fail
     exact bodyPost_ret (results_one rfl _ _ rfl) rfl ⟨rfl, hbl⟩
   . have h1' : decide (s < 0) = false := by simpa using h1
     have h2' : decide (18 < s) = false := by simpa using h2
     by_cases h3 : h = -9223372036854775808 /\ l = 0
     . rw [chk_no (.inr (.inr (hiff.2 h3)))]
       obtain ⟨rfl, rfl⟩ := h3
       clear hiff h1 h2
       go_enter Tryz.func42, Tryz.ntmps42
       go_wp2_with fail
       exact bodyPost_ret (results_one rfl _ _ rfl) rfl ⟨rfl, hbl⟩
     . rw [chk_yes (by rw [hiff]; omega)]
       clear hiff h1 h2
       by_cases h4 : h = -9223372036854775808
       . have h5 : (l == 0) = false := beq_eq_false_iff_ne.2 (by omega)
         subst h4
         clear h3
         go_enter Tryz.func42, Tryz.ntmps42
         go_wp2_with fail
         exact bodyPost_ret (results_one rfl _ _ rfl) rfl ⟨rfl, hbl⟩
       . have h5 : (h == -9223372036854775808) = false := beq_eq_false_iff_ne.2 h4
         clear h3 h4
         go_enter Tryz.func42, Tryz.ntmps42
         go_wp2_with fail
         exact bodyPost_ret (results_one rfl _ _ rfl) rfl ⟨rfl, hbl⟩
theorem way_ok (s m : Int) (h : 0 <= s /\ s <= 18 /\ 0 <= m /\ m <= 6) (W : World) :
 Calls Tryz.prog 187 #[.int .i64 s, .int .i64 m] W fun e w' => e = .returned (.int .i64 0) /\ w' = W := by
 obtain ⟨a1, a2, a3, a4⟩ := h
 have h1 : decide (s < 0) = false := by simpa using a1
 have h2 : decide (18 < s) = false := by simpa using a2
 have h3 : decide (m < 0) = false := by simpa using a3
 have h4 : decide (6 < m) = false := by simpa using a4
 go_enter Tryz.func187, Tryz.ntmps187
 go_wp2_with fail
 exact bodyPost_ret (results_one rfl _ _ rfl) rfl ⟨rfl, rfl⟩
theorem both_ok (a s b u : Int) (ha : InT a) (hb : InT b) (hs : chk a s = 0) (W : World) :
 Calls Tryz.prog 184 #[.agg (decE a s), .agg (decE b u)] W fun e w' => e = .returned (.int .i64 (chk b u)) /\ Below W.heap.size W w' := by
 have ca := fun W' => check_ok a s ha W'
 rw [hs] at ca
 have cb := fun W' => check_ok b u hb W'
 rw [decE] at ca
 rw [decE] at cb
 rw [decE, decE]
 have CA := Hd ca
 have CB := Hd cb
 clear ca cb hs ha hb
 go_enter Tryz.func184, Tryz.ntmps184
 go_wp2_with fail
 refine (CA.o _).mono ?_
 rintro e w1 ⟨rfl, hb1⟩
 have D : Below W.heap.size W w1 := (((Below.refl _ _).alloc (Nat.le_refl _) _).alloc (by simp) _).trans (hb1.mono (by simp; omega))
 have B2 := (Blk.new' (w := W.alloc (.cells #[.int .i64 (a / 18446744073709551616), .int .u64 (a % 18446744073709551616), .int .i64 s] 56)) (g := W.heap.size + 1) (t := 56) (cs := #[.int .i64 (b / 18446744073709551616), .int .u64 (b % 18446744073709551616), .int .i64 u]) (by simp)).step hb1
 have c0 := B2.cell 0
 have c1 := B2.cell 1
 have c2 := B2.cell 2
 have HB2 := Hd B2
 clear hb1 B2
 go_wp2_with fail
 refine (CB.o _).mono ?_
 rintro e w2 ⟨rfl, hb2⟩
 have D2 := D.trans (hb2.mono D.size)
 go_wp2_with fail
 exact bodyPost_ret (results_one rfl _ _ rfl) rfl ⟨rfl, D2⟩
end Dec
namespace Dec
open Go.RowKit Go.Deep Wide
theorem enc_lit (n : Nat) : enc n = #[.int .u64 (w n 0 : Nat), .int .u64 (w n 1 : Nat), .int .u64 (w n 2 : Nat), .int .u64 (w n 3 : Nat), .int .u64 (w n 4 : Nat), .int .u64 (w n 5 : Nat)] := rfl
theorem dof_ok (n s : Int) (hn : -9223372036854775808 <= n /\ n <= 9223372036854775807) (h : 0 <= s /\ s <= 18) (W : World) :
 Calls Tryz.prog 183 #[.int .i64 n, .int .i64 s] W fun e w' => e = .returned (.tuple #[.agg (decE n s), .int .i64 0]) /\ Below W.heap.size W w' := by
 obtain ⟨a1, a2⟩ := h
 obtain ⟨n1, n2⟩ := hn
 have h1 : decide (s < 0) = false := by simpa using a1
 have h2 : decide (18 < s) = false := by simpa using a2
 have e1 : n / 18446744073709551616 = n / 9223372036854775808 := by omega
 have e2 : IntKind.u64.wrap n = n % 18446744073709551616 := by rw [IntKind.wrap_u64]
 rw [decE, e1]
 clear e1
 go_enter Tryz.func183, Tryz.ntmps183
 go_wp2_with fail
 exact bodyPost_ret (results_row_tmp rfl _ _ W.heap.size 56 _ _ _ rfl (Blk.new _ _ _) Tryz.underlying56 rfl (by kernel_rfl) rfl) rfl ⟨rfl, (Below.refl _ _).alloc (Nat.le_refl _) _⟩
theorem xor_max (n : Nat) (h : n < 18446744073709551616) : bits .xor .u64 IntKind.u64.max (n : Int) = 18446744073709551615 - (n : Int) := by
 show IntKind.u64.wrap ((BitVec.ofInt 64 18446744073709551615 ^^^ BitVec.ofInt 64 (n : Int)).toNat : Int) = _
 have e : BitVec.ofInt 64 18446744073709551615 = BitVec.allOnes 64 := by decide
 rw [e, BitVec.allOnes_xor, BitVec.ofInt_natCast, BitVec.toNat_not, BitVec.toNat_ofNat, Nat.mod_eq_of_lt (by omega), IntWalk.u64_in _ (by omega)]
 omega
theorem of2 {h l : Int} {n : Nat} (hP : n < P 2) (p1 : l = (w n 0 : Nat)) (p2 : h = (w n 1 : Nat)) (W : World) : Calls Tryz.prog 89 #[.int .u64 h, .int .u64 l] W fun e w' =>
 e = .returned (.agg #[.int .u64 (w n 0 : Nat), .int .u64 (w n 1 : Nat), .int .u64 (w n 2 : Nat), .int .u64 (w n 3 : Nat), .int .u64 (w n 4 : Nat), .int .u64 (w n 5 : Nat)]) /\ Below W.heap.size W w' := by
 subst p1 p2
 have := of_ok (w n 1) (w n 0) (w_lt _ _) (w_lt _ _) W
 have e : w n 1 * B + w n 0 = n := by have := (words_two hP).1; unfold B; omega
 rwa [e, enc_lit] at this
theorem numE_size (m : Bool) (n : Nat) (s : Int) : (numE m n s).size = 8 := rfl
theorem numE_all (m : Bool) (n : Nat) (s : Int) : (numE m n s).all (·.oneCell') = true := by rw [numE, Array.all_eq_true']; simp [Value.oneCell']
theorem apart_ok (c s : Int) (hc : InT c) (W : World) :
 Calls Tryz.prog 43 #[.agg (decE c s)] W fun e w' => e = .returned (.agg (numE (decide (c < 0)) c.natAbs s)) /\ Below W.heap.size W w' := by
 obtain ⟨hv, hh⟩ : ∃ hv, hv = c / 18446744073709551616 := ⟨_, rfl⟩
 obtain ⟨l, hl⟩ : ∃ l, l = c % 18446744073709551616 := ⟨_, rfl⟩
 rw [decE, <- hh, <- hl]
 have hhl := inT_hi hc
 rw [<- hh] at hhl
 have hl0 : 0 <= l /\ l < 18446744073709551616 := by omega
 by_cases h0 : c < 0
 . have hn : decide (c < 0) = true := by simpa using h0
   rw [hn]
   obtain ⟨p1, p2, p3⟩ := apart_neg hc h0
   rw [<- hh, <- hl] at p2 p3
   rw [<- hl] at p1
   obtain ⟨n, hne⟩ : ∃ n, n = c.natAbs := ⟨_, rfl⟩
   rw [<- hne] at p1 p2 p3 ⊢
   have hnP : n < P 2 := by rw [two_lit]; unfold InT at hc; omega
   have hh0 : hv < 0 := by omega
   have hd : decide (hv < 0) = true := by simpa using hh0
   have e1 : IntKind.u64.wrap hv = hv + 18446744073709551616 := by rw [IntKind.wrap_u64]; omega
   have HN := Hd hne
   by_cases hl1 : l = 0
   . have PL := Hd p1
     have PH := Hd (p2 hl1)
     obtain ⟨k, hk⟩ : ∃ k : Int, k = -1 - hv := ⟨_, rfl⟩
     have ex : bits .xor .u64 IntKind.u64.max (hv + 18446744073709551616) = k := by
      have := xor_max (hv + 18446744073709551616).toNat (by omega)
      rw [show (((hv + 18446744073709551616).toNat : Nat) : Int) = hv + 18446744073709551616 by omega] at this
      rw [this]; omega
     rw [<- hk] at PH
     have e4 : IntKind.u64.wrap (k + 1) = k + 1 := IntWalk.u64_in _ (by omega)
     clear hh p1 p2 p3 hne hn hk
     subst hl1
     have HCC := Hd hl
     clear hl hc h0
     go_enter Tryz.func43, Tryz.ntmps43
     go_wp2_with fail
     refine wp_region_same (by kernel_rfl) (by kernel_rfl) ?_
     repeat still_step
     refine wpStill_nil ?_
     go_wp2_with fail
     refine wp_region_classZ (fun w' => Has W [(W.heap.size, 56, #[.int .i64 hv, .int .u64 0, .int .i64 s]), (W.heap.size + 1, 118, numE false 0 0)] w') [0, 1, 2, 3, 4, 5, 6] 7 (by kernel_rfl) (by kernel_rfl) ?_ ?_
     . refine Has.drew (Has.cons ?_ (Has.cons ?_ (Has.nil ?_)))
       . exact (Blk.new _ _ _).alloc _
       . exact Blk.new' (by simp)
       . exact (Below.al (Below.al (Below.refl _ _) _) _).drew
     simp only [List.map_cons, List.map_nil, opAt, List.getElem?_cons_succ, List.getElem?_cons_zero, Option.getD_some]
     repeat (go_big_quiet_step ((intro _; rfl)))
     go_big_quiet_step ((intro hw; exact (of2 hnP PL.o PH.o _).mono fun e w' h => ⟨h.1, hw.step h.2⟩))
     repeat (go_big_quiet_step ((intro _; rfl)))
     refine wpQuiet_cell 3 (.tmp 27) rfl rfl ⟨W.heap.size, 2, none⟩ rfl (.int .i64 s) _ (fun w hw => (hw.get 0 rfl).cell 2) Tryz.underlying3 rfl (fun K1 k1 => ?_)
     go_simp
     refine k1 _ ?_
     clear k1 K1
     repeat (go_big_quiet_step ((intro _; rfl)))
     refine wpQuiet_nil ?_
     intro w5 H5
     refine wpList_put rfl 118 (.tmp 2) (.tmp 29) rfl (W.heap.size + 1) (numE true n s) rfl rfl 118 _ (H5.get 1 rfl) (by kernel_rfl) rfl (numE_all _ _ _) ?_
     intro W6 HB6 hfar6 hbel6 hsz6 hcell6
     have H6 := hbel6 W.heap.size W (by omega) H5.below
     go_wp2_with fail
     rw [onlyNormal_normal]
     go_wp2_with fail
     exact bodyPost_ret (results_cell_row rfl _ W6 (W.heap.size + 1) 118 (numE true n s) (0, 0) _ rfl HB6 Tryz.underlying118 rfl (by kernel_rfl)) rfl ⟨rfl, H6⟩
   . have PL := Hd p1
     have PH := Hd (p3 hl1)
     obtain ⟨k, hk⟩ : ∃ k : Int, k = -1 - hv := ⟨_, rfl⟩
     have ex : bits .xor .u64 IntKind.u64.max (hv + 18446744073709551616) = k := by
      have := xor_max (hv + 18446744073709551616).toNat (by omega)
      rw [show (((hv + 18446744073709551616).toNat : Nat) : Int) = hv + 18446744073709551616 by omega] at this
      rw [this]; omega
     have e5 : IntKind.u64.wrap (-l) = 18446744073709551616 - l := by rw [IntKind.wrap_u64]; omega
     have e6 : ((18446744073709551616 - l : Int) == 0) = false := beq_eq_false_iff_ne.2 (by omega)
     have e7 : (18446744073709551616 - l) % 18446744073709551616 = 18446744073709551616 - l := by omega
     rw [e7] at PL
     rw [<- hk] at PH
     clear hh p1 p2 p3 hne hn hk e7
     clear hl hc h0
     go_enter Tryz.func43, Tryz.ntmps43
     go_wp2_with fail
     refine wp_region_same (by kernel_rfl) (by kernel_rfl) ?_
     repeat still_step
     refine wpStill_nil ?_
     go_wp2_with fail
     refine wp_region_classZ (fun w' => Has W [(W.heap.size, 56, #[.int .i64 hv, .int .u64 l, .int .i64 s]), (W.heap.size + 1, 118, numE false 0 0)] w') [0, 1, 2, 3, 4, 5, 6] 7 (by kernel_rfl) (by kernel_rfl) ?_ ?_
     . refine Has.drew (Has.cons ?_ (Has.cons ?_ (Has.nil ?_)))
       . exact (Blk.new _ _ _).alloc _
       . exact Blk.new' (by simp)
       . exact (Below.al (Below.al (Below.refl _ _) _) _).drew
     simp only [List.map_cons, List.map_nil, opAt, List.getElem?_cons_succ, List.getElem?_cons_zero, Option.getD_some]
     repeat (go_big_quiet_step ((intro _; rfl)))
     go_big_quiet_step ((intro hw; exact (of2 hnP PL.o PH.o _).mono fun e w' h => ⟨h.1, hw.step h.2⟩))
     repeat (go_big_quiet_step ((intro _; rfl)))
     refine wpQuiet_cell 3 (.tmp 27) rfl rfl ⟨W.heap.size, 2, none⟩ rfl (.int .i64 s) _ (fun w hw => (hw.get 0 rfl).cell 2) Tryz.underlying3 rfl (fun K1 k1 => ?_)
     go_simp
     refine k1 _ ?_
     clear k1 K1
     repeat (go_big_quiet_step ((intro _; rfl)))
     refine wpQuiet_nil ?_
     intro w5 H5
     refine wpList_put rfl 118 (.tmp 2) (.tmp 29) rfl (W.heap.size + 1) (numE true n s) rfl rfl 118 _ (H5.get 1 rfl) (by kernel_rfl) rfl (numE_all _ _ _) ?_
     intro W6 HB6 hfar6 hbel6 hsz6 hcell6
     have H6 := hbel6 W.heap.size W (by omega) H5.below
     go_wp2_with fail
     rw [onlyNormal_normal]
     go_wp2_with fail
     exact bodyPost_ret (results_cell_row rfl _ W6 (W.heap.size + 1) 118 (numE true n s) (0, 0) _ rfl HB6 Tryz.underlying118 rfl (by kernel_rfl)) rfl ⟨rfl, H6⟩
 . have hn : decide (c < 0) = false := by simpa using h0
   rw [hn]
   have hp := apart_pos hc (by omega)
   rw [<- hh, <- hl] at hp
   obtain ⟨p1, p2⟩ := hp
   obtain ⟨n, hne⟩ : ∃ n, n = c.natAbs := ⟨_, rfl⟩
   rw [<- hne] at p1 p2 ⊢
   have hnP : n < P 2 := by rw [two_lit]; unfold InT at hc; omega
   have hh0 : 0 <= hv := by omega
   have hd : decide (hv < 0) = false := by simpa using hh0
   have e1 : IntKind.u64.wrap hv = hv := IntWalk.u64_in _ (by omega)
   have HN := Hd hne
   have PL := Hd p1
   have PH := Hd p2
   clear hh hl hne p1 p2 hc h0 hn
   go_enter Tryz.func43, Tryz.ntmps43
   go_wp2_with fail
   refine wp_region_same (by kernel_rfl) (by kernel_rfl) ?_
   repeat still_step
   refine wpStill_nil ?_
   go_wp2_with fail
   refine wp_region_classZ (fun w' => Has W [(W.heap.size, 56, #[.int .i64 hv, .int .u64 l, .int .i64 s]), (W.heap.size + 1, 118, numE false 0 0)] w') [0, 1, 2, 3, 4, 5, 6] 7 (by kernel_rfl) (by kernel_rfl) ?_ ?_
   . refine Has.drew (Has.cons ?_ (Has.cons ?_ (Has.nil ?_)))
     . exact (Blk.new _ _ _).alloc _
     . exact Blk.new' (by simp)
     . exact (Below.al (Below.al (Below.refl _ _) _) _).drew
   simp only [List.map_cons, List.map_nil, opAt, List.getElem?_cons_succ, List.getElem?_cons_zero, Option.getD_some]
   repeat (go_big_quiet_step ((intro _; rfl)))
   go_big_quiet_step ((intro hw; exact (of2 hnP PL.o PH.o _).mono fun e w' h => ⟨h.1, hw.step h.2⟩))
   repeat (go_big_quiet_step ((intro _; rfl)))
   refine wpQuiet_cell 3 (.tmp 27) rfl rfl ⟨W.heap.size, 2, none⟩ rfl (.int .i64 s) _ (fun w hw => (hw.get 0 rfl).cell 2) Tryz.underlying3 rfl (fun K1 k1 => ?_)
   go_simp
   refine k1 _ ?_
   clear k1 K1
   repeat (go_big_quiet_step ((intro _; rfl)))
   refine wpQuiet_nil ?_
   intro w5 H5
   refine wpList_put rfl 118 (.tmp 2) (.tmp 29) rfl (W.heap.size + 1) (numE false n s) rfl rfl 118 _ (H5.get 1 rfl) (by kernel_rfl) rfl (numE_all _ _ _) ?_
   intro W6 HB6 hfar6 hbel6 hsz6 hcell6
   have H6 := hbel6 W.heap.size W (by omega) H5.below
   go_wp2_with fail
   rw [onlyNormal_normal]
   go_wp2_with fail
   exact bodyPost_ret (results_cell_row rfl _ W6 (W.heap.size + 1) 118 (numE false n s) (0, 0) _ rfl HB6 Tryz.underlying118 rfl (by kernel_rfl)) rfl ⟨rfl, H6⟩
end Dec
namespace Dec
open Go.RowKit Go.Deep Wide
theorem lenL_ok (n : Nat) (hn : n < P 6) (W : World) : Calls Tryz.prog 46 #[.agg #[.int .u64 (w n 0 : Nat), .int .u64 (w n 1 : Nat), .int .u64 (w n 2 : Nat), .int .u64 (w n 3 : Nat), .int .u64 (w n 4 : Nat), .int .u64 (w n 5 : Nat)]] W
 fun e w' => e = .returned (.int .i64 (Go.bitLen n : Nat)) /\ Below W.heap.size W w' := len_ok n hn W
theorem tog_words {n : Nat} (h : n < T) : (0 : Int) <= (w n 1 : Nat) /\ ((w n 1 : Nat) : Int) < 9223372036854775808 /\ (0 : Int) <= (w n 0 : Nat) /\ ((w n 0 : Nat) : Int) < 18446744073709551616 /\ ((w n 0 : Nat) : Int) + 18446744073709551616 * (w n 1 : Nat) = n := by
 have h2 := (words_two (Nat.lt_trans h T_lt)).1
 have h3 := w_lt n 0
 unfold B at h3
 unfold T at h; omega
theorem tog_ok (m : Bool) (n : Nat) (s : Int) (hn : n < T) (W : World) :
 Calls Tryz.prog 47 #[.agg (numE m n s)] W fun e w' => e = .returned (.tuple #[.agg (decE (coef m n) s), .int .i64 0]) /\ Below W.heap.size W w' := by
 have hP6 : n < P 6 := Nat.lt_of_lt_of_le (Nat.lt_trans hn T_lt) (P_mono (by omega))
 obtain ⟨u1, t1, u0, t0, t2⟩ := tog_words hn
 have CL := Hd (fun W' => lenL_ok n hP6 W')
 have hL : decide ((127 : Int) < (Go.bitLen n : Nat)) = false := by
  simp only [decide_eq_false_iff_not]; intro h; exact len_lt.1 h hn
 obtain ⟨L, hLe⟩ : ∃ L, L = Go.bitLen n := ⟨_, rfl⟩
 rw [<- hLe] at CL hL
 obtain ⟨hi, hhi⟩ : ∃ hi : Int, hi = (w n 1 : Nat) := ⟨_, rfl⟩
 obtain ⟨lo, hlo⟩ : ∃ lo : Int, lo = (w n 0 : Nat) := ⟨_, rfl⟩
 rw [<- hhi, <- hlo] at t2
 rw [<- hhi] at t1 u1
 rw [<- hlo] at t0 u0
 rw [numE]
 rw [<- hhi, <- hlo] at CL ⊢
 clear hLe hn hP6
 cases m with
 | false =>
   have EC : Hi (decE (coef false n) s = #[.int .i64 hi, .int .u64 lo, .int .i64 s]) := Hd (by
    unfold decE coef; simp only [Bool.false_eq_true, if_false]
    rw [show (n : Int) / 18446744073709551616 = hi by omega, show (n : Int) % 18446744073709551616 = lo by omega])
   have e1 : IntKind.i64.wrap hi = hi := IntWalk.i64_in _ (by omega)
   clear hhi hlo t2
   go_enter Tryz.func47, Tryz.ntmps47
   go_wp2_with fail
   refine (CL.o _).mono ?_
   rintro e w1 ⟨rfl, hb1⟩
   have H0 : Has W [(W.heap.size, 118, #[.bool false, .int .u64 lo, .int .u64 hi, .int .u64 (w n 2 : Nat), .int .u64 (w n 3 : Nat), .int .u64 (w n 4 : Nat), .int .u64 (w n 5 : Nat), .int .i64 s]), (W.heap.size + 1, 56, #[.int .i64 0, .int .u64 0, .int .i64 0])] w1 := by
    refine Has.step (Has.cons ?_ (Has.cons ?_ (Has.nil ?_))) hb1
    . exact (Blk.new _ _ _).alloc _
    . exact Blk.new' (by simp)
    . exact Below.al (Below.al (Below.refl _ _) _) _
   have H1 := Hd H0
   clear hb1
   have c0 := (H0.get 0 rfl).cell 0
   have c1 := (H0.get 0 rfl).cell 1
   have c2 := (H0.get 0 rfl).cell 2
   have c7 := (H0.get 0 rfl).cell 7
   clear H0
   go_wp2_with fail
   refine wp_region_same (by kernel_rfl) (by kernel_rfl) ?_
   repeat still_step
   refine wpStill_nil ?_
   go_wp2_with (refine wpList_put rfl 56 (.tmp 2) (.tmp 32) rfl (W.heap.size + 1) #[.int .i64 hi, .int .u64 lo, .int .i64 s] rfl (by first | rfl | (go_simp; done) | (go_simp; rfl)) 56 _ (H1.o.get 1 rfl).drew (by kernel_rfl) rfl (by rw [Array.all_eq_true']; simp [Value.oneCell']) ?_
                intro W6 HB6 hfar6 hbel6 hsz6 hcell6)
   have H6 := hbel6 W.heap.size W (by omega) H1.o.below.drew
   rw [EC.o]
   exact bodyPost_ret (results_row_tmp rfl _ W6 (W.heap.size + 1) 56 _ _ _ rfl HB6 Tryz.underlying56 rfl (by kernel_rfl) rfl) rfl ⟨rfl, H6⟩
 | true =>
   have ex : bits .xor .u64 IntKind.u64.max hi = 18446744073709551615 - hi := by
    have := xor_max hi.toNat (by omega)
    rwa [show ((hi.toNat : Nat) : Int) = hi by omega] at this
   have esg : IntKind.u64.signed = false := rfl
   by_cases h0 : lo = 0
   . subst h0
     by_cases h1 : hi = 0
     . subst h1
       have EC : Hi (decE (coef true n) s = #[.int .i64 0, .int .u64 0, .int .i64 s]) := Hd (by
        have : n = 0 := by omega
        subst this; rfl)
       have e2 : IntKind.u64.wrap 18446744073709551616 = 0 := by rw [IntKind.wrap_u64]; rfl
       clear hhi hlo t2
       go_enter Tryz.func47, Tryz.ntmps47
       go_wp2_with fail
       refine (CL.o _).mono ?_
       rintro e w1 ⟨rfl, hb1⟩
       have H0 : Has W [(W.heap.size, 118, #[.bool true, .int .u64 0, .int .u64 0, .int .u64 (w n 2 : Nat), .int .u64 (w n 3 : Nat), .int .u64 (w n 4 : Nat), .int .u64 (w n 5 : Nat), .int .i64 s]), (W.heap.size + 1, 56, #[.int .i64 0, .int .u64 0, .int .i64 0])] w1 := by
        refine Has.step (Has.cons ?_ (Has.cons ?_ (Has.nil ?_))) hb1
        . exact (Blk.new _ _ _).alloc _
        . exact Blk.new' (by simp)
        . exact Below.al (Below.al (Below.refl _ _) _) _
       have H1 := Hd H0
       clear hb1
       have c0 := (H0.get 0 rfl).cell 0
       have c1 := (H0.get 0 rfl).cell 1
       have c2 := (H0.get 0 rfl).cell 2
       have c7 := (H0.get 0 rfl).cell 7
       clear H0
       go_wp2_with fail
       refine wp_region_same (by kernel_rfl) (by kernel_rfl) ?_
       repeat still_step
       refine wpStill_nil ?_
       go_wp2_with (refine wpList_put rfl 56 (.tmp 2) (.tmp 32) rfl (W.heap.size + 1) #[.int .i64 0, .int .u64 0, .int .i64 s] rfl (by first | rfl | (go_simp; done) | (go_simp; rfl)) 56 _ (H1.o.get 1 rfl).drew (by kernel_rfl) rfl (by rw [Array.all_eq_true']; simp [Value.oneCell']) ?_
                    intro W6 HB6 hfar6 hbel6 hsz6 hcell6)
       have H6 := hbel6 W.heap.size W (by omega) H1.o.below.drew
       rw [EC.o]
       exact bodyPost_ret (results_row_tmp rfl _ W6 (W.heap.size + 1) 56 _ _ _ rfl HB6 Tryz.underlying56 rfl (by kernel_rfl) rfl) rfl ⟨rfl, H6⟩
     . have EC : Hi (decE (coef true n) s = #[.int .i64 (-hi), .int .u64 0, .int .i64 s]) := Hd (by
        unfold decE coef; simp only [if_true]
        rw [show -(n : Int) / 18446744073709551616 = -hi by omega, show -(n : Int) % 18446744073709551616 = 0 by omega])
       have e1 : IntKind.u64.wrap (18446744073709551615 - hi + 1) = 18446744073709551616 - hi := by rw [IntWalk.u64_in _ (by omega)]; omega
       have e2 : wrap64 (18446744073709551616 - hi) = -hi := by unfold wrap64; omega
       clear hhi hlo t2
       go_enter Tryz.func47, Tryz.ntmps47
       go_wp2_with fail
       refine (CL.o _).mono ?_
       rintro e w1 ⟨rfl, hb1⟩
       have H0 : Has W [(W.heap.size, 118, #[.bool true, .int .u64 0, .int .u64 hi, .int .u64 (w n 2 : Nat), .int .u64 (w n 3 : Nat), .int .u64 (w n 4 : Nat), .int .u64 (w n 5 : Nat), .int .i64 s]), (W.heap.size + 1, 56, #[.int .i64 0, .int .u64 0, .int .i64 0])] w1 := by
        refine Has.step (Has.cons ?_ (Has.cons ?_ (Has.nil ?_))) hb1
        . exact (Blk.new _ _ _).alloc _
        . exact Blk.new' (by simp)
        . exact Below.al (Below.al (Below.refl _ _) _) _
       have H1 := Hd H0
       clear hb1
       have c0 := (H0.get 0 rfl).cell 0
       have c1 := (H0.get 0 rfl).cell 1
       have c2 := (H0.get 0 rfl).cell 2
       have c7 := (H0.get 0 rfl).cell 7
       clear H0
       go_wp2_with fail
       refine wp_region_same (by kernel_rfl) (by kernel_rfl) ?_
       repeat still_step
       refine wpStill_nil ?_
       go_wp2_with (refine wpList_put rfl 56 (.tmp 2) (.tmp 32) rfl (W.heap.size + 1) #[.int .i64 (-hi), .int .u64 0, .int .i64 s] rfl (by first | rfl | (go_simp; done) | (go_simp; rfl)) 56 _ (H1.o.get 1 rfl).drew (by kernel_rfl) rfl (by rw [Array.all_eq_true']; simp [Value.oneCell']) ?_
                    intro W6 HB6 hfar6 hbel6 hsz6 hcell6)
       have H6 := hbel6 W.heap.size W (by omega) H1.o.below.drew
       rw [EC.o]
       exact bodyPost_ret (results_row_tmp rfl _ W6 (W.heap.size + 1) 56 _ _ _ rfl HB6 Tryz.underlying56 rfl (by kernel_rfl) rfl) rfl ⟨rfl, H6⟩
   . have EC : Hi (decE (coef true n) s = #[.int .i64 (-1 - hi), .int .u64 (18446744073709551616 - lo), .int .i64 s]) := Hd (by
      unfold decE coef; simp only [if_true]
      rw [show -(n : Int) / 18446744073709551616 = -1 - hi by omega, show -(n : Int) % 18446744073709551616 = 18446744073709551616 - lo by omega])
     have e1 : IntKind.u64.wrap (-lo) = 18446744073709551616 - lo := by rw [IntKind.wrap_u64]; omega
     have e3 : ((18446744073709551616 - lo) == 0) = false := beq_eq_false_iff_ne.2 (by omega)
     have e2 : wrap64 (18446744073709551615 - hi) = -1 - hi := by unfold wrap64; omega
     clear hhi hlo t2 h0
     go_enter Tryz.func47, Tryz.ntmps47
     go_wp2_with fail
     refine (CL.o _).mono ?_
     rintro e w1 ⟨rfl, hb1⟩
     have H0 : Has W [(W.heap.size, 118, #[.bool true, .int .u64 lo, .int .u64 hi, .int .u64 (w n 2 : Nat), .int .u64 (w n 3 : Nat), .int .u64 (w n 4 : Nat), .int .u64 (w n 5 : Nat), .int .i64 s]), (W.heap.size + 1, 56, #[.int .i64 0, .int .u64 0, .int .i64 0])] w1 := by
      refine Has.step (Has.cons ?_ (Has.cons ?_ (Has.nil ?_))) hb1
      . exact (Blk.new _ _ _).alloc _
      . exact Blk.new' (by simp)
      . exact Below.al (Below.al (Below.refl _ _) _) _
     have H1 := Hd H0
     clear hb1
     have c0 := (H0.get 0 rfl).cell 0
     have c1 := (H0.get 0 rfl).cell 1
     have c2 := (H0.get 0 rfl).cell 2
     have c7 := (H0.get 0 rfl).cell 7
     clear H0
     go_wp2_with fail
     refine wp_region_same (by kernel_rfl) (by kernel_rfl) ?_
     repeat still_step
     refine wpStill_nil ?_
     go_wp2_with (refine wpList_put rfl 56 (.tmp 2) (.tmp 32) rfl (W.heap.size + 1) #[.int .i64 (-1 - hi), .int .u64 (18446744073709551616 - lo), .int .i64 s] rfl (by first | rfl | (go_simp; done) | (go_simp; rfl)) 56 _ (H1.o.get 1 rfl).drew (by kernel_rfl) rfl (by rw [Array.all_eq_true']; simp [Value.oneCell']) ?_
                  intro W6 HB6 hfar6 hbel6 hsz6 hcell6)
     have H6 := hbel6 W.heap.size W (by omega) H1.o.below.drew
     rw [EC.o]
     exact bodyPost_ret (results_row_tmp rfl _ W6 (W.heap.size + 1) 56 _ _ _ rfl HB6 Tryz.underlying56 rfl (by kernel_rfl) rfl) rfl ⟨rfl, H6⟩
end Dec
end Go.Proofs.YtkdnebalpdebeaaGreatDoor
