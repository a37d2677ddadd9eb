/- Lemmas of a claim, several texts in one: PackE, PackF, PackG, Ev, Cut, EvA, EvB -/
import Derived.Test.YtlfomhdphbchpaaGreatDoorG18
import Derived.Test.YtlfomhdphbchpaaGreatDoorG01
import Derived.Test.YtlfomhdphbchpaaGreatDoorG02
/-! the document's own reading: the walks -/
namespace Go.Proofs.YtlfomhdphbchpaaGreatDoor.Pack
open Go.RowKit Go.Deep
set_option linter.unusedVariables false
end Go.Proofs.YtlfomhdphbchpaaGreatDoor.Pack

/-! signed numbers and bytes read -/
namespace Go.Proofs.YtlfomhdphbchpaaGreatDoor.Pack
open Go.RowKit Go.Deep
set_option linter.unusedVariables false
theorem rdU_range (xs : List Int) (hb : Byt xs) : 0 ≤ (rdU xs).1 ∧ (rdU xs).1 < 18446744073709551616 ∧ 0 ≤ (rdU xs).2.1 ∧ (rdU xs).2.1 ≤ 10 ∧ (rdU xs).2.1 ≤ xs.length ∧ ((rdU xs).2.2 = 0 ∨ (rdU xs).2.2 = 3) := by
  cases h : dec xs with
  | none => rw [rdU_none h]; simp
  | some r =>
    obtain ⟨n, k⟩ := r
    obtain ⟨h0, h1, rfl, r, hr⟩ := dec_some hb h
    rw [rdU_some h]
    have := enc_len n
    refine ⟨h0, h1, by simp, by simp; omega, ?_, .inl rfl⟩
    rw [hr]; simp; omega
theorem xor_neg1 : ∀ n : Int, 0 ≤ n → n < 9223372036854775808 → bits .xor .i64 n (-1) = -n - 1 := by
  intro n h0 h1
  obtain ⟨m, rfl⟩ := Int.eq_ofNat_of_zero_le h0
  show IntKind.i64.wrap ((BitVec.ofInt 64 (m : Int) ^^^ BitVec.ofInt 64 (-1)).toNat : Int) = _
  have e1 : BitVec.ofInt 64 (-1) = BitVec.allOnes 64 := by decide
  rw [e1, BitVec.xor_allOnes, BitVec.toNat_not, ofInt_i64 m (by omega), IntKind.wrap_i64]
  omega
theorem zag_bits (n : Int) (h0 : 0 ≤ n) (h1 : n < 18446744073709551616) : bits .xor .i64 (n / 2) (wrap64 (-wrap64 (bits .and .u64 n 1))) = zag n := by
  have e : bits .and .u64 n 1 = n % 2 := by
    rw [u64_and n 1 h0 h1 (by omega) (by omega)]
    simp only [show (1 : Int).toNat = 1 from rfl, Nat.and_one_is_mod]
    omega
  rw [e]
  unfold zag
  split
  · rename_i h
    rw [h, show wrap64 (-wrap64 1) = -1 from by unfold wrap64; omega, xor_neg1 (n / 2) (by omega) (by omega)]
  · rename_i h
    have h2 : n % 2 = 0 := by omega
    rw [h2, show wrap64 (-wrap64 0) = ((0 : Nat) : Int) from by unfold wrap64; omega]
    obtain ⟨m, hm⟩ := Int.eq_ofNat_of_zero_le (show 0 ≤ n / 2 by omega)
    rw [hm, i64_xor_nat m 0 (by omega) (by omega), Nat.xor_zero]
set_option maxRecDepth 100000 in
set_option maxHeartbeats 2000000 in
theorem readint_ok (P : Option Addr) (c B : Nat) (xs : List Int) (w : World) (hx : RI w B .u8 P xs) (hl : xs.length ≤ 9223372036854775807) (hb : Byt xs) :
    Calls Tryz.prog 166 #[.slice P xs.length c] w fun e w' => e = .returned (.tuple #[.int .i64 (zag (rdU xs).1), .int .i64 (rdU xs).2.1, .int .i64 (rdU xs).2.2]) ∧ w' = w := by
  obtain ⟨r0, r1, _⟩ := rdU_range xs hb
  have HU := Lib.hid (readuint_ok P c B xs)
  have HX := Lib.hid hx
  have HB := Lib.hid hb
  clear hx hb
  generalize (rdU xs).1 = n at *
  generalize (rdU xs).2.1 = k at *
  generalize (rdU xs).2.2 = f at *
  go_enter Tryz.func166, Tryz.ntmps166
  go_wp2_with fail
  refine (HU.out _ HX.out hl HB.out).mono ?_
  rintro e w1 ⟨rfl, rfl⟩
  go_wp2
  rw [zag_bits n r0 r1]
  go_ret3
  exact ⟨rfl, rfl⟩
/-- what ReadBytes answers -/
def rdB (xs : List Int) (most : Int) : List Int × Int × Int :=
  if most < 0 ∨ 65536 < most then ([], 0, 1) else
  match dec xs with
  | some (n, k) => if n ≤ most ∧ n ≤ xs.length - k then ((xs.drop k).take n.toNat, k + n, 0) else ([], 0, 3)
  | none => ([], 0, 3)
set_option maxRecDepth 100000 in
set_option maxHeartbeats 2000000 in
theorem readbytes_yes (P : Option Addr) (c : Nat) (xs : List Int) (most : Int) (w : World) (hx : RI w w.heap.size .u8 P xs) (hl : xs.length ≤ 140737488355328) (hc : xs.length ≤ c) (hb : Byt xs) (h0 : 0 ≤ most) (h1 : most ≤ 65536) (n k : Nat) (hd : dec xs = some ((n : Int), k)) (hn : (n : Int) ≤ most) (hnk : n + k ≤ xs.length) :
    Calls Tryz.prog 74 #[.slice P xs.length c, .int .i64 most] w fun e w' => ∃ v, e = .returned (.tuple #[v, .int .i64 ((k : Int) + n), .int .i64 0]) ∧ Fresh w w' v ((xs.drop k).take n) := by
  have HU := readuint_ok P c w.heap.size xs
  obtain ⟨_, _, _, q1, q2, _⟩ := rdU_range xs hb
  rw [rdU_some hd] at HU q1 q2
  simp only [] at HU q1 q2
  have HU := Lib.hid HU
  have HX := Lib.hid hx
  have HB := Lib.hid hb
  have hlen : ((xs.drop k).take n).length = n := by simp; omega
  have HL := Lib.hid hlen
  clear hx hb hd hlen
  go_enter Tryz.func74, Tryz.ntmps74
  go_wp2_with fail
  refine (HU.out _ HX.out (by omega) HB.out).mono ?_
  rintro e w1 ⟨rfl, rfl⟩
  go_wp2_with fail
  · have H := clone_ok P 0 ((xs.drop k).take n) w1 (RI.none (by have := HL.out; omega)) (by have := HL.out; omega)
    rw [HL.out] at H
    refine H.mono ?_
    rintro e w2 ⟨v2, rfl, hf⟩
    have HF := Lib.hid hf
    clear hf H
    go_wp2
    go_ret3
    exact ⟨_, rfl, HF.out⟩
  · have H := clone_ok (P.map (·.add k)) (c - k) ((xs.drop k).take n) w1 (HX.out.cut k n) (by have := HL.out; omega)
    rw [HL.out] at H
    refine H.mono ?_
    rintro e w2 ⟨v2, rfl, hf⟩
    have HF := Lib.hid hf
    clear hf H
    go_wp2
    go_ret3
    exact ⟨_, rfl, HF.out⟩
set_option maxRecDepth 100000 in
set_option maxHeartbeats 2000000 in
theorem readbytes_arg (P : Option Addr) (c : Nat) (xs : List Int) (most : Int) (w : World) (h : most < 0 ∨ 65536 < most) :
    Calls Tryz.prog 74 #[.slice P xs.length c, .int .i64 most] w fun e w' => ∃ v, e = .returned (.tuple #[v, .int .i64 0, .int .i64 1]) ∧ Fresh w w' v [] := by
  rcases h with h | h
  all_goals
    go_enter Tryz.func74, Tryz.ntmps74
    go_wp2
    go_ret3
    exact ⟨_, rfl, own_nil _ _ _ _, Below.refl _ _⟩
set_option maxRecDepth 100000 in
set_option maxHeartbeats 2000000 in
theorem readbytes_no (P : Option Addr) (c : Nat) (xs : List Int) (most : Int) (w : World) (hx : RI w w.heap.size .u8 P xs) (hl : xs.length ≤ 140737488355328) (hb : Byt xs) (h0 : 0 ≤ most) (h1 : most ≤ 65536) (hno : (rdU xs).2.2 = 3 ∨ (rdU xs).2.2 = 0 ∧ (most < (rdU xs).1 ∨ (xs.length : Int) - (rdU xs).2.1 < (rdU xs).1)) :
    Calls Tryz.prog 74 #[.slice P xs.length c, .int .i64 most] w fun e w' => ∃ v, e = .returned (.tuple #[v, .int .i64 0, .int .i64 3]) ∧ Fresh w w' v [] := by
  have HU := readuint_ok P c w.heap.size xs
  obtain ⟨r0, r1, q0, q1, q2, _⟩ := rdU_range xs hb
  have HU := Lib.hid HU
  have HX := Lib.hid hx
  have HB := Lib.hid hb
  clear hx hb
  generalize (rdU xs).1 = n at *
  generalize (rdU xs).2.1 = k at *
  generalize (rdU xs).2.2 = f at *
  rcases hno with rfl | ⟨rfl, hno⟩
  · go_enter Tryz.func74, Tryz.ntmps74
    go_wp2_with fail
    refine (HU.out _ HX.out (by omega) HB.out).mono ?_
    rintro e w1 ⟨rfl, rfl⟩
    go_wp2
    go_ret3
    exact ⟨_, rfl, own_nil _ _ _ _, Below.refl _ _⟩
  · by_cases hm : most < n
    · go_enter Tryz.func74, Tryz.ntmps74
      go_wp2_with fail
      refine (HU.out _ HX.out (by omega) HB.out).mono ?_
      rintro e w1 ⟨rfl, rfl⟩
      go_wp2
      go_ret3
      exact ⟨_, rfl, own_nil _ _ _ _, Below.refl _ _⟩
    · have hk : (xs.length : Int) - k < n := by omega
      clear hno
      go_enter Tryz.func74, Tryz.ntmps74
      go_wp2_with fail
      refine (HU.out _ HX.out (by omega) HB.out).mono ?_
      rintro e w1 ⟨rfl, rfl⟩
      go_wp2
      go_ret3
      exact ⟨_, rfl, own_nil _ _ _ _, Below.refl _ _⟩
theorem readbytes_ok (P : Option Addr) (c : Nat) (xs : List Int) (most : Int) (w : World) (hx : RI w w.heap.size .u8 P xs) (hl : xs.length ≤ 140737488355328) (hc : xs.length ≤ c) (hb : Byt xs) :
    Calls Tryz.prog 74 #[.slice P xs.length c, .int .i64 most] w fun e w' => ∃ v, e = .returned (.tuple #[v, .int .i64 (rdB xs most).2.1, .int .i64 (rdB xs most).2.2]) ∧ Fresh w w' v (rdB xs most).1 := by
  by_cases h : most < 0 ∨ 65536 < most
  · have e : rdB xs most = ([], 0, 1) := by unfold rdB; rw [if_pos h]
    rw [e]
    exact readbytes_arg P c xs most w h
  · cases hd : dec xs with
    | none =>
      have e : rdB xs most = ([], 0, 3) := by unfold rdB; rw [if_neg h, hd]
      rw [e]
      exact readbytes_no P c xs most w hx hl hb (by omega) (by omega) (.inl (by rw [rdU_none hd]))
    | some r =>
      obtain ⟨n, k⟩ := r
      obtain ⟨n0, n1, hk, r, hr⟩ := dec_some hb hd
      have hkl : k ≤ xs.length := by rw [hr, hk]; simp
      by_cases hn : n ≤ most ∧ n ≤ xs.length - k
      · have e : rdB xs most = ((xs.drop k).take n.toNat, (k : Int) + n, 0) := by unfold rdB; rw [if_neg h, hd]; simp only []; rw [if_pos hn]
        rw [e]
        obtain ⟨m, rfl⟩ := Int.eq_ofNat_of_zero_le n0
        exact readbytes_yes P c xs most w hx hl hc hb (by omega) (by omega) m k hd hn.1 (by omega)
      · have e : rdB xs most = ([], 0, 3) := by unfold rdB; rw [if_neg h, hd]; simp only []; rw [if_neg hn]
        rw [e]
        exact readbytes_no P c xs most w hx hl hb (by omega) (by omega) (.inr (by rw [rdU_some hd]; refine ⟨rfl, ?_⟩; show most < n ∨ (xs.length : Int) - k < n; omega))
end Go.Proofs.YtlfomhdphbchpaaGreatDoor.Pack

/-! the document's signed numbers and bytes -/
namespace Go.Proofs.YtlfomhdphbchpaaGreatDoor.Pack
open Go.RowKit Go.Deep
set_option linter.unusedVariables false
/-- new memory behind new memory -/
theorem Fresh.then' {w w1 w2 : World} {v : Value} {xs : List Int} (hb : Below w.heap.size w w1) (h : Fresh w1 w2 v xs) : Fresh w w2 v xs := by
  refine ⟨?_, below_then' hb h.2⟩
  obtain ⟨h1, h2⟩ := h.1
  refine ⟨h1, ?_⟩
  rcases h2 with h2 | ⟨g, cap, cur, hv, hg, r⟩
  · exact .inl h2
  · exact .inr ⟨g, cap, cur, hv, Nat.le_trans hb.size hg, r⟩
end Go.Proofs.YtlfomhdphbchpaaGreatDoor.Pack

/-! events as bytes: plain, no program in sight -/
namespace Go.Proofs.YtlfomhdphbchpaaGreatDoor.Event
open Go.RowKit Go.Proofs.YtlfomhdphbchpaaGreatDoor Go.Proofs.YtlfomhdphbchpaaGreatDoor.Pack
set_option linter.unusedVariables false
set_option linter.unusedSimpArgs false
/-- how many numbers an op uses; -1: there is none such -/
def cnt (op : Int) : Int :=
  if op = 1 then 8 else if op = 9 ∨ op = 12 then 4 else if op = 6 ∨ op = 7 ∨ op = 10 ∨ op = 11 ∨ op = 14 then 3
  else if op = 2 ∨ op = 4 ∨ op = 5 ∨ op = 8 then 2 else if op = 3 ∨ op = 13 ∨ op = 15 then 1 else -1
theorem cnt_range (op : Int) : -1 ≤ cnt op ∧ cnt op ≤ 8 := by
  unfold cnt
  repeat' split
  all_goals omega
theorem cnt_neg (op : Int) : cnt op < 0 ↔ op < 1 ∨ 15 < op := by
  unfold cnt
  repeat' split
  all_goals omega
theorem cnt_pos (op : Int) (h : 0 ≤ cnt op) : 1 ≤ cnt op := by
  unfold cnt at h ⊢
  repeat' split
  all_goals (first | omega | (simp_all))
structure Ev where
  op : Int
  key : Int
  ns : List Int
  ts : List Int
def I64 (l : List Int) : Prop := ∀ n ∈ l, -9223372036854775808 ≤ n ∧ n ≤ 9223372036854775807
/-- a value of the type -/
structure Ev.ok (e : Ev) : Prop where
  op0 : 0 ≤ e.op
  op1 : e.op ≤ 255
  key0 : 0 ≤ e.key
  key1 : e.key < 18446744073709551616
  len : e.ns.length = 8
  ns : I64 e.ns
  ts : I64 e.ts
  even : e.ts.length % 2 = 0
def Ev.zero : Ev := ⟨0, 0, List.replicate 8 0, []⟩
def Ev.form (e : Ev) : Prop := 0 ≤ cnt e.op ∧ e.ts.length ≤ 16 ∧ (e.ts = [] ∨ e.op = 1) ∧ ∀ i, (cnt e.op).toNat ≤ i → i < 8 → rd e.ns i = 0
def encs (l : List Int) : List Int := l.flatMap fun n => enc (zig n)
theorem encs_nil : encs [] = [] := rfl
theorem encs_cons (a : Int) (l : List Int) : encs (a :: l) = enc (zig a) ++ encs l := rfl
theorem encs_append (l m : List Int) : encs (l ++ m) = encs l ++ encs m := by simp [encs]
theorem encs_snoc (l : List Int) (a : Int) : encs (l ++ [a]) = encs l ++ enc (zig a) := by simp [encs]
theorem I64.cons {a : Int} {l : List Int} (h : I64 (a :: l)) : (-9223372036854775808 ≤ a ∧ a ≤ 9223372036854775807) ∧ I64 l := ⟨h a (by simp), fun n hn => h n (by simp [hn])⟩
theorem I64.rd {l : List Int} (h : I64 l) (j : Nat) : -9223372036854775808 ≤ rd l j ∧ rd l j ≤ 9223372036854775807 := by
  by_cases hj : j < l.length
  · rw [rd_get hj]; exact h _ (List.getElem_mem hj)
  · rw [rd_out (by omega)]; omega
theorem encs_len (l : List Int) : (encs l).length ≤ 10 * l.length := by
  induction l with
  | nil => simp [encs]
  | cons a l ih =>
    rw [encs_cons, List.length_append, List.length_cons]
    have := enc_len (zig a)
    omega
theorem encs_byt {l : List Int} (h : I64 l) : Byt (encs l) := by
  intro n hn
  simp only [encs, List.mem_flatMap] at hn
  obtain ⟨a, ha, hn⟩ := hn
  have := h a ha
  exact enc_byt _ (zig_range a this.1 this.2).1 n hn
theorem Byt.app {a b : List Int} (ha : Byt a) (hb : Byt b) : Byt (a ++ b) := by
  intro n hn
  rcases List.mem_append.1 hn with h | h
  · exact ha n h
  · exact hb n h
theorem Byt.dropp {a : List Int} (ha : Byt a) (k : Nat) : Byt (a.drop k) := fun n hn => ha n (List.mem_of_mem_drop hn)
theorem Byt.takee {a : List Int} (ha : Byt a) (k : Nat) : Byt (a.take k) := fun n hn => ha n (List.mem_of_mem_take hn)
/-- what stands behind op and key -/
def Ev.tail (e : Ev) : List Int := encs (e.ns.take (cnt e.op).toNat) ++ (if e.op = 1 then enc ((e.ts.length / 2 : Nat) : Int) ++ encs e.ts else [])
def wr (e : Ev) : List Int := e.op :: (enc e.key ++ e.tail)
theorem wr_byt {e : Ev} (h : e.ok) : Byt (wr e) := by
  intro n hn
  unfold wr Ev.tail at hn
  rcases List.mem_cons.1 hn with rfl | hn
  · exact ⟨h.op0, h.op1⟩
  · refine Byt.app (enc_byt _ h.key0) (Byt.app (encs_byt fun n hn => h.ns n (List.mem_of_mem_take hn)) ?_) n hn
    split
    · exact Byt.app (enc_byt _ (by omega)) (encs_byt h.ts)
    · intro n hn; simp at hn
theorem wr_len (e : Ev) (h : e.form) (h8 : e.ns.length = 8) : (wr e).length ≤ 261 ∧ 2 ≤ (wr e).length := by
  unfold wr Ev.tail
  have h1 := enc_len e.key
  have h2 := encs_len (e.ns.take (cnt e.op).toNat)
  have h3 := encs_len e.ts
  have h4 := enc_len ((e.ts.length / 2 : Nat) : Int)
  have h5 := h.2.1
  have h6 := enc_pos e.key
  rw [List.length_take] at h2
  split <;> simp only [List.length_cons, List.length_append, List.length_nil] <;> omega
/-- m numbers with a sign from the front -/
def decs : Nat → List Int → Option (List Int × List Int)
  | 0, xs => some ([], xs)
  | m + 1, xs => match dec xs with
    | none => none
    | some (n, k) => match decs m (xs.drop k) with
      | none => none
      | some (l, r) => some (zag n :: l, r)
theorem decs_encs : ∀ (l r : List Int), I64 l → decs l.length (encs l ++ r) = some (l, r)
  | [], r, _ => rfl
  | a :: l, r, h => by
    have ha := zig_range a h.cons.1.1 h.cons.1.2
    have h1 := dec_enc (zig a) (encs l ++ r) ha.1 ha.2
    rw [encs_cons, List.append_assoc]
    simp only [List.length_cons, decs, h1, List.drop_left', decs_encs l r h.cons.2, zag_zig]
theorem decs_some : ∀ (m : Nat) (xs l r : List Int), Byt xs → decs m xs = some (l, r) → l.length = m ∧ I64 l ∧ xs = encs l ++ r
  | 0, xs, l, r, hb, h => by
    simp only [decs, Option.some.injEq, Prod.mk.injEq] at h
    obtain ⟨rfl, rfl⟩ := h
    exact ⟨rfl, fun n hn => by simp at hn, rfl⟩
  | m + 1, xs, l, r, hb, h => by
    unfold decs at h
    split at h
    · cases h
    · rename_i n k hd
      split at h
      · cases h
      · rename_i l' r' hd'
        simp only [Option.some.injEq, Prod.mk.injEq] at h
        obtain ⟨rfl, rfl⟩ := h
        obtain ⟨h0, h1, rfl, s, rfl⟩ := dec_some hb hd
        rw [List.drop_left'] at hd' <;> try rfl
        obtain ⟨h2, h3, rfl⟩ := decs_some m _ _ _ (fun n hn => hb n (by simp [hn])) hd'
        refine ⟨by simp [h2], ?_, by rw [encs_cons, zig_zag n h0, List.append_assoc]⟩
        intro x hx
        rcases List.mem_cons.1 hx with rfl | hx
        · exact zag_range n h0 h1
        · exact h3 x hx
def par : List Int → Option (Ev × List Int)
  | [] => none
  | op :: p => if cnt op < 0 then none else match dec p with
    | none => none
    | some (key, k) => match decs (cnt op).toNat (p.drop k) with
      | none => none
      | some (l, r) => if op = 1 then (match dec r with
          | none => none
          | some (t, k) => if 8 < t then none else match decs (2 * t.toNat) (r.drop k) with
            | none => none
            | some (ts, r') => some (⟨op, key, l ++ List.replicate (8 - l.length) 0, ts⟩, r'))
        else some (⟨op, key, l ++ List.replicate (8 - l.length) 0, []⟩, r)
theorem pad_eq {l : List Int} {n : Nat} (h8 : l.length = 8) (hn : n ≤ 8) (h : ∀ i, n ≤ i → i < 8 → rd l i = 0) : l.take n ++ List.replicate (8 - (l.take n).length) 0 = l := by
  apply decide_lists
  · simp; omega
  · intro j hj
    have hj8 : j < 8 := by simp at hj; omega
    by_cases hjn : j < n
    · rw [rd_get (by simp; omega), rd_get (by omega), List.getElem_append_left (by simp; omega)]
      simp
    · rw [h j (by omega) hj8, rd_get hj, List.getElem_append_right (by simp; omega)]
      simp
theorem par_wr (e : Ev) (r : List Int) (ho : e.ok) (hf : e.form) : par (wr e ++ r) = some (e, r) := by
  obtain ⟨op, key, ns, ts⟩ := e
  have hc := cnt_range op
  obtain ⟨f1, f2, f3, f4⟩ := hf
  have h8 := ho.len
  have key0 := ho.key0
  have key1 := ho.key1
  have hI : I64 ns := ho.ns
  have hT : I64 ts := ho.ts
  have hev := ho.even
  simp only at f1 f2 f3 f4 h8 key0 key1 hev
  have hpad := pad_eq h8 (n := (cnt op).toNat) (by omega) f4
  unfold wr Ev.tail
  simp only [List.cons_append, List.append_assoc, par]
  rw [if_neg (by omega), dec_enc key _ key0 key1]
  simp only [List.drop_left']
  have hd := fun s => decs_encs (ns.take (cnt op).toNat) s (fun n hn => hI n (List.mem_of_mem_take hn))
  rw [show (ns.take (cnt op).toNat).length = (cnt op).toNat from by simp; omega] at hd
  rw [hd]
  simp only
  by_cases h1 : op = 1
  · rw [if_pos h1, if_pos h1]
    rw [List.append_assoc, dec_enc _ _ (by omega) (by omega)]
    simp only [List.drop_left']
    rw [if_neg (by omega)]
    have hd2 := decs_encs ts r hT
    rw [show 2 * ((ts.length / 2 : Nat) : Int).toNat = ts.length from by omega, hd2]
    simp only [hpad]
  · rw [if_neg h1, if_neg h1]
    have : ts = [] := by rcases f3 with h | h; exact h; exact absurd h h1
    subst this
    simp only [List.nil_append, hpad]
theorem par_some {p : List Int} {e : Ev} {r : List Int} (hb : Byt p) (h : par p = some (e, r)) : e.ok ∧ e.form ∧ p = wr e ++ r := by
  cases p with
  | nil => simp [par] at h
  | cons op p =>
    simp only [par] at h
    have hop := hb op (by simp)
    have hb' : Byt p := fun n hn => hb n (by simp [hn])
    have hc := cnt_range op
    split at h
    · cases h
    · rename_i hcn
      split at h
      · cases h
      · rename_i key k hd
        obtain ⟨k0, k1, rfl, s, rfl⟩ := dec_some hb' hd
        rw [List.drop_left'] at h <;> try rfl
        have hbs : Byt s := fun n hn => hb' n (by simp [hn])
        split at h
        · cases h
        · rename_i l r1 hl
          obtain ⟨l1, l2, rfl⟩ := decs_some _ _ _ _ hbs hl
          have hr1 : Byt r1 := fun n hn => hbs n (by simp [hn])
          have hlen : l.length ≤ 8 := by omega
          have hI : I64 (l ++ List.replicate (8 - l.length) 0) := by
            intro n hn
            rcases List.mem_append.1 hn with h | h
            · exact l2 n h
            · rw [List.eq_of_mem_replicate h]; omega
          have htk : (l ++ List.replicate (8 - l.length) 0).take (cnt op).toNat = l := by rw [← l1]; simp
          have hz : ∀ i, (cnt op).toNat ≤ i → i < 8 → rd (l ++ List.replicate (8 - l.length) 0) i = 0 := by
            intro i hi hi8
            rw [rd_get (by simp; omega), List.getElem_append_right (by omega)]
            simp
          split at h
          · rename_i h1
            split at h
            · cases h
            · rename_i t k2 hd2
              obtain ⟨t0, t1, rfl, s2, rfl⟩ := dec_some hr1 hd2
              rw [List.drop_left'] at h <;> try rfl
              split at h
              · cases h
              · rename_i h8
                split at h
                · cases h
                · rename_i ts r2 hts
                  obtain ⟨m1, m2, rfl⟩ := decs_some _ _ _ _ (fun n hn => hr1 n (by simp [hn])) hts
                  simp only [Option.some.injEq, Prod.mk.injEq] at h
                  obtain ⟨rfl, rfl⟩ := h
                  refine ⟨⟨hop.1, hop.2, k0, k1, by simp; omega, hI, m2, by simp only; omega⟩, ⟨by simp only; omega, by simp only; omega, .inr h1, hz⟩, ?_⟩
                  simp only [wr, Ev.tail, htk, if_pos h1]
                  rw [show ((ts.length / 2 : Nat) : Int) = t from by omega]
                  simp
          · rename_i h1
            simp only [Option.some.injEq, Prod.mk.injEq] at h
            obtain ⟨rfl, rfl⟩ := h
            refine ⟨⟨hop.1, hop.2, k0, k1, by simp; omega, hI, by intro n hn; simp at hn, by simp⟩, ⟨by simp only; omega, by simp, .inl rfl, hz⟩, ?_⟩
            simp only [wr, Ev.tail, htk, if_neg h1]
            simp
/-- what reading answers -/
def rdEv (p : List Int) : Ev × Int := if 4096 < p.length then (Ev.zero, 2) else match par p with | some (e, []) => (e, 0) | _ => (Ev.zero, 3)
theorem rdEv_wr (e : Ev) (ho : e.ok) (hf : e.form) : rdEv (wr e) = (e, 0) := by
  have h1 := par_wr e [] ho hf
  rw [List.append_nil] at h1
  have h2 := wr_len e hf ho.len
  unfold rdEv
  rw [if_neg (by omega), h1]
theorem rdEv_some {p : List Int} {e : Ev} (hb : Byt p) (hl : p.length ≤ 4096) (h : par p = some (e, [])) : rdEv p = (e, 0) ∧ wr e = p := by
  refine ⟨by unfold rdEv; rw [if_neg (by omega), h], ?_⟩
  have := (par_some hb h).2.2
  rw [this]; simp
theorem rdEv_none {p : List Int} (hl : p.length ≤ 4096) (h : ∀ e, par p ≠ some (e, [])) : rdEv p = (Ev.zero, 3) := by
  unfold rdEv
  rw [if_neg (by omega)]
  split
  · rename_i e h'; exact absurd h' (h e)
  · rfl
theorem rdEv_long {p : List Int} (hl : 4096 < p.length) : rdEv p = (Ev.zero, 2) := by unfold rdEv; rw [if_pos hl]
theorem Ev.zero_ok : Ev.zero.ok := ⟨by decide, by decide, by decide, by decide, rfl, (fun n hn => by simp [Ev.zero] at hn; omega), (fun n hn => by simp [Ev.zero] at hn), rfl⟩
theorem rdEv_ok {p : List Int} (hb : Byt p) : (rdEv p).1.ok ∧ (((rdEv p).2 = 0 ∧ (rdEv p).1.form ∧ wr (rdEv p).1 = p ∧ p.length ≤ 4096) ∨ (rdEv p).2 = 2 ∧ 4096 < p.length ∨ (rdEv p).2 = 3 ∧ p.length ≤ 4096) := by
  by_cases hl : 4096 < p.length
  · rw [rdEv_long hl]; exact ⟨Ev.zero_ok, .inr (.inl ⟨rfl, hl⟩)⟩
  · by_cases h : ∃ e, par p = some (e, [])
    · obtain ⟨e, h⟩ := h
      obtain ⟨h1, h2⟩ := rdEv_some hb (by omega) h
      have h3 := par_some hb h
      rw [h1]
      exact ⟨h3.1, .inl ⟨rfl, h3.2.1, h2, by omega⟩⟩
    · rw [rdEv_none (by omega) (fun e he => h ⟨e, he⟩)]
      exact ⟨Ev.zero_ok, .inr (.inr ⟨rfl, by omega⟩)⟩
theorem wr_inj {a b : Ev} {r s : List Int} (ha : a.ok) (fa : a.form) (hb : b.ok) (fb : b.form) (h : wr a ++ r = wr b ++ s) : a = b ∧ r = s := by
  have h1 := par_wr a r ha fa
  rw [h, par_wr b s hb fb] at h1
  simp only [Option.some.injEq, Prod.mk.injEq] at h1
  exact ⟨h1.1.symm, h1.2.symm⟩
/-- bytes cut off, or with more behind, are none -/
theorem rdEv_cut {e : Ev} (ho : e.ok) (hf : e.form) {k : Nat} (hk : k < (wr e).length) : (rdEv ((wr e).take k)).2 = 3 := by
  have h2 := wr_len e hf ho.len
  refine congrArg Prod.snd (rdEv_none (by rw [List.length_take]; omega) fun x hx => ?_)
  obtain ⟨h3, h4, h5⟩ := par_some (fun n hn => wr_byt ho n (List.mem_of_mem_take hn)) hx
  have h6 := wr_inj ho hf h3 h4 (r := []) (s := (wr e).drop k) (by rw [List.append_nil] at h5 ⊢; rw [← h5]; simp)
  have h7 := congrArg List.length h6.2
  simp at h7; omega
theorem rdEv_more {e : Ev} (ho : e.ok) (hf : e.form) {m : List Int} (hm : m ≠ []) (hb : Byt m) (hl : (wr e ++ m).length ≤ 4096) : (rdEv (wr e ++ m)).2 = 3 := by
  refine congrArg Prod.snd (rdEv_none hl fun x hx => ?_)
  obtain ⟨h3, h4, h5⟩ := par_some (Byt.app (wr_byt ho) hb) hx
  exact hm (wr_inj ho hf h3 h4 h5).2
end Go.Proofs.YtlfomhdphbchpaaGreatDoor.Event

/-! a slice cut at its front: where it then lies is left open -/
namespace Go.Proofs.YtlfomhdphbchpaaGreatDoor
open Go.RowKit Go.Deep
set_option linter.unusedVariables false
theorem run_cut {P : Program} (T : TypeId) (hu : P.underlying T = some (.slice (P.elem T))) (hs : ∀ w, (sizeOf (P.elem T)).run P w = .ok 1 w) (A : Option Addr) (n c k : Nat) (kk : IntKind) (hk : k ≤ n) (w : World) :
    (Instr.slice T (.slice A n c) (some (.int kk (k : Int))) none none).run P w = .ok (.slice (if c = k then A else A.map (·.add k)) (n - k) (c - k)) w := by
  have h1 := run_slice_l (P := P) (w := w) T A n c hu kk (k : Int) (by omega) (by omega)
  rw [h1, hs]
  simp [Result.andThen, sliced]
theorem RI.cutIf {w : World} {B : Nat} {k : IntKind} {A : Option Addr} {xs : List Int} (h : RI w B k A xs) (j c : Nat) (hc : xs.length ≤ c) (hj : j ≤ xs.length) : RI w B k (if c = j then A else A.map (·.add j)) (xs.drop j) := by
  split
  · exact RI.none (by simp; omega)
  · have := h.cut j (xs.length - j)
    rwa [List.take_of_length_le (by simp)] at this
theorem wpList_cut {P : Program} {ops : Array Oper} {rest : List Oper} {o : Oper} {a : Act} {w : World} {Q : Exit → Act → World → Prop} (hgd : o.guard = none) (x lo : Operand) (T : TypeId) (ho : o.op = .slice T x (some lo) none none)
    (hu : P.underlying T = some (.slice (P.elem T))) (hs : ∀ w, (sizeOf (P.elem T)).run P w = .ok 1 w) (A : Option Addr) (n c k : Nat) (kk : IntKind) (hx : a.eval x = .slice A n c) (hl : a.eval lo = .int kk (k : Int)) (hk : k ≤ n) (hc : n ≤ c)
    (h : ∀ A' : Option Addr, (∀ W B K xs, xs.length = n → RI W B K A xs → RI W B K A' (xs.drop k)) → wpList P ops Q rest (a.put o.dst (.slice A' (n - k) (c - k))) w) : wpList P ops Q (o :: rest) a w := by
  refine wpList_plain hgd fun K hK => ?_
  have hrun := run_cut (P := P) T hu hs A n c k kk hk w
  unfold Oper.wp
  simp only [execOp, ho, Option.map_some, Option.map_none, hx, hl, Sem.run_bind, run_sliceAt_slice (P := P) (w := w) T _ _ _ _ hu, hrun, Result.andThen, Sem.run_pure, Oper.upon]
  exact hK _ _ (h _ (fun W B k' xs hl' hr => hr.cutIf k c (by omega) (by omega)))
end Go.Proofs.YtlfomhdphbchpaaGreatDoor

/-! how many numbers an op uses: event.Count, the document's Count and DocCount -/
namespace Go.Proofs.YtlfomhdphbchpaaGreatDoor.Event
open Go.RowKit Go.Deep Go.Proofs.YtlfomhdphbchpaaGreatDoor Go.Proofs.YtlfomhdphbchpaaGreatDoor.Pack
set_option linter.unusedVariables false
set_option linter.unusedSimpArgs false
theorem op_cases (op : Int) (h0 : 0 ≤ op) (h1 : op ≤ 255) : op = 0 ∨ 15 < op ∨ op = 1 ∨ op = 2 ∨ op = 3 ∨ op = 4 ∨ op = 5 ∨ op = 6 ∨ op = 7 ∨ op = 8 ∨ op = 9 ∨ op = 10 ∨ op = 11 ∨ op = 12 ∨ op = 13 ∨ op = 14 ∨ op = 15 := by omega
set_option maxRecDepth 100000 in
set_option maxHeartbeats 4000000 in
theorem count_ok (op : Int) (h0 : 0 ≤ op) (h1 : op ≤ 255) (w : World) :
    Calls Tryz.prog 38 #[.int .u8 op] w fun e w' => e = .returned (.tuple #[.int .i64 (if cnt op < 0 then 0 else cnt op), .int .i64 (if cnt op < 0 then 1 else 0)]) ∧ w' = w := by
  rcases op_cases op h0 h1 with h | h | h | h | h | h | h | h | h | h | h | h | h | h | h | h | h
  case inr.inl =>
    have hc : cnt op < 0 := (cnt_neg op).2 (by omega)
    rw [if_pos hc, if_pos hc]
    have e1 : decide (op < 1) = false := by simp; omega
    have e2 : decide (15 < op) = true := by simp; omega
    go_enter Tryz.func38, Tryz.ntmps38
    go_wp2
    all_goals (go_ret2; exact ⟨rfl, rfl⟩)
  all_goals
    subst h
    go_enter Tryz.func38, Tryz.ntmps38
    go_wp2
    go_ret2
    exact ⟨rfl, rfl⟩
end Go.Proofs.YtlfomhdphbchpaaGreatDoor.Event

/-! an event by value; event.Check -/
namespace Go.Proofs.YtlfomhdphbchpaaGreatDoor.Event
open Go.RowKit Go.Deep Go.Proofs.YtlfomhdphbchpaaGreatDoor Go.Proofs.YtlfomhdphbchpaaGreatDoor.Pack
set_option linter.unusedVariables false
set_option linter.unusedSimpArgs false
def row (e : Ev) (A : Option Addr) (c : Nat) : Array Value :=
  #[.int .u8 e.op, .int .u64 e.key, .int .i64 (rd e.ns 0), .int .i64 (rd e.ns 1), .int .i64 (rd e.ns 2), .int .i64 (rd e.ns 3), .int .i64 (rd e.ns 4), .int .i64 (rd e.ns 5), .int .i64 (rd e.ns 6), .int .i64 (rd e.ns 7), .slice A (e.ts.length / 2) c]
theorem row_n (e : Ev) (A : Option Addr) (c i : Nat) (h : i < 8) : (row e A c)[2 + i]? = some (.int .i64 (rd e.ns i)) := by
  have : i = 0 ∨ i = 1 ∨ i = 2 ∨ i = 3 ∨ i = 4 ∨ i = 5 ∨ i = 6 ∨ i = 7 := by omega
  rcases this with rfl | rfl | rfl | rfl | rfl | rfl | rfl | rfl <;> rfl
/-- what a walk needs of an event's cells -/
structure Row (R : Array Value) (e : Ev) (A : Option Addr) (c : Nat) : Prop where
  size : R.size = 11
  op : R[0]? = some (.int .u8 e.op)
  key : R[1]? = some (.int .u64 e.key)
  n : ∀ i, i < 8 → R[2 + i]? = some (.int .i64 (rd e.ns i))
  ts : R[10]? = some (.slice A (e.ts.length / 2) c)
  one : R.toList.all Value.oneCell' = true
theorem row_row (e : Ev) (A : Option Addr) (c : Nat) : Row (row e A c) e A c := ⟨rfl, rfl, rfl, row_n e A c, rfl, rfl⟩
section
variable {P : Program} {ops : Array Oper} {rest : List Oper} {o : Oper} {a : Act} {w : World} {Q : Exit → Act → World → Prop}
/-- 'x[n:]' of an array of N one-cell elements -/
theorem wpList_arr_from (hgd : o.guard = none) (x lo : Operand) (T : TypeId) (ho : o.op = .slice T x (some lo) none none) (hu : P.underlying T = some (.array (P.arrayLen T) (P.elem T))) (hs : ∀ w, (sizeOf (P.elem T)).run P w = .ok 1 w)
    (N : Nat) (hN : P.arrayLen T = N) (b k n m : Nat) (kk : IntKind) (hx : a.eval x = .pointer (some ⟨b, k, none⟩)) (hl : a.eval lo = .int kk (n : Int)) (hn : n + m = N)
    (h : ∀ A' : Addr, (0 < m → A' = ⟨b, k + n, none⟩) → wpList P ops Q rest (a.put o.dst (.slice (some A') m m)) w) : wpList P ops Q (o :: rest) a w := by
  refine wpList_plain hgd fun K hK => ?_
  have hrun := run_sliceAt_array_l (P := P) w T ⟨b, k, none⟩ hu kk (n : Int) (by omega) (by omega)
  unfold Oper.wp
  simp only [execOp, ho, Option.map_some, Option.map_none, hx, hl, Sem.run_bind, hrun, hs, Result.andThen, Sem.run_pure, Oper.upon, slicedAt, hN, Int.toNat_natCast]
  rw [show N - n = m from by omega]
  refine hK _ _ (h _ (fun hlt => ?_))
  rw [if_neg (by omega)]
  unfold Addr.add
  split <;> simp_all
/-- 'x[:n]' -/
theorem wpList_arr_to (hgd : o.guard = none) (x hi : Operand) (T : TypeId) (ho : o.op = .slice T x none (some hi) none) (hu : P.underlying T = some (.array (P.arrayLen T) (P.elem T))) (hs : ∀ w, (sizeOf (P.elem T)).run P w = .ok 1 w)
    (N : Nat) (hN : P.arrayLen T = N) (h0 : 0 < N) (b k n : Nat) (kk : IntKind) (hx : a.eval x = .pointer (some ⟨b, k, none⟩)) (hl : a.eval hi = .int kk (n : Int)) (hn : n ≤ N)
    (h : wpList P ops Q rest (a.put o.dst (.slice (some ⟨b, k, none⟩) n N)) w) : wpList P ops Q (o :: rest) a w := by
  refine wpList_plain hgd fun K hK => ?_
  have hrun := run_sliceAt_array_h (P := P) w T ⟨b, k, none⟩ hu kk (n : Int) (by omega) (by omega)
  have e : (⟨b, k, none⟩ : Addr).add 0 = ⟨b, k, none⟩ := by unfold Addr.add; split <;> simp_all
  unfold Oper.wp
  simp only [execOp, ho, Option.map_some, Option.map_none, hx, hl, Sem.run_bind, hrun, hs, Result.andThen, Sem.run_pure, Oper.upon, slicedAt, hN, Int.toNat_natCast]
  refine hK _ _ ?_
  rw [if_neg (by omega), Nat.zero_mul, e]
  exact h
end
set_option maxRecDepth 100000 in
set_option maxHeartbeats 4000000 in
theorem check_ok (e : Ev) (A : Option Addr) (c : Nat) (w : World) (ho : e.ok) (hlen : e.ts.length ≤ 17592186044416) :
    Calls Tryz.prog 20 #[.agg (row e A c)] w fun x w' => ∃ f, x = .returned (.int .i64 f) ∧ (f = 0 ∧ e.form ∨ f = 3 ∧ ¬ e.form) ∧ Below w.heap.size w w' := by
  have hr := row_row e A c
  obtain ⟨R, hR⟩ : ∃ R, R = row e A c := ⟨_, rfl⟩
  rw [← hR] at hr ⊢
  have HR := Lib.hid hr
  have HO := Lib.hid ho
  have hop0 := ho.op0
  have hop1 := ho.op1
  have hc := cnt_range e.op
  clear hr hR ho
  obtain ⟨L, hL⟩ : ∃ L, L = e.ts.length / 2 := ⟨_, rfl⟩
  have HL := Lib.hid hL
  have hL2 : L ≤ 8796093022208 := by omega
  clear hL
  go_enter Tryz.func20, Tryz.ntmps20
  have hB := Lib.hid (Blk.new w 32 R)
  have c0 := (hB.out.cell 0).trans HR.out.op
  have c10 := (hB.out.cell 10).trans HR.out.ts
  rw [← HL.out] at c10
  obtain ⟨op, hop⟩ : ∃ op, op = e.op := ⟨_, rfl⟩
  rw [← hop] at hop0 hop1 hc c0
  have HOP := Lib.hid hop
  clear hop
  have d0 := Lib.hid (((Below.refl w.heap.size w).alloc (Nat.le_refl _) (.cells R 32)))
  go_wp2_with fail
  refine (count_ok op hop0 hop1 _).mono ?_
  rintro e1 w1 ⟨rfl, rfl⟩
  by_cases hcn : cnt op < 0
  · simp only [if_pos hcn]
    go_wp2
    go_ret
    exact ⟨3, rfl, .inr ⟨rfl, fun h => by have := h.1; rw [← HOP.out] at this; omega⟩, d0.out⟩
  · simp only [if_neg hcn]
    obtain ⟨n, hn⟩ : ∃ n : Nat, cnt op = n := ⟨(cnt op).toNat, by omega⟩
    rw [hn]
    have hn8 : n ≤ 8 := by omega
    have HN := Lib.hid hn
    clear hn hcn
    rcases (by omega : (0 < L ∧ op ≠ 1) ∨ (8 < L ∧ op = 1) ∨ (L = 0 ∧ op ≠ 1) ∨ (L = 0 ∧ op = 1) ∨ ((0 < L ∧ L ≤ 8) ∧ op = 1)) with ⟨h1, h2⟩ | ⟨h1, h2⟩ | ⟨h1, h2⟩ | ⟨h1, h2⟩ | ⟨h1, h2⟩
    · have e1 : (op != 1) = true := by simpa using h2
      go_wp2
      go_ret
      refine ⟨3, rfl, .inr ⟨rfl, fun h => ?_⟩, d0.out⟩
      rcases h.2.2.1 with h3 | h3
      · have := HL.out; rw [h3] at this; simp at this; omega
      · rw [← HOP.out] at h3; exact h2 h3
    · go_wp2
      go_ret
      refine ⟨3, rfl, .inr ⟨rfl, fun h => ?_⟩, d0.out⟩
      have := h.2.1; have := HL.out; omega
    all_goals
      have hform : Hid (e.ts.length ≤ 16 ∧ (e.ts = [] ∨ e.op = 1)) := Lib.hid (by
        have := HL.out
        have := HO.out.even
        first
          | exact ⟨by omega, .inr (by rw [← HOP.out]; exact h2)⟩
          | exact ⟨by omega, .inl (List.eq_nil_of_length_eq_zero (by omega))⟩)
      try (have e1 : (op != 1) = true := by simpa using h2)
      obtain ⟨m, hm⟩ : ∃ m, n + m = 8 := ⟨8 - n, by omega⟩
      go_wp2_with (first
        | (refine wpList_arr_from rfl (.tmp 32) (.tmp 33) 29 rfl Tryz.underlying29 (fun _ => by kernel_rfl) 8 (by kernel_rfl) w.heap.size 2 n m .i64 rfl rfl hm ?_
           intro A' hA'))
      go_loopw [36] (fun i wr => ∃ j : Nat, j ≤ m ∧ i = .int .i64 j ∧ Hid (∀ k, n ≤ k → k < n + j → rd e.ns k = 0) ∧ wr = w.alloc (.cells R 32)) (fun i _ => m - (intOf i).toNat)
      case atStart => exact ⟨0, by omega, rfl, Lib.hid (fun k _ _ => by omega), rfl⟩
      case round =>
        obtain ⟨j, hj, rfl, hz, rfl⟩ := hrel
        by_cases hjm : j < m
        · have hA := hA' (by omega)
          subst hA
          have cj := (hB.out.cell (2 + (n + j))).trans (HR.out.n (n + j) (by omega))
          rw [show 2 + (n + j) = 2 + n + j from by omega] at cj
          have hjm' : (j : Int) < m := by omega
          have hd := decide_eq_true hjm'
          by_cases hv : rd e.ns (n + j) = 0
          · rw [hv] at cj
            go_wp2
            go_roundw
            case rel =>
              refine ⟨j + 1, by omega, by go_num, Lib.hid (fun k h1 h2 => ?_), trivial⟩
              by_cases hk : k = n + j
              · rw [hk]; exact hv
              · exact hz.out k h1 (by omega)
            case measure => simp [intOf]; omega
          · obtain ⟨v, hv'⟩ : ∃ v, v = rd e.ns (n + j) := ⟨_, rfl⟩
            rw [← hv'] at cj
            have e2 : (v != 0) = true := by rw [hv']; simpa using hv
            have e3 : (v == 0) = false := by rw [hv']; simpa using hv
            go_wp2
            go_ret
            exact ⟨3, rfl, .inr ⟨rfl, fun h => hv (h.2.2.2 (n + j) (by rw [← HOP.out, HN.out]; omega) (by omega))⟩, d0.out⟩
        · have hd : decide ((j : Int) < m) = false := by simp; omega
          have hjm' : ¬ (j : Int) < m := by omega
          go_wp2
          go_ret
          refine ⟨0, rfl, .inl ⟨rfl, ?_, hform.out.1, hform.out.2, fun k h1 h2 => ?_⟩, d0.out⟩
          · rw [← HOP.out, HN.out]; omega
          · rw [← HOP.out, HN.out] at h1
            exact hz.out k (by omega) (by omega)
end Go.Proofs.YtlfomhdphbchpaaGreatDoor.Event
