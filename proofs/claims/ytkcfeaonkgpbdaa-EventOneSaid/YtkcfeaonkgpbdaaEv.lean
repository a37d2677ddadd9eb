import Derived.Test.YtkcfeaonkgpbdaaPackG
/-! events as bytes: plain, no program in sight -/
namespace Go.Proofs.Ytkcfeaonkgpbdaa.Event
open Go.RowKit Go.Proofs.Ytkcfeaonkgpbdaa Go.Proofs.Ytkcfeaonkgpbdaa.Pack
set_option linter.unusedVariables false
set_option linter.unusedSimpArgs false
/-- how many numbers an op uses; -1: there is none such -/
def cnt (op : Int) : Int :=
  if op = 1 then 8 else if op = 9 ∨ op = 12 then 4 else if op = 6 ∨ op = 7 ∨ op = 10 ∨ op = 11 ∨ op = 14 then 3
  else if op = 2 ∨ op = 4 ∨ op = 5 ∨ op = 8 then 2 else if op = 3 ∨ op = 13 ∨ op = 15 then 1 else -1
theorem cnt_range (op : Int) : -1 ≤ cnt op ∧ cnt op ≤ 8 := by
  unfold cnt
  repeat' split
  all_goals omega
theorem cnt_neg (op : Int) : cnt op < 0 ↔ op < 1 ∨ 15 < op := by
  unfold cnt
  repeat' split
  all_goals omega
theorem cnt_pos (op : Int) (h : 0 ≤ cnt op) : 1 ≤ cnt op := by
  unfold cnt at h ⊢
  repeat' split
  all_goals (first | omega | (simp_all))
structure Ev where
  op : Int
  key : Int
  ns : List Int
  ts : List Int
def I64 (l : List Int) : Prop := ∀ n ∈ l, -9223372036854775808 ≤ n ∧ n ≤ 9223372036854775807
/-- a value of the type -/
structure Ev.ok (e : Ev) : Prop where
  op0 : 0 ≤ e.op
  op1 : e.op ≤ 255
  key0 : 0 ≤ e.key
  key1 : e.key < 18446744073709551616
  len : e.ns.length = 8
  ns : I64 e.ns
  ts : I64 e.ts
  even : e.ts.length % 2 = 0
def Ev.zero : Ev := ⟨0, 0, List.replicate 8 0, []⟩
def Ev.form (e : Ev) : Prop := 0 ≤ cnt e.op ∧ e.ts.length ≤ 16 ∧ (e.ts = [] ∨ e.op = 1) ∧ ∀ i, (cnt e.op).toNat ≤ i → i < 8 → rd e.ns i = 0
def encs (l : List Int) : List Int := l.flatMap fun n => enc (zig n)
theorem encs_nil : encs [] = [] := rfl
theorem encs_cons (a : Int) (l : List Int) : encs (a :: l) = enc (zig a) ++ encs l := rfl
theorem encs_append (l m : List Int) : encs (l ++ m) = encs l ++ encs m := by simp [encs]
theorem encs_snoc (l : List Int) (a : Int) : encs (l ++ [a]) = encs l ++ enc (zig a) := by simp [encs]
theorem I64.cons {a : Int} {l : List Int} (h : I64 (a :: l)) : (-9223372036854775808 ≤ a ∧ a ≤ 9223372036854775807) ∧ I64 l := ⟨h a (by simp), fun n hn => h n (by simp [hn])⟩
theorem I64.rd {l : List Int} (h : I64 l) (j : Nat) : -9223372036854775808 ≤ rd l j ∧ rd l j ≤ 9223372036854775807 := by
  by_cases hj : j < l.length
  · rw [rd_get hj]; exact h _ (List.getElem_mem hj)
  · rw [rd_out (by omega)]; omega
theorem encs_len (l : List Int) : (encs l).length ≤ 10 * l.length := by
  induction l with
  | nil => simp [encs]
  | cons a l ih =>
    rw [encs_cons, List.length_append, List.length_cons]
    have := enc_len (zig a)
    omega
theorem encs_byt {l : List Int} (h : I64 l) : Byt (encs l) := by
  intro n hn
  simp only [encs, List.mem_flatMap] at hn
  obtain ⟨a, ha, hn⟩ := hn
  have := h a ha
  exact enc_byt _ (zig_range a this.1 this.2).1 n hn
theorem Byt.app {a b : List Int} (ha : Byt a) (hb : Byt b) : Byt (a ++ b) := by
  intro n hn
  rcases List.mem_append.1 hn with h | h
  · exact ha n h
  · exact hb n h
theorem Byt.dropp {a : List Int} (ha : Byt a) (k : Nat) : Byt (a.drop k) := fun n hn => ha n (List.mem_of_mem_drop hn)
theorem Byt.takee {a : List Int} (ha : Byt a) (k : Nat) : Byt (a.take k) := fun n hn => ha n (List.mem_of_mem_take hn)
/-- what stands behind op and key -/
def Ev.tail (e : Ev) : List Int := encs (e.ns.take (cnt e.op).toNat) ++ (if e.op = 1 then enc ((e.ts.length / 2 : Nat) : Int) ++ encs e.ts else [])
def wr (e : Ev) : List Int := e.op :: (enc e.key ++ e.tail)
theorem wr_byt {e : Ev} (h : e.ok) : Byt (wr e) := by
  intro n hn
  unfold wr Ev.tail at hn
  rcases List.mem_cons.1 hn with rfl | hn
  · exact ⟨h.op0, h.op1⟩
  · refine Byt.app (enc_byt _ h.key0) (Byt.app (encs_byt fun n hn => h.ns n (List.mem_of_mem_take hn)) ?_) n hn
    split
    · exact Byt.app (enc_byt _ (by omega)) (encs_byt h.ts)
    · intro n hn; simp at hn
theorem wr_len (e : Ev) (h : e.form) (h8 : e.ns.length = 8) : (wr e).length ≤ 261 ∧ 2 ≤ (wr e).length := by
  unfold wr Ev.tail
  have h1 := enc_len e.key
  have h2 := encs_len (e.ns.take (cnt e.op).toNat)
  have h3 := encs_len e.ts
  have h4 := enc_len ((e.ts.length / 2 : Nat) : Int)
  have h5 := h.2.1
  have h6 := enc_pos e.key
  rw [List.length_take] at h2
  split <;> simp only [List.length_cons, List.length_append, List.length_nil] <;> omega
/-- m numbers with a sign from the front -/
def decs : Nat → List Int → Option (List Int × List Int)
  | 0, xs => some ([], xs)
  | m + 1, xs => match dec xs with
    | none => none
    | some (n, k) => match decs m (xs.drop k) with
      | none => none
      | some (l, r) => some (zag n :: l, r)
theorem decs_encs : ∀ (l r : List Int), I64 l → decs l.length (encs l ++ r) = some (l, r)
  | [], r, _ => rfl
  | a :: l, r, h => by
    have ha := zig_range a h.cons.1.1 h.cons.1.2
    have h1 := dec_enc (zig a) (encs l ++ r) ha.1 ha.2
    rw [encs_cons, List.append_assoc]
    simp only [List.length_cons, decs, h1, List.drop_left', decs_encs l r h.cons.2, zag_zig]
theorem decs_some : ∀ (m : Nat) (xs l r : List Int), Byt xs → decs m xs = some (l, r) → l.length = m ∧ I64 l ∧ xs = encs l ++ r
  | 0, xs, l, r, hb, h => by
    simp only [decs, Option.some.injEq, Prod.mk.injEq] at h
    obtain ⟨rfl, rfl⟩ := h
    exact ⟨rfl, fun n hn => by simp at hn, rfl⟩
  | m + 1, xs, l, r, hb, h => by
    unfold decs at h
    split at h
    · cases h
    · rename_i n k hd
      split at h
      · cases h
      · rename_i l' r' hd'
        simp only [Option.some.injEq, Prod.mk.injEq] at h
        obtain ⟨rfl, rfl⟩ := h
        obtain ⟨h0, h1, rfl, s, rfl⟩ := dec_some hb hd
        rw [List.drop_left'] at hd' <;> try rfl
        obtain ⟨h2, h3, rfl⟩ := decs_some m _ _ _ (fun n hn => hb n (by simp [hn])) hd'
        refine ⟨by simp [h2], ?_, by rw [encs_cons, zig_zag n h0, List.append_assoc]⟩
        intro x hx
        rcases List.mem_cons.1 hx with rfl | hx
        · exact zag_range n h0 h1
        · exact h3 x hx
def par : List Int → Option (Ev × List Int)
  | [] => none
  | op :: p => if cnt op < 0 then none else match dec p with
    | none => none
    | some (key, k) => match decs (cnt op).toNat (p.drop k) with
      | none => none
      | some (l, r) => if op = 1 then (match dec r with
          | none => none
          | some (t, k) => if 8 < t then none else match decs (2 * t.toNat) (r.drop k) with
            | none => none
            | some (ts, r') => some (⟨op, key, l ++ List.replicate (8 - l.length) 0, ts⟩, r'))
        else some (⟨op, key, l ++ List.replicate (8 - l.length) 0, []⟩, r)
theorem pad_eq {l : List Int} {n : Nat} (h8 : l.length = 8) (hn : n ≤ 8) (h : ∀ i, n ≤ i → i < 8 → rd l i = 0) : l.take n ++ List.replicate (8 - (l.take n).length) 0 = l := by
  apply decide_lists
  · simp; omega
  · intro j hj
    have hj8 : j < 8 := by simp at hj; omega
    by_cases hjn : j < n
    · rw [rd_get (by simp; omega), rd_get (by omega), List.getElem_append_left (by simp; omega)]
      simp
    · rw [h j (by omega) hj8, rd_get hj, List.getElem_append_right (by simp; omega)]
      simp
theorem par_wr (e : Ev) (r : List Int) (ho : e.ok) (hf : e.form) : par (wr e ++ r) = some (e, r) := by
  obtain ⟨op, key, ns, ts⟩ := e
  have hc := cnt_range op
  obtain ⟨f1, f2, f3, f4⟩ := hf
  have h8 := ho.len
  have key0 := ho.key0
  have key1 := ho.key1
  have hI : I64 ns := ho.ns
  have hT : I64 ts := ho.ts
  have hev := ho.even
  simp only at f1 f2 f3 f4 h8 key0 key1 hev
  have hpad := pad_eq h8 (n := (cnt op).toNat) (by omega) f4
  unfold wr Ev.tail
  simp only [List.cons_append, List.append_assoc, par]
  rw [if_neg (by omega), dec_enc key _ key0 key1]
  simp only [List.drop_left']
  have hd := fun s => decs_encs (ns.take (cnt op).toNat) s (fun n hn => hI n (List.mem_of_mem_take hn))
  rw [show (ns.take (cnt op).toNat).length = (cnt op).toNat from by simp; omega] at hd
  rw [hd]
  simp only
  by_cases h1 : op = 1
  · rw [if_pos h1, if_pos h1]
    rw [List.append_assoc, dec_enc _ _ (by omega) (by omega)]
    simp only [List.drop_left']
    rw [if_neg (by omega)]
    have hd2 := decs_encs ts r hT
    rw [show 2 * ((ts.length / 2 : Nat) : Int).toNat = ts.length from by omega, hd2]
    simp only [hpad]
  · rw [if_neg h1, if_neg h1]
    have : ts = [] := by rcases f3 with h | h; exact h; exact absurd h h1
    subst this
    simp only [List.nil_append, hpad]
theorem par_some {p : List Int} {e : Ev} {r : List Int} (hb : Byt p) (h : par p = some (e, r)) : e.ok ∧ e.form ∧ p = wr e ++ r := by
  cases p with
  | nil => simp [par] at h
  | cons op p =>
    simp only [par] at h
    have hop := hb op (by simp)
    have hb' : Byt p := fun n hn => hb n (by simp [hn])
    have hc := cnt_range op
    split at h
    · cases h
    · rename_i hcn
      split at h
      · cases h
      · rename_i key k hd
        obtain ⟨k0, k1, rfl, s, rfl⟩ := dec_some hb' hd
        rw [List.drop_left'] at h <;> try rfl
        have hbs : Byt s := fun n hn => hb' n (by simp [hn])
        split at h
        · cases h
        · rename_i l r1 hl
          obtain ⟨l1, l2, rfl⟩ := decs_some _ _ _ _ hbs hl
          have hr1 : Byt r1 := fun n hn => hbs n (by simp [hn])
          have hlen : l.length ≤ 8 := by omega
          have hI : I64 (l ++ List.replicate (8 - l.length) 0) := by
            intro n hn
            rcases List.mem_append.1 hn with h | h
            · exact l2 n h
            · rw [List.eq_of_mem_replicate h]; omega
          have htk : (l ++ List.replicate (8 - l.length) 0).take (cnt op).toNat = l := by rw [← l1]; simp
          have hz : ∀ i, (cnt op).toNat ≤ i → i < 8 → rd (l ++ List.replicate (8 - l.length) 0) i = 0 := by
            intro i hi hi8
            rw [rd_get (by simp; omega), List.getElem_append_right (by omega)]
            simp
          split at h
          · rename_i h1
            split at h
            · cases h
            · rename_i t k2 hd2
              obtain ⟨t0, t1, rfl, s2, rfl⟩ := dec_some hr1 hd2
              rw [List.drop_left'] at h <;> try rfl
              split at h
              · cases h
              · rename_i h8
                split at h
                · cases h
                · rename_i ts r2 hts
                  obtain ⟨m1, m2, rfl⟩ := decs_some _ _ _ _ (fun n hn => hr1 n (by simp [hn])) hts
                  simp only [Option.some.injEq, Prod.mk.injEq] at h
                  obtain ⟨rfl, rfl⟩ := h
                  refine ⟨⟨hop.1, hop.2, k0, k1, by simp; omega, hI, m2, by simp only; omega⟩, ⟨by simp only; omega, by simp only; omega, .inr h1, hz⟩, ?_⟩
                  simp only [wr, Ev.tail, htk, if_pos h1]
                  rw [show ((ts.length / 2 : Nat) : Int) = t from by omega]
                  simp
          · rename_i h1
            simp only [Option.some.injEq, Prod.mk.injEq] at h
            obtain ⟨rfl, rfl⟩ := h
            refine ⟨⟨hop.1, hop.2, k0, k1, by simp; omega, hI, by intro n hn; simp at hn, by simp⟩, ⟨by simp only; omega, by simp, .inl rfl, hz⟩, ?_⟩
            simp only [wr, Ev.tail, htk, if_neg h1]
            simp
/-- what reading answers -/
def rdEv (p : List Int) : Ev × Int := if 4096 < p.length then (Ev.zero, 2) else match par p with | some (e, []) => (e, 0) | _ => (Ev.zero, 3)
theorem rdEv_wr (e : Ev) (ho : e.ok) (hf : e.form) : rdEv (wr e) = (e, 0) := by
  have h1 := par_wr e [] ho hf
  rw [List.append_nil] at h1
  have h2 := wr_len e hf ho.len
  unfold rdEv
  rw [if_neg (by omega), h1]
theorem rdEv_some {p : List Int} {e : Ev} (hb : Byt p) (hl : p.length ≤ 4096) (h : par p = some (e, [])) : rdEv p = (e, 0) ∧ wr e = p := by
  refine ⟨by unfold rdEv; rw [if_neg (by omega), h], ?_⟩
  have := (par_some hb h).2.2
  rw [this]; simp
theorem rdEv_none {p : List Int} (hl : p.length ≤ 4096) (h : ∀ e, par p ≠ some (e, [])) : rdEv p = (Ev.zero, 3) := by
  unfold rdEv
  rw [if_neg (by omega)]
  split
  · rename_i e h'; exact absurd h' (h e)
  · rfl
theorem rdEv_long {p : List Int} (hl : 4096 < p.length) : rdEv p = (Ev.zero, 2) := by unfold rdEv; rw [if_pos hl]
theorem Ev.zero_ok : Ev.zero.ok := ⟨by decide, by decide, by decide, by decide, rfl, (fun n hn => by simp [Ev.zero] at hn; omega), (fun n hn => by simp [Ev.zero] at hn), rfl⟩
theorem rdEv_ok {p : List Int} (hb : Byt p) : (rdEv p).1.ok ∧ (((rdEv p).2 = 0 ∧ (rdEv p).1.form ∧ wr (rdEv p).1 = p ∧ p.length ≤ 4096) ∨ (rdEv p).2 = 2 ∧ 4096 < p.length ∨ (rdEv p).2 = 3 ∧ p.length ≤ 4096) := by
  by_cases hl : 4096 < p.length
  · rw [rdEv_long hl]; exact ⟨Ev.zero_ok, .inr (.inl ⟨rfl, hl⟩)⟩
  · by_cases h : ∃ e, par p = some (e, [])
    · obtain ⟨e, h⟩ := h
      obtain ⟨h1, h2⟩ := rdEv_some hb (by omega) h
      have h3 := par_some hb h
      rw [h1]
      exact ⟨h3.1, .inl ⟨rfl, h3.2.1, h2, by omega⟩⟩
    · rw [rdEv_none (by omega) (fun e he => h ⟨e, he⟩)]
      exact ⟨Ev.zero_ok, .inr (.inr ⟨rfl, by omega⟩)⟩
theorem wr_inj {a b : Ev} {r s : List Int} (ha : a.ok) (fa : a.form) (hb : b.ok) (fb : b.form) (h : wr a ++ r = wr b ++ s) : a = b ∧ r = s := by
  have h1 := par_wr a r ha fa
  rw [h, par_wr b s hb fb] at h1
  simp only [Option.some.injEq, Prod.mk.injEq] at h1
  exact ⟨h1.1.symm, h1.2.symm⟩
/-- bytes cut off, or with more behind, are none -/
theorem rdEv_cut {e : Ev} (ho : e.ok) (hf : e.form) {k : Nat} (hk : k < (wr e).length) : (rdEv ((wr e).take k)).2 = 3 := by
  have h2 := wr_len e hf ho.len
  refine congrArg Prod.snd (rdEv_none (by rw [List.length_take]; omega) fun x hx => ?_)
  obtain ⟨h3, h4, h5⟩ := par_some (fun n hn => wr_byt ho n (List.mem_of_mem_take hn)) hx
  have h6 := wr_inj ho hf h3 h4 (r := []) (s := (wr e).drop k) (by rw [List.append_nil] at h5 ⊢; rw [← h5]; simp)
  have h7 := congrArg List.length h6.2
  simp at h7; omega
theorem rdEv_more {e : Ev} (ho : e.ok) (hf : e.form) {m : List Int} (hm : m ≠ []) (hb : Byt m) (hl : (wr e ++ m).length ≤ 4096) : (rdEv (wr e ++ m)).2 = 3 := by
  refine congrArg Prod.snd (rdEv_none hl fun x hx => ?_)
  obtain ⟨h3, h4, h5⟩ := par_some (Byt.app (wr_byt ho) hb) hx
  exact hm (wr_inj ho hf h3 h4 h5).2
end Go.Proofs.Ytkcfeaonkgpbdaa.Event
