import Derived.Test.YtkcfeaonkgpbdaaEvA
/-! an event by value; event.Check -/
namespace Go.Proofs.Ytkcfeaonkgpbdaa.Event
open Go.RowKit Go.Deep Go.Proofs.Ytkcfeaonkgpbdaa Go.Proofs.Ytkcfeaonkgpbdaa.Pack
set_option linter.unusedVariables false
set_option linter.unusedSimpArgs false
def row (e : Ev) (A : Option Addr) (c : Nat) : Array Value :=
  #[.int .u8 e.op, .int .u64 e.key, .int .i64 (rd e.ns 0), .int .i64 (rd e.ns 1), .int .i64 (rd e.ns 2), .int .i64 (rd e.ns 3), .int .i64 (rd e.ns 4), .int .i64 (rd e.ns 5), .int .i64 (rd e.ns 6), .int .i64 (rd e.ns 7), .slice A (e.ts.length / 2) c]
theorem row_n (e : Ev) (A : Option Addr) (c i : Nat) (h : i < 8) : (row e A c)[2 + i]? = some (.int .i64 (rd e.ns i)) := by
  have : i = 0 ∨ i = 1 ∨ i = 2 ∨ i = 3 ∨ i = 4 ∨ i = 5 ∨ i = 6 ∨ i = 7 := by omega
  rcases this with rfl | rfl | rfl | rfl | rfl | rfl | rfl | rfl <;> rfl
/-- what a walk needs of an event's cells -/
structure Row (R : Array Value) (e : Ev) (A : Option Addr) (c : Nat) : Prop where
  size : R.size = 11
  op : R[0]? = some (.int .u8 e.op)
  key : R[1]? = some (.int .u64 e.key)
  n : ∀ i, i < 8 → R[2 + i]? = some (.int .i64 (rd e.ns i))
  ts : R[10]? = some (.slice A (e.ts.length / 2) c)
  one : R.toList.all Value.oneCell' = true
theorem row_row (e : Ev) (A : Option Addr) (c : Nat) : Row (row e A c) e A c := ⟨rfl, rfl, rfl, row_n e A c, rfl, rfl⟩
section
variable {P : Program} {ops : Array Oper} {rest : List Oper} {o : Oper} {a : Act} {w : World} {Q : Exit → Act → World → Prop}
/-- 'x[n:]' of an array of N one-cell elements -/
theorem wpList_arr_from (hgd : o.guard = none) (x lo : Operand) (T : TypeId) (ho : o.op = .slice T x (some lo) none none) (hu : P.underlying T = some (.array (P.arrayLen T) (P.elem T))) (hs : ∀ w, (sizeOf (P.elem T)).run P w = .ok 1 w)
    (N : Nat) (hN : P.arrayLen T = N) (b k n m : Nat) (kk : IntKind) (hx : a.eval x = .pointer (some ⟨b, k, none⟩)) (hl : a.eval lo = .int kk (n : Int)) (hn : n + m = N)
    (h : ∀ A' : Addr, (0 < m → A' = ⟨b, k + n, none⟩) → wpList P ops Q rest (a.put o.dst (.slice (some A') m m)) w) : wpList P ops Q (o :: rest) a w := by
  refine wpList_plain hgd fun K hK => ?_
  have hrun := run_sliceAt_array_l (P := P) w T ⟨b, k, none⟩ hu kk (n : Int) (by omega) (by omega)
  unfold Oper.wp
  simp only [execOp, ho, Option.map_some, Option.map_none, hx, hl, Sem.run_bind, hrun, hs, Result.andThen, Sem.run_pure, Oper.upon, slicedAt, hN, Int.toNat_natCast]
  rw [show N - n = m from by omega]
  refine hK _ _ (h _ (fun hlt => ?_))
  rw [if_neg (by omega)]
  unfold Addr.add
  split <;> simp_all
/-- 'x[:n]' -/
theorem wpList_arr_to (hgd : o.guard = none) (x hi : Operand) (T : TypeId) (ho : o.op = .slice T x none (some hi) none) (hu : P.underlying T = some (.array (P.arrayLen T) (P.elem T))) (hs : ∀ w, (sizeOf (P.elem T)).run P w = .ok 1 w)
    (N : Nat) (hN : P.arrayLen T = N) (h0 : 0 < N) (b k n : Nat) (kk : IntKind) (hx : a.eval x = .pointer (some ⟨b, k, none⟩)) (hl : a.eval hi = .int kk (n : Int)) (hn : n ≤ N)
    (h : wpList P ops Q rest (a.put o.dst (.slice (some ⟨b, k, none⟩) n N)) w) : wpList P ops Q (o :: rest) a w := by
  refine wpList_plain hgd fun K hK => ?_
  have hrun := run_sliceAt_array_h (P := P) w T ⟨b, k, none⟩ hu kk (n : Int) (by omega) (by omega)
  have e : (⟨b, k, none⟩ : Addr).add 0 = ⟨b, k, none⟩ := by unfold Addr.add; split <;> simp_all
  unfold Oper.wp
  simp only [execOp, ho, Option.map_some, Option.map_none, hx, hl, Sem.run_bind, hrun, hs, Result.andThen, Sem.run_pure, Oper.upon, slicedAt, hN, Int.toNat_natCast]
  refine hK _ _ ?_
  rw [if_neg (by omega), Nat.zero_mul, e]
  exact h
end
set_option maxRecDepth 100000 in
set_option maxHeartbeats 4000000 in
theorem check_ok (e : Ev) (A : Option Addr) (c : Nat) (w : World) (ho : e.ok) (hlen : e.ts.length ≤ 17592186044416) :
    Calls Try.prog 14 #[.agg (row e A c)] w fun x w' => ∃ f, x = .returned (.int .i64 f) ∧ (f = 0 ∧ e.form ∨ f = 3 ∧ ¬ e.form) ∧ Below w.heap.size w w' := by
  have hr := row_row e A c
  obtain ⟨R, hR⟩ : ∃ R, R = row e A c := ⟨_, rfl⟩
  rw [← hR] at hr ⊢
  have HR := Lib.hid hr
  have HO := Lib.hid ho
  have hop0 := ho.op0
  have hop1 := ho.op1
  have hc := cnt_range e.op
  clear hr hR ho
  obtain ⟨L, hL⟩ : ∃ L, L = e.ts.length / 2 := ⟨_, rfl⟩
  have HL := Lib.hid hL
  have hL2 : L ≤ 8796093022208 := by omega
  clear hL
  go_enter Try.func14, Try.ntmps14
  have hB := Lib.hid (Blk.new w 26 R)
  have c0 := (hB.out.cell 0).trans HR.out.op
  have c10 := (hB.out.cell 10).trans HR.out.ts
  rw [← HL.out] at c10
  obtain ⟨op, hop⟩ : ∃ op, op = e.op := ⟨_, rfl⟩
  rw [← hop] at hop0 hop1 hc c0
  have HOP := Lib.hid hop
  clear hop
  have d0 := Lib.hid (((Below.refl w.heap.size w).alloc (Nat.le_refl _) (.cells R 26)))
  go_wp2_with fail
  refine (count_ok op hop0 hop1 _).mono ?_
  rintro e1 w1 ⟨rfl, rfl⟩
  by_cases hcn : cnt op < 0
  · simp only [if_pos hcn]
    go_wp2
    go_ret
    exact ⟨3, rfl, .inr ⟨rfl, fun h => by have := h.1; rw [← HOP.out] at this; omega⟩, d0.out⟩
  · simp only [if_neg hcn]
    obtain ⟨n, hn⟩ : ∃ n : Nat, cnt op = n := ⟨(cnt op).toNat, by omega⟩
    rw [hn]
    have hn8 : n ≤ 8 := by omega
    have HN := Lib.hid hn
    clear hn hcn
    rcases (by omega : (0 < L ∧ op ≠ 1) ∨ (8 < L ∧ op = 1) ∨ (L = 0 ∧ op ≠ 1) ∨ (L = 0 ∧ op = 1) ∨ ((0 < L ∧ L ≤ 8) ∧ op = 1)) with ⟨h1, h2⟩ | ⟨h1, h2⟩ | ⟨h1, h2⟩ | ⟨h1, h2⟩ | ⟨h1, h2⟩
    · have e1 : (op != 1) = true := by simpa using h2
      go_wp2
      go_ret
      refine ⟨3, rfl, .inr ⟨rfl, fun h => ?_⟩, d0.out⟩
      rcases h.2.2.1 with h3 | h3
      · have := HL.out; rw [h3] at this; simp at this; omega
      · rw [← HOP.out] at h3; exact h2 h3
    · go_wp2
      go_ret
      refine ⟨3, rfl, .inr ⟨rfl, fun h => ?_⟩, d0.out⟩
      have := h.2.1; have := HL.out; omega
    all_goals
      have hform : Hid (e.ts.length ≤ 16 ∧ (e.ts = [] ∨ e.op = 1)) := Lib.hid (by
        have := HL.out
        have := HO.out.even
        first
          | exact ⟨by omega, .inr (by rw [← HOP.out]; exact h2)⟩
          | exact ⟨by omega, .inl (List.eq_nil_of_length_eq_zero (by omega))⟩)
      try (have e1 : (op != 1) = true := by simpa using h2)
      obtain ⟨m, hm⟩ : ∃ m, n + m = 8 := ⟨8 - n, by omega⟩
      go_wp2_with (first
        | (refine wpList_arr_from rfl (.tmp 32) (.tmp 33) 23 rfl Try.underlying23 (fun _ => by kernel_rfl) 8 (by kernel_rfl) w.heap.size 2 n m .i64 rfl rfl hm ?_
           intro A' hA'))
      go_loopw [36] (fun i wr => ∃ j : Nat, j ≤ m ∧ i = .int .i64 j ∧ Hid (∀ k, n ≤ k → k < n + j → rd e.ns k = 0) ∧ wr = w.alloc (.cells R 26)) (fun i _ => m - (intOf i).toNat)
      case atStart => exact ⟨0, by omega, rfl, Lib.hid (fun k _ _ => by omega), rfl⟩
      case round =>
        obtain ⟨j, hj, rfl, hz, rfl⟩ := hrel
        by_cases hjm : j < m
        · have hA := hA' (by omega)
          subst hA
          have cj := (hB.out.cell (2 + (n + j))).trans (HR.out.n (n + j) (by omega))
          rw [show 2 + (n + j) = 2 + n + j from by omega] at cj
          have hjm' : (j : Int) < m := by omega
          have hd := decide_eq_true hjm'
          by_cases hv : rd e.ns (n + j) = 0
          · rw [hv] at cj
            go_wp2
            go_roundw
            case rel =>
              refine ⟨j + 1, by omega, by go_num, Lib.hid (fun k h1 h2 => ?_), trivial⟩
              by_cases hk : k = n + j
              · rw [hk]; exact hv
              · exact hz.out k h1 (by omega)
            case measure => simp [intOf]; omega
          · obtain ⟨v, hv'⟩ : ∃ v, v = rd e.ns (n + j) := ⟨_, rfl⟩
            rw [← hv'] at cj
            have e2 : (v != 0) = true := by rw [hv']; simpa using hv
            have e3 : (v == 0) = false := by rw [hv']; simpa using hv
            go_wp2
            go_ret
            exact ⟨3, rfl, .inr ⟨rfl, fun h => hv (h.2.2.2 (n + j) (by rw [← HOP.out, HN.out]; omega) (by omega))⟩, d0.out⟩
        · have hd : decide ((j : Int) < m) = false := by simp; omega
          have hjm' : ¬ (j : Int) < m := by omega
          go_wp2
          go_ret
          refine ⟨0, rfl, .inl ⟨rfl, ?_, hform.out.1, hform.out.2, fun k h1 h2 => ?_⟩, d0.out⟩
          · rw [← HOP.out, HN.out]; omega
          · rw [← HOP.out, HN.out] at h1
            exact hz.out k (by omega) (by omega)
end Go.Proofs.Ytkcfeaonkgpbdaa.Event
