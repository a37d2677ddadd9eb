/- Lemmas of a claim: Varint, PackA, PackB, SameBytes, PackC, PackD, PackE, PackF, PackG, Ev, Cut, EvA, EvB, EvC, EvD -/
import Derived.Below
import Derived.WalkArith
import Derived.Test.YtkdnebalpdebeaaGreatDoorG01
import Derived.Lib.Builder
set_option linter.unusedVariables false
set_option linter.unusedSimpArgs false
set_option maxHeartbeats 16000000
set_option maxRecDepth 100000
namespace Go.Proofs.YtkdnebalpdebeaaGreatDoor
section
open Go.RowKit
def Byt (xs : List Int) : Prop := ∀ n ∈ xs, 0 <= n /\ n <= 255
def encF : Nat -> Int -> List Int
 | 0, _ => []
 | f + 1, n => if n < 128 then [n] else (128 + n % 128) :: encF f (n / 128)
def enc (n : Int) : List Int := encF 10 n
def zig (n : Int) : Int := if n < 0 then -2 * n - 1 else 2 * n
theorem zig_range (n : Int) (h0 : -9223372036854775808 <= n) (h1 : n <= 9223372036854775807) : 0 <= zig n /\ zig n < 18446744073709551616 := by
 unfold zig; split <;> omega
theorem encF_len : ∀ (f : Nat) (n : Int), (encF f n).length <= f
 | 0, _ => by simp [encF]
 | f + 1, n => by
   unfold encF
   split
   . simp
   . simp only [List.length_cons]
     have := encF_len f (n / 128)
     omega
theorem enc_len (n : Int) : (enc n).length <= 10 := encF_len 10 n
theorem enc_pos (n : Int) : 1 <= (enc n).length := by unfold enc encF; split <;> simp
theorem encF_byt : ∀ (f : Nat) (n : Int), 0 <= n -> Byt (encF f n)
 | 0, _, _ => by simp [encF, Byt]
 | f + 1, n, h => by
   unfold encF
   split
   . intro m hm; simp at hm; omega
   . intro m hm
     rcases List.mem_cons.1 hm with rfl | hm
     . omega
     . exact encF_byt f (n / 128) (by omega) m hm
theorem enc_byt (n : Int) (h : 0 <= n) : Byt (enc n) := encF_byt 10 n h
def decF : Nat -> List Int -> Int -> Int -> Nat -> Option (Int × Nat)
 | 0, _, _, _, _ => none
 | _ + 1, [], _, _, _ => none
 | f + 1, b :: r, acc, pl, k =>
   if f = 0 /\ 1 < b then none
   else if b < 128 then (if b = 0 /\ 0 < k then none else some (acc + b * pl, k + 1))
   else decF f r (acc + (b % 128) * pl) (pl * 128) (k + 1)
def dec (xs : List Int) : Option (Int × Nat) := decF 10 xs 0 1 0
end
namespace Pack
open Go.RowKit Go.Deep
theorem info5 : (Tryz.prog.info? 5).map (fun i => (i.zero, i.size, i.bytes)) = some (some (.int .u8 0), 1, 1) := by kernel_rfl
theorem or128_nat : ∀ a : Fin 256, (a.1 ||| 128) = 128 + a.1 % 128 := by decide +kernel
theorem or128 (a : Int) (h0 : 0 <= a) (h1 : a < 256) : bits .or .u8 a 128 = 128 + a % 128 := by
 rw [u8_or a 128 h0 h1 (by omega) (by omega)]
 have := or128_nat ⟨a.toNat, by omega⟩
 simp only [] at this
 simp only [show (128 : Int).toNat = 128 from rfl]
 rw [this]; omega
theorem xor_all (x : Nat) (h : x < 18446744073709551616) : x ^^^ 18446744073709551615 = 18446744073709551615 - x := by
 have h1 : (BitVec.ofNat 64 x ^^^ BitVec.allOnes 64).toNat = (~~~ BitVec.ofNat 64 x).toNat := by rw [BitVec.xor_allOnes]
 rw [BitVec.toNat_xor, BitVec.toNat_not, BitVec.toNat_ofNat, Nat.mod_eq_of_lt (by omega)] at h1
 simpa using h1
theorem zig_bits (n : Int) (h0 : -9223372036854775808 <= n) (h1 : n <= 9223372036854775807) :
 bits .xor .u64 (IntKind.u64.wrap (IntKind.u64.wrap n * 2)) (IntKind.u64.wrap (n / 9223372036854775808)) = zig n := by
 simp only [IntKind.wrap_u64]
 rw [u64_xor _ _ (by omega) (by omega) (by omega) (by omega)]
 unfold zig
 split
 . have e1 : (n / 9223372036854775808 % 18446744073709551616).toNat = 18446744073709551615 := by omega
   rw [e1, xor_all _ (by omega)]
   omega
 . have e1 : (n / 9223372036854775808 % 18446744073709551616).toNat = 0 := by omega
   rw [e1, Nat.xor_zero]
   omega
def Fresh (w w' : World) (v : Value) (xs : List Int) : Prop := w'.ownsRow w.heap.size 5 1 v xs.length (nums .u8 xs) /\ Below w.heap.size w w'
theorem nil_eql (w : World) (a : Option Addr) (n c n' c' : Nat) : (binOp .eql 134 (.slice a n c) (.slice none n' c')).run Tryz.prog w = .ok (.bool a.isNone) w := Lib.run_eql_slice_nil w _ _ a n c n' c' Tryz.underlying134
theorem clone_ok (P : Option Addr) (c : Nat) (xs : List Int) (w : World) (hx : RI w w.heap.size .u8 P xs) (hl : xs.length <= 140737488355328) :
 Calls Tryz.prog 158 #[.slice P xs.length c] w fun e w' => ∃ v, e = .returned v /\ Fresh w w' v xs := by
 obtain ⟨i0, hi, hz0, hz1, hz2⟩ := info_parts info5
 have hq := nil_eql
 cases P with
 | none =>
   have hx0 : xs = [] := by
    rcases Nat.eq_zero_or_pos xs.length with h | h
    . exact List.eq_nil_of_length_eq_zero h
    . obtain ⟨ad, h1, _⟩ := hx.one h; cases h1
   subst hx0
   go_enter Tryz.func158, Tryz.ntmps158
   go_wp2
   go_ret
   exact ⟨_, rfl, own_nil _ _ _ _, Below.refl _ _⟩
 | some ad =>
   have HX := Hd hx
   clear hx
   go_enter Tryz.func158, Tryz.ntmps158
   go_wp2_with (at_builtin; refine wpList_app _ rfl (.tmp 5) (.tmp 6) _ rfl w.heap.size 5 .u8 1 Tryz.underlying134 info5 (by omega) (.slice (some ⟨w.heap.size, 0, none⟩) 0 0) [] (World.ownsRow_made w #[] 0 (Nat.le_refl _) (by simp [maxLen]) rfl) rfl w.heap.size (some ad) c xs rfl (HX.o.alloc (Nat.le_refl _) _) (by simpa using hl) (by simp) ?_; intro v1 w1 hown1 hg1 hat1)
   go_ret
   exact ⟨_, rfl, by simpa using hown1, below_own ((Below.refl _ _).alloc (Nat.le_refl _) _) hg1 (World.ownsRow_made w #[] 0 (e := 5) (size := 1) (Nat.le_refl _) (by simp [maxLen]) rfl) (Nat.le_refl _) (by simp)⟩
theorem uint_ok (P : Option Addr) (c : Nat) (xs : List Int) (n : Int) (w : World) (hx : RI w w.heap.size .u8 P xs) (hl : xs.length + 10 <= 140737488355328) (h0 : 0 <= n) (h1 : n < 18446744073709551616) :
 Calls Tryz.prog 203 #[.slice P xs.length c, .int .u64 n] w fun e w' => ∃ v, e = .returned v /\ Fresh w w' v (xs ++ enc n) := by
 have hbig : n < 2 ^ (7 * 10) := by omega
 have hn1 : n <= 18446744073709551615 := by omega
 clear h1
 go_enter Tryz.func203, Tryz.ntmps203
 go_wp2_with fail
 refine (clone_ok P c xs _ hx (by omega)).mono ?_
 rintro e w1 ⟨v1, rfl, hown, hb⟩
 have HN := Hd hbig
 clear hbig hx
 go_wp2
 go_loopw [1, 5] (fun m v wr => ∃ (f : Nat) (m' : Int) (done : List Int), m = .int .u64 m' /\ 0 <= m' /\ m' <= 18446744073709551615 /\ Hi (m' < 2 ^ (7 * f)) /\ 1 <= f /\ f <= 10 /\ Hi (done ++ encF f m' = enc n) /\ done.length + f <= 10 /\
  wr.ownsRow w.heap.size 5 1 v (xs ++ done).length (nums .u8 (xs ++ done)) /\ Below w.heap.size w wr) (fun m _ _ => (intOf m).toNat)
 case atStart => exact ⟨10, n, [], rfl, h0, hn1, HN, by omega, Nat.le_refl _, Hd rfl, by simp, by simpa using hown, hb⟩
 case round =>
  obtain ⟨f, m', done, rfl, g0, g1, HB, hf1, hf, HE, hd, hown', hb'⟩ := hrel
  have s' := hb'.size
  have hlen : (xs ++ done).length + 1 <= 140737488355328 := by simp; omega
  by_cases hm : 128 <= m'
  . have hor : bits .or .u8 (m' % 256) 128 = 128 + m' % 128 := by rw [or128 (m' % 256) (by omega) (by omega)]; omega
    go_wp2_with (at_builtin; refine wpList_app1 wr rfl (.tmp 12) (.tmp 16) _ rfl w.heap.size 5 .u8 1 Tryz.underlying134 info5 (by omega) _ (xs ++ done) hown' rfl (128 + m' % 128) rfl (by simpa using hlen) s' ?_; intro v2 w2 hown2 hg2 hat2)
    go_roundw
    case rel =>
     obtain ⟨g, rfl⟩ : ∃ g, f = g + 2 := by
      refine ⟨f - 2, ?_⟩
      have : f ≠ 1 := by
       rintro rfl
       have := HB.o
       omega
      omega
     refine ⟨g + 1, m' / 128, done ++ [128 + m' % 128], rfl, by omega, by omega, Hd ?_, by omega, by omega, Hd ?_, by simp; omega, by simpa using hown2, below_own hb' hg2 hown' (Nat.le_refl _) s'⟩
     . have := HB.o
       rw [show 7 * (g + 2) = 7 * (g + 1) + 7 from by omega, Int.pow_add] at this
       generalize (2 : Int) ^ (7 * (g + 1)) = z at *
       omega
     . have h := HE.o
       rw [encF, if_neg (by omega)] at h
       simpa using h
    case measure => simp [intOf]; omega
  . go_wp2_with (at_builtin; refine wpList_app1 wr rfl (.tmp 18) (.tmp 21) _ rfl w.heap.size 5 .u8 1 Tryz.underlying134 info5 (by omega) _ (xs ++ done) hown' rfl m' rfl (by simpa using hlen) s' ?_; intro v2 w2 hown2 hg2 hat2)
    go_ret
    have he : xs ++ done ++ [m'] = xs ++ enc n := by
     obtain ⟨g, rfl⟩ : ∃ g, f = g + 1 := ⟨f - 1, by omega⟩
     have h := HE.o
     rw [encF, if_pos (by omega)] at h
     rw [<- h, List.append_assoc]
    exact ⟨_, rfl, by rw [<- he]; exact hown2, below_own hb' hg2 hown' (Nat.le_refl _) s'⟩
theorem int_ok (P : Option Addr) (c : Nat) (xs : List Int) (n : Int) (w : World) (hx : RI w w.heap.size .u8 P xs) (hl : xs.length + 10 <= 140737488355328) (h0 : -9223372036854775808 <= n) (h1 : n <= 9223372036854775807) :
 Calls Tryz.prog 204 #[.slice P xs.length c, .int .i64 n] w fun e w' => ∃ v, e = .returned v /\ Fresh w w' v (xs ++ enc (zig n)) := by
 have hz := zig_range n h0 h1
 have HX := Hd hx
 clear hx
 go_enter Tryz.func204, Tryz.ntmps204
 go_wp2_with fail
 rw [zig_bits n h0 h1]
 refine (uint_ok P c xs (zig n) _ HX.o hl hz.1 hz.2).mono ?_
 rintro e w1 ⟨v1, rfl, hf⟩
 have HF := Hd hf
 clear hf
 go_wp2
 go_ret
 exact ⟨_, rfl, HF.o⟩
end Pack
namespace Pack
open Go.RowKit Go.Deep
end Pack
namespace SameBytes
open Go.RowKit Go.Deep
end SameBytes
namespace Pack
open Go.RowKit Go.Deep
def rdU (xs : List Int) : Int × Int × Int := match dec xs with | some (n, k) => (n, k, 0) | none => (0, 0, 3)
end Pack
namespace Pack
open Go.RowKit Go.Deep
def val : List Int -> Int
 | [] => 0
 | b :: r => b % 128 + 128 * val r
end Pack
namespace Pack
open Go.RowKit Go.Deep
end Pack
namespace Pack
open Go.RowKit Go.Deep
end Pack
namespace Pack
open Go.RowKit Go.Deep
theorem Fresh.then' {w w1 w2 : World} {v : Value} {xs : List Int} (hb : Below w.heap.size w w1) (h : Fresh w1 w2 v xs) : Fresh w w2 v xs := by
 refine ⟨?_, below_then' hb h.2⟩
 obtain ⟨h1, h2⟩ := h.1
 refine ⟨h1, ?_⟩
 rcases h2 with h2 | ⟨g, cap, cur, hv, hg, r⟩
 . exact .inl h2
 . exact .inr ⟨g, cap, cur, hv, Nat.le_trans hb.size hg, r⟩
end Pack
namespace Event
open Go.RowKit Go.Proofs.YtkdnebalpdebeaaGreatDoor Pack
def cnt (op : Int) : Int :=
 if op = 1 then 8 else if op = 9 ∨ op = 12 then 4 else if op = 6 ∨ op = 7 ∨ op = 10 ∨ op = 11 ∨ op = 14 then 3
 else if op = 2 ∨ op = 4 ∨ op = 5 ∨ op = 8 then 2 else if op = 3 ∨ op = 13 ∨ op = 15 then 1 else -1
theorem cnt_range (op : Int) : -1 <= cnt op /\ cnt op <= 8 := by
 unfold cnt
 repeat' split
 all_goals omega
theorem cnt_neg (op : Int) : cnt op < 0 ↔ op < 1 ∨ 15 < op := by
 unfold cnt
 repeat' split
 all_goals omega
structure Ev where
 op : Int
 key : Int
 ns : List Int
 ts : List Int
def I64 (l : List Int) : Prop := ∀ n ∈ l, -9223372036854775808 <= n /\ n <= 9223372036854775807
structure Ev.ok (e : Ev) : Prop where
 op0 : 0 <= e.op
 op1 : e.op <= 255
 key0 : 0 <= e.key
 key1 : e.key < 18446744073709551616
 len : e.ns.length = 8
 ns : I64 e.ns
 ts : I64 e.ts
 even : e.ts.length % 2 = 0
def Ev.zero : Ev := ⟨0, 0, List.replicate 8 0, []⟩
def Ev.form (e : Ev) : Prop := 0 <= cnt e.op /\ e.ts.length <= 16 /\ (e.ts = [] ∨ e.op = 1) /\ ∀ i, (cnt e.op).toNat <= i -> i < 8 -> rd e.ns i = 0
def encs (l : List Int) : List Int := l.flatMap fun n => enc (zig n)
theorem encs_cons (a : Int) (l : List Int) : encs (a :: l) = enc (zig a) ++ encs l := rfl
theorem encs_snoc (l : List Int) (a : Int) : encs (l ++ [a]) = encs l ++ enc (zig a) := by simp [encs]
theorem I64.cons {a : Int} {l : List Int} (h : I64 (a :: l)) : (-9223372036854775808 <= a /\ a <= 9223372036854775807) /\ I64 l := ⟨h a (by simp), fun n hn => h n (by simp [hn])⟩
theorem I64.rd {l : List Int} (h : I64 l) (j : Nat) : -9223372036854775808 <= rd l j /\ rd l j <= 9223372036854775807 := by
 by_cases hj : j < l.length
 . rw [rd_get hj]; exact h _ (List.getElem_mem hj)
 . rw [rd_out (by omega)]; omega
theorem encs_len (l : List Int) : (encs l).length <= 10 * l.length := by
 induction l with
 | nil => simp [encs]
 | cons a l ih =>
   rw [encs_cons, List.length_append, List.length_cons]
   have := enc_len (zig a)
   omega
theorem encs_byt {l : List Int} (h : I64 l) : Byt (encs l) := by
 intro n hn
 simp only [encs, List.mem_flatMap] at hn
 obtain ⟨a, ha, hn⟩ := hn
 have := h a ha
 exact enc_byt _ (zig_range a this.1 this.2).1 n hn
theorem Byt.app {a b : List Int} (ha : Byt a) (hb : Byt b) : Byt (a ++ b) := by
 intro n hn
 rcases List.mem_append.1 hn with h | h
 . exact ha n h
 . exact hb n h
def Ev.tail (e : Ev) : List Int := encs (e.ns.take (cnt e.op).toNat) ++ (if e.op = 1 then enc ((e.ts.length / 2 : Nat) : Int) ++ encs e.ts else [])
def wr (e : Ev) : List Int := e.op :: (enc e.key ++ e.tail)
theorem wr_byt {e : Ev} (h : e.ok) : Byt (wr e) := by
 intro n hn
 unfold wr Ev.tail at hn
 rcases List.mem_cons.1 hn with rfl | hn
 . exact ⟨h.op0, h.op1⟩
 . refine Byt.app (enc_byt _ h.key0) (Byt.app (encs_byt fun n hn => h.ns n (List.mem_of_mem_take hn)) ?_) n hn
   split
   . exact Byt.app (enc_byt _ (by omega)) (encs_byt h.ts)
   . intro n hn; simp at hn
theorem wr_len (e : Ev) (h : e.form) (h8 : e.ns.length = 8) : (wr e).length <= 261 /\ 2 <= (wr e).length := by
 unfold wr Ev.tail
 have h1 := enc_len e.key
 have h2 := encs_len (e.ns.take (cnt e.op).toNat)
 have h3 := encs_len e.ts
 have h4 := enc_len ((e.ts.length / 2 : Nat) : Int)
 have h5 := h.2.1
 have h6 := enc_pos e.key
 rw [List.length_take] at h2
 split <;> simp only [List.length_cons, List.length_append, List.length_nil] <;> omega
end Event
section
open Go.RowKit Go.Deep
theorem run_cut {P : Program} (T : TypeId) (hu : P.underlying T = some (.slice (P.elem T))) (hs : ∀ w, (sizeOf (P.elem T)).run P w = .ok 1 w) (A : Option Addr) (n c k : Nat) (kk : IntKind) (hk : k <= n) (w : World) :
 (Instr.slice T (.slice A n c) (some (.int kk (k : Int))) none none).run P w = .ok (.slice (if c = k then A else A.map (·.add k)) (n - k) (c - k)) w := by
 have h1 := run_slice_l (P := P) (w := w) T A n c hu kk (k : Int) (by omega) (by omega)
 rw [h1, hs]
 simp [Result.andThen, sliced]
theorem RI.cutIf {w : World} {B : Nat} {k : IntKind} {A : Option Addr} {xs : List Int} (h : RI w B k A xs) (j c : Nat) (hc : xs.length <= c) (hj : j <= xs.length) : RI w B k (if c = j then A else A.map (·.add j)) (xs.drop j) := by
 split
 . exact RI.none (by simp; omega)
 . have := h.cut j (xs.length - j)
   rwa [List.take_of_length_le (by simp)] at this
end
namespace Event
open Go.RowKit Go.Deep Go.Proofs.YtkdnebalpdebeaaGreatDoor Pack
theorem op_cases (op : Int) (h0 : 0 <= op) (h1 : op <= 255) : op = 0 ∨ 15 < op ∨ op = 1 ∨ op = 2 ∨ op = 3 ∨ op = 4 ∨ op = 5 ∨ op = 6 ∨ op = 7 ∨ op = 8 ∨ op = 9 ∨ op = 10 ∨ op = 11 ∨ op = 12 ∨ op = 13 ∨ op = 14 ∨ op = 15 := by omega
theorem count_ok (op : Int) (h0 : 0 <= op) (h1 : op <= 255) (w : World) :
 Calls Tryz.prog 56 #[.int .u8 op] w fun e w' => e = .returned (.tuple #[.int .i64 (if cnt op < 0 then 0 else cnt op), .int .i64 (if cnt op < 0 then 1 else 0)]) /\ w' = w := by
 rcases op_cases op h0 h1 with h | h | h | h | h | h | h | h | h | h | h | h | h | h | h | h | h
 case inr.inl =>
  have hc : cnt op < 0 := (cnt_neg op).2 (by omega)
  rw [if_pos hc, if_pos hc]
  have e1 : decide (op < 1) = false := by simp; omega
  have e2 : decide (15 < op) = true := by simp; omega
  go_enter Tryz.func56, Tryz.ntmps56
  go_wp2
  all_goals (go_ret2; exact ⟨rfl, rfl⟩)
 all_goals
  subst h
  go_enter Tryz.func56, Tryz.ntmps56
  go_wp2
  go_ret2
  exact ⟨rfl, rfl⟩
end Event
namespace Event
open Go.RowKit Go.Deep Go.Proofs.YtkdnebalpdebeaaGreatDoor Pack
def row (e : Ev) (A : Option Addr) (c : Nat) : Array Value :=
 #[.int .u8 e.op, .int .u64 e.key, .int .i64 (rd e.ns 0), .int .i64 (rd e.ns 1), .int .i64 (rd e.ns 2), .int .i64 (rd e.ns 3), .int .i64 (rd e.ns 4), .int .i64 (rd e.ns 5), .int .i64 (rd e.ns 6), .int .i64 (rd e.ns 7), .slice A (e.ts.length / 2) c]
theorem row_n (e : Ev) (A : Option Addr) (c i : Nat) (h : i < 8) : (row e A c)[2 + i]? = some (.int .i64 (rd e.ns i)) := by
 have : i = 0 ∨ i = 1 ∨ i = 2 ∨ i = 3 ∨ i = 4 ∨ i = 5 ∨ i = 6 ∨ i = 7 := by omega
 rcases this with rfl | rfl | rfl | rfl | rfl | rfl | rfl | rfl <;> rfl
structure Row (R : Array Value) (e : Ev) (A : Option Addr) (c : Nat) : Prop where
 size : R.size = 11
 op : R[0]? = some (.int .u8 e.op)
 key : R[1]? = some (.int .u64 e.key)
 n : ∀ i, i < 8 -> R[2 + i]? = some (.int .i64 (rd e.ns i))
 ts : R[10]? = some (.slice A (e.ts.length / 2) c)
 one : R.toList.all Value.oneCell' = true
theorem row_row (e : Ev) (A : Option Addr) (c : Nat) : Row (row e A c) e A c := ⟨rfl, rfl, rfl, row_n e A c, rfl, rfl⟩
section
variable {P : Program} {ops : Array Oper} {rest : List Oper} {o : Oper} {a : Act} {w : World} {Q : Exit -> Act -> World -> Prop}
theorem wpList_arr_from (hgd : o.guard = none) (x lo : Operand) (T : TypeId) (ho : o.op = .slice T x (some lo) none none) (hu : P.underlying T = some (.array (P.arrayLen T) (P.elem T))) (hs : ∀ w, (sizeOf (P.elem T)).run P w = .ok 1 w)
 (N : Nat) (hN : P.arrayLen T = N) (b k n m : Nat) (kk : IntKind) (hx : a.eval x = .pointer (some ⟨b, k, none⟩)) (hl : a.eval lo = .int kk (n : Int)) (hn : n + m = N)
 (h : ∀ A' : Addr, (0 < m -> A' = ⟨b, k + n, none⟩) -> wpList P ops Q rest (a.put o.dst (.slice (some A') m m)) w) : wpList P ops Q (o :: rest) a w := by
 refine wpList_plain hgd fun K hK => ?_
 have hrun := run_sliceAt_array_l (P := P) w T ⟨b, k, none⟩ hu kk (n : Int) (by omega) (by omega)
 unfold Oper.wp
 simp only [execOp, ho, Option.map_some, Option.map_none, hx, hl, Sem.run_bind, hrun, hs, Result.andThen, Sem.run_pure, Oper.upon, slicedAt, hN, Int.toNat_natCast]
 rw [show N - n = m from by omega]
 refine hK _ _ (h _ (fun hlt => ?_))
 rw [if_neg (by omega)]
 unfold Addr.add
 split <;> simp_all
theorem wpList_arr_to (hgd : o.guard = none) (x hi : Operand) (T : TypeId) (ho : o.op = .slice T x none (some hi) none) (hu : P.underlying T = some (.array (P.arrayLen T) (P.elem T))) (hs : ∀ w, (sizeOf (P.elem T)).run P w = .ok 1 w)
 (N : Nat) (hN : P.arrayLen T = N) (h0 : 0 < N) (b k n : Nat) (kk : IntKind) (hx : a.eval x = .pointer (some ⟨b, k, none⟩)) (hl : a.eval hi = .int kk (n : Int)) (hn : n <= N)
 (h : wpList P ops Q rest (a.put o.dst (.slice (some ⟨b, k, none⟩) n N)) w) : wpList P ops Q (o :: rest) a w := by
 refine wpList_plain hgd fun K hK => ?_
 have hrun := run_sliceAt_array_h (P := P) w T ⟨b, k, none⟩ hu kk (n : Int) (by omega) (by omega)
 have e : (⟨b, k, none⟩ : Addr).add 0 = ⟨b, k, none⟩ := by unfold Addr.add; split <;> simp_all
 unfold Oper.wp
 simp only [execOp, ho, Option.map_some, Option.map_none, hx, hl, Sem.run_bind, hrun, hs, Result.andThen, Sem.run_pure, Oper.upon, slicedAt, hN, Int.toNat_natCast]
 refine hK _ _ ?_
 rw [if_neg (by omega), Nat.zero_mul, e]
 exact h
end
theorem check_ok (e : Ev) (A : Option Addr) (c : Nat) (w : World) (ho : e.ok) (hlen : e.ts.length <= 17592186044416) :
 Calls Tryz.prog 24 #[.agg (row e A c)] w fun x w' => ∃ f, x = .returned (.int .i64 f) /\ (f = 0 /\ e.form ∨ f = 3 /\ ¬ e.form) /\ Below w.heap.size w w' := by
 have hr := row_row e A c
 obtain ⟨R, hR⟩ : ∃ R, R = row e A c := ⟨_, rfl⟩
 rw [<- hR] at hr ⊢
 have HR := Hd hr
 have HO := Hd ho
 have hop0 := ho.op0
 have hop1 := ho.op1
 have hc := cnt_range e.op
 clear hr hR ho
 obtain ⟨L, hL⟩ : ∃ L, L = e.ts.length / 2 := ⟨_, rfl⟩
 have HL := Hd hL
 have hL2 : L <= 8796093022208 := by omega
 clear hL
 go_enter Tryz.func24, Tryz.ntmps24
 have hB := Hd (Blk.new w 34 R)
 have c0 := (hB.o.cell 0).trans HR.o.op
 have c10 := (hB.o.cell 10).trans HR.o.ts
 rw [<- HL.o] at c10
 obtain ⟨op, hop⟩ : ∃ op, op = e.op := ⟨_, rfl⟩
 rw [<- hop] at hop0 hop1 hc c0
 have HOP := Hd hop
 clear hop
 have d0 := Hd (((Below.refl w.heap.size w).alloc (Nat.le_refl _) (.cells R 34)))
 go_wp2_with fail
 refine (count_ok op hop0 hop1 _).mono ?_
 rintro e1 w1 ⟨rfl, rfl⟩
 by_cases hcn : cnt op < 0
 . simp only [if_pos hcn]
   go_wp2
   go_ret
   exact ⟨3, rfl, .inr ⟨rfl, fun h => by have := h.1; rw [<- HOP.o] at this; omega⟩, d0.o⟩
 . simp only [if_neg hcn]
   obtain ⟨n, hn⟩ : ∃ n : Nat, cnt op = n := ⟨(cnt op).toNat, by omega⟩
   rw [hn]
   have hn8 : n <= 8 := by omega
   have HN := Hd hn
   clear hn hcn
   rcases (by omega : (0 < L /\ op ≠ 1) ∨ (8 < L /\ op = 1) ∨ (L = 0 /\ op ≠ 1) ∨ (L = 0 /\ op = 1) ∨ ((0 < L /\ L <= 8) /\ op = 1)) with ⟨h1, h2⟩ | ⟨h1, h2⟩ | ⟨h1, h2⟩ | ⟨h1, h2⟩ | ⟨h1, h2⟩
   . have e1 : (op != 1) = true := by simpa using h2
     go_wp2
     go_ret
     refine ⟨3, rfl, .inr ⟨rfl, fun h => ?_⟩, d0.o⟩
     rcases h.2.2.1 with h3 | h3
     . have := HL.o; rw [h3] at this; simp at this; omega
     . rw [<- HOP.o] at h3; exact h2 h3
   . go_wp2
     go_ret
     refine ⟨3, rfl, .inr ⟨rfl, fun h => ?_⟩, d0.o⟩
     have := h.2.1; have := HL.o; omega
   all_goals
    have hform : Hi (e.ts.length <= 16 /\ (e.ts = [] ∨ e.op = 1)) := Hd (by
     have := HL.o
     have := HO.o.even
     first
      | exact ⟨by omega, .inr (by rw [<- HOP.o]; exact h2)⟩
      | exact ⟨by omega, .inl (List.eq_nil_of_length_eq_zero (by omega))⟩)
    try (have e1 : (op != 1) = true := by simpa using h2)
    obtain ⟨m, hm⟩ : ∃ m, n + m = 8 := ⟨8 - n, by omega⟩
    go_wp2_with (first
     | (refine wpList_arr_from rfl (.tmp 32) (.tmp 33) 29 rfl Tryz.underlying29 (fun _ => by kernel_rfl) 8 (by kernel_rfl) w.heap.size 2 n m .i64 rfl rfl hm ?_
        intro A' hA'))
    go_loopw [36] (fun i wr => ∃ j : Nat, j <= m /\ i = .int .i64 j /\ Hi (∀ k, n <= k -> k < n + j -> rd e.ns k = 0) /\ wr = w.alloc (.cells R 34)) (fun i _ => m - (intOf i).toNat)
    case atStart => exact ⟨0, by omega, rfl, Hd (fun k _ _ => by omega), rfl⟩
    case round =>
     obtain ⟨j, hj, rfl, hz, rfl⟩ := hrel
     by_cases hjm : j < m
     . have hA := hA' (by omega)
       subst hA
       have cj := (hB.o.cell (2 + (n + j))).trans (HR.o.n (n + j) (by omega))
       rw [show 2 + (n + j) = 2 + n + j from by omega] at cj
       have hjm' : (j : Int) < m := by omega
       have hd := decide_eq_true hjm'
       by_cases hv : rd e.ns (n + j) = 0
       . rw [hv] at cj
         go_wp2
         go_roundw
         case rel =>
          refine ⟨j + 1, by omega, by go_num, Hd (fun k h1 h2 => ?_), trivial⟩
          by_cases hk : k = n + j
          . rw [hk]; exact hv
          . exact hz.o k h1 (by omega)
         case measure => simp [intOf]; omega
       . obtain ⟨v, hv'⟩ : ∃ v, v = rd e.ns (n + j) := ⟨_, rfl⟩
         rw [<- hv'] at cj
         have e2 : (v != 0) = true := by rw [hv']; simpa using hv
         have e3 : (v == 0) = false := by rw [hv']; simpa using hv
         go_wp2
         go_ret
         exact ⟨3, rfl, .inr ⟨rfl, fun h => hv (h.2.2.2 (n + j) (by rw [<- HOP.o, HN.o]; omega) (by omega))⟩, d0.o⟩
     . have hd : decide ((j : Int) < m) = false := by simp; omega
       have hjm' : ¬ (j : Int) < m := by omega
       go_wp2
       go_ret
       refine ⟨0, rfl, .inl ⟨rfl, ?_, hform.o.1, hform.o.2, fun k h1 h2 => ?_⟩, d0.o⟩
       . rw [<- HOP.o, HN.o]; omega
       . rw [<- HOP.o, HN.o] at h1
         exact hz.o k (by omega) (by omega)
end Event
namespace Event
open Go.RowKit Go.Deep Go.Proofs.YtkdnebalpdebeaaGreatDoor Pack
end Event
namespace Event
open Go.RowKit Go.Deep Go.Proofs.YtkdnebalpdebeaaGreatDoor Pack
theorem fresh_keep {w w1 w2 : World} {v : Value} {xs : List Int} (h : Fresh w w1 v xs) (hb : Below w1.heap.size w1 w2) : Fresh w w2 v xs :=
 ⟨own_below h.1 hb, below_then' h.2 hb⟩
theorem wpQuiet_got {P : Program} {ops : Array Oper} {C : World -> Prop} {Q : Act -> Prop} {rest : List Oper} {o : Oper} {a : Act} (v : Value) (hw : Region.wanted o (yielded ops a.tmps) = true)
 (h : ∀ w, C w -> (execOp a.eval o).run P w = .ok (.value v) w) (h2 : ∀ K : Act -> Prop, (∀ a, wpQuiet P ops C Q rest a -> K a) -> K (a.put o.dst v)) : wpQuiet P ops C Q (o :: rest) a := by
 simp only [wpQuiet, hw, if_true]
 exact ⟨v, fun w hC => by unfold Oper.quietAt; rw [h w hC]; exact ⟨rfl, rfl⟩, h2 _ (fun _ q => q)⟩
theorem tier_cells {w : World} {B : Nat} {A : Option Addr} {ts : List Int} (h : RI w B .i64 A ts) {j : Nat} (hj : 2 * j + 1 < ts.length) :
 ∃ ad, A = some ad /\ (ad.add (j * 2)).block < B /\ w.cell? (ad.add (j * 2)) = some (.int .i64 (rd ts (2 * j))) /\ w.cell? ⟨(ad.add (j * 2)).block, (ad.add (j * 2)).off + 1, none⟩ = some (.int .i64 (rd ts (2 * j + 1))) := by
 obtain ⟨ad, rfl, hb, h1⟩ := h.one (j := 2 * j) (by omega)
 obtain ⟨_, e, _, h2⟩ := h.one (j := 2 * j + 1) hj
 obtain rfl := Option.some.inj e
 refine ⟨ad, rfl, by rw [block_of_add]; exact hb, by rw [Nat.mul_comm]; exact h1, ?_⟩
 have e2 : (ad.add (2 * j + 1)) = ⟨(ad.add (j * 2)).block, (ad.add (j * 2)).off + 1, none⟩ := by
  rw [<- Addr.add_add ad (2 * j) 1, Nat.mul_comm 2 j]
  simp [Addr.add]
 rw [<- e2]
 exact h2
theorem take_snoc {l : List Int} {j : Nat} (h : j < l.length) : l.take (j + 1) = l.take j ++ [rd l j] := by
 rw [rd_get h, List.take_add_one, List.getElem?_eq_getElem h]; rfl
theorem fresh_len {w w' : World} {A : Option Addr} {m c : Nat} {xs : List Int} (h : Fresh w w' (.slice A m c) xs) : m = xs.length := by
 have h1 : w'.ownsRow w.heap.size 5 1 (.slice A m c) xs.length (nums .u8 xs) := h.1
 rcases h1.2 with ⟨h2, _⟩ | ⟨g, cap, cur, h2, _⟩
 . injection h2 with h3 h4 h5
   omega
 . injection h2
theorem fresh_ri {w w' : World} {A : Option Addr} {m c : Nat} {xs : List Int} (h : Fresh w w' (.slice A m c) xs) : RI w' w'.heap.size .u8 A xs := by
 have h1 := fresh_len h
 subst h1
 exact (RI.of_own h.1).2
theorem write_ok (e : Ev) (A : Option Addr) (c : Nat) (w : World) (ho : e.ok) (hf : e.form) (hts : RI w w.heap.size .i64 A e.ts) (hcap : e.ts.length / 2 <= c) :
 Calls Tryz.prog 161 #[.agg (row e A c)] w fun x w' => ∃ v, x = .returned (.tuple #[v, .int .i64 0]) /\ Fresh w w' v (wr e) := by
 have hlen16 := hf.2.1
 have hck := fun w' => check_ok e A c w' ho (by omega)
 have hr := row_row e A c
 obtain ⟨R, hR⟩ : ∃ R, R = row e A c := ⟨_, rfl⟩
 rw [<- hR] at hr ⊢
 simp only [<- hR] at hck
 have HR := Hd hr
 have HCK := Hd hck
 have HO := Hd ho
 have HF := Hd hf
 have HT := Hd hts
 have hop0 := ho.op0
 have hop1 := ho.op1
 have hk0 := ho.key0
 have hk1 := ho.key1
 have hc0 := hf.1
 have hc := cnt_range e.op
 obtain ⟨n, hn⟩ : ∃ n : Nat, cnt e.op = n := ⟨(cnt e.op).toNat, by omega⟩
 have hn8 : n <= 8 := by omega
 have HN := Hd hn
 have hcnt := fun w' => count_ok e.op hop0 hop1 w'
 simp only [hn] at hcnt
 have HCNT := Hd (show ∀ w', Calls Tryz.prog 56 #[.int .u8 e.op] w' fun e w'' => e = .returned (.tuple #[.int .i64 n, .int .i64 0]) /\ w'' = w' from fun w' => by
  have := hcnt w'
  rw [if_neg (by omega), if_neg (by omega)] at this
  exact this)
 clear hcnt hck hr hR hc0 hc hn ho hf hts
 obtain ⟨L, hL⟩ : ∃ L, L = e.ts.length / 2 := ⟨_, rfl⟩
 have HL := Hd hL
 have hL8 : L <= 8 := by omega
 rw [<- hL] at hcap
 clear hL
 obtain ⟨op, hop⟩ : ∃ op, op = e.op := ⟨_, rfl⟩
 obtain ⟨key, hkey⟩ : ∃ key, key = e.key := ⟨_, rfl⟩
 rw [<- hop] at hop0 hop1 HCNT
 rw [<- hkey] at hk0 hk1
 have HOP := Hd hop
 have HKEY := Hd hkey
 clear hop hkey
 go_enter Tryz.func161, Tryz.ntmps161
 have hB := Hd (Blk.new w 34 R)
 have d0 := Hd (((Below.refl w.heap.size w).alloc (Nat.le_refl _) (.cells R 34)))
 go_wp2_with (first
  | (refine wpList_load_row rfl 34 (.tmp 1) rfl w.heap.size rfl 34 R (0, 0) _ hB.o Tryz.underlying34 rfl (by rw [HR.o.size]; kernel_rfl) ?_))
 refine (HCK.o _).mono ?_
 rintro e1 w1 ⟨f, rfl, hff, b1⟩
 have hf0 : f = 0 := by
  rcases hff with ⟨h, _⟩ | ⟨_, h⟩
  . exact h
  . exact absurd HF.o h
 subst hf0
 have hB1 := Hd (hB.o.below b1 (by simp))
 have d1 := Hd (d0.o.trans (b1.mono (by simp)))
 have s1 : w.heap.size + 1 <= w1.heap.size := by have := b1.size; simpa using this
 have c0 := (hB1.o.cell 0).trans HR.o.op
 have c1 := (hB1.o.cell 1).trans HR.o.key
 rw [<- HOP.o] at c0
 rw [<- HKEY.o] at c1
 clear hff b1 hB d0
 go_wp2_with fail
 refine (HCNT.o _).mono ?_
 rintro e1 w2 ⟨rfl, rfl⟩
 go_upto_region 5 with fail
 obtain ⟨w3, hw3⟩ : ∃ w3, w3 = w2.alloc (.cells #[.int .u8 op] 5) := ⟨_, rfl⟩
 have hB3 := hB1.o.alloc (.cells #[.int .u8 op] 5)
 have c31 := (hB3.cell 1).trans HR.o.key
 rw [<- HKEY.o] at c31
 have hR3 : RI (w2.alloc (.cells #[.int .u8 op] 5)) (w2.alloc (.cells #[.int .u8 op] 5)).heap.size .u8 (some ⟨w2.heap.size, 0, none⟩) [op] := RI.of_lit (Blk.new _ _ _) rfl
 have d3 := d1.o.alloc d1.o.size (.cells #[.int .u8 op] 5)
 have s3 : (w2.alloc (.cells #[.int .u8 op] 5)).heap.size = w2.heap.size + 1 := by simp
 go_wp2_with fail
 refine (uint_ok (some ⟨w2.heap.size, 0, none⟩) 1 [op] key _ hR3 (by simp) hk0 hk1).mono ?_
 rintro e1 w4 ⟨v4, rfl, f4⟩
 obtain ⟨A4, c4, rfl⟩ := own_slice f4.1
 have hB4 := Hd (hB3.below f4.2 (by omega))
 have HF4 := Hd (Fresh.then' d3 f4)
 generalize hm4 : ([op] ++ enc key).length = m4 at *
 clear hm4 f4 c31 hR3 d3 hB3 s3 c0 c1 hB1 s1 d1
 go_wp2_with (first
  | (refine wpList_arr_to rfl (.tmp 29) (.tmp 30) 29 rfl Tryz.underlying29 (fun _ => by kernel_rfl) 8 (by kernel_rfl) (by omega) w.heap.size 2 n .i64 rfl rfl hn8 ?_))
 go_loopw [7, 33] (fun p i wr => ∃ (j m : Nat) (A' : Option Addr) (c' : Nat), j <= n /\ p = .slice A' m c' /\ i = .int .i64 j /\ Hi (Fresh w wr (.slice A' m c') (op :: (enc key ++ encs (e.ns.take j)))) /\ Hi (Blk wr w.heap.size 34 R)) (fun _ i _ => n - (intOf i).toNat)
 case atStart => exact ⟨0, m4, A4, c4, by omega, rfl, rfl, Hd (by simpa [encs] using HF4.o), hB4⟩
 case round =>
  clear HF4 hB4
  obtain ⟨j, m, A', c', hj, rfl, rfl, HFR, HB⟩ := hrel
  by_cases hjn : j < n
  . have hjn' : (j : Int) < n := by omega
    have hd := decide_eq_true hjn'
    have cj := (HB.o.cell (2 + j)).trans (HR.o.n j (by omega))
    have hrdj := HO.o.ns.rd j
    obtain ⟨v, hv⟩ : ∃ v, v = rd e.ns j := ⟨_, rfl⟩
    rw [<- hv] at cj hrdj
    have HV := Hd hv
    clear hv
    go_wp2_with fail
    have hlen := fresh_len HFR.o
    have hri := fresh_ri HFR.o
    obtain ⟨X, hX⟩ : ∃ X, X = op :: (enc key ++ encs (e.ns.take j)) := ⟨_, rfl⟩
    rw [<- hX] at hlen hri
    have hXl : X.length <= 100 := by
     rw [hX]
     have h1 := enc_len key
     have h2 := encs_len (e.ns.take j)
     rw [List.length_take] at h2
     simp only [List.length_cons, List.length_append]; omega
    subst hlen
    refine (int_ok A' c' X v wr hri (by omega) hrdj.1 hrdj.2).mono ?_
    rintro e1 w5 ⟨v5, rfl, f5⟩
    obtain ⟨A5, c5, rfl⟩ := own_slice f5.1
    have hB5 := Hd (HB.o.below f5.2 HB.o.lt)
    have HF5 := Hd (Fresh.then' HFR.o.2 f5)
    generalize hm5 : (X ++ enc (zig v)).length = m5 at *
    have HX := Hd hX
    clear hm5 f5 hri hXl hX HB HFR
    go_wp2
    go_roundw
    case rel =>
     refine ⟨j + 1, m5, A5, c5, by omega, rfl, by go_num, Hd ?_, hB5⟩
     have := HF5.o
     rw [HX.o, HV.o] at this
     rw [take_snoc (by rw [HO.o.len]; omega), encs_snoc]
     simpa using this
    case measure => simp [intOf]; omega
  . have hj' : j = n := by omega
    have hjn' : ¬ (j : Int) < n := by omega
    have hd := decide_eq_false hjn'
    have HFN : Hi (Fresh w wr (.slice A' m c') (op :: (enc key ++ encs (e.ns.take n)))) := by rw [<- hj']; exact HFR
    have c0 := (HB.o.cell 0).trans HR.o.op
    have c10 := (HB.o.cell 10).trans HR.o.ts
    rw [<- HOP.o] at c0
    rw [<- HL.o] at c10
    clear hj' HFR
    by_cases h1 : op = 1
    . go_wp2_with fail
      have hlen := fresh_len HFN.o
      have hri := fresh_ri HFN.o
      obtain ⟨X, hX⟩ : ∃ X, X = op :: (enc key ++ encs (e.ns.take n)) := ⟨_, rfl⟩
      have HX := Hd hX
      rw [<- hX] at hlen hri HFN
      have hXl : X.length <= 100 := by
       rw [hX]
       have h1 := enc_len key
       have h2 := encs_len (e.ns.take n)
       rw [List.length_take] at h2
       simp only [List.length_cons, List.length_append]; omega
      have HXL := Hd hXl
      clear hX
      subst hlen
      refine (uint_ok A' c' X L wr hri (by omega) (by omega) (by omega)).mono ?_
      rintro e1 w5 ⟨v5, rfl, f5⟩
      obtain ⟨A5, c5, rfl⟩ := own_slice f5.1
      have hB5 := Hd (HB.o.below f5.2 HB.o.lt)
      have HF5 := Hd (Fresh.then' HFN.o.2 f5)
      have c10' := (hB5.o.cell 10).trans HR.o.ts
      rw [<- HL.o] at c10'
      generalize hm5 : (X ++ enc (L : Int)).length = m5 at *
      clear hm5 f5 hri hXl HB HFN c0 c10
      go_wp2_with fail
      go_loopw [7, 53] (fun p i wr => ∃ (j m : Nat) (A' : Option Addr) (c' : Nat), j <= L /\ p = .slice A' m c' /\ i = .int .i64 j /\ Hi (Fresh w wr (.slice A' m c') (X ++ (enc (L : Int) ++ encs (e.ts.take (2 * j))))) /\ Hi (Blk wr w.heap.size 34 R)) (fun _ i _ => L - (intOf i).toNat)
      case atStart => exact ⟨0, m5, A5, c5, by omega, rfl, rfl, Hd (by simpa [encs] using HF5.o), hB5⟩
      case round =>
       clear HF5 hB5 c10'
       obtain ⟨j2, m2, A2, c2, hj2, rfl, rfl, HFR, HB⟩ := hrel
       have hTL := HO.o.even
       by_cases hjn : j2 < L
       . have hjn' : (j2 : Int) < L := by omega
         have hd2 := decide_eq_true hjn'
         have hbw := HFR.o.2
         obtain ⟨ad, hAd, hadb, hca, hcb⟩ := tier_cells (j := j2) (HT.o.below hbw) (by have := HL.o; omega)
         subst hAd
         have hrx := HO.o.ts.rd (2 * j2)
         have hry := HO.o.ts.rd (2 * j2 + 1)
         obtain ⟨x, hx⟩ : ∃ x, x = rd e.ts (2 * j2) := ⟨_, rfl⟩
         obtain ⟨y, hy⟩ : ∃ y, y = rd e.ts (2 * j2 + 1) := ⟨_, rfl⟩
         rw [<- hx] at hca hrx
         rw [<- hy] at hcb hry
         have HXX := Hd hx
         have HYY := Hd hy
         clear hx hy
         go_wp2_with fail
         have hB6 := HB.o.alloc (.cells #[.int .i64 x, .int .i64 y] 31)
         have HF6 := fresh_keep HFR.o ((Below.refl _ _).alloc (Nat.le_refl _) (.cells #[.int .i64 x, .int .i64 y] 31))
         have hN6 := Blk.new wr 31 #[.int .i64 x, .int .i64 y]
         have hs6 : (wr.alloc (.cells #[.int .i64 x, .int .i64 y] 31)).heap.size = wr.heap.size + 1 := by simp
         obtain ⟨w6, hw6⟩ : ∃ w6, w6 = wr.alloc (.cells #[.int .i64 x, .int .i64 y] 31) := ⟨_, rfl⟩
         rw [<- hw6] at hB6 HF6 hN6 hs6 ⊢
         obtain ⟨tb, htb⟩ : ∃ tb, tb = wr.heap.size := ⟨_, rfl⟩
         rw [<- htb] at hN6 hs6 ⊢
         have HB6 := Hd hB6
         have HFF6 := Hd HF6
         have HN6 := Hd hN6
         clear hw6 hB6 HF6 hN6 htb hca hcb HFR HB hadb hbw
         refine wp_region_mix (C := fun w' => Below w6.heap.size w6 w') [([0, 1, 2, 4, 5], some 3), ([], some 6), ([7], none)] (by kernel_rfl) (by kernel_rfl) (Below.refl _ _).drew ?_
         simp only [List.map_cons, List.map_nil, Option.map_some, Option.map_none, opAt, List.getElem?_cons_succ, List.getElem?_cons_zero, Option.getD_some, wpSegs]
         repeat (go_big_quiet_step (fail))
         refine wpQuiet_got (.pointer (some ⟨tb, 0, none⟩)) (by rfl) (fun w' hw' => ?_) (fun K hK => ?_)
         . go_simp
         go_simp
         refine hK _ ?_
         clear hK K
         repeat (go_big_quiet_step (fail))
         refine wpQuiet_got (.int .i64 x) (by rfl) (fun w' hw' => ?_) (fun K hK => ?_)
         . have hl2 : w'.cell? ⟨tb, 0, none⟩ = some (.int .i64 x) := (HN6.o.below hw' (by omega)).cell 0
           go_simp
         go_simp
         refine hK _ ?_
         clear hK K
         repeat (go_big_quiet_step (fail))
         refine wpQuiet_got (.pointer (some ⟨tb, 1, none⟩)) (by rfl) (fun w' hw' => ?_) (fun K hK => ?_)
         . go_simp
         go_simp
         refine hK _ ?_
         clear hK K
         repeat (go_big_quiet_step (fail))
         refine wpQuiet_got (.int .i64 y) (by rfl) (fun w' hw' => ?_) (fun K hK => ?_)
         . have hl2 : w'.cell? ⟨tb, 1, none⟩ = some (.int .i64 y) := (HN6.o.below hw' (by omega)).cell 1
           go_simp
         go_simp
         refine hK _ ?_
         clear hK K
         repeat (go_big_quiet_step (fail))
         refine wpQuiet_nil ?_
         go_wp2_with fail
         have hlen6 := fresh_len HFF6.o
         have hri6 := fresh_ri HFF6.o
         obtain ⟨Y, hY⟩ : ∃ Y, Y = X ++ (enc (L : Int) ++ encs (e.ts.take (2 * j2))) := ⟨_, rfl⟩
         have HY := Hd hY
         rw [<- hY] at hlen6 hri6 HFF6
         have hYl : Y.length <= 280 := by
          rw [hY]
          have h0 := HXL.o
          have h1 := enc_len (L : Int)
          have h2 := encs_len (e.ts.take (2 * j2))
          rw [List.length_take] at h2
          simp only [List.length_append]; omega
         clear hY
         subst hlen6
         refine (int_ok A2 c2 Y x w6.drew hri6 (by omega) hrx.1 hrx.2).mono ?_
         rintro e1 w7 ⟨v7, rfl, f7⟩
         obtain ⟨A7, c7, rfl⟩ := own_slice f7.1
         have hlen7 := fresh_len f7
         have hri7 := fresh_ri f7
         have HF7 := Hd (Fresh.then' (below_then' HFF6.o.2 (Below.refl w6.heap.size w6).drew) f7)
         have C7 : Below w6.heap.size w6 w7 := (Below.refl w6.heap.size w6).drew.trans f7.2
         generalize hm7 : (Y ++ enc (zig x)).length = m7 at *
         have hm7l : m7 <= 290 := by
          rw [<- hm7]
          have := enc_len (zig x)
          simp only [List.length_append]; omega
         go_wp2_with fail
         refine ⟨C7, ?_⟩
         repeat (go_big_quiet_step (fail))
         refine wpQuiet_nil ?_
         go_wp2_with fail
         have hi := int_ok A7 c7 (Y ++ enc (zig x)) y w7 hri7 (by rw [hm7]; omega) hry.1 hry.2
         rw [hm7] at hi
         refine hi.mono ?_
         rintro e1 w8 ⟨v8, rfl, f8⟩
         obtain ⟨A8, c8, rfl⟩ := own_slice f8.1
         have HF8 := Hd (Fresh.then' HF7.o.2 f8)
         have HB8 := Hd ((HB6.o.below C7 HB6.o.lt).below f8.2 (Nat.lt_of_lt_of_le HB6.o.lt C7.size))
         have C8 := C7.trans (f8.2.mono C7.size)
         generalize hm8 : (Y ++ enc (zig x) ++ enc (zig y)).length = m8 at *
         clear hi hm8 f8 hri7 HF7 f7 hlen7 C7 hm7 hm7l
         go_wp2_with fail
         refine ⟨C8, ?_⟩
         repeat (go_big_quiet_step (fail))
         refine wpQuiet_nil ?_
         go_wp2_with fail
         go_wp2
         go_roundw
         case rel =>
          refine ⟨j2 + 1, m8, A8, c8, by omega, rfl, by go_num, Hd ?_, HB8⟩
          have := HF8.o
          rw [HY.o, HXX.o, HYY.o] at this
          rw [show 2 * (j2 + 1) = 2 * j2 + 1 + 1 from by omega, take_snoc (by have := HL.o; omega), take_snoc (by have := HL.o; omega), encs_snoc, encs_snoc]
          simpa using this
         case measure => simp [intOf]; omega
       . have hjn' : ¬ (j2 : Int) < L := by omega
         have hd2 := decide_eq_false hjn'
         have hj3 : j2 = L := by omega
         go_wp2
         go_ret2
         refine ⟨_, rfl, ?_⟩
         have : Event.wr e = X ++ (enc (L : Int) ++ encs (e.ts.take (2 * j2))) := by
          rw [HX.o]
          unfold Event.wr Ev.tail
          have ht : e.ts.take (2 * L) = e.ts := List.take_of_length_le (by have := HL.o; omega)
          rw [if_pos (by rw [<- HOP.o]; first | rfl | exact h1), HN.o, <- HOP.o, <- HKEY.o, <- HL.o, hj3, ht]
          simp
         rw [this]
         exact HFR.o
    . have e1 : (op == 1) = false := by simpa using h1
      go_wp2
      go_ret2
      refine ⟨_, rfl, ?_⟩
      have : Event.wr e = op :: (enc key ++ encs (e.ns.take n)) := by
       unfold Event.wr Ev.tail
       rw [if_neg (by rw [<- HOP.o]; exact h1), HN.o, <- HOP.o, <- HKEY.o]
       simp
      rw [this]
      exact HFN.o
end Event
end Go.Proofs.YtkdnebalpdebeaaGreatDoor
