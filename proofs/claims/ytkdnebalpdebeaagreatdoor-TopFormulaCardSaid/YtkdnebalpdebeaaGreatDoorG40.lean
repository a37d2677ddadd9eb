/- Lemmas of a claim: ShaC -/
import Derived.Test.YtkdnebalpdebeaaGreatDoorG39
import Derived.StillTailTactics
import Derived.Laws.CopyOwn
set_option linter.unusedVariables false
set_option linter.unusedSimpArgs false
set_option maxHeartbeats 16000000
set_option maxRecDepth 100000
namespace Go.Proofs.YtkdnebalpdebeaaGreatDoor
namespace Sha
open Go.RowKit Go.Deep Pack Crc
def agg (s : St) : Array Value := #[.int .u32 (s.a : Nat), .int .u32 (s.b : Nat), .int .u32 (s.c : Nat), .int .u32 (s.d : Nat), .int .u32 (s.e : Nat), .int .u32 (s.f : Nat), .int .u32 (s.g : Nat), .int .u32 (s.h : Nat)]
def St.ok (s : St) : Prop := s.a < 4294967296 /\ s.b < 4294967296 /\ s.c < 4294967296 /\ s.d < 4294967296 /\ s.e < 4294967296 /\ s.f < 4294967296 /\ s.g < 4294967296 /\ s.h < 4294967296
def row (ws : List Nat) (n : Nat) : Array Value := (ws.map (fun x : Nat => Value.int .u32 (x : Nat)) ++ List.replicate (n - ws.length) (Value.int .u32 0)).toArray
theorem row_get {ws : List Nat} {n j : Nat} (h : j < ws.length) : (row ws n)[j]? = some (.int .u32 (ws.getD j 0 : Nat)) := by
 have h' : j < (ws.map (fun x : Nat => Value.int .u32 (x : Nat))).length := by simpa using h
 rw [row, List.getElem?_toArray, List.getElem?_append_left h']
 simp [h, List.getD]
theorem row_set {ws : List Nat} {n : Nat} (x : Nat) (h : ws.length < n) : (row ws n).setIfInBounds ws.length (.int .u32 (x : Nat)) = row (ws ++ [x]) n := by
 unfold row
 rw [List.setIfInBounds_toArray]
 congr 1
 rw [show n - ws.length = (n - (ws ++ [x]).length) + 1 from by simp; omega, List.replicate_succ]
 simp
theorem row_size {ws : List Nat} {n : Nat} (h : ws.length <= n) : (row ws n).size = n := by
 simp [row]; omega
theorem Blk.new' {w : World} {g : Nat} {t : TypeId} {cs : Array Value} (h : g = w.heap.size) : Blk (w.alloc (.cells cs t)) g t cs := by subst h; exact Blk.new w t cs
theorem word_drop (l : List Nat) (i : Nat) : word (l.drop i) 0 = word l i := by
 simp [word, List.getD, List.getElem?_drop]
theorem nat_dropn (xs : List Int) (i : Nat) : nat (xs.drop i) = (nat xs).drop i := by simp [nat]
theorem sch_length (l : List Nat) : ∀ n, (sch l n).length = n
 | 0 => rfl
 | n + 1 => by simp [sch, sch_length l n]
theorem get_lt {l : List Nat} {n : Nat} (h : ∀ x ∈ l, x < n) (hn : 0 < n) (i : Nat) : l.getD i 0 < n := by
 rcases Nat.lt_or_ge i l.length with h1 | h1
 . rw [List.getD, List.getElem?_eq_getElem h1]; exact h _ (List.getElem_mem h1)
 . simpa [List.getD, h1] using hn
theorem word_lt {l : List Nat} (h : ∀ x ∈ l, x < 256) (i : Nat) : word l i < 4294967296 := by
 have h0 := get_lt h (by omega) i
 have h1 := get_lt h (by omega) (i + 1)
 have h2 := get_lt h (by omega) (i + 2)
 have h3 := get_lt h (by omega) (i + 3)
 unfold word; omega
theorem sch_lt {l : List Nat} (h : ∀ x ∈ l, x < 256) : ∀ n, ∀ x ∈ sch l n, x < 4294967296
 | 0, _, hx => by simp [sch] at hx
 | n + 1, x, hx => by
   simp only [sch] at hx
   rcases List.mem_append.1 hx with hx | hx
   . exact sch_lt h n x hx
   . obtain rfl := List.mem_singleton.1 hx
     split
     . exact word_lt h _
     . unfold next; omega
theorem sch_get {xs : List Int} (h : Byt xs) (n i : Nat) : (sch (nat xs) n).getD i 0 < 4294967296 := get_lt (sch_lt (nat_lt h) n) (by omega) i
theorem xor_lt {a b : Nat} (ha : a < 4294967296) (hb : b < 4294967296) : a ^^^ b < 4294967296 := Nat.xor_lt_two_pow (n := 32) ha hb
theorem next_val (x16 x7 x15 x2 : Nat) (h16 : x16 < 4294967296) (h7 : x7 < 4294967296) (h15 : x15 < 4294967296) (h2 : x2 < 4294967296) :
 ((x16 : Int) + x7 + bits .xor .u32 (bits .xor .u32 (ror x15 7 : Nat) (ror x15 18 : Nat)) ((x15 : Int) / 8) + bits .xor .u32 (bits .xor .u32 (ror x2 17 : Nat) (ror x2 19 : Nat)) ((x2 : Int) / 1024)) % 4294967296 = (((x16 + sg0 x15 + x7 + sg1 x2) % 4294967296 : Nat) : Int) := by
 have a1 := ror_lt x15 7 h15 (by omega)
 have a2 := ror_lt x15 18 h15 (by omega)
 have a3 := ror_lt x2 17 h2 (by omega)
 have a4 := ror_lt x2 19 h2 (by omega)
 rw [show (x15 : Int) / 8 = ((x15 / 8 : Nat) : Int) from by omega, show (x2 : Int) / 1024 = ((x2 / 1024 : Nat) : Int) from by omega]
 rw [u32_xor_nat _ _ a1 a2, u32_xor_nat _ _ (xor_lt a1 a2) (by omega), u32_xor_nat _ _ a3 a4, u32_xor_nat _ _ (xor_lt a3 a4) (by omega)]
 unfold sg0 sg1
 omega
theorem and_lt {a b : Nat} (ha : a < 4294967296) : a &&& b < 4294967296 := Nat.lt_of_le_of_lt Nat.and_le_left ha
theorem signed_max : (if IntKind.u32.signed = true then (-1 : Int) else IntKind.u32.max) = IntKind.u32.max := by decide
theorem t_val (e f g h k x : Nat) (he : e < 4294967296) (hf : f < 4294967296) (hg : g < 4294967296) (hh : h < 4294967296) (hk : k < 4294967296) (hx : x < 4294967296) :
 IntKind.u32.wrap (IntKind.u32.wrap (IntKind.u32.wrap (IntKind.u32.wrap ((h : Int) + bits .xor .u32 (bits .xor .u32 (ror e 6 : Nat) (ror e 11 : Nat)) (ror e 25 : Nat)) + bits .xor .u32 (bits .and .u32 (e : Int) (f : Int)) (bits .and .u32 (bits .xor .u32 IntKind.u32.max (e : Int)) (g : Int))) + (k : Int)) + (x : Int)) = (((h + Sg1 e + ch e f g + k + x) % 4294967296 : Nat) : Int) := by
 have a1 := ror_lt e 6 he (by omega)
 have a2 := ror_lt e 11 he (by omega)
 have a3 := ror_lt e 25 he (by omega)
 rw [not32 e he, u32_xor_nat _ _ a1 a2, u32_xor_nat _ _ (xor_lt a1 a2) a3, u32_and_nat _ _ he hf, u32_and_nat _ _ (by omega) hg, u32_xor_nat _ _ (and_lt he) (and_lt (by omega))]
 simp only [IntKind.wrap_u32]
 unfold Sg1 ch
 omega
theorem u_val (a b c : Nat) (ha : a < 4294967296) (hb : b < 4294967296) (hc : c < 4294967296) :
 IntKind.u32.wrap (bits .xor .u32 (bits .xor .u32 (ror a 2 : Nat) (ror a 13 : Nat)) (ror a 22 : Nat) + bits .xor .u32 (bits .xor .u32 (bits .and .u32 (a : Int) (b : Int)) (bits .and .u32 (a : Int) (c : Int))) (bits .and .u32 (b : Int) (c : Int))) = (((Sg0 a + maj a b c) % 4294967296 : Nat) : Int) := by
 have a1 := ror_lt a 2 ha (by omega)
 have a2 := ror_lt a 13 ha (by omega)
 have a3 := ror_lt a 22 ha (by omega)
 rw [u32_xor_nat _ _ a1 a2, u32_xor_nat _ _ (xor_lt a1 a2) a3, u32_and_nat _ _ ha hb, u32_and_nat _ _ ha hc, u32_and_nat _ _ hb hc, u32_xor_nat _ _ (and_lt ha) (and_lt ha), u32_xor_nat _ _ (xor_lt (and_lt ha) (and_lt ha)) (and_lt hb)]
 simp only [IntKind.wrap_u32]
 unfold Sg0 maj
 omega
theorem wpList_shift {P : Program} {w : World} {ops : Array Oper} {rest : List Oper} {o : Oper} {a : Act} {Q : Exit -> Act -> World -> Prop} (hgd : o.guard = none) (d s : Operand) (T : TypeId)
 (ho : o.op = .call { callee := .builtin .copy, args := #[d, s], argTypes := #[T, T] }) (elem : TypeId) (hu : P.underlying T = some (.slice elem)) (hsz : (P.info? elem).map (·.size) = some 1)
 (vb : Nat) (t : TypeId) (v : St) (hd : a.eval d = .slice (some ⟨vb, 1, none⟩) 7 7) (hs : a.eval s = .slice (some ⟨vb, 0, none⟩) 7 8) (hV : Blk w vb t (agg v))
 (h : ∀ W2, Blk W2 vb t (agg ⟨v.a, v.a, v.b, v.c, v.d, v.e, v.f, v.g⟩) -> (∀ g' t' cs, g' ≠ vb -> Blk w g' t' cs -> Blk W2 g' t' cs) -> (∀ B w0, B <= vb -> Below B w0 w -> Below B w0 W2) -> W2.heap.size = w.heap.size -> wpList P ops Q rest (a.put o.dst (goInt 7)) W2) : wpList P ops Q (o :: rest) a w := by
 refine wpList_copy_own hgd d s T T ho elem hu hsz vb 1 7 7 ⟨vb, 0, none⟩ 7 8 hd hs (agg v) t hV ((agg v).toList.take 7) (by simp [agg]) (fun j u hj => ?_) (by simp [agg]) (fun u hu => ?_) ?_
 . rw [Addr.add_lit, Nat.zero_add, hV.cell j]
   rw [List.getElem?_take] at hj
   split at hj
   . simpa using hj
   . cases hj
 . have hu' := List.mem_of_mem_take hu
   simp only [agg, List.mem_cons, List.not_mem_nil, or_false] at hu'
   rcases hu' with rfl | rfl | rfl | rfl | rfl | rfl | rfl | rfl <;> rfl
 . have h1 := setRow_heap w vb (agg v) (agg ⟨v.a, v.a, v.b, v.c, v.d, v.e, v.f, v.g⟩) t (0, 0) hV
   exact h _ h1 (fun g' t' cs hne hb => (setRow_other w vb g' _ hne).trans hb) (fun B w0 hB hb => below_setRow hb hB _) (by simp)
theorem wp_region_tail {P : Program} {id : Nat} {Q : Exit -> Act -> World -> Prop} {a : Act} {w : World} {l : List Oper} (n : Nat) (hm : P.follows .mixedOrders = true) (hB : Region.lexTailB .any l.toArray n = true)
 (h : wpStill P l.toArray w.drew (fun a' => wpList P l.toArray Q (l.drop n) a' w.drew) (l.take n) a) : (Code.region id l.toArray true).wp P Q a w := wp_region_still_tail n hm hB h
theorem wp_region_same {P : Program} {id : Nat} {Q : Exit -> Act -> World -> Prop} {a : Act} {w : World} {l : List Oper} (hm : P.follows .mixedOrders = true) (hB : Region.lexB .any l.toArray = true)
 (h : wpStill P l.toArray w.drew (fun a' => Q .normal a' w.drew) l a) : (Code.region id l.toArray true).wp P Q a w := wp_region_still_lit hm hB h
theorem rnd_ok (s : St) (k x : Nat) (h : s.ok) : (rnd s k x).ok := by
 obtain ⟨h1, h2, h3, h4, h5, h6, h7, h8⟩ := h
 refine ⟨?_, h1, h2, h3, ?_, h5, h6, h7⟩ <;> exact Nat.mod_lt _ (by omega)
theorem rn_ok (w : List Nat) (s : St) (h : s.ok) : ∀ n, (rn w s n).ok
 | 0 => h
 | n + 1 => rnd_ok _ _ _ (rn_ok w s h n)
def vals (s : St) : List Nat := [s.a, s.b, s.c, s.d, s.e, s.f, s.g, s.h]
def mixed (s t : St) (q : Nat) : List Nat := (vals (add s t)).take q ++ (vals s).drop q
theorem vals_length (s : St) : (vals s).length = 8 := rfl
theorem mixed_length (s t : St) (q : Nat) : (mixed s t q).length = 8 := by simp [mixed, vals]; omega
theorem mixed_get (s t : St) {q : Nat} (h : q < 8) : (mixed s t q).getD q 0 = (vals s).getD q 0 := by
 have : q = 0 ∨ q = 1 ∨ q = 2 ∨ q = 3 ∨ q = 4 ∨ q = 5 ∨ q = 6 ∨ q = 7 := by omega
 rcases this with rfl | rfl | rfl | rfl | rfl | rfl | rfl | rfl <;> rfl
theorem mixed_set (s t : St) {q : Nat} (h : q < 8) : (row (mixed s t q) 8).setIfInBounds q (.int .u32 (((vals s).getD q 0 + (vals t).getD q 0) % 4294967296 : Nat)) = row (mixed s t (q + 1)) 8 := by
 have : q = 0 ∨ q = 1 ∨ q = 2 ∨ q = 3 ∨ q = 4 ∨ q = 5 ∨ q = 6 ∨ q = 7 := by omega
 rcases this with rfl | rfl | rfl | rfl | rfl | rfl | rfl | rfl <;> rfl
theorem K_lt : ∀ x ∈ K, x < 4294967296 := by decide +kernel
theorem block_ok (s : St) (P : Option Addr) (L c kb : Nat) (xs : List Int) (w : World) (hs : s.ok) (hx : RI w w.heap.size .u8 P xs) (hl : L <= 9223372036854775807) (hL : 64 <= L) (hb : Byt xs) (h4 : 64 <= xs.length) (hc : L <= c)
 (hk : ∃ t, Blk w kb t (row K 64)) :
 Calls Tryz.prog 258 #[.agg #[.int .u32 (s.a : Nat), .int .u32 (s.b : Nat), .int .u32 (s.c : Nat), .int .u32 (s.d : Nat), .int .u32 (s.e : Nat), .int .u32 (s.f : Nat), .int .u32 (s.g : Nat), .int .u32 (s.h : Nat)], .slice P L c, .pointer (some ⟨kb, 0, none⟩)] w fun e w' => e = .returned (.agg (agg (compress s (nat xs)))) /\ Below w.heap.size w w' := by
 obtain ⟨sa, sb, sc, sd, se, sf, sg, sh⟩ := s
 have HX := Hd hx
 have HB := Hd hb
 have HK := Hd hk
 have HS := Hd hs
 clear hx hb hk hs
 go_enter Tryz.func258, Tryz.ntmps258
 go_wp2_with fail
 go_loopw [20] (fun i wr => ∃ k : Nat, k <= 16 /\ i = .int .i64 k /\ Below w.heap.size w wr /\ Hi (Blk wr w.heap.size 350 (agg ⟨sa, sb, sc, sd, se, sf, sg, sh⟩)) /\ Hi (Blk wr (w.heap.size + 1) 350 (row [] 8)) /\ Hi (Blk wr (w.heap.size + 2) 351 (row (sch (nat xs) k) 64))) (fun i _ => 16 - (intOf i).toNat)
 case atStart =>
  exact ⟨0, by omega, rfl, (((Below.refl _ _).alloc (Nat.le_refl _) _).alloc (by simp) _).alloc (by simp; omega) _, Hd (((Blk.new _ _ _).alloc _).alloc _), Hd ((Blk.new' (by simp)).alloc _), Hd (Blk.new' (by simp))⟩
 case round =>
  obtain ⟨k, hk, rfl, hbl, HA, HR, HW⟩ := hrel
  by_cases hlt : k < 16
  . obtain ⟨ad, rfl, _⟩ := HX.o.2 (by omega)
    have hcut := (HX.o.below hbl).cut (4 * k) (xs.length - 4 * k)
    rw [List.take_of_length_le (by simp)] at hcut
    have HC := Hd hcut
    have hkc : 4 * k < c := by omega
    have hkL : (4 * k : Int) <= L := by omega
    have hkL' : (4 : Int) <= L - 4 * k := by omega
    clear hcut
    go_wp2_with fail
    have hby : Byt (xs.drop (4 * k)) := fun x hx => HB.o x (List.mem_of_mem_drop hx)
    refine (word_ok _ _ _ _ _ _ HC.o (by omega) (by omega) hby (by simp; omega)).mono ?_
    rw [nat_dropn, word_drop]
    rintro e w1 ⟨rfl, q, rfl⟩
    have hcell := HW.o.frozen k
    have hlen := sch_length (nat xs) k
    obtain ⟨x0, hx0⟩ : ∃ x0, (row (sch (nat xs) k) 64)[k]? = some x0 := ⟨_, Array.getElem?_eq_getElem (by rw [row_size (by omega)]; omega)⟩
    have hcl := HW.o.cell k
    rw [hx0] at hcl
    have HL := Hd hlen
    clear hx0 hlen hby
    go_wp2
    go_roundw
    case rel =>
     refine ⟨k + 1, by omega, by go_num, (below_drewN hbl q).setCell (by simp; omega) _, Hd ((HA.o.drewN q).far (by simp; omega) _), Hd ((HR.o.drewN q).far (by simp) _), Hd ?_⟩
     have h := (HW.o.drewN q).set_ k (.int .u32 (word (nat xs) (4 * k) : Nat))
     have e := row_set (ws := sch (nat xs) k) (n := 64) (word (nat xs) (4 * k)) (by rw [HL.o]; omega)
     rw [HL.o] at e
     rw [e] at h
     have e2 : sch (nat xs) (k + 1) = sch (nat xs) k ++ [word (nat xs) (4 * k)] := by simp [sch, hlt]
     rw [e2]
     exact h
    case measure => simp [intOf]; omega
  . have hk16 : k = 16 := by omega
    have HW2 := Hd (show Blk wr (w.heap.size + 2) 351 (row (sch (nat xs) 16) 64) by rw [<- hk16]; exact HW.o)
    clear hk16 HW
    go_wp2_with fail
    go_loopw [10] (fun i wc => ∃ j : Nat, 16 <= j /\ j <= 64 /\ i = .int .i64 j /\ Below w.heap.size w wc /\ Hi (Blk wc w.heap.size 350 (agg ⟨sa, sb, sc, sd, se, sf, sg, sh⟩)) /\ Hi (Blk wc (w.heap.size + 1) 350 (row [] 8)) /\ Hi (Blk wc (w.heap.size + 2) 351 (row (sch (nat xs) j) 64))) (fun i _ => 64 - (intOf i).toNat)
    case atStart => exact ⟨16, by omega, by omega, rfl, hbl, HA, HR, HW2⟩
    case round =>
     clear hbl HA HR HW2
     obtain ⟨j, hj1, hj2, rfl, hbl, HA, HR, HW⟩ := hrel
     by_cases hj : j < 64
     . have hlen := sch_length (nat xs) j
       have c15 := (HW.o.cell (j - 15)).trans (row_get (by omega))
       have c2 := (HW.o.cell (j - 2)).trans (row_get (by omega))
       have c16 := (HW.o.cell (j - 16)).trans (row_get (by omega))
       have c7 := (HW.o.cell (j - 7)).trans (row_get (by omega))
       have i15 : (0 : Int) <= (j : Int) - 15 := by omega
       have i2 : (0 : Int) <= (j : Int) - 2 := by omega
       have i16 : (0 : Int) <= (j : Int) - 16 := by omega
       have i7 : (0 : Int) <= (j : Int) - 7 := by omega
       have u15 : (j : Int) - 15 < 64 := by omega
       have u2 : (j : Int) - 2 < 64 := by omega
       have u16 : (j : Int) - 16 < 64 := by omega
       have u7 : (j : Int) - 7 < 64 := by omega
       have hn : sch (nat xs) (j + 1) = sch (nat xs) j ++ [((sch (nat xs) j).getD (j - 16) 0 + sg0 ((sch (nat xs) j).getD (j - 15) 0) + (sch (nat xs) j).getD (j - 7) 0 + sg1 ((sch (nat xs) j).getD (j - 2) 0)) % 4294967296] := by simp only [sch, if_neg (show ¬ j < 16 by omega), next]
       have HN := Hd hn
       have q15 := sch_get HB.o j (j - 15)
       have q2 := sch_get HB.o j (j - 2)
       have q7 := sch_get HB.o j (j - 7)
       have q16 := sch_get HB.o j (j - 16)
       clear hn
       generalize (sch (nat xs) j).getD (j - 15) 0 = x15 at *
       generalize (sch (nat xs) j).getD (j - 2) 0 = x2 at *
       generalize (sch (nat xs) j).getD (j - 7) 0 = x7 at *
       generalize (sch (nat xs) j).getD (j - 16) 0 = x16 at *
       clear hlen
       go_wp2_with fail
       go_quiet (fail)
       go_wp2_with fail
       have e16 : IntKind.i64.wrap ((j : Int) - 16) = (j : Int) - 16 := IntWalk.i64_in _ (by omega)
       have e7 : IntKind.i64.wrap ((j : Int) - 7) = (j : Int) - 7 := IntWalk.i64_in _ (by omega)
       have t16 : ((j : Int) - 16).toNat = j - 16 := by omega
       have t7 : ((j : Int) - 7).toNat = j - 7 := by omega
       have g16 : (16 : Int) <= j := by omega
       have g7 : (7 : Int) <= j := by omega
       refine wp_region_tail 33 (by kernel_rfl) (by kernel_rfl) ?_
       simp only [List.take_succ_cons, List.take_zero, List.drop_succ_cons, List.drop_zero]
       repeat still_step
       still_call (rot_still x15 7 _ q15 rfl (by omega) (by omega) _)
       repeat still_step
       still_call (rot_still x15 18 _ q15 rfl (by omega) (by omega) _)
       repeat still_step
       still_call (rot_still x2 17 _ q2 rfl (by omega) (by omega) _)
       repeat still_step
       still_call (rot_still x2 19 _ q2 rfl (by omega) (by omega) _)
       repeat still_step
       refine wpStill_nil ?_
       clear e16 e7 t16 t7 g16 g7 i15 i2 i16 i7 u15 u2 u16 u7 c15 c2 c7 c16
       have hfr := HW.o.frozen j
       obtain ⟨x0, hx0⟩ : ∃ x0, (row (sch (nat xs) j) 64)[j]? = some x0 := ⟨_, Array.getElem?_eq_getElem (by rw [row_size (by rw [sch_length]; omega)]; omega)⟩
       have hcl := HW.o.cell j
       rw [hx0] at hcl
       clear hx0
       go_wp2
       go_roundw
       case rel =>
        rw [next_val x16 x7 x15 x2 q16 q7 q15 q2]
        refine ⟨j + 1, by omega, by omega, by go_num, (below_drewN hbl (nq + 1)).setCell (by simp; omega) _, Hd ((HA.o.drewN (nq + 1)).far (by simp; omega) _), Hd ((HR.o.drewN (nq + 1)).far (by simp) _), Hd ?_⟩
        have h := (HW.o.drewN (nq + 1)).set_ j (.int .u32 ((x16 + sg0 x15 + x7 + sg1 x2) % 4294967296 : Nat))
        have e := row_set (ws := sch (nat xs) j) (n := 64) ((x16 + sg0 x15 + x7 + sg1 x2) % 4294967296) (by rw [sch_length]; omega)
        rw [sch_length] at e
        rw [e] at h
        rw [HN.o]
        exact h
       case measure => simp [intOf]; omega
     . have hj64 : j = 64 := by omega
       have HW2 := Hd (show Blk wr (w.heap.size + 2) 351 (row (sch (nat xs) 64) 64) by have := HW.o; rw [hj64] at this; exact this)
       have HK2 : Hi (∃ t, Blk wr kb t (row K 64)) := by
        obtain ⟨t, ht⟩ := HK.o
        exact Hd ⟨t, ht.below hbl ht.lt⟩
       clear hj64 HW HK
       have a0 := HA.o.cell 0
       have a1 := HA.o.cell 1
       have a2 := HA.o.cell 2
       have a3 := HA.o.cell 3
       have a4 := HA.o.cell 4
       have a5 := HA.o.cell 5
       have a6 := HA.o.cell 6
       have a7 := HA.o.cell 7
       simp only [agg, List.getElem?_toArray, List.getElem?_cons_zero, List.getElem?_cons_succ] at a0 a1 a2 a3 a4 a5 a6 a7
       have hvs := HW2.o.lt
       go_wp2_with fail
       obtain ⟨vb, hvb⟩ : ∃ vb, vb = wr.heap.size := ⟨_, rfl⟩
       have HVB := Hd hvb
       rw [<- hvb] at hvs ⊢
       clear hvb a0 a1 a2 a3 a4 a5 a6 a7
       go_loopw [77] (fun i wc => ∃ r : Nat, r <= 64 /\ i = .int .i64 r /\ Below w.heap.size w wc /\ Hi (Blk wc w.heap.size 350 (agg ⟨sa, sb, sc, sd, se, sf, sg, sh⟩)) /\ Hi (Blk wc (w.heap.size + 1) 350 (row [] 8)) /\ Hi (Blk wc (w.heap.size + 2) 351 (row (sch (nat xs) 64) 64)) /\ Hi (∃ t, Blk wc kb t (row K 64)) /\ Hi (Blk wc vb 350 (agg (rn (sch (nat xs) 64) ⟨sa, sb, sc, sd, se, sf, sg, sh⟩ r)))) (fun i _ => 64 - (intOf i).toNat)
       case atStart =>
        obtain ⟨t, ht⟩ := HK2.o
        exact ⟨0, by omega, rfl, hbl.alloc (by have := HVB.o; omega) _, Hd (HA.o.alloc _), Hd (HR.o.alloc _), Hd (HW2.o.alloc _), Hd ⟨t, ht.alloc _⟩, Hd (Blk.new' HVB.o)⟩
       case round =>
        clear hbl HA HR HW2 HK2
        obtain ⟨r, hr, rfl, hbl, HA, HR, HW, HKK, HV⟩ := hrel
        by_cases hr64 : r < 64
        . obtain ⟨⟨va, vb', vc, vd, ve, vf, vg, vh⟩, hs'⟩ : ∃ s', s' = rn (sch (nat xs) 64) ⟨sa, sb, sc, sd, se, sf, sg, sh⟩ r := ⟨_, rfl⟩
          have hok := rn_ok (sch (nat xs) 64) ⟨sa, sb, sc, sd, se, sf, sg, sh⟩ HS.o r
          rw [<- hs'] at HV hok
          obtain ⟨oa, ob, oc, od, oe, of, og, oh⟩ := hok
          simp only at oa ob oc od oe of og oh
          have HS' := Hd hs'
          clear hs'
          have c0 := HV.o.cell 0
          have c1 := HV.o.cell 1
          have c2 := HV.o.cell 2
          have c3 := HV.o.cell 3
          have c4 := HV.o.cell 4
          have c5 := HV.o.cell 5
          have c6 := HV.o.cell 6
          have c7 := HV.o.cell 7
          simp only [agg, List.getElem?_toArray, List.getElem?_cons_zero, List.getElem?_cons_succ] at c0 c1 c2 c3 c4 c5 c6 c7
          have cw := (HW.o.cell r).trans (row_get (by rw [sch_length]; exact hr64))
          have ck : wr.cell? ⟨kb, r, none⟩ = some (.int .u32 (K.getD r 0 : Nat)) := by
           obtain ⟨t, ht⟩ := HKK.o
           exact (ht.cell r).trans (row_get (by exact hr64))
          have ow := sch_get HB.o 64 r
          have ok := get_lt K_lt (by omega) r
          obtain ⟨xw, hxw⟩ : ∃ xw, xw = (sch (nat xs) 64).getD r 0 := ⟨_, rfl⟩
          obtain ⟨xk, hxk⟩ : ∃ xk, xk = K.getD r 0 := ⟨_, rfl⟩
          rw [<- hxw] at cw ow
          rw [<- hxk] at ck ok
          have HXW := Hd hxw
          have HXK := Hd hxk
          clear hxw hxk
          have r1 : (0 : Int) <= r := by omega
          have r2 : (r : Int) < 64 := by omega
          go_wp2_with fail
          go_quiet (fail)
          go_wp2_with fail
          refine wp_region_same (by kernel_rfl) (by kernel_rfl) ?_
          repeat still_step
          still_call (rot_still ve 6 _ oe rfl (by omega) (by omega) _)
          repeat still_step
          still_call (rot_still ve 11 _ oe rfl (by omega) (by omega) _)
          repeat still_step
          still_call (rot_still ve 25 _ oe rfl (by omega) (by omega) _)
          repeat still_step
          refine wpStill_nil ?_
          rw [signed_max, t_val ve vf vg vh xk xw oe of og oh ok ow]
          obtain ⟨tt, htt⟩ : ∃ tt, tt = (vh + Sg1 ve + ch ve vf vg + xk + xw) % 4294967296 := ⟨_, rfl⟩
          rw [<- htt]
          have ott : tt < 4294967296 := by rw [htt]; exact Nat.mod_lt _ (by omega)
          have HTT := Hd htt
          clear htt cw ck
          go_wp2_with fail
          refine wp_region_same (by kernel_rfl) (by kernel_rfl) ?_
          repeat still_step
          still_call (rot_still va 2 _ oa rfl (by omega) (by omega) _)
          repeat still_step
          still_call (rot_still va 13 _ oa rfl (by omega) (by omega) _)
          repeat still_step
          still_call (rot_still va 22 _ oa rfl (by omega) (by omega) _)
          repeat still_step
          refine wpStill_nil ?_
          rw [u_val va vb' vc oa ob oc]
          obtain ⟨uu, huu⟩ : ∃ uu, uu = (Sg0 va + maj va vb' vc) % 4294967296 := ⟨_, rfl⟩
          rw [<- huu]
          have ouu : uu < 4294967296 := by rw [huu]; exact Nat.mod_lt _ (by omega)
          have HUU := Hd huu
          clear huu
          go_wp2_with fail
          refine wp_region_tail 2 (by kernel_rfl) (by kernel_rfl) ?_
          simp only [List.take_succ_cons, List.take_zero, List.drop_succ_cons, List.drop_zero]
          repeat still_step
          refine wpStill_nil ?_
          refine wpList_shift rfl (.tmp 146) (.tmp 147) 365 rfl 304 Tryz.underlying365 (by kernel_rfl) vb 350 ⟨va, vb', vc, vd, ve, vf, vg, vh⟩ rfl rfl HV.o ?_
          intro W2 hV2 hfar hbel hsize
          have hbl2 := hbel w.heap.size w (by omega) (by first | exact below_drewN hbl _ | (repeat (first | exact hbl | apply Below.drew | apply below_drewN)))
          have HA2 := Hd (hfar _ _ _ (by omega) HA.o)
          have HR2 := Hd (hfar _ _ _ (by omega) HR.o)
          have HW2 := Hd (hfar _ _ _ (by omega) HW.o)
          obtain ⟨hkv, HK2⟩ : kb ≠ vb /\ Hi (∃ t, Blk W2 kb t (row K 64)) := by
           obtain ⟨t, ht⟩ := HKK.o
           have hne : kb ≠ vb := by
            intro e
            have h1 := HV.o
            unfold Blk at h1 ht
            rw [e, h1] at ht
            have := congrArg (fun x => match x with | some (Obj.cells cs _ _) => cs.size | _ => 0) ht
            simp [agg, row, K] at this
           exact ⟨hne, Hd ⟨t, hfar _ _ _ hne ht⟩⟩
          have HKV := Hd hkv
          clear hkv
          have d4 := hV2.cell 4
          have d0 := hV2.cell 0
          have f4 := hV2.frozen 4
          have f0 := hV2.frozen 0
          simp only [agg, List.getElem?_toArray, List.getElem?_cons_zero, List.getElem?_cons_succ] at d4 d0
          have HV2 := Hd hV2
          clear hV2 hfar hbel c0 c1 c2 c3 c4 c5 c6 c7 HV HA HR HW HKK hbl
          go_wp2
          go_roundw
          case rel =>
           rw [show ((vd : Int) + tt) % 4294967296 = (((vd + tt) % 4294967296 : Nat) : Int) from by omega, show ((tt : Int) + uu) % 4294967296 = (((tt + uu) % 4294967296 : Nat) : Int) from by omega]
           have e : rn (sch (nat xs) 64) ⟨sa, sb, sc, sd, se, sf, sg, sh⟩ (r + 1) = ⟨(tt + uu) % 4294967296, va, vb', vc, (vd + tt) % 4294967296, ve, vf, vg⟩ := by
            show rnd _ _ _ = _
            rw [<- HS'.o]
            simp only [rnd]
            rw [<- HXK.o, <- HXW.o, <- HTT.o, <- HUU.o]
           refine ⟨r + 1, by omega, by go_num, (hbl2.setCell (by simp; omega) _).setCell (by simp; omega) _, Hd ((HA2.o.far (by simp; omega) _).far (by simp; omega) _), Hd ((HR2.o.far (by simp; omega) _).far (by simp; omega) _), Hd ((HW2.o.far (by simp; omega) _).far (by simp; omega) _), ?_, Hd ?_⟩
           . obtain ⟨t, ht⟩ := HK2.o
             exact Hd ⟨t, (ht.far HKV.o _).far HKV.o _⟩
           . rw [e]
             exact (HV2.o.set_ 4 _).set_ 0 _
          case measure => simp [intOf]; omega
        . have hr64' : r = 64 := by omega
          have HV2 := Hd (show Blk wr vb 350 (agg (rn (sch (nat xs) 64) ⟨sa, sb, sc, sd, se, sf, sg, sh⟩ 64)) by have := HV.o; rw [hr64'] at this; exact this)
          have hok := rn_ok (sch (nat xs) 64) ⟨sa, sb, sc, sd, se, sf, sg, sh⟩ HS.o 64
          obtain ⟨s', hs'⟩ : ∃ s', s' = rn (sch (nat xs) 64) ⟨sa, sb, sc, sd, se, sf, sg, sh⟩ 64 := ⟨_, rfl⟩
          rw [<- hs'] at HV2 hok
          have hcomp : compress ⟨sa, sb, sc, sd, se, sf, sg, sh⟩ (nat xs) = add ⟨sa, sb, sc, sd, se, sf, sg, sh⟩ s' := by rw [hs']; rfl
          have HC := Hd hcomp
          clear hs' hr64' hcomp HV HW HKK
          go_wp2_with fail
          go_loopw [159] (fun i wc => ∃ q : Nat, q <= 8 /\ i = .int .i64 q /\ Below w.heap.size w wc /\ Hi (Blk wc w.heap.size 350 (row (mixed ⟨sa, sb, sc, sd, se, sf, sg, sh⟩ s' q) 8)) /\ Hi (Blk wc (w.heap.size + 1) 350 (row [] 8)) /\ Hi (Blk wc vb 350 (row (vals s') 8))) (fun i _ => 8 - (intOf i).toNat)
          case atStart => exact ⟨0, by omega, rfl, hbl, Hd HA.o, HR, Hd HV2.o⟩
          case round =>
           clear hbl HA HR HV2
           obtain ⟨q, hq, rfl, hbl, HA, HR, HV⟩ := hrel
           by_cases hq8 : q < 8
           . have ca := (HA.o.cell q).trans (row_get (by rw [mixed_length]; omega))
             have cv := (HV.o.cell q).trans (row_get (by rw [vals_length]; omega))
             have fa := HA.o.frozen q
             rw [mixed_get _ _ hq8] at ca
             have q0 : (0 : Int) <= q := by omega
             have q1 : (q : Int) < 8 := by omega
             obtain ⟨xa, hxa⟩ : ∃ xa, xa = (vals ⟨sa, sb, sc, sd, se, sf, sg, sh⟩).getD q 0 := ⟨_, rfl⟩
             obtain ⟨xv, hxv⟩ : ∃ xv, xv = (vals s').getD q 0 := ⟨_, rfl⟩
             rw [<- hxa] at ca
             rw [<- hxv] at cv
             have HXA := Hd hxa
             have HXV := Hd hxv
             clear hxa hxv
             go_wp2_with fail
             refine wp_region_tail 8 (by kernel_rfl) (by kernel_rfl) ?_
             simp only [List.take_succ_cons, List.take_zero, List.drop_succ_cons, List.drop_zero]
             repeat still_step
             refine wpStill_nil ?_
             go_wp2
             go_roundw
             case rel =>
              have e : ((xa : Int) + xv) % 4294967296 = ((((vals ⟨sa, sb, sc, sd, se, sf, sg, sh⟩).getD q 0 + (vals s').getD q 0) % 4294967296 : Nat) : Int) := by rw [HXA.o, HXV.o]; omega
              rw [e]
              refine ⟨q + 1, by omega, by go_num, (hbl.setCell (by simp) _).drew, Hd ?_, Hd ((HR.o.far (by simp) _).drew), Hd ((HV.o.far (by simp; omega) _).drew)⟩
              rw [<- mixed_set _ _ hq8]
              exact (HA.o.set_ q _).drew
             case measure => simp [intOf]; omega
           . have hq' : q = 8 := by omega
             have HA8 : Blk wr w.heap.size 350 (agg (add ⟨sa, sb, sc, sd, se, sf, sg, sh⟩ s')) := by have := HA.o; rw [hq'] at this; exact this
             obtain ⟨⟨z0, z1, z2, z3, z4, z5, z6, z7⟩, hz⟩ : ∃ z, z = add ⟨sa, sb, sc, sd, se, sf, sg, sh⟩ s' := ⟨_, rfl⟩
             rw [<- hz] at HA8
             have HZ := Hd hz
             have HR8 : Blk wr (w.heap.size + 1) 350 #[.int .u32 0, .int .u32 0, .int .u32 0, .int .u32 0, .int .u32 0, .int .u32 0, .int .u32 0, .int .u32 0] := HR.o
             have a0 := HA8.cell 0
             have a1 := HA8.cell 1
             have a2 := HA8.cell 2
             have a3 := HA8.cell 3
             have a4 := HA8.cell 4
             have a5 := HA8.cell 5
             have a6 := HA8.cell 6
             have a7 := HA8.cell 7
             have r0 := HR8.cell 0
             have r1 := HR8.cell 1
             have r2 := HR8.cell 2
             have r3 := HR8.cell 3
             have r4 := HR8.cell 4
             have r5 := HR8.cell 5
             have r6 := HR8.cell 6
             have r7 := HR8.cell 7
             have f0 := HR8.frozen 0
             have f1 := HR8.frozen 1
             have f2 := HR8.frozen 2
             have f3 := HR8.frozen 3
             have f4 := HR8.frozen 4
             have f5 := HR8.frozen 5
             have f6 := HR8.frozen 6
             have f7 := HR8.frozen 7
             simp only [agg, List.getElem?_toArray, List.getElem?_cons_zero, List.getElem?_cons_succ] at a0 a1 a2 a3 a4 a5 a6 a7 r0 r1 r2 r3 r4 r5 r6 r7
             have HBL := Hd hbl
             have HR9 := Hd HR8
             clear hz HA8 HR8 HA HR HV hq' hbl
             go_wp2
             have hb9 := (((((((HR9.o.set_ 0 (.int .u32 (z0 : Nat))).set_ 1 (.int .u32 (z1 : Nat))).set_ 2 (.int .u32 (z2 : Nat))).set_ 3 (.int .u32 (z3 : Nat))).set_ 4 (.int .u32 (z4 : Nat))).set_ 5 (.int .u32 (z5 : Nat))).set_ 6 (.int .u32 (z6 : Nat))).set_ 7 (.int .u32 (z7 : Nat))
             have hbe : Below w.heap.size w _ := (((((((HBL.o.setCell (p := ⟨w.heap.size + 1, 0, none⟩) (by simp) (.int .u32 (z0 : Nat))).setCell (p := ⟨w.heap.size + 1, 1, none⟩) (by simp) (.int .u32 (z1 : Nat))).setCell (p := ⟨w.heap.size + 1, 2, none⟩) (by simp) (.int .u32 (z2 : Nat))).setCell (p := ⟨w.heap.size + 1, 3, none⟩) (by simp) (.int .u32 (z3 : Nat))).setCell (p := ⟨w.heap.size + 1, 4, none⟩) (by simp) (.int .u32 (z4 : Nat))).setCell (p := ⟨w.heap.size + 1, 5, none⟩) (by simp) (.int .u32 (z5 : Nat))).setCell (p := ⟨w.heap.size + 1, 6, none⟩) (by simp) (.int .u32 (z6 : Nat))).setCell (p := ⟨w.heap.size + 1, 7, none⟩) (by simp) (.int .u32 (z7 : Nat))
             rw [HC.o, <- HZ.o]
             clear a0 a1 a2 a3 a4 a5 a6 a7 r0 r1 r2 r3 r4 r5 r6 r7 f0 f1 f2 f3 f4 f5 f6 f7
             generalize ((((((((wr.setCell ⟨w.heap.size + 1, 0, none⟩ (.int .u32 (z0 : Nat))).setCell ⟨w.heap.size + 1, 1, none⟩ (.int .u32 (z1 : Nat))).setCell ⟨w.heap.size + 1, 2, none⟩ (.int .u32 (z2 : Nat))).setCell ⟨w.heap.size + 1, 3, none⟩ (.int .u32 (z3 : Nat))).setCell ⟨w.heap.size + 1, 4, none⟩ (.int .u32 (z4 : Nat))).setCell ⟨w.heap.size + 1, 5, none⟩ (.int .u32 (z5 : Nat))).setCell ⟨w.heap.size + 1, 6, none⟩ (.int .u32 (z6 : Nat))).setCell ⟨w.heap.size + 1, 7, none⟩ (.int .u32 (z7 : Nat))) = W9 at hb9 hbe ⊢
             have c0 := hb9.cell 0
             have c1 := hb9.cell 1
             have c2 := hb9.cell 2
             have c3 := hb9.cell 3
             have c4 := hb9.cell 4
             have c5 := hb9.cell 5
             have c6 := hb9.cell 6
             have c7 := hb9.cell 7
             simp only [List.setIfInBounds_toArray, List.set_cons_zero, List.set_cons_succ, List.getElem?_toArray, List.getElem?_cons_zero, List.getElem?_cons_succ] at c0 c1 c2 c3 c4 c5 c6 c7
             exact bodyPost_ret (v := .agg #[.int .u32 (z0 : Nat), .int .u32 (z1 : Nat), .int .u32 (z2 : Nat), .int .u32 (z3 : Nat), .int .u32 (z4 : Nat), .int .u32 (z5 : Nat), .int .u32 (z6 : Nat), .int .u32 (z7 : Nat)]) (by simp [results, Tryz.results258, go_sem, c0, c1, c2, c3, c4, c5, c6, c7]) rfl ⟨rfl, hbe⟩
end Sha
end Go.Proofs.YtkdnebalpdebeaaGreatDoor
