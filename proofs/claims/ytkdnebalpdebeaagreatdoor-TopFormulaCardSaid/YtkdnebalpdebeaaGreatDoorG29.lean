/- Lemmas of a claim: Big, BigA, BigB -/
import Derived.Test.YtkdnebalpdebeaaGreatDoorG01
set_option linter.unusedVariables false
set_option linter.unusedSimpArgs false
set_option maxHeartbeats 16000000
set_option maxRecDepth 100000
namespace Go.Proofs.YtkdnebalpdebeaaGreatDoor
namespace Big
def base : Nat := 4294967296
def val : List Nat -> Nat
 | [] => 0
 | d :: l => d + 4294967296 * val l
def norm : List Nat -> List Nat
 | [] => []
 | d :: l => match norm l with
   | [] => if d = 0 then [] else [d]
   | l' => d :: l'
def digits (n : Nat) : List Nat := if n = 0 then [] else n % 4294967296 :: digits (n / 4294967296)
termination_by n
decreasing_by omega
theorem digits_zero : digits 0 = [] := by rw [digits]; simp
theorem digits_pos {n : Nat} (h : n ≠ 0) : digits n = n % 4294967296 :: digits (n / 4294967296) := by rw [digits, if_neg h]
theorem val_digits (n : Nat) : val (digits n) = n := by
 induction n using Nat.strongRecOn with
 | ind n ih =>
   by_cases h : n = 0
   . subst h; rw [digits_zero]; rfl
   . rw [digits_pos h, val, ih _ (by omega)]; omega
theorem digits_lt (n : Nat) : ∀ d ∈ digits n, d < 4294967296 := by
 induction n using Nat.strongRecOn with
 | ind n ih =>
   by_cases h : n = 0
   . subst h; rw [digits_zero]; simp
   . rw [digits_pos h]
     intro d hd
     rcases List.mem_cons.1 hd with rfl | hd
     . omega
     . exact ih _ (by omega) d hd
theorem norm_val {l : List Nat} (h : ∀ d ∈ l, d < 4294967296) : norm l = digits (val l) := by
 induction l with
 | nil => rw [val, digits_zero]; rfl
 | cons d l ih =>
   have hd := h d (by simp)
   have ih' := ih (fun x hx => h x (by simp [hx]))
   simp only [norm, val]
   rw [ih']
   by_cases hv : val l = 0
   . rw [hv, digits_zero]
     by_cases h0 : d = 0
     . subst h0; simp [digits_zero]
     . simp only [if_neg h0]
       rw [digits_pos (by omega)]
       simp [show d % 4294967296 = d by omega, show d / 4294967296 = 0 by omega, digits_zero]
   . have hne : digits (val l) ≠ [] := by rw [digits_pos hv]; simp
     rw [digits_pos (n := d + 4294967296 * val l) (by omega)]
     have e1 : (d + 4294967296 * val l) % 4294967296 = d := by omega
     have e2 : (d + 4294967296 * val l) / 4294967296 = val l := by omega
     rw [e1, e2]
     cases hc : digits (val l) with
     | nil => exact absurd hc hne
     | cons a b => rfl
theorem val_app (l m : List Nat) : val (l ++ m) = val l + 4294967296 ^ l.length * val m := by
 induction l with
 | nil => simp [val]
 | cons d l ih => simp only [List.cons_append, val, ih, List.length_cons, Nat.pow_succ, Nat.mul_add]; rw [<- Nat.mul_assoc, Nat.mul_comm 4294967296 (4294967296 ^ l.length)]; omega
theorem val_lt {l : List Nat} (h : ∀ d ∈ l, d < 4294967296) : val l < 4294967296 ^ l.length := by
 induction l with
 | nil => simp [val]
 | cons d l ih =>
   have hd := h d (by simp)
   have ih' := ih (fun x hx => h x (by simp [hx]))
   simp only [val, List.length_cons, Nat.pow_succ]
   omega
theorem val_zeros (n : Nat) : val (List.replicate n 0) = 0 := by
 induction n with
 | zero => rfl
 | succ n ih => simp [List.replicate_succ, val, ih]
theorem norm_snoc_zero (l : List Nat) : norm (l ++ [0]) = norm l := by
 induction l with
 | nil => rfl
 | cons d l ih => simp only [List.cons_append, norm, ih]
theorem norm_last {l : List Nat} (h : ∀ (hl : l ≠ []), l.getLast hl ≠ 0) : norm l = l := by
 induction l with
 | nil => rfl
 | cons d l ih =>
   cases l with
   | nil => have := h (by simp); simp at this; simp [norm, this]
   | cons a b =>
     have ih' := ih (fun hl => by have := h (by simp); simpa using this)
     rw [norm, ih']
theorem digits_ge {b : Nat} (h : b ≠ 0) : 4294967296 ^ ((digits b).length - 1) <= b := by
 induction b using Nat.strongRecOn with
 | ind n ih =>
   rw [digits_pos h]
   by_cases h0 : n / 4294967296 = 0
   . rw [h0, digits_zero]; simp; omega
   . have := ih _ (by omega) h0
     have hl : 1 <= (digits (n / 4294967296)).length := by rw [digits_pos h0]; simp
     have e : (n % 4294967296 :: digits (n / 4294967296)).length - 1 = ((digits (n / 4294967296)).length - 1) + 1 := by simp; omega
     rw [e, Nat.pow_succ]
     omega
theorem digits_length_lt {a b : Nat} (h : (digits a).length < (digits b).length) : a < b := by
 have h1 := val_lt (digits_lt a)
 rw [val_digits] at h1
 have hb : b ≠ 0 := by intro e; subst e; rw [digits_zero] at h; simp at h
 have h2 := digits_ge hb
 have h3 : 4294967296 ^ (digits a).length <= 4294967296 ^ ((digits b).length - 1) := Nat.pow_le_pow_right (by omega) (by omega)
 omega
theorem digits_inj {a b : Nat} (h : digits a = digits b) : a = b := by rw [<- val_digits a, h, val_digits]
theorem val_lt_of {l m : List Nat} (hl : l.length = m.length) (hd : ∀ d ∈ l, d < 4294967296) {i : Nat} (hi : i < l.length) (ht : l.drop (i + 1) = m.drop (i + 1)) (hlt : l.getD i 0 < m.getD i 0) : val l < val m := by
 have e1 : l = l.take i ++ (l.getD i 0 :: l.drop (i + 1)) := by
  rw [show l.getD i 0 = l[i] from by simp [List.getD, hi], <- List.drop_eq_getElem_cons hi, List.take_append_drop]
 have e2 : m = m.take i ++ (m.getD i 0 :: m.drop (i + 1)) := by
  rw [show m.getD i 0 = m[i]'(by omega) from by simp [List.getD, show i < m.length by omega], <- List.drop_eq_getElem_cons (by omega), List.take_append_drop]
 have v1 : val l = val (l.take i) + 4294967296 ^ i * (l.getD i 0 + 4294967296 * val (l.drop (i + 1))) := by
  conv => lhs; rw [e1]
  rw [val_app, val, List.length_take, show min i l.length = i by omega]
 have v2 : val m = val (m.take i) + 4294967296 ^ i * (m.getD i 0 + 4294967296 * val (m.drop (i + 1))) := by
  conv => lhs; rw [e2]
  rw [val_app, val, List.length_take, show min i m.length = i by omega]
 have h1 : val (l.take i) < 4294967296 ^ i := by
  have := val_lt (l := l.take i) (fun d hd' => hd d (List.mem_of_mem_take hd'))
  rwa [List.length_take, show min i l.length = i by omega] at this
 rw [v1, v2, ht]
 generalize val (m.drop (i + 1)) = z
 generalize l.getD i 0 = x at *
 generalize m.getD i 0 = y at *
 have h2 : 4294967296 ^ i * (x + 4294967296 * z) + 4294967296 ^ i <= 4294967296 ^ i * (y + 4294967296 * z) := by
  rw [<- Nat.mul_succ]
  exact Nat.mul_le_mul_left _ (by omega)
 omega
def cmp (a b : Nat) : Int := if a < b then -1 else if a = b then 0 else 1
theorem cmp_lt {a b : Nat} (h : a < b) : cmp a b = -1 := by simp [cmp, h]
theorem cmp_gt {a b : Nat} (h : b < a) : cmp a b = 1 := by simp [cmp, show ¬ a < b by omega, show ¬ a = b by omega]
theorem cmp_eq {a b : Nat} (h : a = b) : cmp a b = 0 := by subst h; simp [cmp]
theorem val_set {l : List Nat} {i : Nat} (h : i < l.length) (v : Nat) : val (l.set i v) + 4294967296 ^ i * l.getD i 0 = val l + 4294967296 ^ i * v := by
 induction l generalizing i with
 | nil => simp at h
 | cons d l ih =>
   cases i with
   | zero => simp [val]; omega
   | succ i =>
     have := ih (i := i) (by simpa using h)
     simp only [List.set_cons_succ, val, List.getD_cons_succ, Nat.pow_succ]
     have e1 : 4294967296 ^ i * 4294967296 * l.getD i 0 = 4294967296 * (4294967296 ^ i * l.getD i 0) := by rw [Nat.mul_comm (4294967296 ^ i) 4294967296, Nat.mul_assoc]
     have e2 : 4294967296 ^ i * 4294967296 * v = 4294967296 * (4294967296 ^ i * v) := by rw [Nat.mul_comm (4294967296 ^ i) 4294967296, Nat.mul_assoc]
     rw [e1, e2]
     omega
theorem val_take_succ {l : List Nat} {i : Nat} (h : i < l.length) : val (l.take (i + 1)) = val (l.take i) + 4294967296 ^ i * l.getD i 0 := by
 rw [List.take_succ_eq_append_getElem h, val_app, List.length_take, show min i l.length = i by omega]
 simp [val, List.getD, h]
theorem norm_take (l : List Nat) : norm l = l.take (norm l).length := by
 induction l with
 | nil => rfl
 | cons d l ih =>
   simp only [norm]
   split
   . split <;> simp
   . rename_i h; rw [List.length_cons, List.take_succ_cons, <- ih]
theorem norm_length_le (l : List Nat) : (norm l).length <= l.length := by
 conv => lhs; rw [norm_take]
 rw [List.length_take]; omega
end Big
namespace Big
open Go.RowKit Go.Deep
theorem info64 : (Tryz.prog.info? 24).map (fun i => (i.zero, i.size, i.bytes)) = some (some (.int .u64 0), 1, 8) := by kernel_rfl
def toI (l : List Nat) : List Int := l.map Int.ofNat
theorem toI_length (l : List Nat) : (toI l).length = l.length := by simp [toI]
theorem toI_app (l m : List Nat) : toI (l ++ m) = toI l ++ toI m := by simp [toI]
theorem toI_take (l : List Nat) (n : Nat) : toI (l.take n) = (toI l).take n := by simp [toI]
theorem rd_toI {l : List Nat} {i : Nat} (h : i < l.length) : rd (toI l) i = (l.getD i 0 : Nat) := by
 simp [rd, toI, List.getD, h]
def Holds (w : World) (B : Nat) (A : Option Addr) (n : Nat) : Prop := RI w B .u64 A (toI (digits n))
theorem Holds.below {w w' : World} {B : Nat} {A : Option Addr} {n : Nat} (h : Holds w B A n) (hb : Below B w w') : Holds w' B A n := RI.below h hb
theorem Holds.more {w : World} {B B' : Nat} {A : Option Addr} {n : Nat} (h : Holds w B A n) (hb : B <= B') : Holds w B' A n := RI.more h hb
theorem norm_stop {l : List Nat} {k : Nat} (hk : k <= l.length) (hn : norm (l.take k) = norm l) (h0 : 0 < k -> l.getD (k - 1) 0 ≠ 0) : (norm l).length = k := by
 rw [<- hn, norm_last (fun hl => ?_)]
 . simp; omega
 . have hk0 : 0 < k := by
    rcases Nat.eq_zero_or_pos k with h | h
    . subst h; simp at hl
    . exact h
   have h1 := h0 hk0
   rw [List.getLast_eq_getElem]
   simp only [List.length_take, List.getElem_take]
   have e : min k l.length - 1 = k - 1 := by omega
   simp only [e]
   simpa [List.getD, show k - 1 < l.length by omega] using h1
theorem norm_step {l : List Nat} {k : Nat} (hk : k <= l.length) (h0 : 0 < k) (hz : l.getD (k - 1) 0 = 0) : norm (l.take k) = norm (l.take (k - 1)) := by
 obtain ⟨j, rfl⟩ : ∃ j, k = j + 1 := ⟨k - 1, by omega⟩
 rw [Nat.add_sub_cancel] at hz ⊢
 rw [List.take_succ_eq_append_getElem (by omega)]
 have : l[j]'(by omega) = 0 := by simpa [List.getD, show j < l.length by omega] using hz
 rw [this, norm_snoc_zero]
theorem norm_ok (P : Option Addr) (c B : Nat) (l : List Nat) (w : World) (hx : RI w B .u64 P (toI l)) (hl : l.length <= 9223372036854775807) (hc : l.length <= c) :
 Calls Tryz.prog 84 #[.slice P l.length c] w fun e w' => e = .returned (.slice P (norm l).length c) /\ w = w' := by
 have HX := Hd hx
 clear hx
 go_enter Tryz.func84, Tryz.ntmps84
 go_wp2
 go_loop [3] (fun i => ∃ k : Nat, k <= l.length /\ i = .int .i64 k /\ Hi (norm (l.take k) = norm l)) (fun i => (intOf i).toNat)
 case atStart => exact ⟨l.length, by omega, rfl, Hd (by rw [List.take_length])⟩
 case round =>
  obtain ⟨k, hk, rfl, HN⟩ := hrel
  by_cases h0 : 0 < k
  . obtain ⟨ad, rfl, _, hcell⟩ := HX.o.one (j := k - 1) (by rw [toI_length]; omega)
    rw [rd_toI (by omega)] at hcell
    have hst := norm_stop hk HN.o
    have hsp := norm_step hk h0
    obtain ⟨z, hz⟩ : ∃ z, z = l.getD (k - 1) 0 := ⟨_, rfl⟩
    rw [<- hz] at hcell hst hsp
    have h0' : (0 : Int) < k := by omega
    have t1 : ((k : Int) - 1).toNat = k - 1 := by omega
    have t2 : (k : Int) - 1 < l.length := by omega
    have t3 : (1 : Int) <= k := by omega
    clear hz
    by_cases hz0 : z = 0
    . have hs := Hd (hsp hz0)
      subst hz0
      clear hst hsp
      go_wp2
      go_round
      case rel => exact ⟨k - 1, by omega, by go_num, Hd (by rw [<- hs.o]; exact HN.o)⟩
      case measure => simp [intOf]; omega
    . have hs := Hd (hst (fun _ => hz0))
      have hz1 : ((z : Int) == 0) = false := beq_eq_false_iff_ne.2 (by omega)
      have hkc : k <= c := by omega
      clear hst hsp hz0
      go_wp2
      go_ret
      exact ⟨by rw [hs.o]; rfl, rfl⟩
  . have hk0 : k = 0 := by omega
    subst hk0
    have hs := Hd (norm_stop hk HN.o (fun h => by omega))
    clear hk h0
    go_wp2
    go_ret
    exact ⟨by rw [hs.o]; rfl, rfl⟩
def Made (w w' : World) (v : Value) (n : Nat) : Prop := ∃ A c, v = .slice A (digits n).length c /\ (digits n).length <= c /\ Holds w' w'.heap.size A n /\ Below w.heap.size w w'
theorem RI.normed {w : World} {B : Nat} {A : Option Addr} {l : List Nat} (h : RI w B .u64 A (toI l)) (hl : ∀ d ∈ l, d < 4294967296) : Holds w B A (val l) := by
 unfold Holds
 rw [<- norm_val hl, norm_take, toI_take]
 exact h.take _
theorem word_ok (n : Nat) (hn : n < 18446744073709551616) (w : World) :
 Calls Tryz.prog 37 #[.int .u64 (n : Int)] w fun e w' => ∃ v, e = .returned v /\ Made w w' v n := by
 have hl : ∀ d ∈ [n % 4294967296, n / 4294967296], d < 4294967296 := by intro d hd; simp at hd; omega
 have hv : val [n % 4294967296, n / 4294967296] = n := by simp [val]; omega
 have HL := Hd hl
 have HV := Hd hv
 have hn1 : (n : Int) < 18446744073709551616 := by omega
 clear hl hv
 go_enter Tryz.func37, Tryz.ntmps37
 go_wp2_with fail
 have H := norm_ok (some ⟨w.heap.size, 0, none⟩) 2 (w.heap.size + 1) [n % 4294967296, n / 4294967296] (w.alloc (.cells #[.int .u64 ((n : Int) % 4294967296), .int .u64 ((n : Int) / 4294967296)] 24)) ((RI.of_lit (t := 24) (cs := #[.int .u64 ((n : Int) % 4294967296), .int .u64 ((n : Int) / 4294967296)]) (b := w.heap.size) (heap_alloc_new _ _) (by simp [nums, toI])).more (by simp)) (by simp) (by simp)
 rw [norm_val HL.o, HV.o] at H
 refine H.mono ?_
 rintro e w1 ⟨rfl, rfl⟩
 go_wp2
 go_ret
 refine ⟨_, rfl, some ⟨w.heap.size, 0, none⟩, 2, rfl, ?_, ?_, (Below.refl _ _).alloc (Nat.le_refl _) _⟩
 . rw [<- HV.o, <- norm_val HL.o]; exact norm_length_le _
 . have := RI.normed (RI.of_lit (t := 24) (cs := #[.int .u64 ((n : Int) % 4294967296), .int .u64 ((n : Int) / 4294967296)]) (w := w.alloc (.cells #[.int .u64 ((n : Int) % 4294967296), .int .u64 ((n : Int) / 4294967296)] 24)) (xs := toI [n % 4294967296, n / 4294967296]) (b := w.heap.size) (heap_alloc_new _ _) (by simp [nums, toI])) HL.o
   rwa [HV.o] at this
theorem compare_ok (P Q : Option Addr) (c d B : Nat) (a b : Nat) (w : World) (hx : Holds w B P a) (hy : Holds w B Q b) (h1 : (digits a).length <= 9223372036854775807) (h2 : (digits b).length <= 9223372036854775807) :
 Calls Tryz.prog 77 #[.slice P (digits a).length c, .slice Q (digits b).length d] w fun e w' => e = .returned (.int .i64 (cmp a b)) /\ Drew w w' := by
 have HX := Hd (show RI w B .u64 P (toI (digits a)) from hx)
 have HY := Hd (show RI w B .u64 Q (toI (digits b)) from hy)
 clear hx hy
 have hda := digits_lt a
 have hdb := digits_lt b
 have hva := val_digits a
 have hvb := val_digits b
 have hlab := @digits_length_lt a b
 have hlba := @digits_length_lt b a
 have hinj := @digits_inj a b
 have HA := Hd hva
 have HB := Hd hvb
 have HDA := Hd hda
 have HDB := Hd hdb
 have HI := Hd hinj
 clear hda hdb hva hvb hinj
 generalize digits a = l at *
 generalize digits b = m at *
 by_cases hlen : l.length = m.length
 . have e1 : ((l.length : Int) != (m.length : Int)) = false := by simp [hlen]
   have HLN := Hd hlen
   clear hlab hlba hlen
   go_enter Tryz.func77, Tryz.ntmps77
   go_wp2_with fail
   go_loopw [5] (fun i wr => ∃ (k : Nat) (t : Int), k <= l.length /\ i = .int .i64 t /\ Hi (t = (k : Int) - 1) /\ Hi (l.drop k = m.drop k) /\ Drew w wr) (fun i _ => (intOf i + 1).toNat)
   case atStart => exact ⟨l.length, (l.length : Int) - 1, by omega, rfl, Hd rfl, Hd (by rw [List.drop_length, HLN.o, List.drop_length]), by repeat (first | exact Drew.refl _ | apply Drew.step)⟩
   case round =>
    obtain ⟨k, t, hk, rfl, HT, HD, ⟨nq, rfl⟩⟩ := hrel
    by_cases h0 : 0 < k
    . obtain ⟨j, rfl⟩ : ∃ j : Nat, t = j := ⟨k - 1, by have := HT.o; omega⟩
      have hjk : k = j + 1 := by have := HT.o; omega
      obtain ⟨ad, rfl, _, ca⟩ := HX.o.one (j := j) (by rw [toI_length]; omega)
      obtain ⟨bd, rfl, _, cb⟩ := HY.o.one (j := j) (by rw [toI_length]; have := HLN.o; omega)
      rw [rd_toI (by omega)] at ca
      rw [rd_toI (by have := HLN.o; omega)] at cb
      have hlt := fun h => val_lt_of (i := j) HLN.o HDA.o (by omega) (by rw [<- hjk]; exact HD.o) h
      have hgt := fun h => val_lt_of (i := j) HLN.o.symm HDB.o (by have := HLN.o; omega) (by rw [<- hjk]; exact HD.o.symm) h
      have heq : l.getD j 0 = m.getD j 0 -> l.drop j = m.drop j := fun h => by
       rw [List.drop_eq_getElem_cons (show j < l.length by omega), List.drop_eq_getElem_cons (show j < m.length by have := HLN.o; omega), <- hjk, HD.o]
       congr 1
       simpa [List.getD, show j < l.length by omega, show j < m.length by have := HLN.o; omega] using h
      obtain ⟨x, hx⟩ : ∃ x, x = l.getD j 0 := ⟨_, rfl⟩
      obtain ⟨y, hy⟩ : ∃ y, y = m.getD j 0 := ⟨_, rfl⟩
      rw [<- hx] at ca hlt hgt heq
      rw [<- hy] at cb hlt hgt heq
      have g0 : (0 : Int) <= j := by omega
      have g3 : j < l.length := by omega
      have g4 : j < m.length := by have := HLN.o; omega
      have g1 : (j : Int) < l.length := by omega
      have g2 : (j : Int) < m.length := by have := HLN.o; omega
      have Hlt := Hd hlt
      have Hgt := Hd hgt
      have Heq := Hd heq
      clear hlt hgt heq hx hy
      by_cases q1 : x < y
      . go_wp2
        repeat (go_quiet (fail); try go_wp2)
        go_ret
        have := Hlt.o q1
        rw [HA.o, HB.o] at this
        exact ⟨by rw [cmp_lt this]; rfl, by repeat (first | exact Drew.refl _ | apply Drew.step)⟩
      . by_cases q2 : y < x
        . go_wp2
          repeat (go_quiet (fail); try go_wp2)
          go_ret
          have := Hgt.o q2
          rw [HA.o, HB.o] at this
          exact ⟨by rw [cmp_gt this]; rfl, by repeat (first | exact Drew.refl _ | apply Drew.step)⟩
        . have q3 : (x : Int) <= y := by omega
          have q4 : (y : Int) <= x := by omega
          have H3 := Hd (Heq.o (by omega))
          go_wp2
          repeat (go_quiet (fail); try go_wp2)
          go_roundw
          case rel => exact ⟨j, (j : Int) - 1, by omega, rfl, Hd rfl, H3, by repeat (first | exact Drew.refl _ | apply Drew.step)⟩
          case measure => simp [intOf]
    . have hk0 : k = 0 := by omega
      subst hk0
      obtain rfl : t = -1 := by have := HT.o; omega
      have hab : a = b := HI.o (by have := HD.o; simpa using this)
      have HAB := Hd hab
      clear hab
      go_wp2
      go_ret
      exact ⟨by rw [cmp_eq HAB.o]; rfl, by repeat (first | exact Drew.refl _ | apply Drew.step)⟩
 . have e1 : ((l.length : Int) != (m.length : Int)) = true := bne_iff_ne.2 (by omega)
   by_cases h : l.length < m.length
   . have HR := Hd (hlab h)
     clear hlab hlba
     go_enter Tryz.func77, Tryz.ntmps77
     go_wp2
     go_ret
     exact ⟨by rw [cmp_lt HR.o]; rfl, Drew.refl _⟩
   . have HR := Hd (hlba (by omega))
     have h' : (m.length : Int) <= l.length := by omega
     clear hlab hlba
     go_enter Tryz.func77, Tryz.ntmps77
     go_wp2
     go_ret
     exact ⟨by rw [cmp_gt HR.o]; rfl, Drew.refl _⟩
end Big
namespace Big
open Go.RowKit Go.Deep
theorem callsCast {P : Program} {f : FuncId} {args args' : Array Value} {w : World} {R : Ending -> World -> Prop} (h : Calls P f args w R) (e : args = args') : Calls P f args' w R := e ▸ h
theorem left_step (s x cy : Nat) (hs : s < 32) (hx : x < 4294967296) (hc : cy < 4294967296) : x * 2 ^ s + cy < 18446744073709551616 /\ (x * 2 ^ s + cy) / 4294967296 < 4294967296 := by
 have h1 : (2 : Nat) ^ s <= 2147483648 := by
  have := Nat.pow_le_pow_right (n := 2) (by omega) (show s <= 31 by omega)
  simpa using this
 have h2 : x * 2 ^ s <= 4294967295 * 2147483648 := Nat.mul_le_mul (by omega) h1
 omega
theorem left_ok (P : Option Addr) (c a n : Nat) (w : World) (hx : Holds w w.heap.size P a) (hn : n <= 1048576) (hl : (digits a).length <= 1048576) :
 Calls Tryz.prog 129 #[.slice P (digits a).length c, .int .i64 (n : Int)] w fun e w' => ∃ v, e = .returned v /\ Made w w' v (a * 2 ^ n) := by
 have HX := Hd (show RI w w.heap.size .u64 P (toI (digits a)) from hx)
 have HD := Hd (digits_lt a)
 have HV := Hd (val_digits a)
 clear hx
 generalize digits a = l at *
 obtain ⟨i0, hi0, hz0, hz1, hz2⟩ := info_parts info64
 obtain ⟨m, hm⟩ : ∃ m : Nat, m = n / 32 := ⟨_, rfl⟩
 obtain ⟨s, hs⟩ : ∃ s : Nat, s = n % 32 := ⟨_, rfl⟩
 have hs32 : s < 32 := by omega
 have hm2 : m <= 1048576 := by omega
 have hq : (n : Int) / 32 = m := by omega
 have hr : (n : Int) % 32 = s := by omega
 have hnm : n = 32 * m + s := by omega
 have HNM := Hd hnm
 clear hm hs hnm
 go_enter Tryz.func129, Tryz.ntmps129
 go_wp2_with (refine wpList_make_full _ rfl (.tmp 10) (.tmp 10) 41 rfl w.heap.size 24 _ (.int .u64 0) 1 Tryz.underlying41 hi0 hz0 hz1 .i64 .i64 (m : Int) (m : Int) m rfl rfl rfl rfl (by rw [hz2]; omega) (by simp only [maxLen]; omega) (Nat.le_refl _) ?_; intro w2 hown hgr)
 rw [show (madeCells (Value.int .u64 0).cells (m * 1)).toList = nums .u64 (toI (List.replicate m 0)) from by rw [Nat.mul_one]; exact (toList_madeCells_one _ _).trans (by simp [nums, toI])] at hown
 have b2 : Below w.heap.size w w2 := (Below.refl _ _).grown hgr (Nat.le_refl _) (by simp)
 have HO := Hd hown
 clear hown hgr hq
 go_loopw [5, 6, 14] (fun v y i wr => ∃ (k cy : Nat) (A : Option Addr) (c' q : Nat) (done : List Nat), i = .int .i64 k /\ k <= l.length /\ y = .int .u64 cy /\ cy < 4294967296 /\ v = .slice A q c' /\ q = m + k /\ Hi (done.length = q) /\ Hi (wr.ownsRow w.heap.size 24 1 (.slice A q c') q (nums .u64 (toI done))) /\ Hi (∀ d ∈ done, d < 4294967296) /\
  Hi (val done + 4294967296 ^ q * cy = 4294967296 ^ m * (2 ^ s * val (l.take k))) /\ Below w.heap.size w wr) (fun _ _ i _ => l.length - (intOf i).toNat)
 case atStart => exact ⟨0, 0, _, m, m, List.replicate m 0, rfl, by omega, rfl, by omega, rfl, rfl, Hd (by simp), HO, Hd (by intro d hd; rw [List.eq_of_mem_replicate hd]; omega), Hd (by simp [val_zeros, val]), b2⟩
 case round =>
  clear b2 HO
  obtain ⟨k, cy, A, c', q, done, rfl, hk, rfl, hcy, rfl, hqk, HL, HO, HB, HE, hbl⟩ := hrel
  have hs0 := hbl.size
  by_cases hlt : k < l.length
  . obtain ⟨ad, rfl, _, hcell⟩ := (HX.o.below hbl).one (j := k) (by rw [toI_length]; exact hlt)
    rw [rd_toI hlt] at hcell
    have hxlt := HD.o _ (List.getElem_mem hlt)
    rw [show l[k] = l.getD k 0 from by simp [List.getD, hlt]] at hxlt
    have hst := left_step s _ cy hs32 hxlt hcy
    have hvt := val_take_succ hlt
    obtain ⟨x, hx⟩ : ∃ x, x = l.getD k 0 := ⟨_, rfl⟩
    rw [<- hx] at hcell hxlt hst hvt
    obtain ⟨t, ht⟩ : ∃ t, t = x * 2 ^ s := ⟨_, rfl⟩
    rw [<- ht] at hst
    have hti : (x : Int) * 2 ^ s = (t : Int) := by rw [ht]; push_cast; rfl
    have HT := Hd ht
    have HVT := Hd hvt
    obtain ⟨T, hT⟩ : ∃ T, T = t + cy := ⟨_, rfl⟩
    have hwr : IntKind.u64.wrap (IntKind.u64.wrap (t : Int) + (cy : Int)) = (T : Int) := by
     rw [IntKind.wrap_u64, IntKind.wrap_u64, hT]; omega
    have hTd : T / 4294967296 < 4294967296 := by rw [hT]; exact hst.2
    have HTT := Hd hT
    have HTD := Hd hTd
    have HQ := Hd hqk
    have hqb : (q + 1) * 8 <= 140737488355328 := by omega
    have hL := HL.o
    have HOO := Hd (show wr.ownsRow w.heap.size 24 1 (.slice A q c') (toI done).length (nums .u64 (toI done)) by rw [toI_length, hL]; exact HO.o)
    clear ht hx hvt hst hqk hT hTd hL
    go_wp2_with (at_builtin; refine wpList_app1 wr rfl (.tmp 24) (.tmp 27) _ rfl w.heap.size 24 .u64 8 Tryz.underlying41 info64 (by omega) (.slice A q c') (toI done) HOO.o rfl ((T : Int) % 4294967296) rfl (by rw [toI_length, HL.o]; exact hqb) hs0 ?_; intro v3 w3 hown3 hg3 hat3)
    obtain ⟨A3, c3, rfl⟩ := own_slice hown3
    have b3 := below_own hbl hg3 HO.o (Nat.le_refl _) hs0
    go_roundw
    case rel =>
     have e : toI done ++ [(T : Int) % 4294967296] = toI (done ++ [T % 4294967296]) := by rw [toI_app]; simp [toI]
     have hE := HE.o
     refine ⟨k + 1, T / 4294967296, A3, c3, _, done ++ [T % 4294967296], by go_num, by omega, by rw [show IntKind.u64.wrap ((T : Int) / 4294967296) = ((T / 4294967296 : Nat) : Int) from by rw [IntKind.wrap_u64]; have := HTD.o; omega], HTD.o, rfl, by simp [toI_length, HL.o, HQ.o]; omega, Hd (by simp [toI_length]), Hd (by rw [e] at hown3; simpa [toI_length] using hown3), Hd ?_, Hd ?_, b3⟩
     . intro d hd
       rcases List.mem_append.1 hd with h | h
       . exact HB.o d h
       . obtain rfl := List.mem_singleton.1 h; omega
     . rw [val_app, HL.o, HVT.o]
       have hq2 : (toI done ++ [(T : Int) % 4294967296]).length = q + 1 := by simp [toI_length, HL.o]
       rw [hq2, Nat.pow_succ]
       simp only [val, Nat.mul_zero, Nat.add_zero]
       have hTT : T = x * 2 ^ s + cy := by rw [HTT.o, HT.o]
       have e3 : 4294967296 ^ q * (T % 4294967296) + 4294967296 ^ q * 4294967296 * (T / 4294967296) = 4294967296 ^ q * T := by
        rw [Nat.mul_assoc, <- Nat.mul_add, Nat.mod_add_div]
       rw [Nat.add_assoc, e3, hTT, HQ.o, Nat.pow_add]
       rw [HQ.o, Nat.pow_add] at hE
       have e4 : 4294967296 ^ m * 4294967296 ^ k * (x * 2 ^ s + cy) = 4294967296 ^ m * 4294967296 ^ k * (x * 2 ^ s) + 4294967296 ^ m * 4294967296 ^ k * cy := Nat.mul_add ..
       have e5 : 4294967296 ^ m * (2 ^ s * (val (l.take k) + 4294967296 ^ k * x)) = 4294967296 ^ m * (2 ^ s * val (l.take k)) + 4294967296 ^ m * 4294967296 ^ k * (x * 2 ^ s) := by
        rw [Nat.mul_add, Nat.mul_add]; congr 1; ac_rfl
       rw [e4, e5, <- hE]
       omega
    case measure => simp [intOf]; omega
  . have hkl : k = l.length := by omega
    have hqb : (q + 1) * 8 <= 140737488355328 := by omega
    have hL := HL.o
    have HOO := Hd (show wr.ownsRow w.heap.size 24 1 (.slice A q c') (toI done).length (nums .u64 (toI done)) by rw [toI_length, hL]; exact HO.o)
    have HQ := Hd hqk
    clear hqk hL
    go_wp2_with (at_builtin; refine wpList_app1 wr rfl (.tmp 32) (.tmp 34) _ rfl w.heap.size 24 .u64 8 Tryz.underlying41 info64 (by omega) (.slice A q c') (toI done) HOO.o rfl (cy : Int) rfl (by rw [toI_length, HL.o]; exact hqb) hs0 ?_; intro v3 w3 hown3 hg3 hat3)
    obtain ⟨A3, c3, rfl⟩ := own_slice hown3
    have b3 := below_own hbl hg3 HO.o (Nat.le_refl _) hs0
    have hc3 := own_cap hown3
    have hr3 := (RI.of_own hown3).2
    have e : toI done ++ [(cy : Int)] = toI (done ++ [cy]) := by rw [toI_app]; simp [toI]
    rw [e] at hr3 hc3
    have hl3 : (toI (done ++ [cy])).length = (done ++ [cy]).length := toI_length _
    have hdl : ∀ d ∈ done ++ [cy], d < 4294967296 := by
     intro d hd
     rcases List.mem_append.1 hd with h | h
     . exact HB.o d h
     . obtain rfl := List.mem_singleton.1 h; exact hcy
    have hval : val (done ++ [cy]) = a * 2 ^ n := by
     have hE := HE.o
     rw [hkl, List.take_length, HV.o] at hE
     rw [val_app, HL.o]
     simp only [val, Nat.mul_zero, Nat.add_zero]
     rw [hE, HNM.o, Nat.pow_add, Nat.pow_mul]
     rw [show (2 : Nat) ^ 32 = 4294967296 from by decide]
     ac_rfl
    have N := norm_ok A3 c3 w3.heap.size (done ++ [cy]) w3 hr3 (by rw [<- hl3]; simp [toI_length, HL.o]; omega) (by rw [<- hl3]; exact hc3)
    have hm := RI.normed hr3 hdl
    rw [norm_val hdl, hval] at N
    rw [hval] at hm
    have hlen : (digits (a * 2 ^ n)).length <= c3 := by
     rw [<- hval, <- norm_val hdl]
     exact Nat.le_trans (norm_length_le _) (by rw [<- hl3]; exact hc3)
    have N' := Hd (callsCast N (args' := #[.slice A3 (toI done ++ [(cy : Int)]).length c3]) (by rw [e, hl3]))
    clear N hval hdl hl3 e hr3
    refine N'.o.mono ?_
    rintro e' w4 ⟨rfl, rfl⟩
    go_wp2
    go_ret
    exact ⟨_, rfl, A3, c3, rfl, hlen, hm, b3⟩
end Big
end Go.Proofs.YtkdnebalpdebeaaGreatDoor
