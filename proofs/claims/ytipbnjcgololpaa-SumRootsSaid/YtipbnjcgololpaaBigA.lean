import Derived.Test.YtipbnjcgololpaaLib
import Derived.Test.YtipbnjcgololpaaBig
/-! the document's natural numbers: Norm, Word, Compare -/
namespace Go.Proofs.Ytipbnjcgololpaa.Big
open Go.RowKit Go.Deep
set_option linter.unusedVariables false
theorem info64 : (Try.prog.info? 40).map (fun i => (i.zero, i.size, i.bytes)) = some (some (.int .u64 0), 1, 8) := by kernel_rfl
/-- plain digits as the machine has them -/
def toI (l : List Nat) : List Int := l.map Int.ofNat
theorem toI_length (l : List Nat) : (toI l).length = l.length := by simp [toI]
theorem toI_app (l m : List Nat) : toI (l ++ m) = toI l ++ toI m := by simp [toI]
theorem toI_take (l : List Nat) (n : Nat) : toI (l.take n) = (toI l).take n := by simp [toI]
theorem rd_toI {l : List Nat} {i : Nat} (h : i < l.length) : rd (toI l) i = (l.getD i 0 : Nat) := by
  simp [rd, toI, List.getD, h]
/-- a slice that holds the digits of n -/
def Holds (w : World) (B : Nat) (A : Option Addr) (n : Nat) : Prop := RI w B .u64 A (toI (digits n))
theorem Holds.below {w w' : World} {B : Nat} {A : Option Addr} {n : Nat} (h : Holds w B A n) (hb : Below B w w') : Holds w' B A n := RI.below h hb
theorem Holds.more {w : World} {B B' : Nat} {A : Option Addr} {n : Nat} (h : Holds w B A n) (hb : B ≤ B') : Holds w B' A n := RI.more h hb
theorem norm_stop {l : List Nat} {k : Nat} (hk : k ≤ l.length) (hn : norm (l.take k) = norm l) (h0 : 0 < k → l.getD (k - 1) 0 ≠ 0) : (norm l).length = k := by
  rw [← hn, norm_last (fun hl => ?_)]
  · simp; omega
  · have hk0 : 0 < k := by
      rcases Nat.eq_zero_or_pos k with h | h
      · subst h; simp at hl
      · exact h
    have h1 := h0 hk0
    rw [List.getLast_eq_getElem]
    simp only [List.length_take, List.getElem_take]
    have e : min k l.length - 1 = k - 1 := by omega
    simp only [e]
    simpa [List.getD, show k - 1 < l.length by omega] using h1
theorem norm_step {l : List Nat} {k : Nat} (hk : k ≤ l.length) (h0 : 0 < k) (hz : l.getD (k - 1) 0 = 0) : norm (l.take k) = norm (l.take (k - 1)) := by
  obtain ⟨j, rfl⟩ : ∃ j, k = j + 1 := ⟨k - 1, by omega⟩
  rw [Nat.add_sub_cancel] at hz ⊢
  rw [List.take_succ_eq_append_getElem (by omega)]
  have : l[j]'(by omega) = 0 := by simpa [List.getD, show j < l.length by omega] using hz
  rw [this, norm_snoc_zero]
set_option maxRecDepth 100000 in
set_option maxHeartbeats 1000000 in
theorem norm_ok (P : Option Addr) (c B : Nat) (l : List Nat) (w : World) (hx : RI w B .u64 P (toI l)) (hl : l.length ≤ 9223372036854775807) (hc : l.length ≤ c) :
    Calls Try.prog 32 #[.slice P l.length c] w fun e w' => e = .returned (.slice P (norm l).length c) ∧ w = w' := by
  have HX := Lib.hid hx
  clear hx
  go_enter Try.func32, Try.ntmps32
  go_wp2
  go_loop [3] (fun i => ∃ k : Nat, k ≤ l.length ∧ i = .int .i64 k ∧ Hid (norm (l.take k) = norm l)) (fun i => (intOf i).toNat)
  case atStart => exact ⟨l.length, by omega, rfl, Lib.hid (by rw [List.take_length])⟩
  case round =>
    obtain ⟨k, hk, rfl, HN⟩ := hrel
    by_cases h0 : 0 < k
    · obtain ⟨ad, rfl, _, hcell⟩ := HX.out.one (j := k - 1) (by rw [toI_length]; omega)
      rw [rd_toI (by omega)] at hcell
      have hst := norm_stop hk HN.out
      have hsp := norm_step hk h0
      obtain ⟨z, hz⟩ : ∃ z, z = l.getD (k - 1) 0 := ⟨_, rfl⟩
      rw [← hz] at hcell hst hsp
      have h0' : (0 : Int) < k := by omega
      have t1 : ((k : Int) - 1).toNat = k - 1 := by omega
      have t2 : (k : Int) - 1 < l.length := by omega
      have t3 : (1 : Int) ≤ k := by omega
      clear hz
      by_cases hz0 : z = 0
      · have hs := Lib.hid (hsp hz0)
        subst hz0
        clear hst hsp
        go_wp2
        go_round
        case rel => exact ⟨k - 1, by omega, by go_num, Lib.hid (by rw [← hs.out]; exact HN.out)⟩
        case measure => simp [intOf]; omega
      · have hs := Lib.hid (hst (fun _ => hz0))
        have hz1 : ((z : Int) == 0) = false := beq_eq_false_iff_ne.2 (by omega)
        have hkc : k ≤ c := by omega
        clear hst hsp hz0
        go_wp2
        go_ret
        exact ⟨by rw [hs.out]; rfl, rfl⟩
    · have hk0 : k = 0 := by omega
      subst hk0
      have hs := Lib.hid (norm_stop hk HN.out (fun h => by omega))
      clear hk h0
      go_wp2
      go_ret
      exact ⟨by rw [hs.out]; rfl, rfl⟩
/-- a slice of new memory with the digits of n -/
def Made (w w' : World) (v : Value) (n : Nat) : Prop := ∃ A c, v = .slice A (digits n).length c ∧ (digits n).length ≤ c ∧ Holds w' w'.heap.size A n ∧ Below w.heap.size w w'
/-- behind Norm -/
theorem RI.normed {w : World} {B : Nat} {A : Option Addr} {l : List Nat} (h : RI w B .u64 A (toI l)) (hl : ∀ d ∈ l, d < 4294967296) : Holds w B A (val l) := by
  unfold Holds
  rw [← norm_val hl, norm_take, toI_take]
  exact h.take _
set_option maxRecDepth 100000 in
set_option maxHeartbeats 1000000 in
theorem word_ok (n : Nat) (hn : n < 18446744073709551616) (w : World) :
    Calls Try.prog 27 #[.int .u64 (n : Int)] w fun e w' => ∃ v, e = .returned v ∧ Made w w' v n := by
  have hl : ∀ d ∈ [n % 4294967296, n / 4294967296], d < 4294967296 := by intro d hd; simp at hd; omega
  have hv : val [n % 4294967296, n / 4294967296] = n := by simp [val]; omega
  have HL := Lib.hid hl
  have HV := Lib.hid hv
  have hn1 : (n : Int) < 18446744073709551616 := by omega
  clear hl hv
  go_enter Try.func27, Try.ntmps27
  go_wp2_with fail
  have H := norm_ok (some ⟨w.heap.size, 0, none⟩) 2 (w.heap.size + 1) [n % 4294967296, n / 4294967296] (w.alloc (.cells #[.int .u64 ((n : Int) % 4294967296), .int .u64 ((n : Int) / 4294967296)] 40)) ((RI.of_lit (t := 40) (cs := #[.int .u64 ((n : Int) % 4294967296), .int .u64 ((n : Int) / 4294967296)]) (b := w.heap.size) (heap_alloc_new _ _) (by simp [nums, toI])).more (by simp)) (by simp) (by simp)
  rw [norm_val HL.out, HV.out] at H
  refine H.mono ?_
  rintro e w1 ⟨rfl, rfl⟩
  go_wp2
  go_ret
  refine ⟨_, rfl, some ⟨w.heap.size, 0, none⟩, 2, rfl, ?_, ?_, (Below.refl _ _).alloc (Nat.le_refl _) _⟩
  · rw [← HV.out, ← norm_val HL.out]; exact norm_length_le _
  · have := RI.normed (RI.of_lit (t := 40) (cs := #[.int .u64 ((n : Int) % 4294967296), .int .u64 ((n : Int) / 4294967296)]) (w := w.alloc (.cells #[.int .u64 ((n : Int) % 4294967296), .int .u64 ((n : Int) / 4294967296)] 40)) (xs := toI [n % 4294967296, n / 4294967296]) (b := w.heap.size) (heap_alloc_new _ _) (by simp [nums, toI])) HL.out
    rwa [HV.out] at this
set_option maxRecDepth 100000 in
set_option maxHeartbeats 1000000 in
theorem compare_ok (P Q : Option Addr) (c d B : Nat) (a b : Nat) (w : World) (hx : Holds w B P a) (hy : Holds w B Q b) (h1 : (digits a).length ≤ 9223372036854775807) (h2 : (digits b).length ≤ 9223372036854775807) :
    Calls Try.prog 28 #[.slice P (digits a).length c, .slice Q (digits b).length d] w fun e w' => e = .returned (.int .i64 (cmp a b)) ∧ Drew w w' := by
  have HX := Lib.hid (show RI w B .u64 P (toI (digits a)) from hx)
  have HY := Lib.hid (show RI w B .u64 Q (toI (digits b)) from hy)
  clear hx hy
  have hda := digits_lt a
  have hdb := digits_lt b
  have hva := val_digits a
  have hvb := val_digits b
  have hlab := @digits_length_lt a b
  have hlba := @digits_length_lt b a
  have hinj := @digits_inj a b
  have HA := Lib.hid hva
  have HB := Lib.hid hvb
  have HDA := Lib.hid hda
  have HDB := Lib.hid hdb
  have HI := Lib.hid hinj
  clear hda hdb hva hvb hinj
  generalize digits a = l at *
  generalize digits b = m at *
  by_cases hlen : l.length = m.length
  · have e1 : ((l.length : Int) != (m.length : Int)) = false := by simp [hlen]
    have HLN := Lib.hid hlen
    clear hlab hlba hlen
    go_enter Try.func28, Try.ntmps28
    go_wp2_with fail
    go_loopw [5] (fun i wr => ∃ (k : Nat) (t : Int), k ≤ l.length ∧ i = .int .i64 t ∧ Hid (t = (k : Int) - 1) ∧ Hid (l.drop k = m.drop k) ∧ Drew w wr) (fun i _ => (intOf i + 1).toNat)
    case atStart => exact ⟨l.length, (l.length : Int) - 1, by omega, rfl, Lib.hid rfl, Lib.hid (by rw [List.drop_length, HLN.out, List.drop_length]), by repeat (first | exact Drew.refl _ | apply Drew.step)⟩
    case round =>
      obtain ⟨k, t, hk, rfl, HT, HD, ⟨nq, rfl⟩⟩ := hrel
      by_cases h0 : 0 < k
      · obtain ⟨j, rfl⟩ : ∃ j : Nat, t = j := ⟨k - 1, by have := HT.out; omega⟩
        have hjk : k = j + 1 := by have := HT.out; omega
        obtain ⟨ad, rfl, _, ca⟩ := HX.out.one (j := j) (by rw [toI_length]; omega)
        obtain ⟨bd, rfl, _, cb⟩ := HY.out.one (j := j) (by rw [toI_length]; have := HLN.out; omega)
        rw [rd_toI (by omega)] at ca
        rw [rd_toI (by have := HLN.out; omega)] at cb
        have hlt := fun h => val_lt_of (i := j) HLN.out HDA.out (by omega) (by rw [← hjk]; exact HD.out) h
        have hgt := fun h => val_lt_of (i := j) HLN.out.symm HDB.out (by have := HLN.out; omega) (by rw [← hjk]; exact HD.out.symm) h
        have heq : l.getD j 0 = m.getD j 0 → l.drop j = m.drop j := fun h => by
          rw [List.drop_eq_getElem_cons (show j < l.length by omega), List.drop_eq_getElem_cons (show j < m.length by have := HLN.out; omega), ← hjk, HD.out]
          congr 1
          simpa [List.getD, show j < l.length by omega, show j < m.length by have := HLN.out; omega] using h
        obtain ⟨x, hx⟩ : ∃ x, x = l.getD j 0 := ⟨_, rfl⟩
        obtain ⟨y, hy⟩ : ∃ y, y = m.getD j 0 := ⟨_, rfl⟩
        rw [← hx] at ca hlt hgt heq
        rw [← hy] at cb hlt hgt heq
        have g0 : (0 : Int) ≤ j := by omega
        have g3 : j < l.length := by omega
        have g4 : j < m.length := by have := HLN.out; omega
        have g1 : (j : Int) < l.length := by omega
        have g2 : (j : Int) < m.length := by have := HLN.out; omega
        have Hlt := Lib.hid hlt
        have Hgt := Lib.hid hgt
        have Heq := Lib.hid heq
        clear hlt hgt heq hx hy
        by_cases q1 : x < y
        · go_wp2
          repeat (go_quiet (fail); try go_wp2)
          go_ret
          have := Hlt.out q1
          rw [HA.out, HB.out] at this
          exact ⟨by rw [cmp_lt this]; rfl, by repeat (first | exact Drew.refl _ | apply Drew.step)⟩
        · by_cases q2 : y < x
          · go_wp2
            repeat (go_quiet (fail); try go_wp2)
            go_ret
            have := Hgt.out q2
            rw [HA.out, HB.out] at this
            exact ⟨by rw [cmp_gt this]; rfl, by repeat (first | exact Drew.refl _ | apply Drew.step)⟩
          · have q3 : (x : Int) ≤ y := by omega
            have q4 : (y : Int) ≤ x := by omega
            have H3 := Lib.hid (Heq.out (by omega))
            go_wp2
            repeat (go_quiet (fail); try go_wp2)
            go_roundw
            case rel => exact ⟨j, (j : Int) - 1, by omega, rfl, Lib.hid rfl, H3, by repeat (first | exact Drew.refl _ | apply Drew.step)⟩
            case measure => simp [intOf]
      · have hk0 : k = 0 := by omega
        subst hk0
        obtain rfl : t = -1 := by have := HT.out; omega
        have hab : a = b := HI.out (by have := HD.out; simpa using this)
        have HAB := Lib.hid hab
        clear hab
        go_wp2
        go_ret
        exact ⟨by rw [cmp_eq HAB.out]; rfl, by repeat (first | exact Drew.refl _ | apply Drew.step)⟩
  · have e1 : ((l.length : Int) != (m.length : Int)) = true := bne_iff_ne.2 (by omega)
    by_cases h : l.length < m.length
    · have HR := Lib.hid (hlab h)
      clear hlab hlba
      go_enter Try.func28, Try.ntmps28
      go_wp2
      go_ret
      exact ⟨by rw [cmp_lt HR.out]; rfl, Drew.refl _⟩
    · have HR := Lib.hid (hlba (by omega))
      have h' : (m.length : Int) ≤ l.length := by omega
      clear hlab hlba
      go_enter Try.func28, Try.ntmps28
      go_wp2
      go_ret
      exact ⟨by rw [cmp_gt HR.out]; rfl, Drew.refl _⟩
end Go.Proofs.Ytipbnjcgololpaa.Big
