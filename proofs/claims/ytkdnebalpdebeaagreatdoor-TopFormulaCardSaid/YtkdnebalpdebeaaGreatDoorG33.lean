/- Lemmas of a claim: BigG, BigH, BigI, BigJ -/
import Derived.Test.YtkdnebalpdebeaaGreatDoorG32
import Derived.Test.YtkdnebalpdebeaaGreatDoorG13
import Derived.Test.YtkdnebalpdebeaaGreatDoorG21
set_option linter.unusedVariables false
set_option linter.unusedSimpArgs false
set_option maxHeartbeats 16000000
set_option maxRecDepth 100000
namespace Go.Proofs.YtkdnebalpdebeaaGreatDoor
namespace Big
open Go.RowKit Go.Deep
theorem size_ok (P : Option Addr) (c a : Nat) (w : World) (hx : Holds w w.heap.size P a) (hl : (digits a).length <= 1048576) :
 Calls Tryz.prog 128 #[.slice P (digits a).length c] w fun e w' => e = .returned (.int .i64 (szV a : Nat)) /\ w' = w := by
 by_cases ha : a = 0
 . subst ha
   have hd0 : digits 0 = [] := digits_zero
   rw [hd0]
   unfold szV
   go_enter Tryz.func128, Tryz.ntmps128
   go_wp2_with fail
   go_ret
   exact ⟨rfl, rfl⟩
 . have hl0 : 1 <= (digits a).length := by
    rcases Nat.eq_zero_or_pos (digits a).length with h0 | h0
    . exact absurd (digits_nil.1 h0) ha
    . exact h0
   obtain ⟨lo, q1, q2, q3, q4⟩ := last_split ha
   clear q1 q2
   have hsz : szV a = 32 * ((digits a).length - 1) + bl ((digits a).getD ((digits a).length - 1) 0) := by unfold szV; rw [if_neg ha]
   obtain ⟨ad, rfl, _, ca⟩ := (show RI w w.heap.size .u64 P (toI (digits a)) from hx).one (j := (digits a).length - 1) (by rw [toI_length]; omega)
   rw [rd_toI (by omega)] at ca
   obtain ⟨x, hx0⟩ : ∃ x, x = (digits a).getD ((digits a).length - 1) 0 := ⟨_, rfl⟩
   rw [<- hx0] at ca hsz q3 q4
   obtain ⟨n, hn⟩ : ∃ n, n = (digits a).length - 1 := ⟨_, rfl⟩
   rw [show (digits a).length = n + 1 by omega] at hl ⊢
   rw [<- hn] at ca hsz
   have HS := Hd hsz
   have hb32 : bl x <= 32 := bl_le (by simpa using q4)
   have t1 : ((n : Int) + 1 - 1).toNat = n := by omega
   have e1 : (n : Int) + 1 - 1 = n := by omega
   have e0 : ((n : Int) + 1 == 0) = false := beq_eq_false_iff_ne.2 (by omega)
   clear hx hx0 hn hl0 hsz q3
   go_enter Tryz.func128, Tryz.ntmps128
   go_wp2_with fail
   go_loopw [3, 4] (fun s y wr => ∃ (k x' : Nat), s = .int .i64 k /\ y = .int .u64 x' /\ x' <= x /\ k + bl x' = 32 * n + bl x /\ wr = w) (fun _ y _ => (intOf y).toNat)
   case atStart => exact ⟨32 * n, x, by go_num, rfl, by omega, rfl, rfl⟩
   case round =>
    obtain ⟨k, x', rfl, rfl, hx1, hk, hw⟩ := hrel
    obtain rfl := hw.symm
    have HKH := Hd hk
    have hkb : k <= 33554464 := by omega
    clear e0 e1 t1 hw hb32 hk ca
    by_cases h0 : x' = 0
    . have HKK := Hd (show k = szV a by rw [HS.o, <- HKH.o, h0, bl_zero]; rfl)
      have g0 : ¬ (0 : Int) < x' := by omega
      clear h0
      go_wp2_with fail
      go_ret
      first | exact ⟨rfl, rfl⟩ | exact ⟨by rw [HKK.o]; rfl, rfl⟩
    . have hbp := bl_pos h0
      have hk := HKH.o
      have HRES := Hd (show k + 1 + bl (x' / 2) = 32 * n + bl x by omega)
      clear hbp hk
      have g0 : (0 : Int) < x' := by omega
      go_wp2_with fail
      go_roundw
      case rel => exact ⟨k + 1, x' / 2, by go_num, congrArg (Value.int IntKind.u64) (by omega), by omega, HRES.o, by first | rfl | trivial⟩
      case measure => simp [intOf]; omega
end Big
namespace Big
open Go.RowKit Go.Deep
set_option exponentiation.threshold 100
theorem digits_mono {a b : Nat} (h : a <= b) : (digits a).length <= (digits b).length := by
 rcases Nat.lt_or_ge (digits b).length (digits a).length with hl | hl
 . have := digits_length_lt hl; omega
 . exact hl
def Hv (w : World) (v : Value) (n : Nat) : Prop := ∃ A c, v = .slice A (digits n).length c /\ (digits n).length <= c /\ Holds w w.heap.size A n
theorem Made.hv {w w' : World} {v : Value} {n : Nat} (h : Made w w' v n) : Hv w' v n := by
 obtain ⟨A, c, h1, h2, h3, _⟩ := h
 exact ⟨A, c, h1, h2, h3⟩
theorem Made.below {w w' : World} {v : Value} {n : Nat} (h : Made w w' v n) : Below w.heap.size w w' := by
 obtain ⟨A, c, h1, h2, h3, h4⟩ := h
 exact h4
theorem Hv.step {w w' : World} {v : Value} {n : Nat} (h : Hv w v n) (hb : Below w.heap.size w w') : Hv w' v n := by
 obtain ⟨A, c, h1, h2, h3⟩ := h
 exact ⟨A, c, h1, h2, (h3.below hb).more hb.size⟩
theorem Hv.nil (w : World) : Hv w (.slice none 0 0) 0 := by
 refine ⟨none, 0, by rw [digits_zero]; rfl, by rw [digits_zero]; simp, ?_⟩
 unfold Holds
 rw [digits_zero]
 exact RI.nil
theorem results_two {fn : Func} {u v : Tmp} (h : fn.results = #[.tmp u, .tmp v]) (tmps : Array Value) (w : World) {x y : Value} (hx : tmps.getD u undef = x) (hy : tmps.getD v undef = y) : (results fn tmps).run Tryz.prog w = .ok (.tuple #[x, y]) w := by
 subst hx hy
 simp [results, h, go_sem, Result.andThen]
theorem shift_len {a b : Nat} {n : Nat} (h : (n : Int) <= (szV a : Int) - szV b) : (digits (b * 2 ^ n)).length <= (digits a).length := by
 obtain ⟨_, _, a3⟩ := szV_spec a
 obtain ⟨b1, _, _⟩ := szV_spec b
 refine digits_le ?_
 have e : b * 2 ^ n < 2 ^ szV b * 2 ^ n := Nat.mul_lt_mul_of_pos_right b1 (Nat.two_pow_pos n)
 rw [<- Nat.pow_add] at e
 have e2 : 2 ^ (szV b + n) <= 2 ^ (32 * (digits a).length) := Nat.pow_le_pow_right (by omega) (by omega)
 rw [Nat.pow_mul] at e2
 exact Nat.lt_of_lt_of_le e e2
def QI (a b a' q : Nat) (n : Int) : Prop := q * b + a' = a /\ n <= (szV a : Int) - szV b /\ ((n < 0 /\ a' < b) ∨ (0 <= n /\ a' < b * 2 ^ (n.toNat + 1)))
theorem QI.start (a : Nat) {b : Nat} (hb : b ≠ 0) : QI a b a 0 ((szV a : Int) - szV b) := ⟨by omega, Int.le_refl _, quo_start hb⟩
theorem QI.next {a b a' q : Nat} {n : Nat} (h : QI a b a' q n) : (b * 2 ^ n <= a' -> QI a b (a' - b * 2 ^ n) (q + 1 * 2 ^ n) ((n : Int) - 1)) /\ (¬ b * 2 ^ n <= a' -> QI a b a' q ((n : Int) - 1)) := by
 obtain ⟨h1, h2, h3⟩ := h
 have h4 : a' < b * 2 ^ (n + 1) := by
  rcases h3 with ⟨h, _⟩ | ⟨_, h⟩
  . omega
  . simpa using h
 have e5 : b * 2 ^ (n + 1) = b * 2 ^ n + b * 2 ^ n := by rw [Nat.pow_succ, <- Nat.mul_assoc]; omega
 have fin : ∀ x : Nat, x < b * 2 ^ n -> (((n : Int) - 1 < 0 /\ x < b) ∨ (0 <= (n : Int) - 1 /\ x < b * 2 ^ (((n : Int) - 1).toNat + 1))) := by
  intro x hx
  by_cases h0 : n = 0
  . subst h0; exact .inl ⟨by omega, by simpa using hx⟩
  . refine .inr ⟨by omega, ?_⟩
    rw [show ((n : Int) - 1).toNat + 1 = n by omega]; exact hx
 refine ⟨fun hle => ⟨?_, by omega, fin _ (by omega)⟩, fun hlt => ⟨h1, by omega, fin _ (by omega)⟩⟩
 rw [Nat.one_mul, Nat.add_mul, Nat.mul_comm (2 ^ n) b]
 omega
theorem QI.done {a b a' q : Nat} {n : Int} (h : QI a b a' q n) (hn : n < 0) : q = a / b /\ a' = a % b := by
 obtain ⟨h1, h2, h3⟩ := h
 rcases h3 with ⟨_, h⟩ | ⟨h, _⟩
 . exact quo_end h1 h
 . omega
theorem QI.le {a b a' q : Nat} {n : Int} (h : QI a b a' q n) (hb : b ≠ 0) : a' <= a /\ q <= a := by
 obtain ⟨h1, _⟩ := h
 have : q * 1 <= q * b := Nat.mul_le_mul_left q (by omega)
 omega
theorem pow_lt_lenK {n k : Nat} (h : n < 32 * k) : (digits (1 * 2 ^ n)).length <= k := by
 refine digits_le ?_
 have : (2 : Nat) ^ n < 2 ^ (32 * k) := Nat.pow_lt_pow_right (by omega) h
 rw [Nat.pow_mul] at this
 rw [Nat.one_mul]
 exact this
theorem pow_lt_len {n : Nat} (h : n <= 1048575) : (digits (1 * 2 ^ n)).length <= 32768 := pow_lt_lenK (by omega)
theorem quo_ok (P Q : Option Addr) (c d a b : Nat) (hb : b ≠ 0) (w : World) (hx : Holds w w.heap.size P a) (hcap : (digits a).length <= c) (hy : Holds w w.heap.size Q b) (hl : (digits a).length <= 32000) (hm : (digits b).length <= 32000) :
 Calls Tryz.prog 83 #[.slice P (digits a).length c, .slice Q (digits b).length d] w fun e w' => ∃ v u, e = .returned (.tuple #[v, u]) /\ Hv w' v (a / b) /\ Hv w' u (a % b) /\ Below w.heap.size w w' := by
 have HY := Hd hy
 have HX := Hd hx
 obtain ⟨_, _, s1⟩ := szV_spec a
 obtain ⟨_, _, s2⟩ := szV_spec b
 have CS := Hd (size_ok P c a w hx (by omega))
 have CT := Hd (size_ok Q d b w hy (by omega))
 obtain ⟨sa, hsa⟩ : ∃ sa, sa = szV a := ⟨_, rfl⟩
 obtain ⟨sb, hsb⟩ : ∃ sb, sb = szV b := ⟨_, rfl⟩
 have HQ0 : Hi (QI a b a 0 ((sa : Int) - sb)) := Hd (by rw [hsa, hsb]; exact QI.start a hb)
 have HA0 : Hi (Hv w (.slice P (digits a).length c) a) := Hd ⟨P, c, rfl, hcap, hx⟩
 rw [<- hsa] at CS s1
 rw [<- hsb] at CT s2
 have HB := Hd hb
 clear hx hy hsa hsb hcap hb
 obtain ⟨lb, hlb⟩ : ∃ lb, lb = (digits b).length := ⟨_, rfl⟩
 have HLB := Hd hlb
 rw [<- hlb] at CT s2 hm ⊢
 obtain ⟨V0, hV0⟩ : ∃ V0, V0 = Value.slice P (digits a).length c := ⟨_, rfl⟩
 rw [<- hV0] at CS HA0 ⊢
 clear hlb hV0
 go_enter Tryz.func83, Tryz.ntmps83
 go_wp2_with fail
 refine CS.o.mono ?_
 rintro e w1 ⟨rfl, hw⟩
 obtain rfl := hw.symm
 go_wp2_with fail
 refine CT.o.mono ?_
 rintro e w2 ⟨rfl, hw2⟩
 obtain rfl := hw2.symm
 clear CS CT hw hw2
 go_wp2_with fail
 go_loopw [0, 6, 7] (fun av qv nv wr => ∃ (a' q : Nat) (n : Int), nv = .int .i64 n /\ -1024000 <= n /\ n <= 1024000 /\ Hi (QI a b a' q n) /\ Hi (Hv wr av a') /\ Hi (Hv wr qv q) /\ Below w.heap.size w wr) (fun _ _ nv _ => (intOf nv + 1).toNat)
 case atStart => exact ⟨a, 0, (sa : Int) - sb, rfl, by omega, by omega, HQ0, HA0, Hd (Hv.nil w), Below.refl _ _⟩
 case round =>
  clear HQ0 HA0
  obtain ⟨a', q, n, rfl, hn1, hn2, HQ, HA, HV, hbl⟩ := hrel
  have hle := HQ.o.le HB.o
  by_cases h0 : 0 <= n
  . obtain ⟨k, rfl⟩ := Int.eq_ofNat_of_zero_le h0
    have hk : k <= 1024000 := by omega
    have hq1 := HQ.o.2.1
    have hnx := HQ.o.next
    have htl := shift_len hq1
    have HNX := Hd hnx
    obtain ⟨A, c1, rfl, hc1, hA⟩ := HA.o
    obtain ⟨B, c2, rfl, hc2, hB⟩ := HV.o
    have hal := digits_mono hle.1
    have hql := digits_mono hle.2
    have HYr := Hd (show Holds wr w.heap.size Q b from HY.o.below hbl)
    have CL := Hd (left_ok Q d b k wr ((HY.o.below hbl).more hbl.size) (by omega) (by have := HLB.o; omega))
    rw [<- HLB.o] at CL
    have HAA := Hd hA
    have HBB := Hd hB
    obtain ⟨T, hT⟩ : ∃ T, T = b * 2 ^ k := ⟨_, rfl⟩
    rw [<- hT] at CL htl
    have HTT := Hd hT
    obtain ⟨la, hla⟩ : ∃ la, la = (digits a').length := ⟨_, rfl⟩
    obtain ⟨lq, hlq⟩ : ∃ lq, lq = (digits q).length := ⟨_, rfl⟩
    have HLA := Hd hla
    have HLQ := Hd hlq
    have HC1 := Hd hc1
    have HC2 := Hd hc2
    have HAL := Hd hal
    have HQL := Hd hql
    have HTL := Hd htl
    rw [<- hla, <- hlq]
    clear hq1 hnx hA hB hT hla hlq hc1 hc2 hal hql htl HQ HA HV hle
    go_wp2_with fail
    refine CL.o.mono ?_
    rintro e w3 ⟨v3, rfl, hm3⟩
    obtain ⟨A3, c3, rfl, hc3, hA3, hb3⟩ := hm3
    have HA3 := Hd hA3
    have HB3 := Hd (hbl.trans (hb3.mono hbl.size))
    have hAr := (HAA.o.below hb3).more hb3.size
    have hBr := (HBB.o.below hb3).more hb3.size
    have CC := Hd (compare_ok A3 A c3 c1 w3.heap.size T a' w3 hA3 hAr (by have := HTL.o; omega) (by have := HAL.o; omega))
    rw [<- HLA.o] at CC
    obtain ⟨lt, hlt⟩ : ∃ lt, lt = (digits T).length := ⟨_, rfl⟩
    have HLT := Hd hlt
    rw [<- hlt] at CC ⊢
    have HAR := Hd hAr
    have HBR := Hd hBr
    clear CL hA3 hAr hBr hlt hc3 hb3 HAA HBB
    go_wp2_with fail
    refine CC.o.mono ?_
    rintro e w4 ⟨rfl, hd4⟩
    have hb4 : Below w3.heap.size w3 w4 := hd4.below _
    have HA4 := Hd ((HAR.o.below hb4).more hb4.size)
    have HT4 := Hd ((HA3.o.below hb4).more hb4.size)
    have HQ4 := Hd ((HBR.o.below hb4).more hb4.size)
    have HB4 := Hd (HB3.o.trans (hb4.mono HB3.o.size))
    clear CC hd4 hb4 HA3 HAR HBR HB3
    by_cases hle : T <= a'
    . have hcm : cmp T a' <= 0 := by unfold cmp; split; omega; split <;> omega
      have CM := Hd (minus_ok A A3 c1 c3 a' T hle w4 HA4.o HT4.o (by have := HAL.o; omega))
      rw [<- HLA.o, <- HLT.o] at CM
      have HNN : Hi (QI a b (a' - T) (q + 1 * 2 ^ k) ((k : Int) - 1)) := Hd (by rw [HTT.o]; exact HNX.o.1 (by rw [<- HTT.o]; exact hle))
      obtain ⟨cm, hcmq⟩ : ∃ cm, cm = cmp T a' := ⟨_, rfl⟩
      rw [<- hcmq] at hcm ⊢
      clear hcmq
      go_wp2_with fail
      refine CM.o.mono ?_
      rintro e w5 ⟨v5, rfl, hm5⟩
      have HV5 := Hd hm5.hv
      have hb5 := hm5.below
      have HQ5 := Hd ((HQ4.o.below hb5).more hb5.size)
      have HB5 := Hd (HB4.o.trans (hb5.mono HB4.o.size))
      clear CM hm5 hb5 HA4 HT4 HQ4 HB4
      go_wp2_with fail
      refine (word_ok 1 (by omega) w5).mono ?_
      rintro e w6 ⟨v6, rfl, hm6⟩
      obtain ⟨A6, c6, rfl, hc6, hA6, hb6⟩ := hm6
      have HV6 := Hd (HV5.o.step hb6)
      have HQ6 := Hd ((HQ5.o.below hb6).more hb6.size)
      have HB6 := Hd (HB5.o.trans (hb6.mono HB5.o.size))
      have hd1 : (digits 1).length <= 1 := digits_le (by decide)
      have CL := Hd (left_ok A6 c6 1 k w6 hA6 (by omega) (by omega))
      obtain ⟨l1, hl1⟩ : ∃ l1, l1 = (digits 1).length := ⟨_, rfl⟩
      rw [<- hl1] at CL ⊢
      clear hc6 hA6 hb6 hd1 hl1 HV5 HQ5 HB5
      go_wp2_with fail
      refine CL.o.mono ?_
      rintro e w7 ⟨v7, rfl, hm7⟩
      obtain ⟨A7, c7, rfl, hc7, hA7, hb7⟩ := hm7
      have HV7 := Hd (HV6.o.step hb7)
      have HB7 := Hd (HB6.o.trans (hb7.mono HB6.o.size))
      have CP := Hd (plus_ok B A7 c2 c7 q (1 * 2 ^ k) w7 ((HQ6.o.below hb7).more hb7.size) hA7 (by have := HQL.o; omega) (Nat.le_trans (pow_lt_len (by omega)) (by omega)))
      obtain ⟨l7, hl7⟩ : ∃ l7, l7 = (digits (1 * 2 ^ k)).length := ⟨_, rfl⟩
      rw [<- hl7, <- HLQ.o] at CP
      rw [<- hl7]
      clear CL hc7 hA7 hb7 hl7 HV6 HQ6 HB6
      go_wp2_with fail
      refine CP.o.mono ?_
      rintro e w8 ⟨v8, rfl, hm8⟩
      have HV8 := Hd (HV7.o.step hm8.below)
      have HQ8 := Hd hm8.hv
      have HB8 := Hd (HB7.o.trans (hm8.below.mono HB7.o.size))
      clear CP hm8 HV7 HB7
      go_wp2_with fail
      go_roundw
      case rel => exact ⟨a' - T, q + 1 * 2 ^ k, (k : Int) - 1, by go_num, by omega, by omega, HNN, HV8, HQ8, HB8.o⟩
      case measure => first | (simp [intOf]; done) | (simp [intOf]; omega)
    . have hcm : ¬ cmp T a' <= 0 := by unfold cmp; split; omega; split <;> omega
      have HNN : Hi (QI a b a' q ((k : Int) - 1)) := Hd (HNX.o.2 (by rw [<- HTT.o]; exact hle))
      obtain ⟨cm, hcmq⟩ : ∃ cm, cm = cmp T a' := ⟨_, rfl⟩
      rw [<- hcmq] at hcm ⊢
      clear hcmq
      go_wp2_with fail
      go_roundw
      case rel => exact ⟨a', q, (k : Int) - 1, by go_num, by omega, by omega, HNN, Hd ⟨A, c1, by rw [HLA.o], HC1.o, HA4.o⟩, Hd ⟨B, c2, by rw [HLQ.o], HC2.o, HQ4.o⟩, HB4.o⟩
      case measure => first | (simp [intOf]; done) | (simp [intOf]; omega)
  . obtain ⟨hd1, hd2⟩ := HQ.o.done (by omega)
    obtain ⟨A, c1, rfl, hc1, hA⟩ := HA.o
    have hnn : norm (digits a') = digits a' := by rw [norm_val (digits_lt a'), val_digits]
    have CN := norm_ok A c1 wr.heap.size (digits a') wr hA (by have := digits_mono hle.1; omega) hc1
    rw [hnn] at CN
    have CN := Hd CN
    have HD1 := Hd hd1
    have HD2 := Hd hd2
    clear hd1 hd2 hA hc1 hnn hle
    obtain ⟨la, hla⟩ : ∃ la, la = (digits a').length := ⟨_, rfl⟩
    rw [<- hla] at CN HA ⊢
    clear hla
    go_wp2_with fail
    refine CN.o.mono ?_
    rintro e w3 ⟨rfl, hw3⟩
    obtain rfl := hw3
    go_wp2_with fail
    refine bodyPost_ret (results_two rfl _ _ rfl rfl) rfl ⟨_, _, rfl, ?_, ?_, hbl⟩
    . rw [<- HD1.o]; exact HV.o
    . rw [<- HD2.o]; exact HA.o
end Big
namespace Big
open Go.RowKit Go.Deep Mp
def intZ : Array Value := #[.bool false, .slice none 0 0]
theorem intZ_no : ∀ (i : Nat) (k : IntKind) (x : Int), intZ[i]? ≠ some (.int k x) := by
 intro i k x h
 have hi : i < 2 := (Array.getElem?_eq_some_iff.1 h).1
 have : i = 0 ∨ i = 1 := by omega
 rcases this with rfl | rfl <;> cases h
theorem ten_lt (k : Nat) : (digits (10 ^ k)).length <= k + 1 := by
 refine digits_le ?_
 rw [Nat.pow_succ]
 have : 10 ^ k <= 4294967296 ^ k := Nat.pow_le_pow_left (by omega) k
 have : 0 < 4294967296 ^ k := Nat.pow_pos (by omega)
 omega
theorem rten_ok (n : Nat) (hn : n <= 1000) (w : World) : Calls Tryz.prog 38 #[.int .i64 (n : Int)] w fun e w' => ∃ v, e = .returned v /\ Made w w' v (10 ^ n) := by
 go_enter Tryz.func38, Tryz.ntmps38
 go_wp2_with fail
 refine (word_ok 1 (by omega) w).mono ?_
 rintro e w1 ⟨v1, rfl, hm1⟩
 have HV1 := Hd hm1.hv
 have HB1 := Hd hm1.below
 clear hm1
 go_wp2_with fail
 go_loopw [3, 6] (fun v i wr => ∃ k : Nat, i = .int .i64 k /\ k <= n /\ Hi (Hv wr v (10 ^ k)) /\ Hi (Below w.heap.size w wr)) (fun _ i _ => n - (intOf i).toNat)
 case atStart => exact ⟨0, rfl, by omega, Hd (by rw [Nat.pow_zero]; exact HV1.o), HB1⟩
 case round =>
  clear HV1 HB1
  obtain ⟨k, rfl, hk, HV, HB⟩ := hrel
  by_cases h : k < n
  . go_wp2_with fail
    refine (word_ok 10 (by omega) wr).mono ?_
    rintro e w2 ⟨v2, rfl, hm2⟩
    obtain ⟨A2, c2, rfl, hc2, hA2, hb2⟩ := hm2
    obtain ⟨A, c, rfl, hc, hA⟩ := HV.o.step hb2
    have h1 := ten_lt k
    have h2 := ten_lt 1
    have CT := Hd (times_ok A A2 c c2 (10 ^ k) 10 w2 hA hA2 (by omega) (by simpa using Nat.le_trans h2 (by omega)))
    have HB2 := Hd (HB.o.trans (hb2.mono HB.o.size))
    obtain ⟨l1, hl1⟩ : ∃ l, l = (digits (10 ^ k)).length := ⟨_, rfl⟩
    obtain ⟨l2, hl2⟩ : ∃ l, l = (digits 10).length := ⟨_, rfl⟩
    rw [<- hl1, <- hl2] at CT
    rw [<- hl1, <- hl2]
    clear hA hA2 hc hc2 hb2 h1 h2 hl1 hl2 HV HB
    go_wp2_with fail
    refine CT.o.mono ?_
    rintro e w3 ⟨v3, rfl, hm3⟩
    have HV3 := Hd hm3.hv
    have HB3 := Hd (HB2.o.trans (hm3.below.mono HB2.o.size))
    clear hm3 HB2 CT
    go_wp2_with fail
    go_roundw
    case rel => exact ⟨k + 1, by go_num, by omega, Hd (by rw [Nat.pow_succ]; exact HV3.o), HB3⟩
    case measure => simp [intOf]; omega
  . obtain rfl : k = n := by omega
    go_wp2_with fail
    go_ret
    obtain ⟨A, c, rfl, hc, hA⟩ := HV.o
    exact ⟨_, rfl, A, c, rfl, hc, hA, HB.o⟩
theorem Holds.turn {w w' : World} {g n : Nat} {o : Obj} {cs : Array Value} {t : TypeId} {A : Option Addr} (h : Holds w w.heap.size A n) (hg : w.heap[g]? = some (.cells cs t)) (hcs : ∀ (i : Nat) (k : IntKind) (x : Int), cs[i]? ≠ some (.int k x)) (ht : Turn w g o w') : Holds w' w'.heap.size A n := by
 refine ⟨h.1, fun hn => ?_⟩
 obtain ⟨ad, e, hb, hc⟩ := h.2 hn
 have hne : ad.block ≠ g := by
  intro e2
  obtain ⟨u, hu⟩ : ∃ u : Int, (nums IntKind.u64 (toI (digits n)))[0]? = some (.int .u64 u) := by
   cases hd : toI (digits n) with
   | nil => rw [hd] at hn; simp at hn
   | cons x xs => exact ⟨x, rfl⟩
  have h0 := hc 0 _ hu
  unfold World.cell? at h0
  rw [show (ad.add 0).block = ad.block from rfl, e2, hg] at h0
  simp only at h0
  split at h0
  . cases h0
  . exact hcs _ _ _ h0
 have hsz := ht.keep.size
 exact ⟨ad, e, by omega, fun j u hu => (World.cell?_of_block (a := ad.add j) (by rw [show (ad.add j).block = ad.block from by unfold Addr.add; split <;> rfl]; exact ht.far _ hne)).trans (hc j u hu)⟩
def IV (w : World) (v : Value) (n : Nat) : Prop := ∃ A c, v = .agg #[.bool false, .slice A (digits n).length c] /\ (digits n).length <= c /\ Holds w w.heap.size A n
theorem IV.step {w w' : World} {v : Value} {n : Nat} (h : IV w v n) (hb : Below w.heap.size w w') : IV w' v n := by
 obtain ⟨A, c, h1, h2, h3⟩ := h
 exact ⟨A, c, h1, h2, (h3.below hb).more hb.size⟩
theorem made_ok (n : Int) (hn : 0 <= n /\ n <= 9223372036854775807) (w : World) : Calls Tryz.prog 33 #[.int .i64 n] w fun e w' => (∃ v, e = .returned v /\ IV w' v n.toNat) /\ Below w.heap.size w w' := by
 obtain ⟨n1, n2⟩ := hn
 have hw : IntKind.u64.wrap n = n := by simp only [IntKind.wrap_u64]; omega
 have hlt : ¬ n < 0 := by omega
 have CW := Hd (fun w => word_ok n.toNat (by omega) w)
 rw [show ((n.toNat : Nat) : Int) = n by omega] at CW
 have H1 := Hd ((HasO.start [] w).new rfl (.cells intZ 43))
 go_enter Tryz.func33, Tryz.ntmps33
 go_wp2_with fail
 refine (CW.o _).mono ?_
 rintro e w2 ⟨v, rfl, hm⟩
 obtain ⟨A, c, rfl, hc, hA, hb⟩ := hm
 have H2 := Hd (H1.o.step hb)
 have HA := Hd hA
 obtain ⟨l, hl⟩ : ∃ l, l = (digits n.toNat).length := ⟨_, rfl⟩
 have HL := Hd hl
 rw [<- hl] at hc ⊢
 clear hA hb hl H1 CW
 go_wp2_with (refine wpList_turn rfl 43 (.tmp 2) (.tmp 13) rfl w.heap.size 0 (.agg #[.bool false, .slice A l c]) rfl rfl 43 intZ #[.bool false, .slice A l c] (H2.o.get 0 rfl) (by kernel_rfl) (by simp [Value.cells, intZ]) (by simp [Value.cells, Value.oneCell', intZ]) rfl ?_; intro W3 HT3)
 have hk := H2.o.1.trans HT3.keep (by simp)
 exact bodyPost_ret (results_cell_row rfl _ _ w.heap.size 43 #[.bool false, .slice A l c] (0, 0) _ rfl HT3.at_ Tryz.underlying43 rfl (by kernel_rfl)) rfl ⟨⟨_, rfl, A, c, by rw [HL.o], by rw [<- HL.o]; exact hc, HA.o.turn (H2.o.obj 0 rfl) intZ_no HT3⟩, hk.below⟩
theorem product_ok (v u : Value) (a b : Nat) (hla : (digits a).length <= 1000) (hlb : (digits b).length <= 1000) (w : World) (hv : IV w v a) (hu : IV w u b) :
 Calls Tryz.prog 32 #[v, u] w fun e w' => (∃ z, e = .returned z /\ IV w' z (a * b)) /\ Below w.heap.size w w' := by
 obtain ⟨A, c, rfl, hc, hA⟩ := hv
 obtain ⟨B, d, rfl, hd, hB⟩ := hu
 have CT := Hd (fun w' (hb : Below w.heap.size w w') => times_ok A B c d a b w' ((hA.below hb).more hb.size) ((hB.below hb).more hb.size) (by omega) (by omega))
 obtain ⟨la, hl1⟩ : ∃ l, l = (digits a).length := ⟨_, rfl⟩
 obtain ⟨lb, hl2⟩ : ∃ l, l = (digits b).length := ⟨_, rfl⟩
 rw [<- hl1, <- hl2] at CT
 rw [<- hl1] at hc ⊢
 rw [<- hl2] at hd ⊢
 clear hla hlb hl1 hl2 hA hB
 have H1 := Hd ((((HasO.start [] w).new rfl (.cells #[.bool false, .slice A la c] 43)).new (g := w.heap.size + 1) (by simp) (.cells #[.bool false, .slice B lb d] 43)).new (g := w.heap.size + 2) (by simp) (.cells intZ 43))
 obtain ⟨x, hx⟩ : ∃ x, x = w.heap.size := ⟨_, rfl⟩
 have HX := Hd hx
 go_enter Tryz.func32, Tryz.ntmps32
 go_wp2_with fail
 obtain ⟨y, hy⟩ : ∃ y, y = w.heap.size + 1 := ⟨_, rfl⟩
 obtain ⟨r, hr⟩ : ∃ r, r = w.heap.size + 2 := ⟨_, rfl⟩
 rw [show w.heap.size + 1 + 1 = w.heap.size + 2 from rfl, <- hy, <- hr, <- hx]
 rw [<- hy, <- hr, <- hx] at H1
 have HR := Hd (show w.heap.size <= r by omega)
 clear hx hy hr
 refine wp_region_regL (fun w' => HasO [] w [(r, .cells intZ 43), (y, .cells #[.bool false, .slice B lb d] 43), (x, .cells #[.bool false, .slice A la c] 43)] w') (fun w' => HasO [] w [(r, .cells intZ 43), (y, .cells #[.bool false, .slice B lb d] 43), (x, .cells #[.bool false, .slice A la c] 43)] w') (fun _ => (0, #[])) [0, 1, 2, 3, 4, 5, 6, 7, 8] [] [9, 10, 11] [0, 1, 2, 3, 4, 5, 6, 7, 8] (by kernel_rfl) (by kernel_rfl) ?_ (fun w w' h hb => h.step hb) ?_ (fun k hk => by cases hk) ?_
 . exact fun w h => h
 . exact H1.o.drew
 simp only [List.map_cons, List.map_nil, opAt, List.getElem?_cons_succ, List.getElem?_cons_zero, Option.getD_some, List.contains_cons, List.contains_nil, Nat.reduceBEq, Bool.or_false, Bool.or_true, Bool.true_or, Bool.false_or]
 repeat (refine wpX_float rfl ?_; go_big_quiet_step ((intro _; rfl)); refine wpQuiet_nil ?_)
 refine wpX_float rfl ?_
 refine wpQuiet_cell 4 (.tmp 5) rfl rfl ⟨x, 0, none⟩ rfl (.bool false) _ (fun w hw => (hw.get 2 rfl).cell 0) Tryz.underlying4 rfl (fun K1 k1 => ?_)
 go_simp
 refine k1 _ ?_
 clear k1 K1
 refine wpQuiet_nil ?_
 repeat (refine wpX_float rfl ?_; go_big_quiet_step ((intro _; rfl)); refine wpQuiet_nil ?_)
 refine wpX_float rfl ?_
 refine wpQuiet_cell 4 (.tmp 7) rfl rfl ⟨y, 0, none⟩ rfl (.bool false) _ (fun w hw => (hw.get 1 rfl).cell 0) Tryz.underlying4 rfl (fun K1 k1 => ?_)
 go_simp
 refine k1 _ ?_
 clear k1 K1
 refine wpQuiet_nil ?_
 repeat (refine wpX_float rfl ?_; go_big_quiet_step ((intro _; rfl)); refine wpQuiet_nil ?_)
 refine wpX_float rfl ?_
 refine wpQuiet_cell 41 (.tmp 10) rfl rfl ⟨x, 1, none⟩ rfl (.slice A la c) _ (fun w hw => (hw.get 2 rfl).cell 1) Tryz.underlying41 rfl (fun K1 k1 => ?_)
 go_simp
 refine k1 _ ?_
 clear k1 K1
 refine wpQuiet_nil ?_
 repeat (refine wpX_float rfl ?_; go_big_quiet_step ((intro _; rfl)); refine wpQuiet_nil ?_)
 refine wpX_float rfl ?_
 refine wpQuiet_cell 41 (.tmp 12) rfl rfl ⟨y, 1, none⟩ rfl (.slice B lb d) _ (fun w hw => (hw.get 1 rfl).cell 1) Tryz.underlying41 rfl (fun K1 k1 => ?_)
 go_simp
 refine k1 _ ?_
 clear k1 K1
 refine wpQuiet_nil ?_
 refine wpX_nil ?_
 intro gs w8 H8
 intro hmade
 simp only [putAll, wpTailL, opAt, List.getElem?_cons_succ, List.getElem?_cons_zero, Option.getD_some, Act.put]
 have H8 := Hd H8
 clear hmade H1
 go_wp2_with fail
 refine (CT.o _ H8.o.1.below).mono ?_
 rintro e w9 ⟨z, rfl, hm9⟩
 obtain ⟨Z, cz, rfl, hcz, hZ, hb9⟩ := hm9
 have H9 := Hd (H8.o.step hb9)
 have HZ := Hd hZ
 obtain ⟨lz, hlz⟩ : ∃ l, l = (digits (a * b)).length := ⟨_, rfl⟩
 have HLZ := Hd hlz
 rw [<- hlz] at hcz ⊢
 clear hZ hb9 hlz H8 CT
 go_wp2_with fail
 refine ⟨fun _ => H9.o, ?_⟩
 go_wp2_with fail
 refine ⟨fun _ => H9.o, ?_⟩
 go_wp2_with (refine wpList_turn rfl 43 (.tmp 4) (.tmp 15) rfl r 0 (.agg #[.bool false, .slice Z lz cz]) rfl rfl 43 intZ #[.bool false, .slice Z lz cz] (H9.o.get 0 rfl) (by kernel_rfl) (by simp [Value.cells, intZ]) (by simp [Value.cells, Value.oneCell', intZ]) rfl ?_; intro W10 HT10)
 rw [onlyNormal_normal]
 go_wp2_with fail
 have hk := H9.o.1.trans HT10.keep (by intro k hk; simp only [List.mem_singleton] at hk; subst hk; exact .inr HR.o)
 exact bodyPost_ret (results_cell_row rfl _ _ r 43 #[.bool false, .slice Z lz cz] (0, 0) _ rfl HT10.at_ Tryz.underlying43 rfl (by kernel_rfl)) rfl ⟨⟨_, rfl, Z, cz, by rw [HLZ.o], by rw [<- HLZ.o]; exact hcz, HZ.o.turn (H9.o.obj 0 rfl) intZ_no HT10⟩, hk.below⟩
theorem sum_ok (v u : Value) (a b : Nat) (hla : (digits a).length <= 1000) (hlb : (digits b).length <= 1000) (w : World) (hv : IV w v a) (hu : IV w u b) :
 Calls Tryz.prog 31 #[v, u] w fun e w' => (∃ z, e = .returned z /\ IV w' z (a + b)) /\ Below w.heap.size w w' := by
 obtain ⟨A, c, rfl, hc, hA⟩ := hv
 obtain ⟨B, d, rfl, hd, hB⟩ := hu
 have CT := Hd (fun w' (hb : Below w.heap.size w w') => plus_ok A B c d a b w' ((hA.below hb).more hb.size) ((hB.below hb).more hb.size) (by omega) (by omega))
 obtain ⟨la, hl1⟩ : ∃ l, l = (digits a).length := ⟨_, rfl⟩
 obtain ⟨lb, hl2⟩ : ∃ l, l = (digits b).length := ⟨_, rfl⟩
 rw [<- hl1, <- hl2] at CT
 rw [<- hl1] at hc ⊢
 rw [<- hl2] at hd ⊢
 clear hla hlb hl1 hl2 hA hB
 have H1 := Hd ((((HasO.start [] w).new rfl (.cells #[.bool false, .slice A la c] 43)).new (g := w.heap.size + 1) (by simp) (.cells #[.bool false, .slice B lb d] 43)).new (g := w.heap.size + 2) (by simp) (.cells intZ 43))
 obtain ⟨x, hx⟩ : ∃ x, x = w.heap.size := ⟨_, rfl⟩
 have HX := Hd hx
 go_enter Tryz.func31, Tryz.ntmps31
 go_wp2_with fail
 obtain ⟨y, hy⟩ : ∃ y, y = w.heap.size + 1 := ⟨_, rfl⟩
 obtain ⟨r, hr⟩ : ∃ r, r = w.heap.size + 2 := ⟨_, rfl⟩
 rw [show w.heap.size + 1 + 1 = w.heap.size + 2 from rfl, <- hy, <- hr, <- hx]
 rw [<- hy, <- hr, <- hx] at H1
 have HR := Hd (show w.heap.size <= r by omega)
 clear hx hy hr
 go_wp2_with (first
  | (refine wpListG_cell rfl 4 (.tmp 5) rfl x 0 rfl 43 #[.bool false, .slice A la c] (.bool false) rfl _ (H1.o.get 2 rfl) Tryz.underlying4 rfl ?_)
  | (refine wpListG_cell rfl 4 (.tmp 7) rfl y 0 rfl 43 #[.bool false, .slice B lb d] (.bool false) rfl _ (H1.o.get 1 rfl) Tryz.underlying4 rfl ?_))
 refine wp_region_regL (fun w' => HasO [] w [(r, .cells intZ 43), (y, .cells #[.bool false, .slice B lb d] 43), (x, .cells #[.bool false, .slice A la c] 43)] w') (fun w' => HasO [] w [(r, .cells intZ 43), (y, .cells #[.bool false, .slice B lb d] 43), (x, .cells #[.bool false, .slice A la c] 43)] w') (fun _ => (0, #[])) [0, 1, 2, 3, 4, 5] [] [6, 7, 8] [0, 1, 2, 3, 4, 5] (by kernel_rfl) (by kernel_rfl) ?_ (fun w w' h hb => h.step hb) ?_ (fun k hk => by cases hk) ?_
 . exact fun w h => h
 . exact H1.o.drew
 simp only [List.map_cons, List.map_nil, opAt, List.getElem?_cons_succ, List.getElem?_cons_zero, Option.getD_some, List.contains_cons, List.contains_nil, Nat.reduceBEq, Bool.or_false, Bool.or_true, Bool.true_or, Bool.false_or]
 repeat (refine wpX_float rfl ?_; go_big_quiet_step ((intro _; rfl)); refine wpQuiet_nil ?_)
 refine wpX_float rfl ?_
 refine wpQuiet_cell 4 (.tmp 10) rfl rfl ⟨x, 0, none⟩ rfl (.bool false) _ (fun w hw => (hw.get 2 rfl).cell 0) Tryz.underlying4 rfl (fun K1 k1 => ?_)
 go_simp
 refine k1 _ ?_
 clear k1 K1
 refine wpQuiet_nil ?_
 repeat (refine wpX_float rfl ?_; go_big_quiet_step ((intro _; rfl)); refine wpQuiet_nil ?_)
 refine wpX_float rfl ?_
 refine wpQuiet_cell 41 (.tmp 12) rfl rfl ⟨x, 1, none⟩ rfl (.slice A la c) _ (fun w hw => (hw.get 2 rfl).cell 1) Tryz.underlying41 rfl (fun K1 k1 => ?_)
 go_simp
 refine k1 _ ?_
 clear k1 K1
 refine wpQuiet_nil ?_
 repeat (refine wpX_float rfl ?_; go_big_quiet_step ((intro _; rfl)); refine wpQuiet_nil ?_)
 refine wpX_float rfl ?_
 refine wpQuiet_cell 41 (.tmp 14) rfl rfl ⟨y, 1, none⟩ rfl (.slice B lb d) _ (fun w hw => (hw.get 1 rfl).cell 1) Tryz.underlying41 rfl (fun K1 k1 => ?_)
 go_simp
 refine k1 _ ?_
 clear k1 K1
 refine wpQuiet_nil ?_
 refine wpX_nil ?_
 intro gs w8 H8
 intro hmade
 simp only [putAll, wpTailL, opAt, List.getElem?_cons_succ, List.getElem?_cons_zero, Option.getD_some, Act.put]
 have H8 := Hd H8
 clear hmade H1
 go_wp2_with fail
 refine (CT.o _ H8.o.1.below).mono ?_
 rintro e w9 ⟨z, rfl, hm9⟩
 obtain ⟨Z, cz, rfl, hcz, hZ, hb9⟩ := hm9
 have H9 := Hd (H8.o.step hb9)
 have HZ := Hd hZ
 obtain ⟨lz, hlz⟩ : ∃ l, l = (digits (a + b)).length := ⟨_, rfl⟩
 have HLZ := Hd hlz
 rw [<- hlz] at hcz ⊢
 clear hZ hb9 hlz H8 CT
 go_wp2_with fail
 refine ⟨fun _ => H9.o, ?_⟩
 go_wp2_with fail
 refine ⟨fun _ => H9.o, ?_⟩
 go_wp2_with (refine wpList_turn rfl 43 (.tmp 4) (.tmp 17) rfl r 0 (.agg #[.bool false, .slice Z lz cz]) rfl rfl 43 intZ #[.bool false, .slice Z lz cz] (H9.o.get 0 rfl) (by kernel_rfl) (by simp [Value.cells, intZ]) (by simp [Value.cells, Value.oneCell', intZ]) rfl ?_; intro W10 HT10)
 rw [onlyNormal_normal]
 go_wp2_with fail
 have hk := H9.o.1.trans HT10.keep (by intro k hk; simp only [List.mem_singleton] at hk; subst hk; exact .inr HR.o)
 exact bodyPost_ret (results_cell_row rfl _ _ r 43 #[.bool false, .slice Z lz cz] (0, 0) _ rfl HT10.at_ Tryz.underlying43 rfl (by kernel_rfl)) rfl ⟨⟨_, rfl, Z, cz, by rw [HLZ.o], by rw [<- HLZ.o]; exact hcz, HZ.o.turn (H9.o.obj 0 rfl) intZ_no HT10⟩, hk.below⟩
end Big
namespace Big
open Go.RowKit Go.Deep Mp
theorem val_drop_lt {l : List Nat} {k : Nat} (h : val l < 18446744073709551616) (hk : k <= l.length) : val (l.drop k) < 18446744073709551616 := by
 have e : val l = val (l.take k) + 4294967296 ^ k * val (l.drop k) := by
  have := val_app (l.take k) (l.drop k)
  rw [List.take_append_drop, List.length_take, Nat.min_eq_left hk] at this
  exact this
 have : 1 * val (l.drop k) <= 4294967296 ^ k * val (l.drop k) := Nat.mul_le_mul_right _ (Nat.pow_pos (by omega))
 omega
theorem val_drop_succ {l : List Nat} {k : Nat} (h : k < l.length) : val (l.drop k) = l.getD k 0 + 4294967296 * val (l.drop (k + 1)) := by
 rw [List.drop_eq_getElem_cons h, val]
 simp [List.getD, h]
theorem fits_ok (P : Option Addr) (c a : Nat) (w : World) (ha : a < 18446744073709551616) (hx : Holds w w.heap.size P a) :
 Calls Tryz.prog 75 #[.slice P (digits a).length c] w fun e w' => e = .returned (.tuple #[.int .u64 (a : Nat), .bool true]) /\ w' = w := by
 have hl : (digits a).length <= 2 := digits_le (by simpa using ha)
 have HX := Hd (show RI w w.heap.size .u64 P (toI (digits a)) from hx)
 have HV := Hd (val_digits a)
 have HA := Hd ha
 clear hx
 generalize digits a = l at *
 have hl2 : ((l.length : Int) <= 2) := by omega
 go_enter Tryz.func75, Tryz.ntmps75
 go_wp2_with fail
 go_loopw [4, 5] (fun y i wr => ∃ (k : Nat) (t : Int) (m : Nat), k <= l.length /\ i = .int .i64 t /\ Hi (t = (k : Int) - 1) /\ y = .int .u64 m /\ Hi (m = val (l.drop k)) /\ wr = w) (fun _ i _ => (intOf i + 1).toNat)
 case atStart => exact ⟨l.length, (l.length : Int) - 1, 0, by omega, rfl, Hd rfl, rfl, Hd (by rw [List.drop_length]; rfl), rfl⟩
 case round =>
  obtain ⟨k, t, m, hk, rfl, HT, rfl, HM, hw⟩ := hrel
  obtain rfl := hw.symm
  by_cases h0 : 0 < k
  . obtain ⟨j, rfl⟩ : ∃ j : Nat, t = j := ⟨k - 1, by have := HT.o; omega⟩
    have hjk : k = j + 1 := by have := HT.o; omega
    obtain ⟨ad, rfl, _, ca⟩ := HX.o.one (j := j) (by rw [toI_length]; omega)
    rw [rd_toI (by omega)] at ca
    have hs := val_drop_succ (l := l) (k := j) (by omega)
    have hlt := val_drop_lt (l := l) (k := j) (by rw [HV.o]; exact HA.o) (by omega)
    have hm := HM.o
    rw [hjk] at hm
    rw [<- hm] at hs
    obtain ⟨x, hx⟩ : ∃ x, x = l.getD j 0 := ⟨_, rfl⟩
    rw [<- hx] at ca hs
    have HS := Hd hs
    have hb : (m : Int) * 4294967296 + x < 18446744073709551616 := by omega
    have gj : (j : Int) < l.length := by omega
    have hm0 : (m : Int) * 4294967296 < 18446744073709551616 := by omega
    clear hx hs hlt hm hw
    go_wp2_with fail
    go_roundw
    case rel => exact ⟨j, (j : Int) - 1, x + 4294967296 * m, by omega, by go_num, Hd rfl, congrArg (Value.int IntKind.u64) (by omega), Hd HS.o.symm, by first | rfl | trivial⟩
    case measure => first | (simp [intOf]; done) | (simp [intOf]; omega)
  . obtain rfl : k = 0 := by omega
    obtain rfl : t = -1 := by have := HT.o; omega
    have HMM := Hd (show m = a by rw [HM.o, List.drop_zero, HV.o])
    clear hw
    go_wp2_with fail
    refine bodyPost_ret (results_two rfl _ _ rfl rfl) rfl ⟨?_, by first | rfl | trivial⟩
    rw [HMM.o]; rfl
theorem small_ok (v : Value) (a : Nat) (w : World) (ha : a <= 9223372036854775807) (hv : IV w v a) :
 Calls Tryz.prog 29 #[v] w fun e w' => e = .returned (.tuple #[.int .i64 (a : Nat), .bool true]) /\ Below w.heap.size w w' := by
 obtain ⟨A, c, rfl, hc, hA⟩ := hv
 have CF := Hd (fun w' (hb : Below w.heap.size w w') => fits_ok A c a w' (by omega) ((hA.below hb).more hb.size))
 obtain ⟨la, hl1⟩ : ∃ l, l = (digits a).length := ⟨_, rfl⟩
 rw [<- hl1] at CF ⊢
 have H1 := Hd ((HasO.start [] w).new rfl (.cells #[.bool false, .slice A la c] 43))
 have g1 : ¬ (9223372036854775808 : Int) < a := by omega
 have g2 : ((a : Int) == 9223372036854775808) = false := beq_eq_false_iff_ne.2 (by omega)
 have g3 : IntKind.i64.wrap (a : Int) = a := IntWalk.i64_in _ (by omega)
 clear hl1 hA hc
 go_enter Tryz.func29, Tryz.ntmps29
 go_wp2_with (refine wpListG_cell rfl 41 (.tmp 7) rfl w.heap.size 1 rfl 43 #[.bool false, .slice A la c] (.slice A la c) rfl _ (H1.o.get 0 rfl) Tryz.underlying41 rfl ?_)
 refine (CF.o _ H1.o.1.below).mono ?_
 rintro e w2 ⟨rfl, hw⟩
 obtain rfl := hw.symm
 clear CF hw
 go_wp2_with (refine wpListG_cell rfl 4 (.tmp 27) rfl w.heap.size 0 rfl 43 #[.bool false, .slice A la c] (.bool false) rfl _ (H1.o.get 0 rfl) Tryz.underlying4 rfl ?_)
 exact bodyPost_ret (results_two rfl _ _ rfl rfl) rfl ⟨rfl, H1.o.1.below⟩
end Big
end Go.Proofs.YtkdnebalpdebeaaGreatDoor
