/- Lemmas of a claim: WideE, WideF, WideG, WideH -/
import Derived.Test.YtkdnebalpdebeaaGreatDoorG04
import Derived.Test.YtkdnebalpdebeaaGreatDoorG03
set_option linter.unusedVariables false
set_option linter.unusedSimpArgs false
set_option maxHeartbeats 16000000
set_option maxRecDepth 100000
namespace Go.Proofs.YtkdnebalpdebeaaGreatDoor
namespace Wide
open Go.RowKit Go.Deep
theorem pow_split (q s : Nat) : 2 ^ (64 * q + s) = P q * 2 ^ s := by rw [P_two, <- Nat.pow_add]
theorem left_low (a : Nat) {q s j : Nat} (h : j < q) : w (a * 2 ^ (64 * q + s)) j = 0 := by rw [pow_split]; exact w_left_low h _
theorem left_first (a : Nat) {q s : Nat} : w (a * 2 ^ (64 * q + s)) q = w a 0 * 2 ^ s % B := by
 have := w_shift a q 0 (2 ^ s)
 rw [Nat.add_zero] at this
 rw [pow_split, this]; unfold w; rw [P_zero, Nat.div_one, Nat.div_one, Nat.mod_mul_mod]
theorem left_next (a : Nat) {q s d : Nat} (hs : s < 64) : w (a * 2 ^ (64 * q + s)) (q + (d + 1)) = w a (d + 1) * 2 ^ s % B + w a d / 2 ^ (64 - s) := by
 rw [pow_split, w_shift, w_bits (by omega)]
theorem and63 (n : Nat) (h : n < 9223372036854775808) : bits .and .i64 (n : Int) 63 = ((n % 64 : Nat) : Int) := by
 have := i64_and_nat n 63 h (by decide)
 rw [show ((63 : Nat) : Int) = 63 from rfl] at this
 rw [this, show (63 : Nat) = 2 ^ 6 - 1 from rfl, Nat.and_two_pow_sub_one_eq_mod]
theorem u64_or_nat (a b : Nat) (ha : a < 18446744073709551616) (hb : b < 18446744073709551616) : bits .or .u64 (a : Int) (b : Int) = ((a ||| b : Nat) : Int) := by
 have h : a ||| b < 2 ^ 64 := Nat.or_lt_two_pow (by omega) (by omega)
 show IntKind.u64.wrap ((BitVec.ofInt 64 (a : Int) ||| BitVec.ofInt 64 (b : Int)).toNat : Int) = _
 rw [BitVec.ofInt_natCast, BitVec.ofInt_natCast, BitVec.toNat_or, BitVec.toNat_ofNat, BitVec.toNat_ofNat, Nat.mod_eq_of_lt (by omega), Nat.mod_eq_of_lt (by omega)]
 exact IntWalk.u64_in _ (by omega)
theorem or_fill (x y s : Nat) (hs : s < 64) (hy : y < B) : bits .or .u64 ((x * 2 ^ s % B : Nat) : Int) ((y / 2 ^ (64 - s) : Nat) : Int) = ((x * 2 ^ s % B + y / 2 ^ (64 - s) : Nat) : Int) := by
 have hB : B = 2 ^ s * 2 ^ (64 - s) := by rw [<- Nat.pow_add]; unfold B; rw [show s + (64 - s) = 64 by omega]
 have h3 : 0 < 2 ^ (64 - s) := Nat.pow_pos (by decide)
 have hy2 : y / 2 ^ (64 - s) < 2 ^ s := by rw [Nat.div_lt_iff_lt_mul h3, <- hB]; exact hy
 have hx : x * 2 ^ s % B = 2 ^ s * (x % 2 ^ (64 - s)) := by rw [hB, Nat.mul_comm x, Nat.mul_mod_mul_left]
 have h1 : x * 2 ^ s % B < B := Nat.mod_lt _ B_pos
 have h2 : y / 2 ^ (64 - s) < B := Nat.lt_of_le_of_lt (Nat.div_le_self _ _) hy
 rw [u64_or_nat _ _ (by unfold B at h1; exact h1) (by unfold B at h2; exact h2), hx, Nat.two_pow_add_eq_or_of_lt hy2]
theorem left_ok (a q s : Nat) (hq : q < 6) (hs : s < 64) (W : World) :
 Calls Tryz.prog 90 #[.agg (enc a), .int .i64 ((64 * q + s : Nat) : Int)] W fun e w' => e = .returned (.agg (enc (a * 2 ^ (64 * q + s)))) /\ Below W.heap.size W w' := by
 obtain ⟨n, hn⟩ : ∃ n : Nat, n = 64 * q + s := ⟨_, rfl⟩
 obtain ⟨r, hr⟩ : ∃ r : Nat, r = a * 2 ^ (64 * q + s) := ⟨_, rfl⟩
 have e1 : (n : Int) / 64 = (q : Int) := by omega
 have e2 : bits .and .i64 (n : Int) 63 = (s : Int) := by rw [and63 n (by omega)]; omega
 have e3 : IntKind.u64.wrap (s : Int) = (s : Int) := IntWalk.u64_in _ (by omega)
 have hnb : n < 384 := by omega
 rw [<- hr, <- hn]
 have HN := Hd hn
 have HR := Hd hr
 clear hn hr
 go_enter Tryz.func90, Tryz.ntmps90
 go_wp2_with fail
 clear e1 e2 e3
 go_loopw [8] (fun i wr => ∃ k : Nat, k <= 6 /\ q <= k /\ i = .int .i64 ((k : Int) - 1) /\ Below W.heap.size W wr /\ Hi (Blk wr W.heap.size 115 (enc a)) /\ Hi (Blk wr (W.heap.size + 1) 115 (six fun _ => 0)) /\ Hi (Blk wr (W.heap.size + 2) 115 (six fun j => if k <= j then w r j else 0))) (fun i _ => (intOf i + 1).toNat)
 case atStart =>
  exact ⟨6, by omega, by omega, rfl, (((Below.refl _ _).alloc (Nat.le_refl _) _).alloc (by simp) _).alloc (by simp; omega) _, Hd (((Blk.new _ _ _).alloc _).alloc _), Hd ((Blk.new' (by simp)).alloc _), Hd (Blk.new' (by simp))⟩
 case round =>
  obtain ⟨k, hk, hqk, rfl, hbl, HA, HZ, HC⟩ := hrel
  by_cases hlt : q < k
  . obtain ⟨d, rfl⟩ : ∃ d, k = q + d + 1 := ⟨k - q - 1, by omega⟩
    have hi : ((q + d + 1 : Nat) : Int) - 1 = ((q + d : Nat) : Int) := by omega
    rw [hi]
    clear hi
    have ei : ((q + d : Nat) : Int) - (q : Int) = (d : Int) := by omega
    have hki : ((q + d : Nat) : Int) < 6 := by omega
    have hge : decide (q <= q + d) = true := by simp
    have hd6 : d < 6 := by omega
    have hiq : q + d < 6 := by omega
    have ca := enc_cell HA.o hd6
    obtain ⟨i, hi⟩ : ∃ i : Nat, i = q + d := ⟨_, rfl⟩
    rw [<- hi] at ei hki hge hiq ⊢
    have HI := Hd hi
    have l1 := w_lt a d
    have fc := HC.o.frozen i
    have cc := HC.o.cell i
    rw [six_get _ hiq] at cc
    have hset := fun (v : Nat) => HC.o.set_ i (.int .u64 (v : Nat))
    have ewr : ∀ v : Nat, v = w r i -> (six fun j => if q + d + 1 <= j then w r j else 0).setIfInBounds i (.int .u64 (v : Nat)) = six fun j => if i <= j then w r j else 0 := fun v hv => by
     rw [six_set _ _ hiq]
     refine six_ext fun j hj => ?_
     rcases Nat.lt_trichotomy j i with h | h | h
     . rw [if_neg (by omega), if_neg (by omega), if_neg (by omega)]
     . subst h; rw [if_pos rfl, if_pos (Nat.le_refl _), hv]
     . rw [if_neg (by omega), if_pos (by omega), if_pos (by omega)]
    have esh : IntKind.u64.wrap ((w a d : Nat) * 2 ^ s) = ((w a d * 2 ^ s % B : Nat) : Int) := by
     rw [show ((w a d : Nat) : Int) * 2 ^ s = ((w a d * 2 ^ s : Nat) : Int) by simp]
     simp only [IntKind.wrap_u64]; unfold B; omega
    have ESH := Hd esh
    have hlow : w a d * 2 ^ s % B < B := Nat.mod_lt _ B_pos
    obtain ⟨v, hv⟩ : ∃ v : Nat, v = w a d * 2 ^ s % B := ⟨_, rfl⟩
    rw [<- hv] at hlow
    by_cases h1 : s = 0 ∨ d = 0
    . have hw : v = w r i := by
       rw [hv, HR.o, hi]
       rcases h1 with rfl | rfl
       . cases d with
         | zero => rw [Nat.add_zero q, left_first]
         | succ d => rw [left_next a (by omega)]; have : w a d / 2 ^ (64 - 0) = 0 := Nat.div_eq_of_lt (by have := w_lt a d; simpa [B] using this)
                     omega
       . rw [Nat.add_zero q, left_first]
      have HS := Hd (ewr v hw)
      have hdec : decide (0 < s) = false ∨ (decide (0 < s) = true /\ decide (q < i) = false) := by
       rcases h1 with rfl | rfl
       . exact .inl rfl
       . rcases Nat.eq_zero_or_pos s with h0 | h0
         . exact .inl (by simpa using h0)
         . exact .inr ⟨by simpa using h0, by simpa using (by omega : i <= q)⟩
      clear hi hw ewr hset esh
      unfold B at l1 hlow
      have e0 : IntKind.u64.wrap ((w a d : Nat) * 2 ^ s) = (v : Int) := by rw [ESH.o, hv]
      clear hv
      rcases hdec with hdec | ⟨hdec, hdec'⟩
      all_goals
       go_wp2_with fail
       go_roundw
       case rel => exact ⟨i, by omega, by omega, by go_num, hbl.setCell (by simp; omega) _, Hd (HA.o.far (by simp; omega) _), Hd (HZ.o.far (by simp) _), Hd (by have := HC.o.set_ i (.int .u64 (v : Nat)); rw [HS.o] at this; exact this)⟩
       case measure => simp [intOf]
    . have h2 : 0 < s := by omega
      obtain ⟨d, rfl⟩ : ∃ d', d = d' + 1 := ⟨d - 1, by omega⟩
      have hdec : decide (0 < s) = true := by simpa using h2
      have hdec' : decide (q < i) = true := by simpa using (by omega : q < i)
      have hw : v + w a d / 2 ^ (64 - s) = w r i := by rw [hv, HR.o, hi, left_next a (by omega)]
      have l2 := w_lt a d
      have hd5 : d < 6 := by omega
      have ca' := enc_cell HA.o hd5
      have ej : ((d + 1 : Nat) : Int) - 1 = (d : Int) := by omega
      have es : IntKind.u64.wrap (64 - (s : Int)) = ((64 - s : Nat) : Int) := by rw [IntWalk.u64_in _ (by omega)]; omega
      have e0 : IntKind.u64.wrap ((w a (d + 1) : Nat) * 2 ^ s) = (v : Int) := by rw [ESH.o, hv]
      obtain ⟨x, hx⟩ : ∃ x : Nat, x = w a d / 2 ^ (64 - s) := ⟨_, rfl⟩
      obtain ⟨z, hz⟩ : ∃ z : Nat, z = v + x := ⟨_, rfl⟩
      rw [<- hx, <- hz] at hw
      have HS := Hd (ewr z hw)
      have ex : ((w a d : Nat) : Int) / 2 ^ (64 - s) = (x : Int) := by rw [hx]; simp
      have eo : bits .or .u64 (v : Int) (x : Int) = (z : Int) := by
       have := or_fill (w a (d + 1)) (w a d) s hs l2
       rw [<- hv, <- hx, <- hz] at this
       exact this
      clear hx hz
      have HV := Hd hv
      clear hi hw ewr hset esh hv
      unfold B at l1 hlow l2
      go_wp2_with fail
      have ew1 : IntKind.i64.wrap ((d : Int) + 1) = (d : Int) + 1 := IntWalk.i64_in _ (by omega)
      have ew2 : IntKind.i64.wrap (d : Int) = (d : Int) := IntWalk.i64_in _ (by omega)
      have hd5' : (d : Int) < 6 := by omega
      refine wp_region_last [0, 1, 2, 3, 4, 5, 6, 7, 8, 9, 10, 11, 12, 13] 14 (by kernel_rfl) (by kernel_rfl) ?_
      simp only [List.map_cons, List.map_nil, opAt, List.getElem?_cons_succ, List.getElem?_cons_zero, Option.getD_some]
      repeat still_step
      refine wpStill_nil ?_
      go_wp2_with fail
      rw [onlyNormal_normal]
      go_wp2_with fail
      go_roundw
      case rel => exact ⟨i, by omega, by omega, by go_num, ((hbl.setCell (by simp; omega) _).setCell (by simp; omega) _).drew, Hd ((HA.o.far (by simp; omega) _).far (by simp; omega) _).drew, Hd ((HZ.o.far (by simp) _).far (by simp) _).drew, Hd (by have := (HC.o.set_ i (.int .u64 (v : Nat))).set_ i (.int .u64 (z : Nat)); rw [Array.setIfInBounds_setIfInBounds, HS.o] at this; exact this.drew)⟩
      case measure => simp [intOf]
  . obtain rfl : q = k := by omega
    have hge : decide ((q : Int) <= ((q : Nat) : Int) - 1) = false := by simp; omega
    have HS : Hi (Blk wr (W.heap.size + 2) 115 (enc r)) := Hd (by
     rw [enc, six_ext (g := fun j => if q <= j then w r j else 0) (fun j hj => ?_)]
     . exact HC.o
     . by_cases h : q <= j
       . rw [if_pos h]
       . rw [if_neg h, HR.o, left_low a (by omega)])
    clear HC
    go_wp2_with (first
     | (refine wpList_load_row rfl 115 (.tmp 5) rfl (W.heap.size + 2) rfl 115 (enc r) (0, 0) _ HS.o Tryz.underlying115 rfl (by kernel_rfl) ?_)
     | (refine wpList_put rfl 115 (.tmp 4) (.tmp 49) rfl (W.heap.size + 1) (enc r) rfl rfl 115 _ HZ.o (by kernel_rfl) (by rw [enc, six_size, six_size]) (six_all _) ?_
        intro W2 HB2 hfar2 hbel2 hsz2 hcell2))
    exact bodyPost_ret (results_cell_row rfl _ W2 (W.heap.size + 1) 115 (enc r) (0, 0) _ rfl HB2 Tryz.underlying115 rfl (by kernel_rfl)) rfl ⟨rfl, hbel2 _ _ (by omega) hbl⟩
end Wide
namespace Wide
open Go.RowKit Go.Deep
theorem mul_step {x y c k : Nat} (hx : x < B) (hy : y < B) (hc : c < B) (hk : k < B) :
 (x * y + c + k) % B = ((x * y % B + c) % B + k) % B /\ (x * y + c + k) / B = x * y / B + (x * y % B + c) / B + ((x * y % B + c) % B + k) / B /\ x * y / B + (x * y % B + c) / B < B /\
 x * y / B + (x * y % B + c) / B + ((x * y % B + c) % B + k) / B < B := by
 have h : x * y <= (B - 1) * (B - 1) := Nat.mul_le_mul (by omega) (by omega)
 generalize x * y = m at *
 unfold B at *
 omega
theorem row_lt (c b i j : Nat) {x : Nat} (hx : x < B) : row c x b i j < B := by
 unfold row
 rw [Nat.div_lt_iff_lt_mul (P_pos j)]
 have h1 := Nat.mod_lt (c / P i) (P_pos j)
 have h2 := Nat.mod_lt b (P_pos j)
 have h3 : x * (b % P j) <= (B - 1) * (P j - 1) := Nat.mul_le_mul (by omega) (by omega)
 have h4 : (B - 1) * (P j - 1) + (P j - 1) = B * (P j - 1) := by
  rw [<- Nat.succ_mul]; congr 1
 have h5 : B * (P j - 1) < B * P j := (Nat.mul_lt_mul_left B_pos).2 (by omega)
 omega
theorem low_same (c z : Nat) {i m : Nat} (h : m < i) : w (c + z * P i) m = w c m := by
 obtain ⟨d, rfl⟩ : ∃ d, i = m + 1 + d := ⟨i - m - 1, by omega⟩
 unfold w
 rw [P_add (m + 1), P_succ, show z * (P m * B * P d) = P m * (B * (z * P d)) by simp only [Nat.mul_comm, Nat.mul_left_comm, Nat.mul_assoc], Nat.add_mul_div_left _ _ (P_pos m), Nat.add_mul_mod_self_left]
theorem part_succ (a b i : Nat) : a % P (i + 1) * b = a % P i * b + w a i * b * P i := by
 rw [mod_next, Nat.add_mul]; congr 1; simp only [Nat.mul_comm, Nat.mul_left_comm]
theorem part_six {a : Nat} (ha : a < P 6) (b : Nat) : a % P 6 * b = a * b := by rw [Nat.mod_eq_of_lt ha]
theorem of_ok (h l : Nat) (hh : h < B) (hl : l < B) (W : World) :
 Calls Tryz.prog 89 #[.int .u64 (h : Nat), .int .u64 (l : Nat)] W fun e w' => e = .returned (.agg (enc (h * B + l))) /\ Below W.heap.size W w' := by
 have e : enc (h * B + l) = #[.int .u64 (l : Nat), .int .u64 (h : Nat), .int .u64 0, .int .u64 0, .int .u64 0, .int .u64 0] := by
  have h2 : h * B + l < P 2 := by
   have : h * B + l < B * B := by
    have : (h + 1) * B <= B * B := Nat.mul_le_mul (by omega) (Nat.le_refl _)
    rw [Nat.succ_mul] at this; omega
   exact this
  have z : ∀ k, 2 <= k -> w (h * B + l) k = 0 := fun k hk => by
   have : h * B + l < P k := Nat.lt_of_lt_of_le h2 (Nat.pow_le_pow_right B_pos hk)
   unfold w; rw [Nat.div_eq_of_lt this]; rfl
  have w0 : w (h * B + l) 0 = l := by unfold w; rw [P_zero, Nat.div_one, Nat.mul_comm, Nat.mul_add_mod, Nat.mod_eq_of_lt hl]
  have w1 : w (h * B + l) 1 = h := by
   unfold w; rw [show P 1 = B from rfl, Nat.mul_comm, Nat.mul_add_div B_pos, Nat.div_eq_of_lt hl, Nat.add_zero, Nat.mod_eq_of_lt hh]
  rw [enc, six_lit, w0, w1, z 2 (by omega), z 3 (by omega), z 4 (by omega), z 5 (by omega)]; rfl
 rw [e]
 clear e
 go_enter Tryz.func89, Tryz.ntmps89
 go_wp2_with fail
 exact bodyPost_ret (results_cell_row rfl _ _ W.heap.size 115 _ (0, 0) _ rfl (Blk.new _ _ _) Tryz.underlying115 rfl (by kernel_rfl)) rfl ⟨rfl, (Below.refl _ _).alloc (Nat.le_refl _) _⟩
theorem index_six (f : Nat -> Nat) {k : Nat} (h : k < 6) (W : World) : (Instr.index 115 (.agg (six f)) (.int .i64 (k : Int))).run Tryz.prog W = .ok (.int .u64 (f k : Nat)) W := by
 have h1 : (0 : Int) <= k /\ (k : Int) < 6 := by omega
 have hu : Tryz.prog.underlying 115 = some (.array 6 24) := by kernel_rfl
 have hv : Tryz.prog.underlying 24 = some (.int .u64) := by kernel_rfl
 have info : (Tryz.prog.info? 24).map (fun i => (i.zero, i.size, i.bytes)) = some (some (.int .u64 0), 1, 8) := by kernel_rfl
 obtain ⟨i0, hi, hz0, hz1, hz2⟩ := info_parts info
 have hx := six_get f h
 simp [Instr.index, run_underlying hu, run_underlying hv, asIntOf, h1, go_sem, part, isAgg, sizeOf, typeInfo, hi, hz1, hx]
 intro h; omega
theorem add64_0 {x y l k : Nat} (hl : l = (x + y) % B) (hk : k = (x + y) / B) (W : World) : (callFunc 141 #[.int .u64 x, .int .u64 y, .int .u64 0]).run Tryz.prog W = .ok (.value (.tuple #[.int .u64 l, .int .u64 k])) W := by
 have := add64_run x y 0 (by omega) W
 rw [Nat.add_zero] at this
 rw [hl, hk]; exact this
theorem mul64_at {x y h l : Nat} (hx : x < B) (hy : y < B) (hh : h = x * y / B) (hl : l = x * y % B) (W : World) : Calls Tryz.prog 140 #[.int .u64 x, .int .u64 y] W fun e w' => e = .returned (.tuple #[.int .u64 h, .int .u64 l]) /\ w' = W := by
 rw [hh, hl]; exact Tryz.bits_Mul64 x y hx hy W
theorem mul_ok (a b : Nat) (ha : a < P 6) (W : World) :
 Calls Tryz.prog 93 #[.agg (enc a), .agg (enc b)] W fun e w' => e = .returned (.agg (enc (a * b))) /\ Below W.heap.size W w' := by
 go_enter Tryz.func93, Tryz.ntmps93
 go_wp2_with (refine wpList_load_row rfl 115 (.tmp 2) rfl W.heap.size rfl 115 (enc a) (0, 0) _ ((((Blk.new W 115 (enc a)).alloc _).alloc _).alloc _) Tryz.underlying115 rfl (by kernel_rfl) ?_)
 go_loopw [14] (fun i wr => ∃ k : Nat, k <= 6 /\ i = .int .i64 k /\ Below W.heap.size W wr /\ Hi (Blk wr (W.heap.size + 1) 115 (enc b)) /\ Hi (Blk wr (W.heap.size + 2) 115 (six fun _ => 0)) /\ Hi (Blk wr (W.heap.size + 3) 115 (enc (a % P k * b)))) (fun i _ => 6 - (intOf i).toNat)
 case atStart =>
  refine ⟨0, by omega, rfl, ((((Below.refl _ _).alloc (Nat.le_refl _) _).alloc (by simp) _).alloc (by simp; omega) _).alloc (by simp; omega) _, Hd (((Blk.new' (by simp)).alloc _).alloc _), Hd ((Blk.new' (by simp)).alloc _), Hd ?_⟩
  have e : enc (a % P 0 * b) = six fun _ => 0 := by rw [P_zero, Nat.mod_one, Nat.zero_mul, enc]; exact six_ext fun j _ => by unfold w; rw [Nat.zero_div]; rfl
  rw [e]
  exact Blk.new' (by simp)
 case round =>
  obtain ⟨i, hi6, rfl, hbl, HB, HR, HC⟩ := hrel
  by_cases hlt : i < 6
  . obtain ⟨C, hC⟩ : ∃ C, C = a % P i * b := ⟨_, rfl⟩
    have hx := w_lt a i
    obtain ⟨x, hxe⟩ : ∃ x, x = w a i := ⟨_, rfl⟩
    have hnext : a % P (i + 1) * b = C + x * b * P i := by rw [part_succ, hC, hxe]
    rw [<- hC] at HC
    have hrun : ∀ W', (Instr.index 115 (.agg (enc a)) (.int .i64 (i : Int))).run Tryz.prog W' = .ok (.int .u64 (x : Nat)) W' := fun W' => by rw [hxe]; exact index_six (w a) hlt W'
    rw [<- hxe] at hx
    have HN := Hd hnext
    clear hnext hC hxe
    have hi : (i : Int) < 6 := by omega
    go_wp2_with fail
    go_loopw [8, 9] (fun c jv wr => ∃ j : Nat, i + j <= 6 /\ c = .int .u64 (row C x b i j : Nat) /\ jv = .int .i64 j /\ Below W.heap.size W wr /\ Hi (Blk wr (W.heap.size + 1) 115 (enc b)) /\ Hi (Blk wr (W.heap.size + 2) 115 (six fun _ => 0)) /\ Hi (Blk wr (W.heap.size + 3) 115 (six fun m => if i <= m /\ m < i + j then w (C + x * b * P i) m else w C m))) (fun _ j _ => 6 - (intOf j).toNat)
    case atStart =>
     exact ⟨0, by omega, by rw [row_zero]; rfl, rfl, hbl, HB, HR, Hd (by rw [six_ext (g := w C) (fun m hm => by rw [if_neg (by omega)])]; exact HC.o)⟩
    case round =>
     clear hbl HB HR HC
     obtain ⟨j, hj6, rfl, rfl, hbl, HB, HR, HC⟩ := hrel
     by_cases hjl : i + j < 6
     . have hk := row_lt C b i j hx
       obtain ⟨k, hke⟩ : ∃ k, k = row C x b i j := ⟨_, rfl⟩
       have hy := w_lt b j
       have hc := w_lt C (i + j)
       obtain ⟨y, hye⟩ : ∃ y, y = w b j := ⟨_, rfl⟩
       obtain ⟨c, hce⟩ : ∃ c, c = w C (i + j) := ⟨_, rfl⟩
       have cb := enc_cell HB.o (show j < 6 by omega)
       have cc := HC.o.cell (i + j)
       rw [six_get _ hjl, if_neg (by omega), <- hce] at cc
       have fc := HC.o.frozen (i + j)
       have hrow := row_succ C x b i j
       have hword := w_row C x b i j
       rw [<- hye] at hy cb
       rw [<- hce] at hc
       rw [<- hye, <- hce, <- hke] at hrow hword
       rw [<- hke] at hk ⊢
       obtain ⟨m1, m2, m3, m4⟩ := mul_step hx hy hc hk
       obtain ⟨h, hhe⟩ : ∃ h, h = x * y / B := ⟨_, rfl⟩
       obtain ⟨l, hle⟩ : ∃ l, l = x * y % B := ⟨_, rfl⟩
       rw [<- hhe, <- hle] at m2 m3 m4
       rw [<- hle] at m1
       obtain ⟨l1, hl1⟩ : ∃ l1, l1 = (l + c) % B := ⟨_, rfl⟩
       obtain ⟨k1, hk1⟩ : ∃ k1, k1 = (l + c) / B := ⟨_, rfl⟩
       rw [<- hl1, <- hk1] at m2 m4
       rw [<- hk1] at m3
       rw [<- hl1] at m1
       obtain ⟨l2, hl2⟩ : ∃ l2, l2 = (l1 + k) % B := ⟨_, rfl⟩
       obtain ⟨k2, hk2⟩ : ∃ k2, k2 = (l1 + k) / B := ⟨_, rfl⟩
       rw [<- hk2] at m2 m4
       rw [<- hl2] at m1
       have hl2B : l2 < B := by rw [hl2]; exact Nat.mod_lt _ B_pos
       have r0 := fun W' => mul64_at hx hy hhe hle W'
       have r1 := fun W' => add64_0 hl1 hk1 W'
       have r2 := fun W' => add64_0 hl2 hk2 W'
       have s1 : IntKind.u64.wrap ((h : Int) + (k1 : Int)) = ((h + k1 : Nat) : Int) := by unfold B at m3; rw [IntWalk.u64_in _ (by omega)]; omega
       have s2 : IntKind.u64.wrap (((h + k1 : Nat) : Int) + (k2 : Int)) = ((h + k1 + k2 : Nat) : Int) := by unfold B at m4; rw [IntWalk.u64_in _ (by omega)]; omega
       have s0 : IntKind.i64.wrap ((i : Int) + (j : Int)) = ((i + j : Nat) : Int) := by rw [IntWalk.i64_in _ (by omega)]; omega
       obtain ⟨g, hg⟩ : ∃ g, g = h + k1 := ⟨_, rfl⟩
       obtain ⟨z, hz⟩ : ∃ z, z = g + k2 := ⟨_, rfl⟩
       rw [<- hg] at s1 s2 m2 m4
       rw [<- hz] at s2 m2
       have HW : Hi (w (C + x * b * P i) (i + j) = l2) := Hd (by rw [hword, m1])
       have HK : Hi (row C x b i (j + 1) = z) := Hd (by rw [hrow, m2])
       have HR0 := Hd r0
       clear hrow hword m1 m2 m3 m4 hke hye hce hhe hle hl1 hk1 hl2 hk2 hg hz r0
       unfold B at hx hy hc hk hl2B
       have hji : (i : Int) + (j : Int) < 6 := by omega
       have hj6' : (j : Int) < 6 := by omega
       go_wp2_with fail
       refine (HR0.o _).mono ?_
       rintro e w1 ⟨rfl, rfl⟩
       go_wp2_with fail
       go_roundw
       case rel =>
        refine ⟨j + 1, by omega, by rw [HK.o], by go_num, hbl.setCell (by simp; omega) _, Hd (HB.o.far (by simp) _), Hd (HR.o.far (by simp) _), Hd ?_⟩
        have hs := HC.o.set_ (i + j) (.int .u64 (l2 : Nat))
        rw [six_set _ _ hjl] at hs
        have e : (six fun m => if i <= m /\ m < i + (j + 1) then w (C + x * b * P i) m else w C m) = six (fun m => if m = i + j then l2 else if i <= m /\ m < i + j then w (C + x * b * P i) m else w C m) := by
         refine six_ext fun m hm => ?_
         rcases Nat.lt_trichotomy m (i + j) with h | h | h
         . rw [if_neg (by omega : ¬ m = i + j)]
           by_cases h' : i <= m
           . rw [if_pos (by omega), if_pos (by omega)]
           . rw [if_neg (by omega), if_neg (by omega)]
         . subst h; rw [if_pos (by omega), if_pos rfl, HW.o]
         . rw [if_neg (by omega), if_neg (by omega), if_neg (by omega)]
        rw [e]
        exact hs
       case measure => simp [intOf]; omega
     . have hj : i + j = 6 := by omega
       have hge : ¬ (i : Int) + (j : Int) < 6 := by omega
       have hge' : decide ((i : Int) + (j : Int) < 6) = false := by simp; omega
       have HJ := Hd hj
       clear hj
       go_wp2_with fail
       go_roundw
       case rel =>
        refine ⟨i + 1, by omega, by go_num, hbl, HB, HR, Hd ?_⟩
        rw [HN.o, enc, six_ext (g := fun m => if i <= m /\ m < i + j then w (C + x * b * P i) m else w C m) (fun m hm => ?_)]
        . exact HC.o
        . have := HJ.o
          by_cases h' : i <= m
          . rw [if_pos (by omega)]
          . rw [if_neg (by omega), low_same _ _ (by omega)]
       case measure => simp [intOf]; omega
  . obtain rfl : i = 6 := by omega
    have HS : Hi (Blk wr (W.heap.size + 3) 115 (enc (a * b))) := Hd (by have := HC.o; rwa [part_six ha] at this)
    clear HC
    go_wp2_with (first
     | (refine wpList_load_row rfl 115 (.tmp 5) rfl (W.heap.size + 3) rfl 115 (enc (a * b)) (0, 0) _ HS.o Tryz.underlying115 rfl (by kernel_rfl) ?_)
     | (refine wpList_put rfl 115 (.tmp 4) (.tmp 60) rfl (W.heap.size + 2) (enc (a * b)) rfl rfl 115 _ HR.o (by kernel_rfl) (by rw [enc, six_size, six_size]) (six_all _) ?_
        intro W2 HB2 hfar2 hbel2 hsz2 hcell2))
    exact bodyPost_ret (results_cell_row rfl _ W2 (W.heap.size + 2) 115 (enc (a * b)) (0, 0) _ rfl HB2 Tryz.underlying115 rfl (by kernel_rfl)) rfl ⟨rfl, hbel2 _ _ (by omega) hbl⟩
end Wide
namespace Wide
open Go.RowKit Go.Deep
theorem enc_small (n : Nat) (h : n < B) : enc n = #[.int .u64 (n : Nat), .int .u64 0, .int .u64 0, .int .u64 0, .int .u64 0, .int .u64 0] := by
 have z : ∀ k, 1 <= k -> w n k = 0 := fun k hk => by
  have : n < P k := Nat.lt_of_lt_of_le (show n < P 1 from h) (Nat.pow_le_pow_right B_pos hk)
  unfold w; rw [Nat.div_eq_of_lt this]; rfl
 have w0 : w n 0 = n := by unfold w; rw [P_zero, Nat.div_one, Nat.mod_eq_of_lt h]
 rw [enc, six_lit, w0, z 1 (by omega), z 2 (by omega), z 3 (by omega), z 4 (by omega), z 5 (by omega)]; rfl
theorem enc_zero : enc 0 = #[.int .u64 0, .int .u64 0, .int .u64 0, .int .u64 0, .int .u64 0, .int .u64 0] := enc_small 0 (by decide)
theorem enc_size (n : Nat) : (enc n).size = 6 := six_size _
theorem enc_all (n : Nat) : (enc n).all (·.oneCell') = true := six_all _
theorem mul10 (a : Nat) (ha : a < P 6) (W : World) : Calls Tryz.prog 93 #[.agg (enc a), .agg #[.int .u64 10, .int .u64 0, .int .u64 0, .int .u64 0, .int .u64 0, .int .u64 0]] W
 fun e w' => e = .returned (.agg (enc (a * 10))) /\ Below W.heap.size W w' := by
 have := mul_ok a 10 ha W
 rwa [enc_small 10 (by decide)] at this
theorem ten_lt {k : Nat} (h : k <= 115) : 10 ^ k < P 6 :=
 Nat.lt_of_le_of_lt (Nat.pow_le_pow_right (by decide) h) (by decide +kernel)
theorem ten_ok (n : Nat) (hn : n <= 100) (W : World) :
 Calls Tryz.prog 45 #[.int .i64 (n : Int)] W fun e w' => e = .returned (.agg (enc (10 ^ n))) /\ Below W.heap.size W w' := by
 go_enter Tryz.func45, Tryz.ntmps45
 go_wp2_with fail
 go_loopw [6] (fun i wr => ∃ k : Nat, k <= n /\ i = .int .i64 k /\ Has W [(W.heap.size + 1, 115, enc (10 ^ k)), (W.heap.size, 115, enc 0)] wr) (fun i _ => n - (intOf i).toNat)
 case atStart =>
  refine ⟨0, by omega, rfl, Has.cons ?_ (Has.cons ?_ (Has.nil (((Below.refl _ _).alloc (Nat.le_refl _) _).alloc (by simp) _)))⟩
  . rw [enc_small _ (show 10 ^ 0 < B by decide)]; exact Blk.new' (by simp)
  . rw [enc_zero]; exact (Blk.new _ _ _).alloc _
 case round =>
  obtain ⟨k, hk, rfl, H⟩ := hrel
  by_cases hlt : k < n
  . have HH := Hd H
    clear H
    go_wp2_with (refine wpList_load_row rfl 115 (.tmp 3) rfl (W.heap.size + 1) rfl 115 (enc (10 ^ k)) (0, 0) _ (HH.o.get 0 rfl) Tryz.underlying115 rfl (by kernel_rfl) ?_)
    refine (mul10 (10 ^ k) (ten_lt (by omega)) _).mono ?_
    rintro e w1 ⟨rfl, hb⟩
    rw [<- Nat.pow_succ]
    have H1 := Hd (HH.o.step hb)
    clear hb HH
    go_wp2_with (refine wpList_put rfl 115 (.tmp 3) (.tmp 10) rfl (W.heap.size + 1) (enc (10 ^ (k + 1))) rfl rfl 115 _ (H1.o.get 0 rfl) (by rw [enc_size]; kernel_rfl) (by rw [enc_size, enc_size]) (enc_all _) ?_
                 intro W2 HB2 hfar2 hbel2 hsz2 hcell2)
    have H2 := H1.o.turn (by omega) (by simp) HB2 hfar2 hbel2
    go_roundw
    case rel => exact ⟨k + 1, by omega, by go_num, H2⟩
    case measure => simp [intOf]; omega
  . obtain rfl : n = k := by omega
    have HH := Hd H
    clear H
    go_wp2_with (first
     | (refine wpList_load_row rfl 115 (.tmp 3) rfl (W.heap.size + 1) rfl 115 (enc (10 ^ n)) (0, 0) _ (HH.o.get 0 rfl) Tryz.underlying115 rfl (by kernel_rfl) ?_)
     | (refine wpList_put rfl 115 (.tmp 2) (.tmp 12) rfl W.heap.size (enc (10 ^ n)) rfl rfl 115 _ (HH.o.get 1 rfl) (by rw [enc_size]; kernel_rfl) (by rw [enc_size, enc_size]) (enc_all _) ?_
        intro W2 HB2 hfar2 hbel2 hsz2 hcell2))
    exact bodyPost_ret (results_cell_row rfl _ W2 W.heap.size 115 (enc (10 ^ n)) (0, 0) _ rfl HB2 Tryz.underlying115 rfl (by rw [enc_size]; kernel_rfl)) rfl ⟨rfl, hbel2 _ _ (by omega) HH.o.below⟩
end Wide
namespace Wide
open Go.RowKit Go.Deep
theorem cmpv_ge {a b : Nat} : (0 : Int) <= cmpv a b ↔ b <= a := by
 unfold cmpv; split
 . omega
 . split <;> omega
theorem quo_put {q m : Nat} (hq : q % 2 ^ (m + 1) = 0) (hm : m < 384) : (w q (m / 64)) ||| 2 ^ (m % 64) = w (q + 2 ^ m) (m / 64) := by
 rw [w_put hq, if_pos rfl]
 refine bit_put (by omega) ?_
 have hd : P (m / 64) * 2 ^ (m % 64 + 1) ∣ q := by
  have e : 2 ^ (m + 1) = P (m / 64) * 2 ^ (m % 64 + 1) := by rw [P_two, <- Nat.pow_add]; congr 1; omega
  rw [<- e]; exact Nat.dvd_of_mod_eq_zero hq
 obtain ⟨z, rfl⟩ := hd
 unfold w
 rw [Nat.mul_assoc, Nat.mul_div_cancel_left _ (P_pos _)]
 have hB : B = 2 ^ (m % 64 + 1) * 2 ^ (63 - m % 64) := by
  rw [<- Nat.pow_add, show m % 64 + 1 + (63 - m % 64) = 64 by omega]; rfl
 rw [hB, Nat.mul_mod_mul_left, Nat.mul_mod_right]
theorem quo_words {q m : Nat} (hq : q % 2 ^ (m + 1) = 0) (hm : m < 384) : (enc q).setIfInBounds (m / 64) (.int .u64 (w (q + 2 ^ m) (m / 64) : Nat)) = enc (q + 2 ^ m) := by
 rw [enc, enc, six_set _ _ (by omega)]
 refine six_ext fun j hj => ?_
 by_cases h : j = m / 64
 . rw [if_pos h, h]
 . rw [if_neg h, w_put hq, if_neg h]
def QuoAt (a b : Nat) (n : Int) (q r : Nat) : Prop := q * b + r = a /\ r < b * 2 ^ (n + 1).toNat /\ q % 2 ^ (n + 1).toNat = 0 /\ n + Go.bitLen b <= 384
theorem QuoAt.start {a b : Nat} (ha : a < P 6) (hb : 0 < b) : QuoAt a b ((Go.bitLen a : Int) - Go.bitLen b) 0 a := by
 refine ⟨by omega, quo_start hb (by omega), by simp, ?_⟩
 have := bitLen_le6 ha; omega
theorem QuoAt.done {a b : Nat} {n : Int} {q r : Nat} (h : QuoAt a b n q r) (hn : n < 0) (hb : 0 < b) : q = a / b /\ r = a % b := by
 obtain ⟨h1, h2, _, _⟩ := h
 rw [show (n + 1).toNat = 0 by omega, Nat.pow_zero, Nat.mul_one] at h2
 subst h1
 rw [Nat.mul_comm q b]
 exact ⟨by rw [Nat.mul_add_div hb, Nat.div_eq_of_lt h2, Nat.add_zero], by rw [Nat.mul_add_mod, Nat.mod_eq_of_lt h2]⟩
theorem QuoAt.yes {a b m q r : Nat} (h : QuoAt a b (m : Int) q r) (hc : b * 2 ^ m <= r) : QuoAt a b ((m : Int) - 1) (q + 2 ^ m) (r - b * 2 ^ m) /\ q % 2 ^ (m + 1) = 0 := by
 obtain ⟨h1, h2, h3, h4⟩ := h
 have e1 : ((m : Int) + 1).toNat = m + 1 := by omega
 have e2 : ((m : Int) - 1 + 1).toNat = m := by omega
 rw [e1] at h2 h3
 refine ⟨⟨?_, ?_, ?_, by omega⟩, h3⟩
 . rw [Nat.add_mul, Nat.mul_comm (2 ^ m) b]; omega
 . rw [e2]; rw [Nat.pow_succ, <- Nat.mul_assoc] at h2; omega
 . rw [e2]
   have : 2 ^ m ∣ q := Nat.dvd_trans (Nat.pow_dvd_pow 2 (by omega)) (Nat.dvd_of_mod_eq_zero h3)
   exact Nat.mod_eq_zero_of_dvd (Nat.dvd_add this (Nat.dvd_refl _))
theorem QuoAt.no {a b m q r : Nat} (h : QuoAt a b (m : Int) q r) (hc : ¬ b * 2 ^ m <= r) : QuoAt a b ((m : Int) - 1) q r := by
 obtain ⟨h1, h2, h3, h4⟩ := h
 have e1 : ((m : Int) + 1).toNat = m + 1 := by omega
 have e2 : ((m : Int) - 1 + 1).toNat = m := by omega
 rw [e1] at h2 h3
 refine ⟨h1, by rw [e2]; omega, ?_, by omega⟩
 rw [e2]
 exact Nat.mod_eq_zero_of_dvd (Nat.dvd_trans (Nat.pow_dvd_pow 2 (by omega)) (Nat.dvd_of_mod_eq_zero h3))
theorem quo_ok (a b : Nat) (ha : a < P 6) (hb : 0 < b) (hb6 : b < P 6) (W : World) :
 Calls Tryz.prog 44 #[.agg (enc a), .agg (enc b)] W fun e w' => e = .returned (.tuple #[.agg (enc (a / b)), .agg (enc (a % b))]) /\ Below W.heap.size W w' := by
 go_enter Tryz.func44, Tryz.ntmps44
 have hL := bitLen_le6 ha
 have hK := bitLen_le6 hb6
 obtain ⟨L, hLe⟩ : ∃ L, L = Go.bitLen a := ⟨_, rfl⟩
 obtain ⟨K, hKe⟩ : ∃ K, K = Go.bitLen b := ⟨_, rfl⟩
 have HS := Hd (QuoAt.start ha hb)
 rw [<- hLe, <- hKe] at HS
 rw [<- hLe] at hL
 rw [<- hKe] at hK
 have HL := Hd hLe
 have HK := Hd hKe
 clear hLe hKe
 go_wp2_with fail
 refine wp_region_class (fun w' => Has W [(W.heap.size, 115, enc a), (W.heap.size + 1, 115, enc b), (W.heap.size + 2, 115, enc 0), (W.heap.size + 3, 115, enc 0), (W.heap.size + 4, 115, enc 0)] w') [0, 1, 2, 3, 4, 5] (by kernel_rfl) (by kernel_rfl) ?_ ?_
 . refine Has.drew (Has.cons ?_ (Has.cons ?_ (Has.cons ?_ (Has.cons ?_ (Has.cons ?_ (Has.nil ((((((Below.refl _ _).alloc (Nat.le_refl _) _).alloc (by simp) _).alloc (by simp; omega) _).alloc (by simp; omega) _).alloc (by simp; omega) _)))))))
   . exact ((((Blk.new _ _ _).alloc _).alloc _).alloc _).alloc _
   . exact (((Blk.new' (by simp)).alloc _).alloc _).alloc _
   . rw [enc_zero]; exact ((Blk.new' (by simp)).alloc _).alloc _
   . rw [enc_zero]; exact (Blk.new' (by simp)).alloc _
   . rw [enc_zero]; exact Blk.new' (by simp)
 simp only [List.map_cons, List.map_nil, opAt, List.getElem?_cons_succ, List.getElem?_cons_zero, Option.getD_some]
 refine wpQuiet_row 115 (.tmp 2) rfl rfl W.heap.size rfl 115 (enc a) _ (fun w hw => hw.get 0 rfl) Tryz.underlying115 rfl (by rw [enc_size]; kernel_rfl) (fun K1 k1 => ?_)
 go_simp
 refine k1 _ ?_
 clear k1 K1
 go_big_quiet_step ((intro hw; exact (len_ok a ha _).mono fun e w' h => ⟨(show e = .returned (.int .i64 (L : Nat)) by rw [HL.o]; exact h.1), hw.step h.2⟩))
 refine wpQuiet_row 115 (.tmp 3) rfl rfl (W.heap.size + 1) rfl 115 (enc b) _ (fun w hw => hw.get 1 rfl) Tryz.underlying115 rfl (by rw [enc_size]; kernel_rfl) (fun K1 k1 => ?_)
 go_simp
 refine k1 _ ?_
 clear k1 K1
 go_big_quiet_step ((intro hw; exact (len_ok b hb6 _).mono fun e w' h => ⟨(show e = .returned (.int .i64 (K : Nat)) by rw [HK.o]; exact h.1), hw.step h.2⟩))
 have esub : IntKind.i64.wrap ((L : Int) - (K : Int)) = (L : Int) - (K : Int) := IntWalk.i64_in _ (by omega)
 repeat (go_big_quiet_step ((intro _; rfl)))
 refine wpQuiet_nil ?_
 intro w5 H5
 have HH := Hd H5
 clear H5 esub
 have hba : (-9223372036854775808 : Int) <= (L : Int) - (K : Int) /\ (L : Int) - (K : Int) <= 384 := by omega
 go_wp2_with fail
 go_loopw [7] (fun i wr => ∃ (n : Int) (q r : Nat), Hi (QuoAt a b n q r) /\ i = .int .i64 n /\ -400 <= n /\ n <= 384 /\ Hi (Has W [(W.heap.size, 115, enc r), (W.heap.size + 1, 115, enc b), (W.heap.size + 2, 115, enc 0), (W.heap.size + 3, 115, enc 0), (W.heap.size + 4, 115, enc q)] wr)) (fun i _ => (intOf i + 1).toNat)
 case atStart =>
  exact ⟨_, 0, a, HS, rfl, by omega, by omega, HH⟩
 case round =>
  clear HH
  obtain ⟨n, q, r, HQ, rfl, hn1, hn2, HH⟩ := hrel
  by_cases hn : 0 <= n
  . obtain ⟨m, rfl⟩ : ∃ m : Nat, n = m := ⟨n.toNat, by omega⟩
    have hq4 := HQ.o.2.2.2
    have hK1 := bitLen_pos hb
    have hm : m < 384 := by omega
    have ht : b * 2 ^ m < P 6 := left_fits ha (by omega)
    have hr6 : r < P 6 := by
     have := HQ.o.1
     have h2 : r <= a := by omega
     omega
    have hn0 : (0 : Int) <= m := by omega
    clear hq4 hK1
    go_wp2_with (refine wpList_load_row rfl 115 (.tmp 3) rfl (W.heap.size + 1) rfl 115 (enc b) (0, 0) _ (HH.o.get 1 rfl) Tryz.underlying115 rfl (by rw [enc_size]; kernel_rfl) ?_)
    have em : (m : Int) = ((64 * (m / 64) + m % 64 : Nat) : Int) := by rw [Nat.div_add_mod]
    rw [show Calls Tryz.prog 90 #[.agg (enc b), .int .i64 (m : Int)] = Calls Tryz.prog 90 #[.agg (enc b), .int .i64 ((64 * (m / 64) + m % 64 : Nat) : Int)] by rw [<- em]]
    refine (left_ok b (m / 64) (m % 64) (by omega) (by omega) _).mono ?_
    rintro e w1 ⟨rfl, hb1⟩
    rw [Nat.div_add_mod]
    have H1 := Hd (HH.o.step hb1)
    clear hb1 em
    go_wp2_with (first
     | (refine wpList_put rfl 115 (.tmp 8) (.tmp 20) rfl w1.heap.size (enc (b * 2 ^ m)) rfl rfl 115 _ (Blk.new w1 _ _) (by rw [enc_size]; kernel_rfl) (by rw [enc_size]; rfl) (enc_all _) ?_
        intro W2 HB2 hfar2 hbel2 hsz2 hcell2
        have H2 := Hd ((Has.cons (Blk.new w1 _ _) (H1.o.alloc _)).turn H1.o.size H1.o.fresh HB2 hfar2 hbel2)
        clear HB2 hfar2 hbel2 hcell2)
     | (refine wpList_load_row rfl 115 (.tmp 2) rfl W.heap.size rfl 115 (enc r) (0, 0) _ (H2.o.get 1 rfl) Tryz.underlying115 rfl (by rw [enc_size]; kernel_rfl) ?_)
     | (refine wpList_load_row rfl 115 (.tmp 8) rfl w1.heap.size rfl 115 (enc (b * 2 ^ m)) (0, 0) _ (H2.o.get 0 rfl) Tryz.underlying115 rfl (by rw [enc_size]; kernel_rfl) ?_))
    refine (cmp_ok r (b * 2 ^ m) hr6 ht _).mono ?_
    rintro e w2 ⟨rfl, hb2⟩
    have H3 := Hd (H2.o.step hb2)
    obtain ⟨g, hg⟩ : ∃ g, g = w1.heap.size := ⟨_, rfl⟩
    rw [<- hg] at H3 ⊢
    have hgW : Hi (W.heap.size + 4 < g) := Hd (by rw [hg]; exact (H1.o.get 4 rfl).lt)
    clear hg hb2 H2 hsz2
    by_cases hc : b * 2 ^ m <= r
    . have hcv : (0 : Int) <= cmpv r (b * 2 ^ m) := cmpv_ge.2 hc
      go_wp2_with (first
       | (refine wpList_load_row rfl 115 (.tmp 2) rfl W.heap.size rfl 115 (enc r) (0, 0) _ (H3.o.get 1 rfl) Tryz.underlying115 rfl (by rw [enc_size]; kernel_rfl) ?_)
       | (refine wpList_load_row rfl 115 (.tmp 8) rfl g rfl 115 (enc (b * 2 ^ m)) (0, 0) _ (H3.o.get 0 rfl) Tryz.underlying115 rfl (by rw [enc_size]; kernel_rfl) ?_))
      refine (sub_ok r (b * 2 ^ m) hc _).mono ?_
      rintro e w3 ⟨rfl, hb3⟩
      have H4 := Hd ((H3.o.step hb3).tail)
      clear hb3 H3
      obtain ⟨i, hi⟩ : ∃ i, i = m / 64 := ⟨_, rfl⟩
      obtain ⟨s, hs⟩ : ∃ s, s = m % 64 := ⟨_, rfl⟩
      obtain ⟨p, hp⟩ : ∃ p, p = 2 ^ s := ⟨_, rfl⟩
      obtain ⟨v, hv⟩ : ∃ v, v = w (q + 2 ^ m) i := ⟨_, rfl⟩
      obtain ⟨HY, hqm⟩ := HQ.o.yes hc
      have e1 : (m : Int) / 64 = (i : Int) := by omega
      have e2 : bits .and .i64 (m : Int) 63 = (s : Int) := by rw [and63 m (by omega), hs]
      have e3 : IntKind.u64.wrap (s : Int) = (s : Int) := IntWalk.u64_in _ (by omega)
      have hpl : p < B := by rw [hp]; exact (show 2 ^ s < 2 ^ 64 from Nat.pow_lt_pow_right (by decide) (by omega))
      have e4 : IntKind.u64.wrap (2 ^ s) = (p : Int) := by
       have : ((2 : Int) ^ s) = ((p : Nat) : Int) := by rw [hp]; simp
       unfold B at hpl; rw [this, IntWalk.u64_in _ (by omega)]
      have hwl := w_lt q i
      have e5 : bits .or .u64 (w q i : Nat) (p : Int) = (v : Int) := by
       rw [u64_or_nat _ _ (by unfold B at hwl; exact hwl) (by unfold B at hpl; exact hpl), hp, hs, hv, hi, quo_put hqm hm]
      have hset : (enc q).setIfInBounds i (.int .u64 (v : Nat)) = enc (q + 2 ^ m) := by rw [hv, hi]; exact quo_words hqm hm
      have hi6 : i < 6 := by omega
      have hs64 : s < 64 := by omega
      have HYY := Hd HY
      have HST := Hd hset
      clear HY hqm hi hs hp hv hset
      unfold B at hwl hpl
      have hi6' : (i : Int) < 6 := by omega
      go_wp2_with (first
       | (refine wpList_put rfl 115 (.tmp 2) (.tmp 27) rfl W.heap.size (enc (r - b * 2 ^ m)) rfl rfl 115 _ (H4.o.get 0 rfl) (by rw [enc_size]; kernel_rfl) (by rw [enc_size, enc_size]) (enc_all _) ?_
          intro W5 HB5 hfar5 hbel5 hsz5 hcell5
          have H5 := Hd (H4.o.turn (Nat.le_refl _) (by simp) HB5 hfar5 hbel5)
          have cq := enc_cell (H5.o.get 4 rfl) hi6
          have fq := (H5.o.get 4 rfl).frozen i
          clear HB5 hfar5 hbel5 hcell5 hsz5))
      go_roundw
      case rel =>
       refine ⟨(m : Int) - 1, q + 2 ^ m, r - b * 2 ^ m, HYY, rfl, by omega, by omega, Hd ?_⟩
       have h0 := (H5.o.of_mem (gs := [(W.heap.size + 4, 115, enc q), (W.heap.size, 115, enc (r - b * 2 ^ m)), (W.heap.size + 1, 115, enc b), (W.heap.size + 2, 115, enc 0), (W.heap.size + 3, 115, enc 0)]) (by simp)).set (by simp) (by simp <;> omega) i (.int .u64 (v : Nat))
       rw [HST.o] at h0
       refine Has.of_mem h0 (fun f hf => ?_)
       simp only [List.mem_cons, List.not_mem_nil, or_false] at hf ⊢
       rcases hf with h | h | h | h | h <;> simp [h]
      case measure => simp [intOf]
    . have hcv : cmpv r (b * 2 ^ m) < 0 := by
       have := mt cmpv_ge.1 hc; omega
      have HN := Hd (HQ.o.no hc)
      go_wp2_with fail
      go_roundw
      case rel => exact ⟨(m : Int) - 1, q, r, HN, rfl, by omega, by omega, Hd H3.o.tail⟩
      case measure => simp [intOf]
  . have hn : n < 0 := by omega
    obtain ⟨rfl, rfl⟩ := HQ.o.done hn hb
    go_wp2_with fail
    refine wp_region_tree (C := fun w' => Has W [(W.heap.size, 115, enc (a % b)), (W.heap.size + 4, 115, enc (a / b))] w') (.seg [0, 1] (.turn 2 (.turn 3 .nil))) (by kernel_rfl) (by kernel_rfl) ((HH.o.of_mem (by simp)).drew) ?_
    simp only [wpPlan, List.map_cons, List.map_nil, opAt, List.getElem?_cons_succ, List.getElem?_cons_zero, Option.getD_some]
    refine wpQuiet_row 115 (.tmp 6) rfl rfl (W.heap.size + 4) rfl 115 (enc (a / b)) _ (fun w hw => hw.get 1 rfl) Tryz.underlying115 rfl (by rw [enc_size]; kernel_rfl) (fun K1 k1 => ?_)
    go_simp
    refine k1 _ ?_
    clear k1 K1
    refine wpQuiet_row 115 (.tmp 2) rfl rfl W.heap.size rfl 115 (enc (a % b)) _ (fun w hw => hw.get 0 rfl) Tryz.underlying115 rfl (by rw [enc_size]; kernel_rfl) (fun K1 k1 => ?_)
    go_simp
    refine k1 _ ?_
    clear k1 K1
    refine wpQuiet_nil ?_
    have HD := Hd HH.o.drew
    refine wpList_put rfl 115 (.tmp 4) (.tmp 38) rfl (W.heap.size + 2) (enc (a / b)) rfl rfl 115 _ (HD.o.get 2 rfl) (by rw [enc_size]; kernel_rfl) (by rw [enc_size, enc_size]) (enc_all _) ?_
    intro W5 HB5 hfar5 hbel5 hsz5 hcell5
    have H5 := Hd ((HD.o.of_mem (gs := [(W.heap.size + 2, 115, enc 0), (W.heap.size + 3, 115, enc 0), (W.heap.size, 115, enc (a % b)), (W.heap.size + 4, 115, enc (a / b))]) (by simp)).turn (by simp) (by simp <;> omega) HB5 hfar5 hbel5)
    clear HB5 hfar5 hbel5 hcell5 hsz5
    go_wp2_with fail
    refine ⟨H5.o.of_mem (by simp), ?_⟩
    refine wpList_put rfl 115 (.tmp 5) (.tmp 39) rfl (W.heap.size + 3) (enc (a % b)) rfl rfl 115 _ (H5.o.get 1 rfl) (by rw [enc_size]; kernel_rfl) (by rw [enc_size, enc_size]) (enc_all _) ?_
    intro W6 HB6 hfar6 hbel6 hsz6 hcell6
    have H6 := Hd (H5.o.swap.turn (by simp) (by simp <;> omega) HB6 hfar6 hbel6)
    clear HB6 hfar6 hbel6 hcell6 hsz6
    go_wp2_with fail
    refine ⟨H6.o.of_mem (by simp), ?_⟩
    go_wp2_with fail
    exact bodyPost_ret (results_rows2 rfl _ W6 (W.heap.size + 2) (W.heap.size + 3) 115 115 (enc (a / b)) (enc (a % b)) _ _ rfl (H6.o.get 1 rfl) Tryz.underlying115 rfl (by rw [enc_size]; kernel_rfl) rfl (H6.o.get 0 rfl) Tryz.underlying115 rfl (by rw [enc_size]; kernel_rfl)) rfl ⟨rfl, H6.o.below⟩
end Wide
end Go.Proofs.YtkdnebalpdebeaaGreatDoor
