/- Lemmas of a claim: BigF -/
import Derived.Test.YtkdnebalpdebeaaGreatDoorG31
set_option linter.unusedVariables false
set_option linter.unusedSimpArgs false
set_option maxHeartbeats 16000000
set_option maxRecDepth 100000
namespace Go.Proofs.YtkdnebalpdebeaaGreatDoor
namespace Big
open Go.RowKit Go.Deep
theorem minus_step {P bw x y X va vb vc : Nat} (hX : X + bw + y = x + 4294967296) (hlt : X < 8589934592) (h : vc + vb = va + P * bw) : vc + P * (X % 4294967296) + (vb + P * y) = va + P * x + P * 4294967296 * (1 - X / 4294967296) := by
 have e1 : P * (X + bw + y) = P * (x + 4294967296) := by rw [hX]
 rw [Nat.mul_add, Nat.mul_add, Nat.mul_add] at e1
 obtain ⟨r, hr⟩ : ∃ r, r = X % 4294967296 := ⟨_, rfl⟩
 have hd : X / 4294967296 = 0 ∨ X / 4294967296 = 1 := by omega
 rw [<- hr]
 rcases hd with hd | hd
 . rw [hd]
   have : X = r := by omega
   rw [this] at e1
   omega
 . rw [hd]
   have : X = r + 4294967296 := by omega
   rw [this, Nat.mul_add] at e1
   omega
theorem minus_ok (P Q : Option Addr) (c d a b : Nat) (hba : b <= a) (w : World) (hx : Holds w w.heap.size P a) (hy : Holds w w.heap.size Q b) (hl : (digits a).length <= 1048576) :
 Calls Tryz.prog 78 #[.slice P (digits a).length c, .slice Q (digits b).length d] w fun e w' => ∃ v, e = .returned v /\ Made w w' v (a - b) := by
 have hmm : (digits b).length <= (digits a).length := by
  rcases Nat.lt_or_ge (digits a).length (digits b).length with h | h
  . have := digits_length_lt h; omega
  . exact h
 have HX := Hd (show RI w w.heap.size .u64 P (toI (digits a)) from hx)
 have HY := Hd (show RI w w.heap.size .u64 Q (toI (digits b)) from hy)
 have HDA := Hd (digits_lt a)
 have HDB := Hd (digits_lt b)
 have HVA := Hd (val_digits a)
 have HVB := Hd (val_digits b)
 clear hx hy
 generalize digits a = l at *
 generalize digits b = m at *
 obtain ⟨i0, hi0, hz0, hz1, hz2⟩ := info_parts info64
 go_enter Tryz.func78, Tryz.ntmps78
 go_wp2_with (refine wpList_make_full _ rfl (.tmp 10) (.tmp 10) 41 rfl w.heap.size 24 _ (.int .u64 0) 1 Tryz.underlying41 hi0 hz0 hz1 .i64 .i64 (l.length : Int) (l.length : Int) l.length rfl rfl rfl rfl (by rw [hz2]; omega) (by simp only [maxLen]; omega) (Nat.le_refl _) ?_; intro w2 hown hgr)
 rw [show (madeCells (Value.int .u64 0).cells (l.length * 1)).toList = nums .u64 (toI (List.replicate l.length 0)) from by rw [Nat.mul_one]; exact (toList_madeCells_one _ _).trans (by simp [nums, toI])] at hown
 have b2 : Below w.heap.size w w2 := (Below.refl _ _).grown hgr (Nat.le_refl _) (by simp)
 have hD0 : Digs w2 w.heap.size (List.replicate l.length 0) := ⟨(RI.of_own hown).2, own_some hown, fun x hx => by rw [List.eq_of_mem_replicate hx]; omega⟩
 have HD0 := Hd hD0
 obtain ⟨g, hg⟩ : ∃ g, g = w.heap.size := ⟨_, rfl⟩
 rw [<- hg] at HD0 ⊢
 have hgw : w.heap.size <= g := by omega
 clear hown hgr hD0 hg
 go_loopw [6, 14] (fun y i wr => ∃ (k bw : Nat) (C : List Nat), y = .int .u64 bw /\ bw <= 1 /\ i = .int .i64 k /\ k <= l.length /\ Hi (C.length = l.length) /\ Hi (Digs wr g C) /\ Hi (val C + val (m.take k) = val (l.take k) + 4294967296 ^ k * bw) /\ Hi (∀ j, k <= j -> C.getD j 0 = 0) /\ Below w.heap.size w wr) (fun _ i _ => l.length - (intOf i).toNat)
 case atStart => exact ⟨0, 0, List.replicate l.length 0, rfl, by omega, rfl, by omega, Hd (by simp), HD0, Hd (by simp [val_zeros, val]), Hd (fun j _ => by rw [List.getD, List.getElem?_replicate]; split <;> rfl), b2⟩
 case round =>
  clear b2 HD0
  obtain ⟨k, bw, C, rfl, hbw, rfl, hk, HC, HD, HE, HZ, hbl⟩ := hrel
  by_cases h1 : k < l.length
  . obtain ⟨ad, hPA, _, ca⟩ := (HX.o.below hbl).one (j := k) (by rw [toI_length]; exact h1)
    rw [rd_toI h1] at ca
    have hxlt := HDA.o _ (List.getElem_mem h1)
    rw [show l[k] = l.getD k 0 from by simp [List.getD, h1]] at hxlt
    have HVX := Hd (val_take_succ h1)
    obtain ⟨x, hx⟩ : ∃ x, x = l.getD k 0 := ⟨_, rfl⟩
    rw [<- hx] at ca hxlt HVX
    clear hx
    have g1 : (k : Int) < l.length := by omega
    subst hPA
    have cc := HD.o.get (j := k) (by rw [HC.o]; exact h1)
    have fc := HD.o.free k
    have HVS := Hd (fun v => val_set (l := C) (i := k) (by rw [HC.o]; exact h1) v)
    have HZK := Hd (HZ.o k (Nat.le_refl _))
    by_cases h2 : k < m.length
    . skip
      obtain ⟨bd, hPB, _, cb⟩ := (HY.o.below hbl).one (j := k) (by rw [toI_length]; exact h2)
      rw [rd_toI h2] at cb
      have hylt := HDB.o _ (List.getElem_mem h2)
      rw [show m[k] = m.getD k 0 from by simp [List.getD, h2]] at hylt
      have HVY := Hd (val_take_succ h2)
      obtain ⟨y, hy⟩ : ∃ y, y = m.getD k 0 := ⟨_, rfl⟩
      rw [<- hy] at cb hylt HVY
      clear hy
      have g2 : (k : Int) < m.length := by omega
      subst hPB
      obtain ⟨X, hX⟩ : ∃ X : Nat, X + bw + y = x + 4294967296 := ⟨x + 4294967296 - bw - y, by omega⟩
      have hXI : (x : Int) + 4294967296 - (bw : Int) - (y : Int) = (X : Int) := by omega
      have hXlt : X < 8589934592 := by omega
      have HXX := Hd hX
      have hq1 : 1 - (X : Int) / 4294967296 = ((1 - X / 4294967296 : Nat) : Int) := by omega
      have hq2 : 0 <= (X : Int) / 4294967296 /\ (X : Int) / 4294967296 <= 1 := by omega
      clear hX
      go_wp2_with fail
      go_roundw
      case rel =>
       have hs := HVS.o (X % 4294967296)
       rw [HZK.o, Nat.mul_zero, Nat.add_zero] at hs
       have hps := minus_step HXX.o hXlt HE.o
       rw [<- Nat.pow_succ] at hps
       have hvx := HVX.o
       have hvy := HVY.o
       refine ⟨k + 1, 1 - X / 4294967296, C.set k (X % 4294967296), congrArg (Value.int IntKind.u64) (by omega), by omega, by go_num, by omega, Hd (by simp [HC.o]), Hd (by simpa using HD.o.put k (X % 4294967296) (by omega)), Hd (by rw [hs, hvx, hvy]; first | exact hps | simpa using hps), Hd (fun j hj => ?_), hbl.setCell hgw _⟩
       rw [List.getD, List.getElem?_set_ne (by omega)]
       exact HZ.o j (by omega)
      case measure => simp [intOf]; omega
    . skip
      have HVY := Hd (val_take_ge (l := m) (k := k) (by omega))
      have g2 : ¬ (k : Int) < m.length := by omega
      obtain ⟨X, hX⟩ : ∃ X : Nat, X + bw + 0 = x + 4294967296 := ⟨x + 4294967296 - bw, by omega⟩
      have hXI : (x : Int) + 4294967296 - (bw : Int) = (X : Int) := by omega
      have hXlt : X < 8589934592 := by omega
      have HXX := Hd hX
      have hq1 : 1 - (X : Int) / 4294967296 = ((1 - X / 4294967296 : Nat) : Int) := by omega
      have hq2 : 0 <= (X : Int) / 4294967296 /\ (X : Int) / 4294967296 <= 1 := by omega
      clear hX
      go_wp2_with fail
      go_roundw
      case rel =>
       have hs := HVS.o (X % 4294967296)
       rw [HZK.o, Nat.mul_zero, Nat.add_zero] at hs
       have hps := minus_step HXX.o hXlt HE.o
       rw [<- Nat.pow_succ] at hps
       have hvx := HVX.o
       have hvy := HVY.o
       refine ⟨k + 1, 1 - X / 4294967296, C.set k (X % 4294967296), congrArg (Value.int IntKind.u64) (by omega), by omega, by go_num, by omega, Hd (by simp [HC.o]), Hd (by simpa using HD.o.put k (X % 4294967296) (by omega)), Hd (by rw [hs, hvx, hvy]; first | exact hps | simpa using hps), Hd (fun j hj => ?_), hbl.setCell hgw _⟩
       rw [List.getD, List.getElem?_set_ne (by omega)]
       exact HZ.o j (by omega)
      case measure => simp [intOf]; omega
  . have hkl : k = l.length := by omega
    have hE := HE.o
    rw [List.take_of_length_le (by omega), List.take_of_length_le (by omega), HVA.o, HVB.o] at hE
    have g1 : ¬ (k : Int) < l.length := by omega
    have hvl := val_lt HD.o.2.2
    rw [HC.o] at hvl
    have hbw0 : bw = 0 := by
     rcases Nat.eq_zero_or_pos bw with h | h
     . exact h
     . obtain rfl : bw = 1 := by omega
       rw [Nat.mul_one, hkl] at hE
       omega
    rw [hbw0, Nat.mul_zero, Nat.add_zero] at hE
    have hv : val C = a - b := by omega
    have N := norm_ok (some ⟨g, 0, none⟩) l.length wr.heap.size C wr HD.o.1 (by rw [HC.o]; omega) (by rw [HC.o]; omega)
    rw [norm_val HD.o.2.2, hv] at N
    have hm := RI.normed HD.o.1 HD.o.2.2
    rw [hv] at hm
    have hlen : (digits (a - b)).length <= l.length := by
     rw [<- hv, <- norm_val HD.o.2.2, <- HC.o]
     exact norm_length_le _
    have N' := Hd (callsCast N (args' := #[.slice (some ⟨g, 0, none⟩) l.length l.length]) (by rw [HC.o]))
    have HM := Hd hm
    clear N hm hE hv hvl hbw0
    go_wp2_with fail
    refine N'.o.mono ?_
    rintro e' w4 ⟨rfl, rfl⟩
    go_wp2
    go_ret
    exact ⟨_, rfl, some ⟨g, 0, none⟩, l.length, rfl, hlen, HM.o, hbl⟩
end Big
end Go.Proofs.YtkdnebalpdebeaaGreatDoor
