/- Lemmas of a claim: BigE -/
import Derived.Test.YtkdnebalpdebeaaGreatDoorG30
set_option linter.unusedVariables false
set_option linter.unusedSimpArgs false
set_option maxHeartbeats 16000000
set_option maxRecDepth 100000
namespace Go.Proofs.YtkdnebalpdebeaaGreatDoor
namespace Big
open Go.RowKit Go.Deep
theorem val_take_ge {l : List Nat} {k : Nat} (h : l.length <= k) : val (l.take (k + 1)) = val (l.take k) := by rw [List.take_of_length_le (by omega), List.take_of_length_le h]
theorem plus_step {P cy x y va vb vd T : Nat} (hT : T = cy + x + y) (h : vd + P * cy = va + vb) : vd + P * (T % 4294967296) + P * 4294967296 * (T / 4294967296) = va + P * x + (vb + P * y) := by
 have e : P * (T % 4294967296) + P * 4294967296 * (T / 4294967296) = P * T := by rw [Nat.mul_assoc, <- Nat.mul_add, Nat.mod_add_div]
 have e2 : P * T = P * cy + P * x + P * y := by rw [hT, Nat.mul_add, Nat.mul_add]
 omega
theorem plus_end {l m : List Nat} {k cy vd : Nat} (hl : ∀ d ∈ l, d < 4294967296) (hm : ∀ d ∈ m, d < 4294967296) (h : vd + 4294967296 ^ k * cy = val (l.take k) + val (m.take k)) (h1 : l.length <= k) (h2 : m.length <= k) (h3 : l.length < k ∨ cy = 0) (h4 : m.length < k ∨ cy = 0) : cy = 0 := by
 rw [List.take_of_length_le h1, List.take_of_length_le h2] at h
 rcases Nat.eq_zero_or_pos cy with h0 | h0
 . exact h0
 . have a1 := val_lt hl
   have a2 := val_lt hm
   obtain ⟨j, rfl⟩ : ∃ j, k = j + 1 := ⟨k - 1, by omega⟩
   have b1 : 4294967296 ^ l.length <= 4294967296 ^ j := Nat.pow_le_pow_right (by omega) (by omega)
   have b2 : 4294967296 ^ m.length <= 4294967296 ^ j := Nat.pow_le_pow_right (by omega) (by omega)
   have b3 : 4294967296 ^ (j + 1) <= 4294967296 ^ (j + 1) * cy := Nat.le_mul_of_pos_right _ h0
   rw [Nat.pow_succ] at b3 h
   omega
theorem plus_ok (P Q : Option Addr) (c d a b : Nat) (w : World) (hx : Holds w w.heap.size P a) (hy : Holds w w.heap.size Q b) (hl : (digits a).length <= 1048576) (hm : (digits b).length <= 1048576) :
 Calls Tryz.prog 76 #[.slice P (digits a).length c, .slice Q (digits b).length d] w fun e w' => ∃ v, e = .returned v /\ Made w w' v (a + b) := by
 have HX := Hd (show RI w w.heap.size .u64 P (toI (digits a)) from hx)
 have HY := Hd (show RI w w.heap.size .u64 Q (toI (digits b)) from hy)
 have HDA := Hd (digits_lt a)
 have HDB := Hd (digits_lt b)
 have HVA := Hd (val_digits a)
 have HVB := Hd (val_digits b)
 clear hx hy
 generalize digits a = l at *
 generalize digits b = m at *
 go_enter Tryz.func76, Tryz.ntmps76
 go_wp2_with fail
 have HO0 : Hi (w.ownsRow w.heap.size 24 1 (.slice none 0 0) 0 (nums .u64 (toI []))) := Hd (own_nil _ _ _ _)
 go_loopw [5, 6, 7] (fun v y i wr => ∃ (k cy : Nat) (A : Option Addr) (c' q : Nat) (done : List Nat), i = .int .i64 k /\ y = .int .u64 cy /\ cy <= 1 /\ v = .slice A q c' /\ q = k /\ k <= 1048577 /\ Hi (l.length < k -> m.length < k -> cy = 0) /\ Hi (done.length = q) /\ Hi (wr.ownsRow w.heap.size 24 1 (.slice A q c') q (nums .u64 (toI done))) /\ Hi (∀ d ∈ done, d < 4294967296) /\
  Hi (val done + 4294967296 ^ q * cy = val (l.take k) + val (m.take k)) /\ Below w.heap.size w wr) (fun _ _ i _ => 1048580 - (intOf i).toNat)
 case atStart => exact ⟨0, 0, none, 0, 0, [], rfl, rfl, by omega, rfl, rfl, by omega, Hd (fun h => by omega), Hd rfl, HO0, Hd (by intro d hd; cases hd), Hd (by simp [val]), Below.refl _ _⟩
 case round =>
  clear HO0
  obtain ⟨k, cy, A, c', q, done, rfl, rfl, hcy, rfl, hqk, hk1, HK, HL, HO, HB, HE, hbl⟩ := hrel
  have hs0 := hbl.size
  have HQ := Hd hqk
  by_cases h1 : k < l.length
  . by_cases h2 : k < m.length
    . skip
      obtain ⟨ad, hPA, _, ca⟩ := (HX.o.below hbl).one (j := k) (by rw [toI_length]; exact h1)
      rw [rd_toI h1] at ca
      have hxlt := HDA.o _ (List.getElem_mem h1)
      rw [show l[k] = l.getD k 0 from by simp [List.getD, h1]] at hxlt
      have HVX := Hd (val_take_succ h1)
      obtain ⟨x, hx⟩ : ∃ x, x = l.getD k 0 := ⟨_, rfl⟩
      rw [<- hx] at ca hxlt HVX
      clear hx
      have g1 : (k : Int) < l.length := by omega
      subst hPA
      obtain ⟨bd, hPB, _, cb⟩ := (HY.o.below hbl).one (j := k) (by rw [toI_length]; exact h2)
      rw [rd_toI h2] at cb
      have hylt := HDB.o _ (List.getElem_mem h2)
      rw [show m[k] = m.getD k 0 from by simp [List.getD, h2]] at hylt
      have HVY := Hd (val_take_succ h2)
      obtain ⟨y, hy⟩ : ∃ y, y = m.getD k 0 := ⟨_, rfl⟩
      rw [<- hy] at cb hylt HVY
      clear hy
      have g2 : (k : Int) < m.length := by omega
      subst hPB
      obtain ⟨T, hT⟩ : ∃ T : Nat, T = cy + x + y := ⟨_, rfl⟩
      have hwr : (cy : Int) + (x : Int) + (y : Int) = (T : Int) := by omega
      have hTd : T / 4294967296 <= 1 := by omega
      have HTD := Hd hTd
      have HKB := Hd (show k + 1 <= 1048577 by have := HK.o; omega)
      have HTT := Hd hT
      have hqb : (q + 1) * 8 <= 140737488355328 := by omega
      have hL := HL.o
      have HOO := Hd (show wr.ownsRow w.heap.size 24 1 (.slice A q c') (toI done).length (nums .u64 (toI done)) by rw [toI_length, hL]; exact HO.o)
      clear hL hqk hT hTd
      go_wp2_with (at_builtin; refine wpList_app1 wr rfl (.tmp 44) (.tmp 47) _ rfl w.heap.size 24 .u64 8 Tryz.underlying41 info64 (by omega) (.slice A q c') (toI done) HOO.o rfl ((T : Int) % 4294967296) rfl (by rw [toI_length, HL.o]; exact hqb) hs0 ?_; intro v3 w3 hown3 hg3 hat3)
      obtain ⟨A3, c3, rfl⟩ := own_slice hown3
      have b3 := below_own hbl hg3 HO.o (Nat.le_refl _) hs0
      go_roundw
      case rel =>
       have e : toI done ++ [(T : Int) % 4294967296] = toI (done ++ [T % 4294967296]) := by rw [toI_app]; simp [toI]
       have hps := plus_step HTT.o HE.o
       rw [HQ.o, <- Nat.pow_succ] at hps
       have hvx := HVX.o
       have hvy := HVY.o
       have hsum : val done + 4294967296 ^ k * (T % 4294967296) + 4294967296 ^ (k + 1) * (T / 4294967296) = val (l.take (k + 1)) + val (m.take (k + 1)) := by rw [hvx, hvy]; first | exact hps | simpa using hps
       have hval : val (done ++ [T % 4294967296]) = val done + 4294967296 ^ k * (T % 4294967296) := by
        rw [val_app, HL.o, HQ.o]; simp [val]
       rw [<- hval] at hsum
       refine ⟨k + 1, T / 4294967296, A3, c3, _, done ++ [T % 4294967296], by go_num, congrArg (Value.int IntKind.u64) (by omega), HTD.o, rfl, by rw [List.length_append, toI_length, HL.o, HQ.o]; rfl, HKB.o, Hd (fun e1 e2 => ?_), Hd (by simp [toI_length]), Hd (by rw [e] at hown3; simpa [toI_length] using hown3), Hd ?_, Hd ?_, b3⟩
       . exact plus_end HDA.o HDB.o hsum (by omega) (by omega) (.inl e1) (.inl e2)
       . intro d hd
         rcases List.mem_append.1 hd with h | h
         . exact HB.o d h
         . obtain rfl := List.mem_singleton.1 h; omega
       . rw [show (toI done ++ [(T : Int) % 4294967296]).length = k + 1 by rw [List.length_append, toI_length, HL.o, HQ.o]; rfl]
         exact hsum
      case measure => simp [intOf]; omega
    . skip
      obtain ⟨ad, hPA, _, ca⟩ := (HX.o.below hbl).one (j := k) (by rw [toI_length]; exact h1)
      rw [rd_toI h1] at ca
      have hxlt := HDA.o _ (List.getElem_mem h1)
      rw [show l[k] = l.getD k 0 from by simp [List.getD, h1]] at hxlt
      have HVX := Hd (val_take_succ h1)
      obtain ⟨x, hx⟩ : ∃ x, x = l.getD k 0 := ⟨_, rfl⟩
      rw [<- hx] at ca hxlt HVX
      clear hx
      have g1 : (k : Int) < l.length := by omega
      subst hPA
      have HVY := Hd (val_take_ge (l := m) (k := k) (by omega))
      have g2 : ¬ (k : Int) < m.length := by omega
      obtain ⟨T, hT⟩ : ∃ T : Nat, T = cy + x + 0 := ⟨_, rfl⟩
      have hwr : (cy : Int) + (x : Int) = (T : Int) := by omega
      have hTd : T / 4294967296 <= 1 := by omega
      have HTD := Hd hTd
      have HKB := Hd (show k + 1 <= 1048577 by have := HK.o; omega)
      have HTT := Hd hT
      have hqb : (q + 1) * 8 <= 140737488355328 := by omega
      have hL := HL.o
      have HOO := Hd (show wr.ownsRow w.heap.size 24 1 (.slice A q c') (toI done).length (nums .u64 (toI done)) by rw [toI_length, hL]; exact HO.o)
      clear hL hqk hT hTd
      go_wp2_with (at_builtin; refine wpList_app1 wr rfl (.tmp 44) (.tmp 47) _ rfl w.heap.size 24 .u64 8 Tryz.underlying41 info64 (by omega) (.slice A q c') (toI done) HOO.o rfl ((T : Int) % 4294967296) rfl (by rw [toI_length, HL.o]; exact hqb) hs0 ?_; intro v3 w3 hown3 hg3 hat3)
      obtain ⟨A3, c3, rfl⟩ := own_slice hown3
      have b3 := below_own hbl hg3 HO.o (Nat.le_refl _) hs0
      go_roundw
      case rel =>
       have e : toI done ++ [(T : Int) % 4294967296] = toI (done ++ [T % 4294967296]) := by rw [toI_app]; simp [toI]
       have hps := plus_step HTT.o HE.o
       rw [HQ.o, <- Nat.pow_succ] at hps
       have hvx := HVX.o
       have hvy := HVY.o
       have hsum : val done + 4294967296 ^ k * (T % 4294967296) + 4294967296 ^ (k + 1) * (T / 4294967296) = val (l.take (k + 1)) + val (m.take (k + 1)) := by rw [hvx, hvy]; first | exact hps | simpa using hps
       have hval : val (done ++ [T % 4294967296]) = val done + 4294967296 ^ k * (T % 4294967296) := by
        rw [val_app, HL.o, HQ.o]; simp [val]
       rw [<- hval] at hsum
       refine ⟨k + 1, T / 4294967296, A3, c3, _, done ++ [T % 4294967296], by go_num, congrArg (Value.int IntKind.u64) (by omega), HTD.o, rfl, by rw [List.length_append, toI_length, HL.o, HQ.o]; rfl, HKB.o, Hd (fun e1 e2 => ?_), Hd (by simp [toI_length]), Hd (by rw [e] at hown3; simpa [toI_length] using hown3), Hd ?_, Hd ?_, b3⟩
       . exact plus_end HDA.o HDB.o hsum (by omega) (by omega) (.inl e1) (.inl e2)
       . intro d hd
         rcases List.mem_append.1 hd with h | h
         . exact HB.o d h
         . obtain rfl := List.mem_singleton.1 h; omega
       . rw [show (toI done ++ [(T : Int) % 4294967296]).length = k + 1 by rw [List.length_append, toI_length, HL.o, HQ.o]; rfl]
         exact hsum
      case measure => simp [intOf]; omega
  . by_cases h2 : k < m.length
    . skip
      have HVX := Hd (val_take_ge (l := l) (k := k) (by omega))
      have g1 : ¬ (k : Int) < l.length := by omega
      obtain ⟨bd, hPB, _, cb⟩ := (HY.o.below hbl).one (j := k) (by rw [toI_length]; exact h2)
      rw [rd_toI h2] at cb
      have hylt := HDB.o _ (List.getElem_mem h2)
      rw [show m[k] = m.getD k 0 from by simp [List.getD, h2]] at hylt
      have HVY := Hd (val_take_succ h2)
      obtain ⟨y, hy⟩ : ∃ y, y = m.getD k 0 := ⟨_, rfl⟩
      rw [<- hy] at cb hylt HVY
      clear hy
      have g2 : (k : Int) < m.length := by omega
      subst hPB
      obtain ⟨T, hT⟩ : ∃ T : Nat, T = cy + 0 + y := ⟨_, rfl⟩
      have hwr : (cy : Int) + (y : Int) = (T : Int) := by omega
      have hTd : T / 4294967296 <= 1 := by omega
      have HTD := Hd hTd
      have HKB := Hd (show k + 1 <= 1048577 by have := HK.o; omega)
      have HTT := Hd hT
      have hqb : (q + 1) * 8 <= 140737488355328 := by omega
      have hL := HL.o
      have HOO := Hd (show wr.ownsRow w.heap.size 24 1 (.slice A q c') (toI done).length (nums .u64 (toI done)) by rw [toI_length, hL]; exact HO.o)
      clear hL hqk hT hTd
      go_wp2_with (at_builtin; refine wpList_app1 wr rfl (.tmp 44) (.tmp 47) _ rfl w.heap.size 24 .u64 8 Tryz.underlying41 info64 (by omega) (.slice A q c') (toI done) HOO.o rfl ((T : Int) % 4294967296) rfl (by rw [toI_length, HL.o]; exact hqb) hs0 ?_; intro v3 w3 hown3 hg3 hat3)
      obtain ⟨A3, c3, rfl⟩ := own_slice hown3
      have b3 := below_own hbl hg3 HO.o (Nat.le_refl _) hs0
      go_roundw
      case rel =>
       have e : toI done ++ [(T : Int) % 4294967296] = toI (done ++ [T % 4294967296]) := by rw [toI_app]; simp [toI]
       have hps := plus_step HTT.o HE.o
       rw [HQ.o, <- Nat.pow_succ] at hps
       have hvx := HVX.o
       have hvy := HVY.o
       have hsum : val done + 4294967296 ^ k * (T % 4294967296) + 4294967296 ^ (k + 1) * (T / 4294967296) = val (l.take (k + 1)) + val (m.take (k + 1)) := by rw [hvx, hvy]; first | exact hps | simpa using hps
       have hval : val (done ++ [T % 4294967296]) = val done + 4294967296 ^ k * (T % 4294967296) := by
        rw [val_app, HL.o, HQ.o]; simp [val]
       rw [<- hval] at hsum
       refine ⟨k + 1, T / 4294967296, A3, c3, _, done ++ [T % 4294967296], by go_num, congrArg (Value.int IntKind.u64) (by omega), HTD.o, rfl, by rw [List.length_append, toI_length, HL.o, HQ.o]; rfl, HKB.o, Hd (fun e1 e2 => ?_), Hd (by simp [toI_length]), Hd (by rw [e] at hown3; simpa [toI_length] using hown3), Hd ?_, Hd ?_, b3⟩
       . exact plus_end HDA.o HDB.o hsum (by omega) (by omega) (.inl e1) (.inl e2)
       . intro d hd
         rcases List.mem_append.1 hd with h | h
         . exact HB.o d h
         . obtain rfl := List.mem_singleton.1 h; omega
       . rw [show (toI done ++ [(T : Int) % 4294967296]).length = k + 1 by rw [List.length_append, toI_length, HL.o, HQ.o]; rfl]
         exact hsum
      case measure => simp [intOf]; omega
    . by_cases h3 : 0 < cy
      . skip
        have HVX := Hd (val_take_ge (l := l) (k := k) (by omega))
        have g1 : ¬ (k : Int) < l.length := by omega
        have HVY := Hd (val_take_ge (l := m) (k := k) (by omega))
        have g2 : ¬ (k : Int) < m.length := by omega
        have g3 : (0 : Int) < cy := by omega
        obtain ⟨T, hT⟩ : ∃ T : Nat, T = cy + 0 + 0 := ⟨_, rfl⟩
        obtain rfl : T = cy := by omega
        have hTd : T / 4294967296 <= 1 := by omega
        have HTD := Hd hTd
        have HKB := Hd (show k + 1 <= 1048577 by have := HK.o; omega)
        have HTT := Hd hT
        have hqb : (q + 1) * 8 <= 140737488355328 := by omega
        have hL := HL.o
        have HOO := Hd (show wr.ownsRow w.heap.size 24 1 (.slice A q c') (toI done).length (nums .u64 (toI done)) by rw [toI_length, hL]; exact HO.o)
        clear hL hqk hT hTd
        go_wp2_with (at_builtin; refine wpList_app1 wr rfl (.tmp 44) (.tmp 47) _ rfl w.heap.size 24 .u64 8 Tryz.underlying41 info64 (by omega) (.slice A q c') (toI done) HOO.o rfl ((T : Int) % 4294967296) rfl (by rw [toI_length, HL.o]; exact hqb) hs0 ?_; intro v3 w3 hown3 hg3 hat3)
        obtain ⟨A3, c3, rfl⟩ := own_slice hown3
        have b3 := below_own hbl hg3 HO.o (Nat.le_refl _) hs0
        go_roundw
        case rel =>
         have e : toI done ++ [(T : Int) % 4294967296] = toI (done ++ [T % 4294967296]) := by rw [toI_app]; simp [toI]
         have hps := plus_step HTT.o HE.o
         rw [HQ.o, <- Nat.pow_succ] at hps
         have hvx := HVX.o
         have hvy := HVY.o
         have hsum : val done + 4294967296 ^ k * (T % 4294967296) + 4294967296 ^ (k + 1) * (T / 4294967296) = val (l.take (k + 1)) + val (m.take (k + 1)) := by rw [hvx, hvy]; first | exact hps | simpa using hps
         have hval : val (done ++ [T % 4294967296]) = val done + 4294967296 ^ k * (T % 4294967296) := by
          rw [val_app, HL.o, HQ.o]; simp [val]
         rw [<- hval] at hsum
         refine ⟨k + 1, T / 4294967296, A3, c3, _, done ++ [T % 4294967296], by go_num, congrArg (Value.int IntKind.u64) (by omega), HTD.o, rfl, by rw [List.length_append, toI_length, HL.o, HQ.o]; rfl, HKB.o, Hd (fun e1 e2 => ?_), Hd (by simp [toI_length]), Hd (by rw [e] at hown3; simpa [toI_length] using hown3), Hd ?_, Hd ?_, b3⟩
         . exact plus_end HDA.o HDB.o hsum (by omega) (by omega) (.inl e1) (.inl e2)
         . intro d hd
           rcases List.mem_append.1 hd with h | h
           . exact HB.o d h
           . obtain rfl := List.mem_singleton.1 h; omega
         . rw [show (toI done ++ [(T : Int) % 4294967296]).length = k + 1 by rw [List.length_append, toI_length, HL.o, HQ.o]; rfl]
           exact hsum
        case measure => simp [intOf]; omega
      . obtain rfl : cy = 0 := by omega
        have g1 : ¬ (k : Int) < l.length := by omega
        have g2 : ¬ (k : Int) < m.length := by omega
        have hE := HE.o
        rw [HQ.o, List.take_of_length_le (by omega), List.take_of_length_le (by omega), HVA.o, HVB.o, Nat.mul_zero, Nat.add_zero] at hE
        have hown := HO.o
        rw [show q = (toI done).length by rw [toI_length, HL.o]] at hown
        have hc3 := own_cap hown
        have hr3 := (RI.of_own hown).2
        have hl3 : (toI done).length = done.length := toI_length _
        have N := norm_ok A c' wr.heap.size done wr hr3 (by rw [HL.o]; omega) (by rw [<- hl3]; exact hc3)
        have hm := RI.normed hr3 HB.o
        rw [norm_val HB.o, hE] at N
        rw [hE] at hm
        have hlen : (digits (a + b)).length <= c' := by
         rw [<- hE, <- norm_val HB.o]
         exact Nat.le_trans (norm_length_le _) (by rw [<- hl3]; exact hc3)
        have N' := Hd (callsCast N (args' := #[.slice A q c']) (by rw [HL.o]))
        have HM := Hd hm
        clear N hm hE hl3 hr3 hc3 hown hqk
        go_wp2_with fail
        refine N'.o.mono ?_
        rintro e' w4 ⟨rfl, rfl⟩
        go_wp2
        go_ret
        exact ⟨_, rfl, A, c', rfl, hlen, HM.o, hbl⟩
end Big
end Go.Proofs.YtkdnebalpdebeaaGreatDoor
