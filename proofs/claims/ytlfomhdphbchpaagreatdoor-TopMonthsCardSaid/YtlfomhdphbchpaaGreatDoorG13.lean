/- Lemmas of a claim, several texts in one: ChC, ChD -/
import Derived.Test.YtlfomhdphbchpaaGreatDoorG12
import Derived.Shelf.SlMaps.Clone
/-! chart: maps.Clone, posted -/
namespace Go.Proofs.YtlfomhdphbchpaaGreatDoor.Ch
open Go.RowKit Go.Deep Go.Proofs.YtlfomhdphbchpaaGreatDoor.Wide Go.Proofs.YtlfomhdphbchpaaGreatDoor.Dec Go.Proofs.YtlfomhdphbchpaaGreatDoor.Acc Go.Proofs.YtlfomhdphbchpaaGreatDoor.Mp
open Go.Proofs.YtlfomhdphbchpaaGreatDoor.Cal hiding results_one results_two
set_option linter.unusedVariables false
set_option linter.unusedSimpArgs false
set_option maxHeartbeats 4000000 in
set_option maxRecDepth 100000 in
theorem clone_ok (b : Nat) (es : Array MapEntry) (cl : Nat) (W : World) (hb : W.heap[b]? = some (.map es cl)) :
    Calls Tryz.prog 174 #[.map (some b)] W fun e w' => e = .returned (.map (some W.heap.size)) ∧ w' = W.alloc (.map es cl) := by
  have hq := fun w => run_eql_map_nil_sl (P := Tryz.prog) w 106 _ _ (some b) Tryz.underlying106
  go_enter Tryz.func174, Tryz.ntmps174
  go_wp2
  rw [run_callFunc_extern Tryz.func215 (by kernel_rfl) (by kernel_rfl) (by kernel_rfl) (e := Extern.MapsClone.clone) (by kernel_rfl), run_maps_clone_sl W 106 hb]
  simp only [Result.andThen]
  rw [Oper.upon_value]
  go_wp2
  rw [run_typeAssert_map_sl _ 106 _ _ _ _ Tryz.underlying106]
  simp only [Result.andThen]
  rw [Oper.upon_value]
  go_wp2
  go_ret
  exact ⟨rfl, rfl⟩
/-- an entry of two lines, of the first currency, in whole minor units -/
def entE (p q : Int × Int) : Array Value := lineE p.1 0 p.2 0 ++ lineE q.1 0 q.2 0
theorem entE_part0 (p q : Int × Int) : ∀ (j : Nat) (v : Value), (lineE p.1 0 p.2 0).toList[j]? = some v → (entE p q)[0 + j]? = some v := by
  intro j v h
  have hj : j < 5 := (List.getElem?_eq_some_iff.1 h).1
  have : j = 0 ∨ j = 1 ∨ j = 2 ∨ j = 3 ∨ j = 4 := by omega
  rcases this with rfl | rfl | rfl | rfl | rfl <;> exact h
theorem entE_part1 (p q : Int × Int) : ∀ (j : Nat) (v : Value), (lineE q.1 0 q.2 0).toList[j]? = some v → (entE p q)[5 + j]? = some v := by
  intro j v h
  have hj : j < 5 := (List.getElem?_eq_some_iff.1 h).1
  have : j = 0 ∨ j = 1 ∨ j = 2 ∨ j = 3 ∨ j = 4 := by omega
  rcases this with rfl | rfl | rfl | rfl | rfl <;> exact h
theorem line_dec (k c : Int) : ∀ (j : Nat) (v : Value), (decE c 0).toList[j]? = some v → (lineE k 0 c 0)[2 + j]? = some v := by
  intro j v h
  have hj : j < 3 := (List.getElem?_eq_some_iff.1 h).1
  have : j = 0 ∨ j = 1 ∨ j = 2 := by omega
  rcases this with rfl | rfl | rfl <;> exact h
/-- a line's code and amount -/
def LineOk (p : Int × Int) : Prop := (1 ≤ p.1 ∧ p.1 ≤ 8) ∧ InT p.2 ∧ chk p.2 0 = 0
theorem LineOk.inR {p : Int × Int} (h : LineOk p) : InR p.1 := by unfold InR; have := h.1; omega
set_option maxHeartbeats 4000000 in
set_option maxRecDepth 100000 in
theorem posted_ok (L0 : List Ent) (p q : Int × Int) (hp : LineOk p) (hq : LineOk q) (hL : LOk L0) (b cl0 ge cap : Nat) (W : World) (hm : Map W b L0 cl0) (hB0 : LB L0 cl0) (hE : Blk W ge 175 (entE p q)) :
    Calls Tryz.prog 126 #[.map (some b), .slice (some ⟨ge, 0, none⟩) 2 cap] W fun e w' => e = .returned (.map (some W.heap.size)) ∧ ∃ L cl, LOk L ∧ LB L cl ∧ Map w' W.heap.size L cl ∧ Below W.heap.size W w' := by
  have CC := Lib.hid (clone_ok b (L0.map Ent.row).toArray cl0 W hm)
  have HE := Lib.hid hE
  have hge := hE.lt
  have HM := Lib.hid hm
  have HB0 := Lib.hid hB0
  have HL0 := Lib.hid hL
  have p2 := hp.inR
  have p3 := hp.2.1
  have p4 := hp.2.2
  have q2 := hq.inR
  have q3 := hq.2.1
  have q4 := hq.2.2
  have HP := Lib.hid (And.intro p2 (And.intro p3 p4))
  have HQ := Lib.hid (And.intro q2 (And.intro q3 q4))
  clear hE hm hB0 hL hp hq p2 p3 p4 q2 q3 q4
  go_enter Tryz.func126, Tryz.ntmps126
  go_wp2_with fail
  refine CC.out.mono ?_
  rintro e w1 ⟨rfl, rfl⟩
  have H1 : Hid (HasM W [] W.heap.size L0 cl0 (W.alloc (.map (L0.map Ent.row).toArray cl0))) := Lib.hid ⟨Has.nil (Below.al (Below.refl _ _) _), heap_alloc_new W _⟩
  go_wp2_with fail
  go_loopw [13] (fun i wr => ∃ (k : Nat) (L : List Ent) (cl : Nat), k ≤ 2 ∧ i = .int .i64 k ∧ Hid (LOk L) ∧ Hid (LB L cl) ∧ Hid (HasM W [] W.heap.size L cl wr)) (fun i _ => 2 - (intOf i).toNat)
  case atStart => exact ⟨0, L0, cl0, by omega, rfl, HL0, HB0, H1⟩
  case round =>
    clear H1 HL0 HB0
    obtain ⟨k, L, cl, hk, rfl, HLO, HLB, HH⟩ := hrel
    have hLO := HLO.out
    by_cases hk0 : k = 0
    · subst hk0
      obtain ⟨p2, p3, p4⟩ := HP.out
      have at0 := at_ok L p.1 0 p2 (by unfold InR; omega) hLO
      obtain ⟨c1, s1, hc1, hs1, CAT⟩ := at0
      obtain ⟨c2, s2, x2, hc2, hs2, CAD⟩ := addW_ok c1 s1 p.2 0 hc1 p3 hs1 p4
      have HAT := Lib.hid CAT
      have HAD := Lib.hid CAD
      have HV := Lib.hid (upd_ok (cl := cl) hLO p2 (show InR 0 by unfold InR; omega) (⟨c2, s2, rfl, hc2, hs2⟩ : ∃ c s, Value.agg (decE c2 s2) = .agg (decE c s) ∧ InT c ∧ chk c s = 0))
      have HVB := Lib.hid (HLB.out.upd p.1 0 (.agg (decE c2 s2)))
      have HLI : Hid (∀ e ∈ L, InR e.k1 ∧ InR e.k2) := Lib.hid (fun e he => ⟨(hLO e he).1, (hLO e he).2.1⟩)
      have HPI := Lib.hid p2
      clear CAT CAD hc1 hs1 hc2 hs2 hLO p2 p3 p4
      go_wp2_with (refine wpList_load_part rfl 175 (.tmp 15) rfl ge 0 rfl 175 (entE p q) #[.int .i64 p.1, .int .i64 0, .int .i64 (p.2 / 18446744073709551616), .int .u64 (p.2 % 18446744073709551616), .int .i64 0] _ (HE.out.below HH.out.below hge) (entE_part0 p q) Tryz.underlying175 rfl (by first | kernel_rfl | (rw [enc_size]; kernel_rfl)) ?_)
      obtain ⟨g, hg⟩ : ∃ g, g = wr.heap.size := ⟨_, rfl⟩
      have H2 : Hid (HasM W [(g, 175, #[.int .i64 p.1, .int .i64 0, .int .i64 (p.2 / 18446744073709551616), .int .u64 (p.2 % 18446744073709551616), .int .i64 0]), (g + 1, 233, #[.int .i64 p.1, .int .i64 0])] W.heap.size L cl ((wr.alloc (.cells #[.int .i64 p.1, .int .i64 0, .int .i64 (p.2 / 18446744073709551616), .int .u64 (p.2 % 18446744073709551616), .int .i64 0] 175)).alloc (.cells #[.int .i64 p.1, .int .i64 0] 233))) := Lib.hid (by
        refine ⟨Has.cons ?_ (Has.cons ?_ (Has.nil ?_)), (HH.out.map.step ((Below.refl _ _).alloc (Nat.le_refl _) _)).step ((Below.refl _ _).alloc (Nat.le_refl _) _)⟩
        · rw [hg]; exact (Blk.new _ _ _).alloc _
        · rw [hg]; exact Blk.new' (by simp)
        · exact Below.al (Below.al HH.out.below _) _)
      rw [← hg]
      have hgW : Hid (W.heap.size ≤ g) := Lib.hid (by rw [hg]; exact HH.out.size)
      clear hg HH
      refine wp_region_regF (fun w' => HasM W [(g, 175, #[.int .i64 p.1, .int .i64 0, .int .i64 (p.2 / 18446744073709551616), .int .u64 (p.2 % 18446744073709551616), .int .i64 0]), (g + 1, 233, #[.int .i64 p.1, .int .i64 0])] W.heap.size L cl w') (fun w' => Has W [] w') (fun _ => (0, #[])) [0, 1, 2, 3, 4, 5, 6, 7, 8, 9, 10] [] [11] [10] (by kernel_rfl) (by kernel_rfl) ?_ (fun w w' h hb => h.step hb) ?_ (fun k hk => by cases hk) ?_
      · exact fun w h => h.has.of_mem (by simp)
      · exact H2.out.drew
      clear H2
      simp only [List.map_cons, List.map_nil, opAt, List.getElem?_cons_succ, List.getElem?_cons_zero, Option.getD_some, List.contains_cons, List.contains_nil, Nat.reduceBEq, Bool.or_false, Bool.or_true, Bool.true_or, Bool.false_or]
      repeat (refine wpX_pure rfl ?_; go_big_quiet_step ((intro _; rfl)); refine wpQuiet_nil ?_)
      refine wpX_pure rfl ?_
      refine wpQuiet_row 233 (.tmp 8) rfl rfl (g + 1) rfl 233 #[.int .i64 p.1, .int .i64 0] _ (fun w hw => hw.get 1 rfl) Tryz.underlying233 rfl (by first | kernel_rfl | (rw [enc_size]; kernel_rfl)) (fun KK hKK => ?_)
      go_simp
      refine hKK _ ?_
      clear hKK KK
      refine wpQuiet_nil ?_
      repeat (refine wpX_pure rfl ?_; go_big_quiet_step ((intro _; rfl)); refine wpQuiet_nil ?_)
      refine wpX_pure rfl ?_
      refine wpQuiet_row 233 (.tmp 8) rfl rfl (g + 1) rfl 233 #[.int .i64 p.1, .int .i64 0] _ (fun w hw => hw.get 1 rfl) Tryz.underlying233 rfl (by first | kernel_rfl | (rw [enc_size]; kernel_rfl)) (fun KK hKK => ?_)
      go_simp
      refine hKK _ ?_
      clear hKK KK
      refine wpQuiet_nil ?_
      refine wpX_call (.agg (decE c1 s1)) 175 #[.map (some W.heap.size), .agg #[.int .i64 p.1, .int .i64 0]] rfl (fun w => by go_simp) (fun w hw => HAT.out _ _ _ hw.map) (fun KK hKK => ?_)
      go_simp
      refine hKK _ ?_
      clear hKK KK
      repeat (refine wpX_pure rfl ?_; go_big_quiet_step ((intro _; rfl)); refine wpQuiet_nil ?_)
      refine wpX_pure rfl ?_
      refine wpQuiet_part 168 (.tmp 28) rfl rfl g 2 rfl 175 #[.int .i64 p.1, .int .i64 0, .int .i64 (p.2 / 18446744073709551616), .int .u64 (p.2 % 18446744073709551616), .int .i64 0] (decE p.2 0) _ (fun w hw => hw.get 0 rfl) (line_dec p.1 p.2) Tryz.underlying168 rfl (by first | kernel_rfl | (rw [enc_size]; kernel_rfl)) (fun KK hKK => ?_)
      go_simp
      refine hKK _ ?_
      clear hKK KK
      refine wpQuiet_nil ?_
      refine wpX_call (.tuple #[.agg (decE c2 s2), .int .i64 x2]) 97 #[.agg (decE c1 s1), .agg (decE p.2 0)] rfl (fun w => by go_simp) (fun w hw => HAD.out _) (fun KK hKK => ?_)
      go_simp
      refine hKK _ ?_
      clear hKK KK
      repeat (refine wpX_pure rfl ?_; go_big_quiet_step ((intro _; rfl)); refine wpQuiet_nil ?_)
      repeat (refine wpX_float rfl ?_; go_big_quiet_step ((intro _; rfl)); refine wpQuiet_nil ?_)
      refine wpX_nil ?_
      intro gs w6 H6
      intro hmade
      simp only [putAll, wpTail, opAt, List.getElem?_cons_succ, List.getElem?_cons_zero, Option.getD_some, Act.put]
      clear hmade
      refine wpList_update2 rfl 106 (.tmp 23) (.tmp 24) (.tmp 31) rfl keyA Tryz.underlying106 HPI.out (show InR 0 by unfold InR; omega) W.heap.size L cl rfl rfl HLI.out H6.map ?_
      intro W7 HM7 hfar7 hbel7 hsz7
      have H7 := Lib.hid (H6.turned (Nat.le_refl _) HM7 hfar7 hbel7)
      clear HM7 hfar7 hbel7 hsz7 H6
      go_wp2_with fail
      refine ⟨H7.out.has.of_mem (by simp), ?_⟩
      go_wp2_with fail
      go_roundw
      case rel => exact ⟨1, _, _, by omega, by go_num, HV, HVB, Lib.hid (H7.out.of_mem (by simp))⟩
      case measure => simp [intOf]
    · by_cases hk1 : k = 1
      · subst hk1
        obtain ⟨p2, p3, p4⟩ := HQ.out
        have at0 := at_ok L q.1 0 p2 (by unfold InR; omega) hLO
        obtain ⟨c1, s1, hc1, hs1, CAT⟩ := at0
        obtain ⟨c2, s2, x2, hc2, hs2, CAD⟩ := addW_ok c1 s1 q.2 0 hc1 p3 hs1 p4
        have HAT := Lib.hid CAT
        have HAD := Lib.hid CAD
        have HV := Lib.hid (upd_ok (cl := cl) hLO p2 (show InR 0 by unfold InR; omega) (⟨c2, s2, rfl, hc2, hs2⟩ : ∃ c s, Value.agg (decE c2 s2) = .agg (decE c s) ∧ InT c ∧ chk c s = 0))
        have HVB := Lib.hid (HLB.out.upd q.1 0 (.agg (decE c2 s2)))
        have HLI : Hid (∀ e ∈ L, InR e.k1 ∧ InR e.k2) := Lib.hid (fun e he => ⟨(hLO e he).1, (hLO e he).2.1⟩)
        have HPI := Lib.hid p2
        clear CAT CAD hc1 hs1 hc2 hs2 hLO p2 p3 p4
        go_wp2_with (refine wpList_load_part rfl 175 (.tmp 15) rfl ge 5 rfl 175 (entE p q) #[.int .i64 q.1, .int .i64 0, .int .i64 (q.2 / 18446744073709551616), .int .u64 (q.2 % 18446744073709551616), .int .i64 0] _ (HE.out.below HH.out.below hge) (entE_part1 p q) Tryz.underlying175 rfl (by first | kernel_rfl | (rw [enc_size]; kernel_rfl)) ?_)
        obtain ⟨g, hg⟩ : ∃ g, g = wr.heap.size := ⟨_, rfl⟩
        have H2 : Hid (HasM W [(g, 175, #[.int .i64 q.1, .int .i64 0, .int .i64 (q.2 / 18446744073709551616), .int .u64 (q.2 % 18446744073709551616), .int .i64 0]), (g + 1, 233, #[.int .i64 q.1, .int .i64 0])] W.heap.size L cl ((wr.alloc (.cells #[.int .i64 q.1, .int .i64 0, .int .i64 (q.2 / 18446744073709551616), .int .u64 (q.2 % 18446744073709551616), .int .i64 0] 175)).alloc (.cells #[.int .i64 q.1, .int .i64 0] 233))) := Lib.hid (by
          refine ⟨Has.cons ?_ (Has.cons ?_ (Has.nil ?_)), (HH.out.map.step ((Below.refl _ _).alloc (Nat.le_refl _) _)).step ((Below.refl _ _).alloc (Nat.le_refl _) _)⟩
          · rw [hg]; exact (Blk.new _ _ _).alloc _
          · rw [hg]; exact Blk.new' (by simp)
          · exact Below.al (Below.al HH.out.below _) _)
        rw [← hg]
        have hgW : Hid (W.heap.size ≤ g) := Lib.hid (by rw [hg]; exact HH.out.size)
        clear hg HH
        refine wp_region_regF (fun w' => HasM W [(g, 175, #[.int .i64 q.1, .int .i64 0, .int .i64 (q.2 / 18446744073709551616), .int .u64 (q.2 % 18446744073709551616), .int .i64 0]), (g + 1, 233, #[.int .i64 q.1, .int .i64 0])] W.heap.size L cl w') (fun w' => Has W [] w') (fun _ => (0, #[])) [0, 1, 2, 3, 4, 5, 6, 7, 8, 9, 10] [] [11] [10] (by kernel_rfl) (by kernel_rfl) ?_ (fun w w' h hb => h.step hb) ?_ (fun k hk => by cases hk) ?_
        · exact fun w h => h.has.of_mem (by simp)
        · exact H2.out.drew
        clear H2
        simp only [List.map_cons, List.map_nil, opAt, List.getElem?_cons_succ, List.getElem?_cons_zero, Option.getD_some, List.contains_cons, List.contains_nil, Nat.reduceBEq, Bool.or_false, Bool.or_true, Bool.true_or, Bool.false_or]
        repeat (refine wpX_pure rfl ?_; go_big_quiet_step ((intro _; rfl)); refine wpQuiet_nil ?_)
        refine wpX_pure rfl ?_
        refine wpQuiet_row 233 (.tmp 8) rfl rfl (g + 1) rfl 233 #[.int .i64 q.1, .int .i64 0] _ (fun w hw => hw.get 1 rfl) Tryz.underlying233 rfl (by first | kernel_rfl | (rw [enc_size]; kernel_rfl)) (fun KK hKK => ?_)
        go_simp
        refine hKK _ ?_
        clear hKK KK
        refine wpQuiet_nil ?_
        repeat (refine wpX_pure rfl ?_; go_big_quiet_step ((intro _; rfl)); refine wpQuiet_nil ?_)
        refine wpX_pure rfl ?_
        refine wpQuiet_row 233 (.tmp 8) rfl rfl (g + 1) rfl 233 #[.int .i64 q.1, .int .i64 0] _ (fun w hw => hw.get 1 rfl) Tryz.underlying233 rfl (by first | kernel_rfl | (rw [enc_size]; kernel_rfl)) (fun KK hKK => ?_)
        go_simp
        refine hKK _ ?_
        clear hKK KK
        refine wpQuiet_nil ?_
        refine wpX_call (.agg (decE c1 s1)) 175 #[.map (some W.heap.size), .agg #[.int .i64 q.1, .int .i64 0]] rfl (fun w => by go_simp) (fun w hw => HAT.out _ _ _ hw.map) (fun KK hKK => ?_)
        go_simp
        refine hKK _ ?_
        clear hKK KK
        repeat (refine wpX_pure rfl ?_; go_big_quiet_step ((intro _; rfl)); refine wpQuiet_nil ?_)
        refine wpX_pure rfl ?_
        refine wpQuiet_part 168 (.tmp 28) rfl rfl g 2 rfl 175 #[.int .i64 q.1, .int .i64 0, .int .i64 (q.2 / 18446744073709551616), .int .u64 (q.2 % 18446744073709551616), .int .i64 0] (decE q.2 0) _ (fun w hw => hw.get 0 rfl) (line_dec q.1 q.2) Tryz.underlying168 rfl (by first | kernel_rfl | (rw [enc_size]; kernel_rfl)) (fun KK hKK => ?_)
        go_simp
        refine hKK _ ?_
        clear hKK KK
        refine wpQuiet_nil ?_
        refine wpX_call (.tuple #[.agg (decE c2 s2), .int .i64 x2]) 97 #[.agg (decE c1 s1), .agg (decE q.2 0)] rfl (fun w => by go_simp) (fun w hw => HAD.out _) (fun KK hKK => ?_)
        go_simp
        refine hKK _ ?_
        clear hKK KK
        repeat (refine wpX_pure rfl ?_; go_big_quiet_step ((intro _; rfl)); refine wpQuiet_nil ?_)
        repeat (refine wpX_float rfl ?_; go_big_quiet_step ((intro _; rfl)); refine wpQuiet_nil ?_)
        refine wpX_nil ?_
        intro gs w6 H6
        intro hmade
        simp only [putAll, wpTail, opAt, List.getElem?_cons_succ, List.getElem?_cons_zero, Option.getD_some, Act.put]
        clear hmade
        refine wpList_update2 rfl 106 (.tmp 23) (.tmp 24) (.tmp 31) rfl keyA Tryz.underlying106 HPI.out (show InR 0 by unfold InR; omega) W.heap.size L cl rfl rfl HLI.out H6.map ?_
        intro W7 HM7 hfar7 hbel7 hsz7
        have H7 := Lib.hid (H6.turned (Nat.le_refl _) HM7 hfar7 hbel7)
        clear HM7 hfar7 hbel7 hsz7 H6
        go_wp2_with fail
        refine ⟨H7.out.has.of_mem (by simp), ?_⟩
        go_wp2_with fail
        go_roundw
        case rel => exact ⟨2, _, _, by omega, by go_num, HV, HVB, Lib.hid (H7.out.of_mem (by simp))⟩
        case measure => simp [intOf]
      · obtain rfl : k = 2 := by omega
        go_wp2_with fail
        exact bodyPost_ret (results_one rfl _ _ rfl) rfl ⟨rfl, L, cl, HLO.out, HLB.out, HH.out.map, HH.out.below⟩
end Go.Proofs.YtlfomhdphbchpaaGreatDoor.Ch

/-! chart: balanced -/
namespace Go.Proofs.YtlfomhdphbchpaaGreatDoor.Ch
open Go.RowKit Go.Deep Go.Proofs.YtlfomhdphbchpaaGreatDoor.Wide Go.Proofs.YtlfomhdphbchpaaGreatDoor.Dec Go.Proofs.YtlfomhdphbchpaaGreatDoor.Acc Go.Proofs.YtlfomhdphbchpaaGreatDoor.Mp
open Go.Proofs.YtlfomhdphbchpaaGreatDoor.Cal hiding results_one results_two
set_option linter.unusedVariables false
set_option linter.unusedSimpArgs false
theorem decLits {c s : Int} (hc : InT c) (hs : InR s) : Tryz.prog.keyLits 2 168 (decE c s).toList = some [.int .i64 (c / 18446744073709551616), .int .u64 (c % 18446744073709551616), .int .i64 s] := by
  have hu := Tryz.underlying168
  have hv : Tryz.prog.underlying 2 = some (.int .i64) := by kernel_rfl
  have hv2 : Tryz.prog.underlying 28 = some (.int .u64) := by kernel_rfl
  have hv3 : Tryz.prog.underlying 3 = some (.int .i64) := by kernel_rfl
  have hc1 : Tryz.prog.cellsOf 168 = 3 := by kernel_rfl
  have hc2 : Tryz.prog.cellsOf 2 = 1 := by kernel_rfl
  have hc3 : Tryz.prog.cellsOf 28 = 1 := by kernel_rfl
  have hc4 : Tryz.prog.cellsOf 3 = 1 := by kernel_rfl
  have w1 : (Lit.int .i64 (c / 18446744073709551616)).wf = true := i64_wf (by have := inT_hi hc; unfold InR; omega)
  have w2 : (Lit.int .u64 (c % 18446744073709551616)).wf = true := by simp [Lit.wf, IntKind.min, IntKind.max, IntKind.signed, IntKind.bits]; omega
  have w3 := i64_wf hs
  simp [Program.keyLits, decE, hu, hv, hv2, hv3, hc1, hc2, hc3, hc4, w1, w2, w3]
/-- '!=' of a decimal in form and the ledger's nought -/
theorem neqDec {c s : Int} (hc : InT c) (hs : InR s) : ∃ r : Bool, ∀ w : World, (binOp .neq 168 (.agg (decE c s)) (.agg (decE 0 12))).run Tryz.prog w = .ok (.bool r) w := by
  have hu := Tryz.underlying168
  have hc1 : Tryz.prog.cellsOf 168 = 3 := by kernel_rfl
  have hf : ∀ c s : Int, Value.formed Tryz.prog 168 (.agg (decE c s)) = true := fun c s => by simp [Value.formed, decE, hu, hc1]
  have h := fun w => run_equalIn_deep (P := Tryz.prog) 9998 2 168 (by kernel_rfl) w 2 2 _ _ _ _ (hf c s) (hf 0 12) (decLits hc hs) (decLits (c := 0) (s := 12) (by unfold InT; omega) (by unfold InR; omega))
  obtain ⟨r, hr, hiff⟩ := h default
  refine ⟨!r, fun w => ?_⟩
  obtain ⟨r', hr', hiff'⟩ := h w
  have : r' = r := by
    cases r <;> cases r' <;> simp_all
  subst this
  have he : (Op.equal 168 (.agg (decE c s)) (.agg (decE 0 12))).run Tryz.prog w = .ok r' w := hr'
  simp only [binOp, Sem.run_bind, he, Result.andThen]
  rfl
/-- '!=' of two structs -/
theorem wpQuiet_neq {ops : Array Oper} {C : World → Prop} {Q : Act → Prop} {rest : List Oper} {o : Oper} {a : Act} (ty rt : TypeId) (x y : Operand) (ho : o.op = .binOp .neq ty x y rt) (hw : Region.wanted o (yielded ops a.tmps) = true)
    (xs ys : Array Value) (r : Bool) (hx : a.eval x = .agg xs) (hy : a.eval y = .agg ys) (hm : Tryz.prog.eqGuardType Tryz.prog.depth ty = false) (h : ∀ w : World, (binOp .neq ty (.agg xs) (.agg ys)).run Tryz.prog w = .ok (.bool r) w)
    (h2 : ∀ K : Act → Prop, (∀ a, wpQuiet Tryz.prog ops C Q rest a → K a) → K (a.put o.dst (.bool r))) : wpQuiet Tryz.prog ops C Q (o :: rest) a := by
  refine wpQuiet_val (.bool r) hw (fun w _ => ?_) h2
  simp only [execOp, ho, Sem.run_bind, hx, hy, run_eqGuard_agg (w := w) .neq ty x y xs ys hm, Result.andThen_ok, h w]
  rfl
def SomeB (e : Ending) : Prop := ∃ r : Bool, e = .returned (.bool r)
set_option maxHeartbeats 4000000 in
set_option maxRecDepth 100000 in
theorem balanced_ok (p q : Int × Int) (hp : LineOk p) (hq : LineOk q) (ge cap : Nat) (W : World) (hE : Blk W ge 175 (entE p q)) :
    Calls Tryz.prog 128 #[.slice (some ⟨ge, 0, none⟩) 2 cap] W fun e w' => SomeB e ∧ Below W.heap.size W w' := by
  have HE := Lib.hid hE
  have hge := hE.lt
  have HB0 : Hid (LB [] 0) := Lib.hid ⟨fun e he => (by cases he), (by simp)⟩
  have HL0 : Hid (LOk []) := Lib.hid (fun e he => (by cases he))
  have p2 := hp.inR
  have p3 := hp.2.1
  have p4 := hp.2.2
  have q2 := hq.inR
  have q3 := hq.2.1
  have q4 := hq.2.2
  have HP := Lib.hid (And.intro p2 (And.intro p3 p4))
  have HQ := Lib.hid (And.intro q2 (And.intro q3 q4))
  clear hE hp hq p2 p3 p4 q2 q3 q4
  go_enter Tryz.func128, Tryz.ntmps128
  have hmm : (Instr.makeMap 106 none).run Tryz.prog W = .ok (.map (some W.heap.size)) (W.alloc (.map #[] 0)) := run_makeMap _ W
  have H1 : Hid (HasM W [] W.heap.size [] 0 (W.alloc (.map #[] 0))) := Lib.hid ⟨Has.nil (Below.al (Below.refl _ _) _), heap_alloc_new W _⟩
  go_wp2_with fail
  clear hmm
  go_loopw [12] (fun i wr => ∃ (k : Nat) (L : List Ent) (cl : Nat), k ≤ 2 ∧ i = .int .i64 k ∧ Hid (LOk L) ∧ Hid (LB L cl) ∧ Hid (HasM W [] W.heap.size L cl wr)) (fun i _ => 2 - (intOf i).toNat)
  case atStart => exact ⟨0, [], 0, by omega, rfl, HL0, HB0, H1⟩
  case round =>
    clear H1 HL0 HB0
    obtain ⟨k, L, cl, hk, rfl, HLO, HLB, HH⟩ := hrel
    have hLO := HLO.out
    by_cases hk0 : k = 0
    · subst hk0
      obtain ⟨p2, p3, p4⟩ := HP.out
      have at0 := at_ok L 0 0 (by unfold InR; omega) (by unfold InR; omega) hLO
      obtain ⟨c1, s1, hc1, hs1, CAT⟩ := at0
      obtain ⟨c2, s2, x2, hc2, hs2, CAD⟩ := addW_ok c1 s1 p.2 0 hc1 p3 hs1 p4
      have HAT := Lib.hid CAT
      have HAD := Lib.hid CAD
      have HV := Lib.hid (upd_ok (cl := cl) hLO (show InR 0 by unfold InR; omega) (show InR 0 by unfold InR; omega) (⟨c2, s2, rfl, hc2, hs2⟩ : ∃ c s, Value.agg (decE c2 s2) = .agg (decE c s) ∧ InT c ∧ chk c s = 0))
      have HVB := Lib.hid (HLB.out.upd 0 0 (.agg (decE c2 s2)))
      have HLI : Hid (∀ e ∈ L, InR e.k1 ∧ InR e.k2) := Lib.hid (fun e he => ⟨(hLO e he).1, (hLO e he).2.1⟩)
      have HPI := Lib.hid p2
      clear CAT CAD hc1 hs1 hc2 hs2 hLO p2 p3 p4
      go_wp2_with (refine wpList_load_part rfl 175 (.tmp 14) rfl ge 0 rfl 175 (entE p q) #[.int .i64 p.1, .int .i64 0, .int .i64 (p.2 / 18446744073709551616), .int .u64 (p.2 % 18446744073709551616), .int .i64 0] _ (HE.out.below HH.out.below hge) (entE_part0 p q) Tryz.underlying175 rfl (by first | kernel_rfl | (rw [enc_size]; kernel_rfl)) ?_)
      obtain ⟨g, hg⟩ : ∃ g, g = wr.heap.size := ⟨_, rfl⟩
      have H2 : Hid (HasM W [(g, 175, #[.int .i64 p.1, .int .i64 0, .int .i64 (p.2 / 18446744073709551616), .int .u64 (p.2 % 18446744073709551616), .int .i64 0]), (g + 1, 233, #[.int .i64 0, .int .i64 0])] W.heap.size L cl ((wr.alloc (.cells #[.int .i64 p.1, .int .i64 0, .int .i64 (p.2 / 18446744073709551616), .int .u64 (p.2 % 18446744073709551616), .int .i64 0] 175)).alloc (.cells #[.int .i64 0, .int .i64 0] 233))) := Lib.hid (by
        refine ⟨Has.cons ?_ (Has.cons ?_ (Has.nil ?_)), (HH.out.map.step ((Below.refl _ _).alloc (Nat.le_refl _) _)).step ((Below.refl _ _).alloc (Nat.le_refl _) _)⟩
        · rw [hg]; exact (Blk.new _ _ _).alloc _
        · rw [hg]; exact Blk.new' (by simp)
        · exact Below.al (Below.al HH.out.below _) _)
      rw [← hg]
      have hgW : Hid (W.heap.size ≤ g) := Lib.hid (by rw [hg]; exact HH.out.size)
      clear hg HH
      refine wp_region_regF (fun w' => HasM W [(g, 175, #[.int .i64 p.1, .int .i64 0, .int .i64 (p.2 / 18446744073709551616), .int .u64 (p.2 % 18446744073709551616), .int .i64 0]), (g + 1, 233, #[.int .i64 0, .int .i64 0])] W.heap.size L cl w') (fun w' => Has W [] w') (fun _ => (0, #[])) [0, 1, 2, 3, 4, 5, 6, 7, 8, 9, 10] [] [11] [10] (by kernel_rfl) (by kernel_rfl) ?_ (fun w w' h hb => h.step hb) ?_ (fun k hk => by cases hk) ?_
      · exact fun w h => h.has.of_mem (by simp)
      · exact H2.out.drew
      clear H2
      simp only [List.map_cons, List.map_nil, opAt, List.getElem?_cons_succ, List.getElem?_cons_zero, Option.getD_some, List.contains_cons, List.contains_nil, Nat.reduceBEq, Bool.or_false, Bool.or_true, Bool.true_or, Bool.false_or]
      repeat (refine wpX_pure rfl ?_; go_big_quiet_step ((intro _; rfl)); refine wpQuiet_nil ?_)
      refine wpX_pure rfl ?_
      refine wpQuiet_row 233 (.tmp 6) rfl rfl (g + 1) rfl 233 #[.int .i64 0, .int .i64 0] _ (fun w hw => hw.get 1 rfl) Tryz.underlying233 rfl (by first | kernel_rfl | (rw [enc_size]; kernel_rfl)) (fun KK hKK => ?_)
      go_simp
      refine hKK _ ?_
      clear hKK KK
      refine wpQuiet_nil ?_
      repeat (refine wpX_pure rfl ?_; go_big_quiet_step ((intro _; rfl)); refine wpQuiet_nil ?_)
      refine wpX_pure rfl ?_
      refine wpQuiet_row 233 (.tmp 6) rfl rfl (g + 1) rfl 233 #[.int .i64 0, .int .i64 0] _ (fun w hw => hw.get 1 rfl) Tryz.underlying233 rfl (by first | kernel_rfl | (rw [enc_size]; kernel_rfl)) (fun KK hKK => ?_)
      go_simp
      refine hKK _ ?_
      clear hKK KK
      refine wpQuiet_nil ?_
      refine wpX_call (.agg (decE c1 s1)) 175 #[.map (some W.heap.size), .agg #[.int .i64 0, .int .i64 0]] rfl (fun w => by go_simp) (fun w hw => HAT.out _ _ _ hw.map) (fun KK hKK => ?_)
      go_simp
      refine hKK _ ?_
      clear hKK KK
      repeat (refine wpX_pure rfl ?_; go_big_quiet_step ((intro _; rfl)); refine wpQuiet_nil ?_)
      refine wpX_pure rfl ?_
      refine wpQuiet_part 168 (.tmp 25) rfl rfl g 2 rfl 175 #[.int .i64 p.1, .int .i64 0, .int .i64 (p.2 / 18446744073709551616), .int .u64 (p.2 % 18446744073709551616), .int .i64 0] (decE p.2 0) _ (fun w hw => hw.get 0 rfl) (line_dec p.1 p.2) Tryz.underlying168 rfl (by first | kernel_rfl | (rw [enc_size]; kernel_rfl)) (fun KK hKK => ?_)
      go_simp
      refine hKK _ ?_
      clear hKK KK
      refine wpQuiet_nil ?_
      refine wpX_call (.tuple #[.agg (decE c2 s2), .int .i64 x2]) 97 #[.agg (decE c1 s1), .agg (decE p.2 0)] rfl (fun w => by go_simp) (fun w hw => HAD.out _) (fun KK hKK => ?_)
      go_simp
      refine hKK _ ?_
      clear hKK KK
      repeat (refine wpX_pure rfl ?_; go_big_quiet_step ((intro _; rfl)); refine wpQuiet_nil ?_)
      repeat (refine wpX_float rfl ?_; go_big_quiet_step ((intro _; rfl)); refine wpQuiet_nil ?_)
      refine wpX_nil ?_
      intro gs w6 H6
      intro hmade
      simp only [putAll, wpTail, opAt, List.getElem?_cons_succ, List.getElem?_cons_zero, Option.getD_some, Act.put]
      clear hmade
      refine wpList_update2 rfl 106 (.tmp 20) (.tmp 21) (.tmp 28) rfl keyA Tryz.underlying106 (show InR 0 by unfold InR; omega) (show InR 0 by unfold InR; omega) W.heap.size L cl rfl rfl HLI.out H6.map ?_
      intro W7 HM7 hfar7 hbel7 hsz7
      have H7 := Lib.hid (H6.turned (Nat.le_refl _) HM7 hfar7 hbel7)
      clear HM7 hfar7 hbel7 hsz7 H6
      go_wp2_with fail
      refine ⟨H7.out.has.of_mem (by simp), ?_⟩
      go_wp2_with fail
      go_roundw
      case rel => exact ⟨1, _, _, by omega, by go_num, HV, HVB, Lib.hid (H7.out.of_mem (by simp))⟩
      case measure => simp [intOf]
    · by_cases hk1 : k = 1
      · subst hk1
        obtain ⟨p2, p3, p4⟩ := HQ.out
        have at0 := at_ok L 0 0 (by unfold InR; omega) (by unfold InR; omega) hLO
        obtain ⟨c1, s1, hc1, hs1, CAT⟩ := at0
        obtain ⟨c2, s2, x2, hc2, hs2, CAD⟩ := addW_ok c1 s1 q.2 0 hc1 p3 hs1 p4
        have HAT := Lib.hid CAT
        have HAD := Lib.hid CAD
        have HV := Lib.hid (upd_ok (cl := cl) hLO (show InR 0 by unfold InR; omega) (show InR 0 by unfold InR; omega) (⟨c2, s2, rfl, hc2, hs2⟩ : ∃ c s, Value.agg (decE c2 s2) = .agg (decE c s) ∧ InT c ∧ chk c s = 0))
        have HVB := Lib.hid (HLB.out.upd 0 0 (.agg (decE c2 s2)))
        have HLI : Hid (∀ e ∈ L, InR e.k1 ∧ InR e.k2) := Lib.hid (fun e he => ⟨(hLO e he).1, (hLO e he).2.1⟩)
        have HPI := Lib.hid p2
        clear CAT CAD hc1 hs1 hc2 hs2 hLO p2 p3 p4
        go_wp2_with (refine wpList_load_part rfl 175 (.tmp 14) rfl ge 5 rfl 175 (entE p q) #[.int .i64 q.1, .int .i64 0, .int .i64 (q.2 / 18446744073709551616), .int .u64 (q.2 % 18446744073709551616), .int .i64 0] _ (HE.out.below HH.out.below hge) (entE_part1 p q) Tryz.underlying175 rfl (by first | kernel_rfl | (rw [enc_size]; kernel_rfl)) ?_)
        obtain ⟨g, hg⟩ : ∃ g, g = wr.heap.size := ⟨_, rfl⟩
        have H2 : Hid (HasM W [(g, 175, #[.int .i64 q.1, .int .i64 0, .int .i64 (q.2 / 18446744073709551616), .int .u64 (q.2 % 18446744073709551616), .int .i64 0]), (g + 1, 233, #[.int .i64 0, .int .i64 0])] W.heap.size L cl ((wr.alloc (.cells #[.int .i64 q.1, .int .i64 0, .int .i64 (q.2 / 18446744073709551616), .int .u64 (q.2 % 18446744073709551616), .int .i64 0] 175)).alloc (.cells #[.int .i64 0, .int .i64 0] 233))) := Lib.hid (by
          refine ⟨Has.cons ?_ (Has.cons ?_ (Has.nil ?_)), (HH.out.map.step ((Below.refl _ _).alloc (Nat.le_refl _) _)).step ((Below.refl _ _).alloc (Nat.le_refl _) _)⟩
          · rw [hg]; exact (Blk.new _ _ _).alloc _
          · rw [hg]; exact Blk.new' (by simp)
          · exact Below.al (Below.al HH.out.below _) _)
        rw [← hg]
        have hgW : Hid (W.heap.size ≤ g) := Lib.hid (by rw [hg]; exact HH.out.size)
        clear hg HH
        refine wp_region_regF (fun w' => HasM W [(g, 175, #[.int .i64 q.1, .int .i64 0, .int .i64 (q.2 / 18446744073709551616), .int .u64 (q.2 % 18446744073709551616), .int .i64 0]), (g + 1, 233, #[.int .i64 0, .int .i64 0])] W.heap.size L cl w') (fun w' => Has W [] w') (fun _ => (0, #[])) [0, 1, 2, 3, 4, 5, 6, 7, 8, 9, 10] [] [11] [10] (by kernel_rfl) (by kernel_rfl) ?_ (fun w w' h hb => h.step hb) ?_ (fun k hk => by cases hk) ?_
        · exact fun w h => h.has.of_mem (by simp)
        · exact H2.out.drew
        clear H2
        simp only [List.map_cons, List.map_nil, opAt, List.getElem?_cons_succ, List.getElem?_cons_zero, Option.getD_some, List.contains_cons, List.contains_nil, Nat.reduceBEq, Bool.or_false, Bool.or_true, Bool.true_or, Bool.false_or]
        repeat (refine wpX_pure rfl ?_; go_big_quiet_step ((intro _; rfl)); refine wpQuiet_nil ?_)
        refine wpX_pure rfl ?_
        refine wpQuiet_row 233 (.tmp 6) rfl rfl (g + 1) rfl 233 #[.int .i64 0, .int .i64 0] _ (fun w hw => hw.get 1 rfl) Tryz.underlying233 rfl (by first | kernel_rfl | (rw [enc_size]; kernel_rfl)) (fun KK hKK => ?_)
        go_simp
        refine hKK _ ?_
        clear hKK KK
        refine wpQuiet_nil ?_
        repeat (refine wpX_pure rfl ?_; go_big_quiet_step ((intro _; rfl)); refine wpQuiet_nil ?_)
        refine wpX_pure rfl ?_
        refine wpQuiet_row 233 (.tmp 6) rfl rfl (g + 1) rfl 233 #[.int .i64 0, .int .i64 0] _ (fun w hw => hw.get 1 rfl) Tryz.underlying233 rfl (by first | kernel_rfl | (rw [enc_size]; kernel_rfl)) (fun KK hKK => ?_)
        go_simp
        refine hKK _ ?_
        clear hKK KK
        refine wpQuiet_nil ?_
        refine wpX_call (.agg (decE c1 s1)) 175 #[.map (some W.heap.size), .agg #[.int .i64 0, .int .i64 0]] rfl (fun w => by go_simp) (fun w hw => HAT.out _ _ _ hw.map) (fun KK hKK => ?_)
        go_simp
        refine hKK _ ?_
        clear hKK KK
        repeat (refine wpX_pure rfl ?_; go_big_quiet_step ((intro _; rfl)); refine wpQuiet_nil ?_)
        refine wpX_pure rfl ?_
        refine wpQuiet_part 168 (.tmp 25) rfl rfl g 2 rfl 175 #[.int .i64 q.1, .int .i64 0, .int .i64 (q.2 / 18446744073709551616), .int .u64 (q.2 % 18446744073709551616), .int .i64 0] (decE q.2 0) _ (fun w hw => hw.get 0 rfl) (line_dec q.1 q.2) Tryz.underlying168 rfl (by first | kernel_rfl | (rw [enc_size]; kernel_rfl)) (fun KK hKK => ?_)
        go_simp
        refine hKK _ ?_
        clear hKK KK
        refine wpQuiet_nil ?_
        refine wpX_call (.tuple #[.agg (decE c2 s2), .int .i64 x2]) 97 #[.agg (decE c1 s1), .agg (decE q.2 0)] rfl (fun w => by go_simp) (fun w hw => HAD.out _) (fun KK hKK => ?_)
        go_simp
        refine hKK _ ?_
        clear hKK KK
        repeat (refine wpX_pure rfl ?_; go_big_quiet_step ((intro _; rfl)); refine wpQuiet_nil ?_)
        repeat (refine wpX_float rfl ?_; go_big_quiet_step ((intro _; rfl)); refine wpQuiet_nil ?_)
        refine wpX_nil ?_
        intro gs w6 H6
        intro hmade
        simp only [putAll, wpTail, opAt, List.getElem?_cons_succ, List.getElem?_cons_zero, Option.getD_some, Act.put]
        clear hmade
        refine wpList_update2 rfl 106 (.tmp 20) (.tmp 21) (.tmp 28) rfl keyA Tryz.underlying106 (show InR 0 by unfold InR; omega) (show InR 0 by unfold InR; omega) W.heap.size L cl rfl rfl HLI.out H6.map ?_
        intro W7 HM7 hfar7 hbel7 hsz7
        have H7 := Lib.hid (H6.turned (Nat.le_refl _) HM7 hfar7 hbel7)
        clear HM7 hfar7 hbel7 hsz7 H6
        go_wp2_with fail
        refine ⟨H7.out.has.of_mem (by simp), ?_⟩
        go_wp2_with fail
        go_roundw
        case rel => exact ⟨2, _, _, by omega, by go_num, HV, HVB, Lib.hid (H7.out.of_mem (by simp))⟩
        case measure => simp [intOf]
      · obtain rfl : k = 2 := by omega
        go_wp2_with (refine wpList_range2 rfl 106 (.tmp 31) rfl Tryz.underlying106 W.heap.size _ cl rfl HH.out.map ?_
                     intro W2 hW2
                     obtain ⟨r, hr⟩ : ∃ r, r = wr.heap.size := ⟨_, rfl⟩
                     have HR : Hid (Ranging W.heap.size cl r W2) := Lib.hid (by rw [hW2, hr]; exact ⟨#[], cl, heap_alloc_new wr _, Nat.le_refl _⟩)
                     have H2 : Hid (HasM W [] W.heap.size L cl W2) := Lib.hid (by rw [hW2]; exact HH.out.step ((Below.refl _ _).alloc (Nat.le_refl _) _))
                     have hrW : Hid (W.heap.size < r) := Lib.hid (by rw [hr]; exact HH.out.map.lt)
                     rw [← hr]
                     clear hW2 hr HH)
        simp only [Act.put, List.setIfInBounds_toArray, List.set_cons_succ, List.set_cons_zero]
        go_loopw [] (fun wr => Hid (Ranging W.heap.size cl r wr) ∧ Hid (HasM W [] W.heap.size L cl wr)) (fun wr => wr.rangeLeft W.heap.size r)
        case atStart => exact ⟨HR, H2⟩
        case round =>
          clear HR H2
          obtain ⟨HR, H2⟩ := hrel
          obtain ⟨seen, c0, hr, hc0⟩ := HR.out
          have HRR := Lib.hid hr
          have HC0 := Lib.hid hc0
          clear hr hc0
          go_wp2_with (refine wpList_next2 rfl (.tmp 32) rfl r W.heap.size cl c0 seen _ cl rfl HRR.out H2.out.map HLB.out.hold HC0.out ?_ ?_)
          · intro h0
            go_wp2_with fail
            exact bodyPost_ret (results_one rfl _ _ rfl) rfl ⟨⟨true, rfl⟩, H2.out.below⟩
          · intro e he W3 hr3 hfar3 hbel3 hsz3
            obtain ⟨hem, hes⟩ := mem_left (by simpa using he)
            have hsh := left_shrinks _ _ _ (by simpa using he)
            have hL1 : wr.rangeLeft W.heap.size r = (leftOf (L.map Ent.row).toArray seen).size := left_eq H2.out.map HRR.out
            have hm3 : Map W3 W.heap.size L cl := (hfar3 _ (by have := hrW.out; omega)).trans H2.out.map
            have hL3 := left_eq hm3 hr3
            have hen := run_entry_at (P := Tryz.prog) W3 r W.heap.size cl seen _ cl e hr3 hm3 hem HLB.out.nodup
            have hem2 := hem
            simp only [List.mem_map] at hem2
            obtain ⟨f, hf, rfl⟩ := hem2
            obtain ⟨c, s, hv, hc, hs⟩ := (HLO.out f hf).2.2
            obtain ⟨rb, hne⟩ := neqDec hc (s := s) (by obtain ⟨x, y⟩ := chk_zero hs; unfold InR; omega)
            have HNE := Lib.hid hne
            have hfv : f.row.val = .agg (decE c s) := hv
            rw [hfv] at hen ⊢
            have H3 : Hid (HasM W [] W.heap.size L cl W3) := Lib.hid ⟨Has.nil (hbel3 _ _ (by have := hrW.out; omega) H2.out.below), hm3⟩
            have HR3 : Hid (Ranging W.heap.size cl r W3) := Lib.hid ⟨_, cl, hr3, Nat.le_refl _⟩
            have HLT : Hid (W3.rangeLeft W.heap.size r < wr.rangeLeft W.heap.size r) := Lib.hid (by rw [hL1, hL3]; exact hsh)
            obtain ⟨fk, hfk⟩ : ∃ fk, fk = f.row.key := ⟨_, rfl⟩
            rw [← hfk] at hen ⊢
            rw [decE_lit] at hen ⊢
            clear hne hL1 hL3 hsh hm3 hem hes hf hv hc hs hfv hr3 hfar3 hbel3 hsz3 hfk he HRR HC0 H2 HR
            go_wp2_with fail
            obtain ⟨W4, hW4⟩ : ∃ W4, W4 = W3.alloc (.cells (decE c s) 168) := ⟨_, rfl⟩
            have HB4 : Hid (Blk W4 W3.heap.size 168 (decE c s)) := Lib.hid (by rw [hW4]; exact Blk.new _ _ _)
            have HA4 : Hid (Below W3.heap.size W3 W4) := Lib.hid (by rw [hW4]; exact Below.al (Below.refl _ _) _)
            change Code.wp _ _ _ _ (W3.alloc (.cells (decE c s) 168))
            rw [← hW4]
            obtain ⟨g, hg⟩ : ∃ g, g = W3.heap.size := ⟨_, rfl⟩
            rw [← hg] at HB4 ⊢
            clear hW4
            refine wp_region_class (fun w' => Below W4.heap.size W4 w') [0, 1, 2] (by kernel_rfl) (by kernel_rfl) (Below.refl _ _).drew ?_
            simp only [List.map_cons, List.map_nil, opAt, List.getElem?_cons_succ, List.getElem?_cons_zero, Option.getD_some]
            refine wpQuiet_row 168 (.tmp 8) rfl rfl g rfl 168 (decE c s) _ (fun w hw => HB4.out.below hw HB4.out.lt) Tryz.underlying168 rfl (by kernel_rfl) (fun KK hKK => ?_)
            go_simp
            refine hKK _ ?_
            clear hKK KK
            go_big_quiet_step ((intro hw; exact (nought_ok _).mono fun e w' h => ⟨h.1, hw.trans (h.2.mono hw.size)⟩))
            refine wpQuiet_neq 168 _ (.tmp 37) (.tmp 38) rfl rfl (decE c s) (decE 0 12) rb rfl rfl (by kernel_rfl) HNE.out (fun KK hKK => ?_)
            go_simp
            refine hKK _ ?_
            clear hKK KK
            refine wpQuiet_nil ?_
            intro w5 H5
            have H6 : Hid (HasM W [] W.heap.size L cl w5) := Lib.hid (H3.out.step (HA4.out.trans (H5.mono HA4.out.size)))
            have HR6 : Hid (Ranging W.heap.size cl r w5) := Lib.hid (HR3.out.step (HA4.out.trans (H5.mono HA4.out.size)))
            have HLT6 : Hid (w5.rangeLeft W.heap.size r < wr.rangeLeft W.heap.size r) := Lib.hid (by rw [left_step (HA4.out.trans (H5.mono HA4.out.size)) H3.out.map.lt HR3.out.lt]; exact HLT.out)
            clear H5 H3 HR3 HLT HA4 HB4
            cases rb with
            | true =>
              go_wp2_with fail
              exact bodyPost_ret (results_one rfl _ _ rfl) rfl ⟨⟨false, rfl⟩, H6.out.below⟩
            | false =>
              go_wp2_with fail
              go_roundw
              case rel => exact ⟨_, _, _, _, _, _, _, _, _, ⟨HR6, H6⟩, rfl⟩
              case measure => exact HLT6.out
end Go.Proofs.YtlfomhdphbchpaaGreatDoor.Ch
