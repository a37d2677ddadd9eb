/- Lemmas of a claim: ChC, ChD -/
import Derived.Test.YtkdnebalpdebeaaGreatDoorG10
import Derived.Test.YtkdnebalpdebeaaGreatDoorG11
import Derived.Shelf.SlMaps.Clone
set_option linter.unusedVariables false
set_option linter.unusedSimpArgs false
set_option maxHeartbeats 16000000
set_option maxRecDepth 100000
namespace Go.Proofs.YtkdnebalpdebeaaGreatDoor
namespace Ch
open Go.RowKit Go.Deep Wide Dec Go.Proofs.YtkdnebalpdebeaaGreatDoor.Acc Mp
open Cal hiding results_one results_two
theorem clone_ok (b : Nat) (es : Array MapEntry) (cl : Nat) (W : World) (hb : W.heap[b]? = some (.map es cl)) :
 Calls Tryz.prog 210 #[.map (some b)] W fun e w' => e = .returned (.map (some W.heap.size)) /\ w' = W.alloc (.map es cl) := by
 have hq := fun w => run_eql_map_nil_sl (P := Tryz.prog) w 145 _ _ (some b) Tryz.underlying145
 go_enter Tryz.func210, Tryz.ntmps210
 go_wp2
 rw [run_callFunc_extern Tryz.func244 (by kernel_rfl) (by kernel_rfl) (by kernel_rfl) (e := Extern.MapsClone.clone) (by kernel_rfl), run_maps_clone_sl W 145 hb]
 simp only [Result.andThen]
 rw [Oper.upon_value]
 go_wp2
 rw [run_typeAssert_map_sl _ 145 _ _ _ _ Tryz.underlying145]
 simp only [Result.andThen]
 rw [Oper.upon_value]
 go_wp2
 go_ret
 exact ⟨rfl, rfl⟩
def entE (p q : Int × Int) : Array Value := lineE p.1 0 p.2 0 ++ lineE q.1 0 q.2 0
theorem entE_part0 (p q : Int × Int) : ∀ (j : Nat) (v : Value), (lineE p.1 0 p.2 0).toList[j]? = some v -> (entE p q)[0 + j]? = some v := by
 intro j v h
 have hj : j < 5 := (List.getElem?_eq_some_iff.1 h).1
 have : j = 0 ∨ j = 1 ∨ j = 2 ∨ j = 3 ∨ j = 4 := by omega
 rcases this with rfl | rfl | rfl | rfl | rfl <;> exact h
theorem entE_part1 (p q : Int × Int) : ∀ (j : Nat) (v : Value), (lineE q.1 0 q.2 0).toList[j]? = some v -> (entE p q)[5 + j]? = some v := by
 intro j v h
 have hj : j < 5 := (List.getElem?_eq_some_iff.1 h).1
 have : j = 0 ∨ j = 1 ∨ j = 2 ∨ j = 3 ∨ j = 4 := by omega
 rcases this with rfl | rfl | rfl | rfl | rfl <;> exact h
theorem line_dec (k c : Int) : ∀ (j : Nat) (v : Value), (decE c 0).toList[j]? = some v -> (lineE k 0 c 0)[2 + j]? = some v := by
 intro j v h
 have hj : j < 3 := (List.getElem?_eq_some_iff.1 h).1
 have : j = 0 ∨ j = 1 ∨ j = 2 := by omega
 rcases this with rfl | rfl | rfl <;> exact h
def LineOk (p : Int × Int) : Prop := (1 <= p.1 /\ p.1 <= 8) /\ -10000000000000000000 <= p.2 /\ p.2 <= 10000000000000000000
theorem LineOk.inR {p : Int × Int} (h : LineOk p) : InR p.1 := by unfold InR; have := h.1; omega
theorem LineOk.inT {p : Int × Int} (h : LineOk p) : InT p.2 := by unfold InT; have := h.2; omega
theorem LineOk.chk {p : Int × Int} (h : LineOk p) : chk p.2 0 = 0 := chk_yes (by have := h.2; omega)
def FB (B : Int) (f : Int -> Int) : Prop := ∀ x, -B <= f x /\ f x <= B
theorem FB.add {B : Int} {f : Int -> Int} (h : FB B f) {p : Int × Int} (hp : LineOk p) : FB (B + 10000000000000000000) (addF f p.1 p.2) := fun y => by
 unfold addF
 have h1 := h y
 have h2 := h p.1
 have h3 := hp.2
 split <;> omega
def pf (f : Int -> Int) (p q : Int × Int) : Nat -> Int -> Int
 | 0 => f
 | 1 => addF f p.1 p.2
 | _ => addF (addF f p.1 p.2) q.1 q.2
theorem posted_ok (L0 : List Ent) (p q : Int × Int) (hp : LineOk p) (hq : LineOk q) (f : Int -> Int) (hf : FB 10000000000000000000000 f) (hL : LX f L0) (b cl0 ge cap : Nat) (W : World) (hm : Map W b L0 cl0) (hB0 : LB L0 cl0) (hE : Blk W ge 58 (entE p q)) :
 Calls Tryz.prog 166 #[.map (some b), .slice (some ⟨ge, 0, none⟩) 2 cap] W fun e w' => e = .returned (.map (some W.heap.size)) /\ ∃ L cl, LX (addF (addF f p.1 p.2) q.1 q.2) L /\ LB L cl /\ Map w' W.heap.size L cl /\ Below W.heap.size W w' := by
 have CC := Hd (clone_ok b (L0.map Ent.row).toArray cl0 W hm)
 have HE := Hd hE
 have hge := hE.lt
 have HM := Hd hm
 have HB0 := Hd hB0
 have HL0 := Hd hL
 have HP := Hd hp
 have HQ := Hd hq
 have HF := Hd hf
 clear hE hm hB0 hL hp hq hf
 go_enter Tryz.func166, Tryz.ntmps166
 go_wp2_with fail
 refine CC.o.mono ?_
 rintro e w1 ⟨rfl, rfl⟩
 have H1 : Hi (HasM W [] W.heap.size L0 cl0 (W.alloc (.map (L0.map Ent.row).toArray cl0))) := Hd ⟨Has.nil (Below.al (Below.refl _ _) _), heap_alloc_new W _⟩
 go_wp2_with fail
 go_loopw [13] (fun i wr => ∃ (k : Nat) (L : List Ent) (cl : Nat), k <= 2 /\ i = .int .i64 k /\ Hi (LX (pf f p q k) L) /\ Hi (LB L cl) /\ Hi (HasM W [] W.heap.size L cl wr)) (fun i _ => 2 - (intOf i).toNat)
 case atStart => exact ⟨0, L0, cl0, by omega, rfl, HL0, HB0, H1⟩
 case round =>
  clear H1 HL0 HB0
  obtain ⟨k, L, cl, hk, rfl, HLO, HLB, HH⟩ := hrel
  have hLO := HLO.o
  by_cases hk0 : k = 0
  . subst hk0
    obtain ⟨a1, ha1⟩ : ∃ a1, a1 = f p.1 := ⟨_, rfl⟩
    have hb1 : -100000000000000000000000 <= a1 /\ a1 <= 100000000000000000000000 := by
     have := HF.o p.1
     rw [ha1]; omega
    have hp3 : -10000000000000000000 <= p.2 /\ p.2 <= 10000000000000000000 := HP.o.2
    have HAT := Hd (at_ok L p.1 a1 HP.o.inR hLO.1 (by rw [ha1]; exact hLO.2 p.1))
    have HAD := Hd (fun W' => addX_ok a1 p.2 hb1 (by omega) W')
    have HV : Hi (LX (pf f p q 1) (upd L p.1 0 (amt (a1 + p.2)) cl)) := Hd (by
     rw [ha1]; exact LX.upd (f := f) hLO cl HP.o.inR (by rw [<- ha1]; omega))
    have HVB := Hd (HLB.o.upd p.1 0 (amt (a1 + p.2)))
    have HLI : Hi (∀ e ∈ L, InR e.k1 /\ InR e.k2) := Hd hLO.1.keys
    have HPI := Hd HP.o.inR
    clear ha1 hb1 hp3 hLO
    go_wp2_with (refine wpList_load_part rfl 58 (.tmp 15) rfl ge 0 rfl 58 (entE p q) #[.int .i64 p.1, .int .i64 0, .int .i64 (p.2 / 18446744073709551616), .int .u64 (p.2 % 18446744073709551616), .int .i64 0] _ (HE.o.below HH.o.below hge) (entE_part0 p q) Tryz.underlying58 rfl (by kernel_rfl) ?_)
    obtain ⟨g, hg⟩ : ∃ g, g = wr.heap.size := ⟨_, rfl⟩
    have H2 : Hi (HasM W [(g, 58, #[.int .i64 p.1, .int .i64 0, .int .i64 (p.2 / 18446744073709551616), .int .u64 (p.2 % 18446744073709551616), .int .i64 0]), (g + 1, 184, #[.int .i64 p.1, .int .i64 0])] W.heap.size L cl ((wr.alloc (.cells #[.int .i64 p.1, .int .i64 0, .int .i64 (p.2 / 18446744073709551616), .int .u64 (p.2 % 18446744073709551616), .int .i64 0] 58)).alloc (.cells #[.int .i64 p.1, .int .i64 0] 184))) := Hd (by
     refine ⟨Has.cons ?_ (Has.cons ?_ (Has.nil ?_)), (HH.o.map.step ((Below.refl _ _).alloc (Nat.le_refl _) _)).step ((Below.refl _ _).alloc (Nat.le_refl _) _)⟩
     . rw [hg]; exact (Blk.new _ _ _).alloc _
     . rw [hg]; exact Blk.new' (by simp)
     . exact Below.al (Below.al HH.o.below _) _)
    rw [<- hg]
    have hgW : Hi (W.heap.size <= g) := Hd (by rw [hg]; exact HH.o.size)
    clear hg HH
    refine wp_region_regF (fun w' => HasM W [(g, 58, #[.int .i64 p.1, .int .i64 0, .int .i64 (p.2 / 18446744073709551616), .int .u64 (p.2 % 18446744073709551616), .int .i64 0]), (g + 1, 184, #[.int .i64 p.1, .int .i64 0])] W.heap.size L cl w') (fun w' => Has W [] w') (fun _ => (0, #[])) [0, 1, 2, 3, 4, 5, 6, 7, 8, 9, 10] [] [11] [10] (by kernel_rfl) (by kernel_rfl) ?_ (fun w w' h hb => h.step hb) ?_ (fun k hk => by cases hk) ?_
    . exact fun w h => h.has.of_mem (by simp)
    . exact H2.o.drew
    clear H2
    simp only [List.map_cons, List.map_nil, opAt, List.getElem?_cons_succ, List.getElem?_cons_zero, Option.getD_some, List.contains_cons, List.contains_nil, Nat.reduceBEq, Bool.or_false, Bool.or_true, Bool.true_or, Bool.false_or]
    repeat (refine wpX_pure rfl ?_; go_big_quiet_step ((intro _; rfl)); refine wpQuiet_nil ?_)
    refine wpX_pure rfl ?_
    refine wpQuiet_row 184 (.tmp 8) rfl rfl (g + 1) rfl 184 #[.int .i64 p.1, .int .i64 0] _ (fun w hw => hw.get 1 rfl) Tryz.underlying184 rfl (by kernel_rfl) (fun K1 k1 => ?_)
    go_simp
    refine k1 _ ?_
    clear k1 K1
    refine wpQuiet_nil ?_
    repeat (refine wpX_pure rfl ?_; go_big_quiet_step ((intro _; rfl)); refine wpQuiet_nil ?_)
    refine wpX_pure rfl ?_
    refine wpQuiet_row 184 (.tmp 8) rfl rfl (g + 1) rfl 184 #[.int .i64 p.1, .int .i64 0] _ (fun w hw => hw.get 1 rfl) Tryz.underlying184 rfl (by kernel_rfl) (fun K1 k1 => ?_)
    go_simp
    refine k1 _ ?_
    clear k1 K1
    refine wpQuiet_nil ?_
    refine wpX_call (amt a1) 87 #[.map (some W.heap.size), .agg #[.int .i64 p.1, .int .i64 0]] rfl (fun w => by go_simp) (fun w hw => HAT.o _ _ _ hw.map) (fun K1 k1 => ?_)
    go_simp
    refine k1 _ ?_
    clear k1 K1
    repeat (refine wpX_pure rfl ?_; go_big_quiet_step ((intro _; rfl)); refine wpQuiet_nil ?_)
    refine wpX_pure rfl ?_
    refine wpQuiet_part 56 (.tmp 28) rfl rfl g 2 rfl 58 #[.int .i64 p.1, .int .i64 0, .int .i64 (p.2 / 18446744073709551616), .int .u64 (p.2 % 18446744073709551616), .int .i64 0] (decE p.2 0) _ (fun w hw => hw.get 0 rfl) (line_dec p.1 p.2) Tryz.underlying56 rfl (by kernel_rfl) (fun K1 k1 => ?_)
    go_simp
    refine k1 _ ?_
    clear k1 K1
    refine wpQuiet_nil ?_
    refine wpX_call (.tuple #[amt (a1 + p.2), .int .i64 0]) 135 #[amt a1, .agg (decE p.2 0)] rfl (fun w => by go_simp) (fun w hw => HAD.o _) (fun K1 k1 => ?_)
    go_simp
    refine k1 _ ?_
    clear k1 K1
    repeat (refine wpX_pure rfl ?_; go_big_quiet_step ((intro _; rfl)); refine wpQuiet_nil ?_)
    repeat (refine wpX_float rfl ?_; go_big_quiet_step ((intro _; rfl)); refine wpQuiet_nil ?_)
    refine wpX_nil ?_
    intro gs w6 H6
    intro hmade
    simp only [putAll, wpTail, opAt, List.getElem?_cons_succ, List.getElem?_cons_zero, Option.getD_some, Act.put]
    clear hmade
    refine wpList_update2 rfl 145 (.tmp 23) (.tmp 24) (.tmp 31) rfl keyA Tryz.underlying145 HPI.o (show InR 0 by unfold InR; omega) W.heap.size L cl rfl rfl HLI.o H6.map ?_
    intro W7 HM7 hfar7 hbel7 hsz7
    have H7 := Hd (H6.turned (Nat.le_refl _) HM7 hfar7 hbel7)
    clear HM7 hfar7 hbel7 hsz7 H6
    go_wp2_with fail
    refine ⟨H7.o.has.of_mem (by simp), ?_⟩
    go_wp2_with fail
    go_roundw
    case rel => exact ⟨1, _, _, by omega, by go_num, HV, HVB, Hd (H7.o.of_mem (by simp))⟩
    case measure => simp [intOf]
  . by_cases hk1 : k = 1
    . subst hk1
      obtain ⟨a1, ha1⟩ : ∃ a1, a1 = (addF f p.1 p.2) q.1 := ⟨_, rfl⟩
      have hb1 : -100000000000000000000000 <= a1 /\ a1 <= 100000000000000000000000 := by
       have := (HF.o.add HP.o) q.1
       rw [ha1]; omega
      have hp3 : -10000000000000000000 <= q.2 /\ q.2 <= 10000000000000000000 := HQ.o.2
      have HAT := Hd (at_ok L q.1 a1 HQ.o.inR hLO.1 (by rw [ha1]; exact hLO.2 q.1))
      have HAD := Hd (fun W' => addX_ok a1 q.2 hb1 (by omega) W')
      have HV : Hi (LX (pf f p q 2) (upd L q.1 0 (amt (a1 + q.2)) cl)) := Hd (by
       rw [ha1]; exact LX.upd (f := addF f p.1 p.2) hLO cl HQ.o.inR (by rw [<- ha1]; omega))
      have HVB := Hd (HLB.o.upd q.1 0 (amt (a1 + q.2)))
      have HLI : Hi (∀ e ∈ L, InR e.k1 /\ InR e.k2) := Hd hLO.1.keys
      have HPI := Hd HQ.o.inR
      clear ha1 hb1 hp3 hLO
      go_wp2_with (refine wpList_load_part rfl 58 (.tmp 15) rfl ge 5 rfl 58 (entE p q) #[.int .i64 q.1, .int .i64 0, .int .i64 (q.2 / 18446744073709551616), .int .u64 (q.2 % 18446744073709551616), .int .i64 0] _ (HE.o.below HH.o.below hge) (entE_part1 p q) Tryz.underlying58 rfl (by kernel_rfl) ?_)
      obtain ⟨g, hg⟩ : ∃ g, g = wr.heap.size := ⟨_, rfl⟩
      have H2 : Hi (HasM W [(g, 58, #[.int .i64 q.1, .int .i64 0, .int .i64 (q.2 / 18446744073709551616), .int .u64 (q.2 % 18446744073709551616), .int .i64 0]), (g + 1, 184, #[.int .i64 q.1, .int .i64 0])] W.heap.size L cl ((wr.alloc (.cells #[.int .i64 q.1, .int .i64 0, .int .i64 (q.2 / 18446744073709551616), .int .u64 (q.2 % 18446744073709551616), .int .i64 0] 58)).alloc (.cells #[.int .i64 q.1, .int .i64 0] 184))) := Hd (by
       refine ⟨Has.cons ?_ (Has.cons ?_ (Has.nil ?_)), (HH.o.map.step ((Below.refl _ _).alloc (Nat.le_refl _) _)).step ((Below.refl _ _).alloc (Nat.le_refl _) _)⟩
       . rw [hg]; exact (Blk.new _ _ _).alloc _
       . rw [hg]; exact Blk.new' (by simp)
       . exact Below.al (Below.al HH.o.below _) _)
      rw [<- hg]
      have hgW : Hi (W.heap.size <= g) := Hd (by rw [hg]; exact HH.o.size)
      clear hg HH
      refine wp_region_regF (fun w' => HasM W [(g, 58, #[.int .i64 q.1, .int .i64 0, .int .i64 (q.2 / 18446744073709551616), .int .u64 (q.2 % 18446744073709551616), .int .i64 0]), (g + 1, 184, #[.int .i64 q.1, .int .i64 0])] W.heap.size L cl w') (fun w' => Has W [] w') (fun _ => (0, #[])) [0, 1, 2, 3, 4, 5, 6, 7, 8, 9, 10] [] [11] [10] (by kernel_rfl) (by kernel_rfl) ?_ (fun w w' h hb => h.step hb) ?_ (fun k hk => by cases hk) ?_
      . exact fun w h => h.has.of_mem (by simp)
      . exact H2.o.drew
      clear H2
      simp only [List.map_cons, List.map_nil, opAt, List.getElem?_cons_succ, List.getElem?_cons_zero, Option.getD_some, List.contains_cons, List.contains_nil, Nat.reduceBEq, Bool.or_false, Bool.or_true, Bool.true_or, Bool.false_or]
      repeat (refine wpX_pure rfl ?_; go_big_quiet_step ((intro _; rfl)); refine wpQuiet_nil ?_)
      refine wpX_pure rfl ?_
      refine wpQuiet_row 184 (.tmp 8) rfl rfl (g + 1) rfl 184 #[.int .i64 q.1, .int .i64 0] _ (fun w hw => hw.get 1 rfl) Tryz.underlying184 rfl (by kernel_rfl) (fun K1 k1 => ?_)
      go_simp
      refine k1 _ ?_
      clear k1 K1
      refine wpQuiet_nil ?_
      repeat (refine wpX_pure rfl ?_; go_big_quiet_step ((intro _; rfl)); refine wpQuiet_nil ?_)
      refine wpX_pure rfl ?_
      refine wpQuiet_row 184 (.tmp 8) rfl rfl (g + 1) rfl 184 #[.int .i64 q.1, .int .i64 0] _ (fun w hw => hw.get 1 rfl) Tryz.underlying184 rfl (by kernel_rfl) (fun K1 k1 => ?_)
      go_simp
      refine k1 _ ?_
      clear k1 K1
      refine wpQuiet_nil ?_
      refine wpX_call (amt a1) 87 #[.map (some W.heap.size), .agg #[.int .i64 q.1, .int .i64 0]] rfl (fun w => by go_simp) (fun w hw => HAT.o _ _ _ hw.map) (fun K1 k1 => ?_)
      go_simp
      refine k1 _ ?_
      clear k1 K1
      repeat (refine wpX_pure rfl ?_; go_big_quiet_step ((intro _; rfl)); refine wpQuiet_nil ?_)
      refine wpX_pure rfl ?_
      refine wpQuiet_part 56 (.tmp 28) rfl rfl g 2 rfl 58 #[.int .i64 q.1, .int .i64 0, .int .i64 (q.2 / 18446744073709551616), .int .u64 (q.2 % 18446744073709551616), .int .i64 0] (decE q.2 0) _ (fun w hw => hw.get 0 rfl) (line_dec q.1 q.2) Tryz.underlying56 rfl (by kernel_rfl) (fun K1 k1 => ?_)
      go_simp
      refine k1 _ ?_
      clear k1 K1
      refine wpQuiet_nil ?_
      refine wpX_call (.tuple #[amt (a1 + q.2), .int .i64 0]) 135 #[amt a1, .agg (decE q.2 0)] rfl (fun w => by go_simp) (fun w hw => HAD.o _) (fun K1 k1 => ?_)
      go_simp
      refine k1 _ ?_
      clear k1 K1
      repeat (refine wpX_pure rfl ?_; go_big_quiet_step ((intro _; rfl)); refine wpQuiet_nil ?_)
      repeat (refine wpX_float rfl ?_; go_big_quiet_step ((intro _; rfl)); refine wpQuiet_nil ?_)
      refine wpX_nil ?_
      intro gs w6 H6
      intro hmade
      simp only [putAll, wpTail, opAt, List.getElem?_cons_succ, List.getElem?_cons_zero, Option.getD_some, Act.put]
      clear hmade
      refine wpList_update2 rfl 145 (.tmp 23) (.tmp 24) (.tmp 31) rfl keyA Tryz.underlying145 HPI.o (show InR 0 by unfold InR; omega) W.heap.size L cl rfl rfl HLI.o H6.map ?_
      intro W7 HM7 hfar7 hbel7 hsz7
      have H7 := Hd (H6.turned (Nat.le_refl _) HM7 hfar7 hbel7)
      clear HM7 hfar7 hbel7 hsz7 H6
      go_wp2_with fail
      refine ⟨H7.o.has.of_mem (by simp), ?_⟩
      go_wp2_with fail
      go_roundw
      case rel => exact ⟨2, _, _, by omega, by go_num, HV, HVB, Hd (H7.o.of_mem (by simp))⟩
      case measure => simp [intOf]
    . obtain rfl : k = 2 := by omega
      go_wp2_with fail
      exact bodyPost_ret (results_one rfl _ _ rfl) rfl ⟨rfl, L, cl, HLO.o, HLB.o, HH.o.map, HH.o.below⟩
end Ch
namespace Ch
open Go.RowKit Go.Deep Wide Dec Go.Proofs.YtkdnebalpdebeaaGreatDoor.Acc Mp
open Cal hiding results_one results_two
theorem decLits {c s : Int} (hc : InT c) (hs : InR s) : Tryz.prog.keyLits 2 56 (decE c s).toList = some [.int .i64 (c / 18446744073709551616), .int .u64 (c % 18446744073709551616), .int .i64 s] := by
 have hu := Tryz.underlying56
 have hv : Tryz.prog.underlying 2 = some (.int .i64) := by kernel_rfl
 have hv2 : Tryz.prog.underlying 24 = some (.int .u64) := by kernel_rfl
 have hv3 : Tryz.prog.underlying 3 = some (.int .i64) := by kernel_rfl
 have hc1 : Tryz.prog.cellsOf 56 = 3 := by kernel_rfl
 have hc2 : Tryz.prog.cellsOf 2 = 1 := by kernel_rfl
 have hc3 : Tryz.prog.cellsOf 24 = 1 := by kernel_rfl
 have hc4 : Tryz.prog.cellsOf 3 = 1 := by kernel_rfl
 have w1 : (Lit.int .i64 (c / 18446744073709551616)).wf = true := i64_wf (by have := inT_hi hc; unfold InR; omega)
 have w2 : (Lit.int .u64 (c % 18446744073709551616)).wf = true := by simp [Lit.wf, IntKind.min, IntKind.max, IntKind.signed, IntKind.bits]; omega
 have w3 := i64_wf hs
 simp [Program.keyLits, decE, hu, hv, hv2, hv3, hc1, hc2, hc3, hc4, w1, w2, w3]
theorem neqDec {c : Int} (hc : InT c) (w : World) : (binOp .neq 56 (.agg (decE c 12)) (.agg (decE 0 12))).run Tryz.prog w = .ok (.bool (decide (c ≠ 0))) w := by
 have hu := Tryz.underlying56
 have hc1 : Tryz.prog.cellsOf 56 = 3 := by kernel_rfl
 have hf : ∀ c s : Int, Value.formed Tryz.prog 56 (.agg (decE c s)) = true := fun c s => by simp [Value.formed, decE, hu, hc1]
 have h := run_equalIn_deep (P := Tryz.prog) 9998 2 56 (by kernel_rfl) w 2 2 _ _ _ _ (hf c 12) (hf 0 12) (decLits hc (s := 12) (by unfold InR; omega)) (decLits (c := 0) (s := 12) (by unfold InT; omega) (by unfold InR; omega))
 obtain ⟨r, hr, hiff⟩ := h
 have he : (Op.equal 56 (.agg (decE c 12)) (.agg (decE 0 12))).run Tryz.prog w = .ok r w := hr
 have hr2 : (!r) = decide (c ≠ 0) := by
  by_cases h0 : c = 0
  . subst h0
    have : r = true := hiff.2 rfl
    rw [this]; rfl
  . have : r = false := by
     cases r with
     | false => rfl
     | true =>
       have := hiff.1 rfl
       simp only [List.cons.injEq, Lit.int.injEq, true_and, and_true] at this
       omega
    rw [this, decide_eq_true h0]; rfl
 simp only [binOp, Sem.run_bind, he, Result.andThen]
 rw [<- hr2]
 rfl
theorem wpQuiet_neq {ops : Array Oper} {C : World -> Prop} {Q : Act -> Prop} {rest : List Oper} {o : Oper} {a : Act} (ty rt : TypeId) (x y : Operand) (ho : o.op = .binOp .neq ty x y rt) (hw : Region.wanted o (yielded ops a.tmps) = true)
 (xs ys : Array Value) (r : Bool) (hx : a.eval x = .agg xs) (hy : a.eval y = .agg ys) (hm : Tryz.prog.eqGuardType Tryz.prog.depth ty = false) (h : ∀ w : World, (binOp .neq ty (.agg xs) (.agg ys)).run Tryz.prog w = .ok (.bool r) w)
 (h2 : ∀ K : Act -> Prop, (∀ a, wpQuiet Tryz.prog ops C Q rest a -> K a) -> K (a.put o.dst (.bool r))) : wpQuiet Tryz.prog ops C Q (o :: rest) a := by
 refine wpQuiet_val (.bool r) hw (fun w _ => ?_) h2
 simp only [execOp, ho, Sem.run_bind, hx, hy, run_eqGuard_agg (w := w) .neq ty x y xs ys hm, Result.andThen_ok, h w]
 rfl
def SL (c : Int) (L : List Ent) : Prop := (L = [] /\ c = 0) ∨ ∃ b, L = [⟨0, 0, amt c, b⟩]
theorem SL.en {c : Int} {L : List Ent} (h : SL c L) (hc : -1000000000000000000000000 <= c /\ c <= 1000000000000000000000000) : EN L := by
 rcases h with ⟨rfl, _⟩ | ⟨b, rfl⟩
 . intro e he; cases he
 . intro e he
   simp only [List.mem_singleton] at he
   subst he
   exact ⟨by show InR 0; unfold InR; omega, rfl, _, rfl, by omega, by omega⟩
theorem SL.at {c : Int} {L : List Ent} (h : SL c L) : AtN L 0 c := by
 rcases h with ⟨rfl, h⟩ | ⟨b, rfl⟩
 . exact .inl ⟨rfl, h⟩
 . exact .inr rfl
theorem SL.upd {c : Int} {L : List Ent} (h : SL c L) (d : Int) (cl : Nat) : SL d (Mp.upd L 0 0 (amt d) cl) := by
 rcases h with ⟨rfl, h⟩ | ⟨b, rfl⟩
 . exact .inr ⟨cl, rfl⟩
 . exact .inr ⟨b, rfl⟩
theorem SL.val {c : Int} {L : List Ent} (h : SL c L) : ∀ e ∈ L, e.val = amt c := by
 rcases h with ⟨rfl, h⟩ | ⟨b, rfl⟩
 . intro e he; cases he
 . intro e he; simp only [List.mem_singleton] at he; subst he; rfl
def sumK (p q : Int × Int) : Nat -> Int
 | 0 => 0
 | 1 => 0 + p.2
 | _ => 0 + p.2 + q.2
theorem balanced_ok (p q : Int × Int) (hp : LineOk p) (hq : LineOk q) (ge cap : Nat) (hpq : p.2 + q.2 = 0) (W : World) (hE : Blk W ge 58 (entE p q)) :
 Calls Tryz.prog 168 #[.slice (some ⟨ge, 0, none⟩) 2 cap] W fun e w' => e = .returned (.bool true) /\ Below W.heap.size W w' := by
 have HE := Hd hE
 have hge := hE.lt
 have HB0 : Hi (LB [] 0) := Hd ⟨fun e he => (by cases he), (by simp)⟩
 have HL0 : Hi (SL (sumK p q 0) []) := Hd (.inl ⟨rfl, rfl⟩)
 have HP := Hd hp
 have HQ := Hd hq
 have HPQ := Hd hpq
 clear hE hp hq hpq
 go_enter Tryz.func168, Tryz.ntmps168
 have hmm : (Instr.makeMap 145 none).run Tryz.prog W = .ok (.map (some W.heap.size)) (W.alloc (.map #[] 0)) := run_makeMap _ W
 have H1 : Hi (HasM W [] W.heap.size [] 0 (W.alloc (.map #[] 0))) := Hd ⟨Has.nil (Below.al (Below.refl _ _) _), heap_alloc_new W _⟩
 go_wp2_with fail
 clear hmm
 go_loopw [12] (fun i wr => ∃ (k : Nat) (L : List Ent) (cl : Nat), k <= 2 /\ i = .int .i64 k /\ Hi (SL (sumK p q k) L) /\ Hi (LB L cl) /\ Hi (HasM W [] W.heap.size L cl wr)) (fun i _ => 2 - (intOf i).toNat)
 case atStart => exact ⟨0, [], 0, by omega, rfl, HL0, HB0, H1⟩
 case round =>
  clear H1 HL0 HB0
  obtain ⟨k, L, cl, hk, rfl, HLO, HLB, HH⟩ := hrel
  have hLO := HLO.o
  by_cases hk0 : k = 0
  . subst hk0
    have hp3 := HP.o.2
    have hq3 := HQ.o.2
    obtain ⟨a1, ha1⟩ : ∃ a1, a1 = sumK p q 0 := ⟨_, rfl⟩
    have hb1 : -100000000000000000000000 <= a1 /\ a1 <= 100000000000000000000000 := by
     rw [ha1]; show _ <= 0 /\ 0 <= _; omega
    have HAT := Hd (at_ok L 0 a1 (by unfold InR; omega) (hLO.en (by rw [<- ha1]; omega)) (by rw [ha1]; exact hLO.at))
    have HAD := Hd (fun W' => addX_ok a1 p.2 hb1 (by omega) W')
    have HV : Hi (SL (sumK p q 1) (upd L 0 0 (amt (a1 + p.2)) cl)) := Hd (by
     rw [ha1]; exact hLO.upd _ cl)
    have HVB := Hd (HLB.o.upd 0 0 (amt (a1 + p.2)))
    have HLI : Hi (∀ e ∈ L, InR e.k1 /\ InR e.k2) := Hd (hLO.en (by rw [<- ha1]; omega)).keys
    clear ha1 hb1 hp3 hq3 hLO
    go_wp2_with (refine wpList_load_part rfl 58 (.tmp 14) rfl ge 0 rfl 58 (entE p q) #[.int .i64 p.1, .int .i64 0, .int .i64 (p.2 / 18446744073709551616), .int .u64 (p.2 % 18446744073709551616), .int .i64 0] _ (HE.o.below HH.o.below hge) (entE_part0 p q) Tryz.underlying58 rfl (by kernel_rfl) ?_)
    obtain ⟨g, hg⟩ : ∃ g, g = wr.heap.size := ⟨_, rfl⟩
    have H2 : Hi (HasM W [(g, 58, #[.int .i64 p.1, .int .i64 0, .int .i64 (p.2 / 18446744073709551616), .int .u64 (p.2 % 18446744073709551616), .int .i64 0]), (g + 1, 184, #[.int .i64 0, .int .i64 0])] W.heap.size L cl ((wr.alloc (.cells #[.int .i64 p.1, .int .i64 0, .int .i64 (p.2 / 18446744073709551616), .int .u64 (p.2 % 18446744073709551616), .int .i64 0] 58)).alloc (.cells #[.int .i64 0, .int .i64 0] 184))) := Hd (by
     refine ⟨Has.cons ?_ (Has.cons ?_ (Has.nil ?_)), (HH.o.map.step ((Below.refl _ _).alloc (Nat.le_refl _) _)).step ((Below.refl _ _).alloc (Nat.le_refl _) _)⟩
     . rw [hg]; exact (Blk.new _ _ _).alloc _
     . rw [hg]; exact Blk.new' (by simp)
     . exact Below.al (Below.al HH.o.below _) _)
    rw [<- hg]
    have hgW : Hi (W.heap.size <= g) := Hd (by rw [hg]; exact HH.o.size)
    clear hg HH
    refine wp_region_regF (fun w' => HasM W [(g, 58, #[.int .i64 p.1, .int .i64 0, .int .i64 (p.2 / 18446744073709551616), .int .u64 (p.2 % 18446744073709551616), .int .i64 0]), (g + 1, 184, #[.int .i64 0, .int .i64 0])] W.heap.size L cl w') (fun w' => Has W [] w') (fun _ => (0, #[])) [0, 1, 2, 3, 4, 5, 6, 7, 8, 9, 10] [] [11] [10] (by kernel_rfl) (by kernel_rfl) ?_ (fun w w' h hb => h.step hb) ?_ (fun k hk => by cases hk) ?_
    . exact fun w h => h.has.of_mem (by simp)
    . exact H2.o.drew
    clear H2
    simp only [List.map_cons, List.map_nil, opAt, List.getElem?_cons_succ, List.getElem?_cons_zero, Option.getD_some, List.contains_cons, List.contains_nil, Nat.reduceBEq, Bool.or_false, Bool.or_true, Bool.true_or, Bool.false_or]
    repeat (refine wpX_pure rfl ?_; go_big_quiet_step ((intro _; rfl)); refine wpQuiet_nil ?_)
    refine wpX_pure rfl ?_
    refine wpQuiet_row 184 (.tmp 6) rfl rfl (g + 1) rfl 184 #[.int .i64 0, .int .i64 0] _ (fun w hw => hw.get 1 rfl) Tryz.underlying184 rfl (by kernel_rfl) (fun K1 k1 => ?_)
    go_simp
    refine k1 _ ?_
    clear k1 K1
    refine wpQuiet_nil ?_
    repeat (refine wpX_pure rfl ?_; go_big_quiet_step ((intro _; rfl)); refine wpQuiet_nil ?_)
    refine wpX_pure rfl ?_
    refine wpQuiet_row 184 (.tmp 6) rfl rfl (g + 1) rfl 184 #[.int .i64 0, .int .i64 0] _ (fun w hw => hw.get 1 rfl) Tryz.underlying184 rfl (by kernel_rfl) (fun K1 k1 => ?_)
    go_simp
    refine k1 _ ?_
    clear k1 K1
    refine wpQuiet_nil ?_
    refine wpX_call (amt a1) 87 #[.map (some W.heap.size), .agg #[.int .i64 0, .int .i64 0]] rfl (fun w => by go_simp) (fun w hw => HAT.o _ _ _ hw.map) (fun K1 k1 => ?_)
    go_simp
    refine k1 _ ?_
    clear k1 K1
    repeat (refine wpX_pure rfl ?_; go_big_quiet_step ((intro _; rfl)); refine wpQuiet_nil ?_)
    refine wpX_pure rfl ?_
    refine wpQuiet_part 56 (.tmp 25) rfl rfl g 2 rfl 58 #[.int .i64 p.1, .int .i64 0, .int .i64 (p.2 / 18446744073709551616), .int .u64 (p.2 % 18446744073709551616), .int .i64 0] (decE p.2 0) _ (fun w hw => hw.get 0 rfl) (line_dec p.1 p.2) Tryz.underlying56 rfl (by kernel_rfl) (fun K1 k1 => ?_)
    go_simp
    refine k1 _ ?_
    clear k1 K1
    refine wpQuiet_nil ?_
    refine wpX_call (.tuple #[amt (a1 + p.2), .int .i64 0]) 135 #[amt a1, .agg (decE p.2 0)] rfl (fun w => by go_simp) (fun w hw => HAD.o _) (fun K1 k1 => ?_)
    go_simp
    refine k1 _ ?_
    clear k1 K1
    repeat (refine wpX_pure rfl ?_; go_big_quiet_step ((intro _; rfl)); refine wpQuiet_nil ?_)
    repeat (refine wpX_float rfl ?_; go_big_quiet_step ((intro _; rfl)); refine wpQuiet_nil ?_)
    refine wpX_nil ?_
    intro gs w6 H6
    intro hmade
    simp only [putAll, wpTail, opAt, List.getElem?_cons_succ, List.getElem?_cons_zero, Option.getD_some, Act.put]
    clear hmade
    refine wpList_update2 rfl 145 (.tmp 20) (.tmp 21) (.tmp 28) rfl keyA Tryz.underlying145 (show InR 0 by unfold InR; omega) (show InR 0 by unfold InR; omega) W.heap.size L cl rfl rfl HLI.o H6.map ?_
    intro W7 HM7 hfar7 hbel7 hsz7
    have H7 := Hd (H6.turned (Nat.le_refl _) HM7 hfar7 hbel7)
    clear HM7 hfar7 hbel7 hsz7 H6
    go_wp2_with fail
    refine ⟨H7.o.has.of_mem (by simp), ?_⟩
    go_wp2_with fail
    go_roundw
    case rel => exact ⟨1, _, _, by omega, by go_num, HV, HVB, Hd (H7.o.of_mem (by simp))⟩
    case measure => simp [intOf]
  . by_cases hk1 : k = 1
    . subst hk1
      have hp3 := HP.o.2
      have hq3 := HQ.o.2
      obtain ⟨a1, ha1⟩ : ∃ a1, a1 = sumK p q 1 := ⟨_, rfl⟩
      have hb1 : -100000000000000000000000 <= a1 /\ a1 <= 100000000000000000000000 := by
       rw [ha1]; show _ <= (0 + p.2) /\ (0 + p.2) <= _; omega
      have HAT := Hd (at_ok L 0 a1 (by unfold InR; omega) (hLO.en (by rw [<- ha1]; omega)) (by rw [ha1]; exact hLO.at))
      have HAD := Hd (fun W' => addX_ok a1 q.2 hb1 (by omega) W')
      have HV : Hi (SL (sumK p q 2) (upd L 0 0 (amt (a1 + q.2)) cl)) := Hd (by
       rw [ha1]; exact hLO.upd _ cl)
      have HVB := Hd (HLB.o.upd 0 0 (amt (a1 + q.2)))
      have HLI : Hi (∀ e ∈ L, InR e.k1 /\ InR e.k2) := Hd (hLO.en (by rw [<- ha1]; omega)).keys
      clear ha1 hb1 hp3 hq3 hLO
      go_wp2_with (refine wpList_load_part rfl 58 (.tmp 14) rfl ge 5 rfl 58 (entE p q) #[.int .i64 q.1, .int .i64 0, .int .i64 (q.2 / 18446744073709551616), .int .u64 (q.2 % 18446744073709551616), .int .i64 0] _ (HE.o.below HH.o.below hge) (entE_part1 p q) Tryz.underlying58 rfl (by kernel_rfl) ?_)
      obtain ⟨g, hg⟩ : ∃ g, g = wr.heap.size := ⟨_, rfl⟩
      have H2 : Hi (HasM W [(g, 58, #[.int .i64 q.1, .int .i64 0, .int .i64 (q.2 / 18446744073709551616), .int .u64 (q.2 % 18446744073709551616), .int .i64 0]), (g + 1, 184, #[.int .i64 0, .int .i64 0])] W.heap.size L cl ((wr.alloc (.cells #[.int .i64 q.1, .int .i64 0, .int .i64 (q.2 / 18446744073709551616), .int .u64 (q.2 % 18446744073709551616), .int .i64 0] 58)).alloc (.cells #[.int .i64 0, .int .i64 0] 184))) := Hd (by
       refine ⟨Has.cons ?_ (Has.cons ?_ (Has.nil ?_)), (HH.o.map.step ((Below.refl _ _).alloc (Nat.le_refl _) _)).step ((Below.refl _ _).alloc (Nat.le_refl _) _)⟩
       . rw [hg]; exact (Blk.new _ _ _).alloc _
       . rw [hg]; exact Blk.new' (by simp)
       . exact Below.al (Below.al HH.o.below _) _)
      rw [<- hg]
      have hgW : Hi (W.heap.size <= g) := Hd (by rw [hg]; exact HH.o.size)
      clear hg HH
      refine wp_region_regF (fun w' => HasM W [(g, 58, #[.int .i64 q.1, .int .i64 0, .int .i64 (q.2 / 18446744073709551616), .int .u64 (q.2 % 18446744073709551616), .int .i64 0]), (g + 1, 184, #[.int .i64 0, .int .i64 0])] W.heap.size L cl w') (fun w' => Has W [] w') (fun _ => (0, #[])) [0, 1, 2, 3, 4, 5, 6, 7, 8, 9, 10] [] [11] [10] (by kernel_rfl) (by kernel_rfl) ?_ (fun w w' h hb => h.step hb) ?_ (fun k hk => by cases hk) ?_
      . exact fun w h => h.has.of_mem (by simp)
      . exact H2.o.drew
      clear H2
      simp only [List.map_cons, List.map_nil, opAt, List.getElem?_cons_succ, List.getElem?_cons_zero, Option.getD_some, List.contains_cons, List.contains_nil, Nat.reduceBEq, Bool.or_false, Bool.or_true, Bool.true_or, Bool.false_or]
      repeat (refine wpX_pure rfl ?_; go_big_quiet_step ((intro _; rfl)); refine wpQuiet_nil ?_)
      refine wpX_pure rfl ?_
      refine wpQuiet_row 184 (.tmp 6) rfl rfl (g + 1) rfl 184 #[.int .i64 0, .int .i64 0] _ (fun w hw => hw.get 1 rfl) Tryz.underlying184 rfl (by kernel_rfl) (fun K1 k1 => ?_)
      go_simp
      refine k1 _ ?_
      clear k1 K1
      refine wpQuiet_nil ?_
      repeat (refine wpX_pure rfl ?_; go_big_quiet_step ((intro _; rfl)); refine wpQuiet_nil ?_)
      refine wpX_pure rfl ?_
      refine wpQuiet_row 184 (.tmp 6) rfl rfl (g + 1) rfl 184 #[.int .i64 0, .int .i64 0] _ (fun w hw => hw.get 1 rfl) Tryz.underlying184 rfl (by kernel_rfl) (fun K1 k1 => ?_)
      go_simp
      refine k1 _ ?_
      clear k1 K1
      refine wpQuiet_nil ?_
      refine wpX_call (amt a1) 87 #[.map (some W.heap.size), .agg #[.int .i64 0, .int .i64 0]] rfl (fun w => by go_simp) (fun w hw => HAT.o _ _ _ hw.map) (fun K1 k1 => ?_)
      go_simp
      refine k1 _ ?_
      clear k1 K1
      repeat (refine wpX_pure rfl ?_; go_big_quiet_step ((intro _; rfl)); refine wpQuiet_nil ?_)
      refine wpX_pure rfl ?_
      refine wpQuiet_part 56 (.tmp 25) rfl rfl g 2 rfl 58 #[.int .i64 q.1, .int .i64 0, .int .i64 (q.2 / 18446744073709551616), .int .u64 (q.2 % 18446744073709551616), .int .i64 0] (decE q.2 0) _ (fun w hw => hw.get 0 rfl) (line_dec q.1 q.2) Tryz.underlying56 rfl (by kernel_rfl) (fun K1 k1 => ?_)
      go_simp
      refine k1 _ ?_
      clear k1 K1
      refine wpQuiet_nil ?_
      refine wpX_call (.tuple #[amt (a1 + q.2), .int .i64 0]) 135 #[amt a1, .agg (decE q.2 0)] rfl (fun w => by go_simp) (fun w hw => HAD.o _) (fun K1 k1 => ?_)
      go_simp
      refine k1 _ ?_
      clear k1 K1
      repeat (refine wpX_pure rfl ?_; go_big_quiet_step ((intro _; rfl)); refine wpQuiet_nil ?_)
      repeat (refine wpX_float rfl ?_; go_big_quiet_step ((intro _; rfl)); refine wpQuiet_nil ?_)
      refine wpX_nil ?_
      intro gs w6 H6
      intro hmade
      simp only [putAll, wpTail, opAt, List.getElem?_cons_succ, List.getElem?_cons_zero, Option.getD_some, Act.put]
      clear hmade
      refine wpList_update2 rfl 145 (.tmp 20) (.tmp 21) (.tmp 28) rfl keyA Tryz.underlying145 (show InR 0 by unfold InR; omega) (show InR 0 by unfold InR; omega) W.heap.size L cl rfl rfl HLI.o H6.map ?_
      intro W7 HM7 hfar7 hbel7 hsz7
      have H7 := Hd (H6.turned (Nat.le_refl _) HM7 hfar7 hbel7)
      clear HM7 hfar7 hbel7 hsz7 H6
      go_wp2_with fail
      refine ⟨H7.o.has.of_mem (by simp), ?_⟩
      go_wp2_with fail
      go_roundw
      case rel => exact ⟨2, _, _, by omega, by go_num, HV, HVB, Hd (H7.o.of_mem (by simp))⟩
      case measure => simp [intOf]
    . obtain rfl : k = 2 := by omega
      go_wp2_with (refine wpList_range2 rfl 145 (.tmp 31) rfl Tryz.underlying145 W.heap.size _ cl rfl HH.o.map ?_
                   intro W2 hW2
                   obtain ⟨r, hr⟩ : ∃ r, r = wr.heap.size := ⟨_, rfl⟩
                   have HR : Hi (Ranging W.heap.size cl r W2) := Hd (by rw [hW2, hr]; exact ⟨#[], cl, heap_alloc_new wr _, Nat.le_refl _⟩)
                   have H2 : Hi (HasM W [] W.heap.size L cl W2) := Hd (by rw [hW2]; exact HH.o.step ((Below.refl _ _).alloc (Nat.le_refl _) _))
                   have hrW : Hi (W.heap.size < r) := Hd (by rw [hr]; exact HH.o.map.lt)
                   rw [<- hr]
                   clear hW2 hr HH)
      simp only [Act.put, List.setIfInBounds_toArray, List.set_cons_succ, List.set_cons_zero]
      go_loopw [] (fun wr => Hi (Ranging W.heap.size cl r wr) /\ Hi (HasM W [] W.heap.size L cl wr)) (fun wr => wr.rangeLeft W.heap.size r)
      case atStart => exact ⟨HR, H2⟩
      case round =>
       clear HR H2
       obtain ⟨HR, H2⟩ := hrel
       obtain ⟨seen, c0, hr, hc0⟩ := HR.o
       have HRR := Hd hr
       have HC0 := Hd hc0
       clear hr hc0
       go_wp2_with (refine wpList_next2 rfl (.tmp 32) rfl r W.heap.size cl c0 seen _ cl rfl HRR.o H2.o.map HLB.o.hold HC0.o ?_ ?_)
       . intro h0
         go_wp2_with fail
         exact bodyPost_ret (results_one rfl _ _ rfl) rfl ⟨rfl, H2.o.below⟩
       . intro e he W3 hr3 hfar3 hbel3 hsz3
         obtain ⟨hem, hes⟩ := mem_left (by simpa using he)
         have hsh := left_shrinks _ _ _ (by simpa using he)
         have hL1 : wr.rangeLeft W.heap.size r = (leftOf (L.map Ent.row).toArray seen).size := left_eq H2.o.map HRR.o
         have hm3 : Map W3 W.heap.size L cl := (hfar3 _ (by have := hrW.o; omega)).trans H2.o.map
         have hL3 := left_eq hm3 hr3
         have hen := run_entry_at (P := Tryz.prog) W3 r W.heap.size cl seen _ cl e hr3 hm3 hem HLB.o.nodup
         have hem2 := hem
         simp only [List.mem_map] at hem2
         obtain ⟨f, hf, rfl⟩ := hem2
         have hne := fun w => neqDec (c := 0) (by unfold InT; omega) w
         obtain ⟨rb, hrb⟩ : ∃ rb, rb = decide ((0 : Int) ≠ 0) := ⟨_, rfl⟩
         rw [<- hrb] at hne
         have HRB := Hd hrb
         have HNE := Hd hne
         obtain ⟨c, hc⟩ : ∃ c : Int, c = 0 := ⟨_, rfl⟩
         obtain ⟨s, hs⟩ : ∃ s : Int, s = 12 := ⟨_, rfl⟩
         have hfv : f.row.val = .agg (decE c s) := by
          have := HLO.o.val f hf
          rw [hc, hs, show f.row.val = f.val from rfl, this]
          show amt (0 + p.2 + q.2) = _
          rw [Int.zero_add, HPQ.o]; rfl
         rw [hfv] at hen ⊢
         have H3 : Hi (HasM W [] W.heap.size L cl W3) := Hd ⟨Has.nil (hbel3 _ _ (by have := hrW.o; omega) H2.o.below), hm3⟩
         have HR3 : Hi (Ranging W.heap.size cl r W3) := Hd ⟨_, cl, hr3, Nat.le_refl _⟩
         have HLT : Hi (W3.rangeLeft W.heap.size r < wr.rangeLeft W.heap.size r) := Hd (by rw [hL1, hL3]; exact hsh)
         obtain ⟨fk, hfk⟩ : ∃ fk, fk = f.row.key := ⟨_, rfl⟩
         rw [<- hfk] at hen ⊢
         rw [decE_lit] at hen ⊢
         have HC := Hd hc
         have HS := Hd hs
         clear hne hrb hL1 hL3 hsh hm3 hem hes hf hc hs hfv hr3 hfar3 hbel3 hsz3 hfk he HRR HC0 H2 HR
         go_wp2_with fail
         obtain ⟨W4, hW4⟩ : ∃ W4, W4 = W3.alloc (.cells (decE c s) 56) := ⟨_, rfl⟩
         have HB4 : Hi (Blk W4 W3.heap.size 56 (decE c s)) := Hd (by rw [hW4]; exact Blk.new _ _ _)
         have HA4 : Hi (Below W3.heap.size W3 W4) := Hd (by rw [hW4]; exact Below.al (Below.refl _ _) _)
         change Code.wp _ _ _ _ (W3.alloc (.cells (decE c s) 56))
         rw [<- hW4]
         obtain ⟨g, hg⟩ : ∃ g, g = W3.heap.size := ⟨_, rfl⟩
         rw [<- hg] at HB4 ⊢
         clear hW4
         refine wp_region_class (fun w' => Below W4.heap.size W4 w') [0, 1, 2] (by kernel_rfl) (by kernel_rfl) (Below.refl _ _).drew ?_
         simp only [List.map_cons, List.map_nil, opAt, List.getElem?_cons_succ, List.getElem?_cons_zero, Option.getD_some]
         refine wpQuiet_row 56 (.tmp 8) rfl rfl g rfl 56 (decE c s) _ (fun w hw => HB4.o.below hw HB4.o.lt) Tryz.underlying56 rfl (by kernel_rfl) (fun K1 k1 => ?_)
         go_simp
         refine k1 _ ?_
         clear k1 K1
         go_big_quiet_step ((intro hw; exact (nought_ok _).mono fun e w' h => ⟨h.1, hw.trans (h.2.mono hw.size)⟩))
         refine wpQuiet_neq 56 _ (.tmp 37) (.tmp 38) rfl rfl (decE c s) (decE 0 12) rb rfl rfl (by kernel_rfl) (fun w => by rw [HC.o, HS.o]; exact HNE.o w) (fun K1 k1 => ?_)
         go_simp
         refine k1 _ ?_
         clear k1 K1
         refine wpQuiet_nil ?_
         intro w5 H5
         have H6 : Hi (HasM W [] W.heap.size L cl w5) := Hd (H3.o.step (HA4.o.trans (H5.mono HA4.o.size)))
         have HR6 : Hi (Ranging W.heap.size cl r w5) := Hd (HR3.o.step (HA4.o.trans (H5.mono HA4.o.size)))
         have HLT6 : Hi (w5.rangeLeft W.heap.size r < wr.rangeLeft W.heap.size r) := Hd (by rw [left_step (HA4.o.trans (H5.mono HA4.o.size)) H3.o.map.lt HR3.o.lt]; exact HLT.o)
         clear H5 H3 HR3 HLT HA4 HB4
         cases rb with
         | true => cases HRB.o
         | false =>
           go_wp2_with fail
           go_roundw
           case rel => exact ⟨_, _, _, _, _, _, _, _, _, ⟨HR6, H6⟩, rfl⟩
           case measure => exact HLT6.o
end Ch
end Go.Proofs.YtkdnebalpdebeaaGreatDoor
