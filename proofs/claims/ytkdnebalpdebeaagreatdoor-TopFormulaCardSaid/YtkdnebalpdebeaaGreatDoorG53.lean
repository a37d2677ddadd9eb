/- Lemmas of a claim: TopF -/
import Derived.Test.YtkdnebalpdebeaaGreatDoorG28
import Derived.Test.YtkdnebalpdebeaaGreatDoorG52
import Derived.Test.YtkdnebalpdebeaaGreatDoorG54
set_option linter.unusedVariables false
set_option linter.unusedSimpArgs false
set_option maxHeartbeats 16000000
set_option maxRecDepth 100000
namespace Go.Proofs.YtkdnebalpdebeaaGreatDoor
namespace Bk
open Go.RowKit Go.Deep Mp Mo
open Pr (TS)
open Cal (results_one results_two results_three)
theorem formula_ok (ba ra hw md mn : Int) (hba : In64 ba) (hra : In64 ra) (hhw : 0 <= hw /\ hw <= 255) (hmd : 0 <= md /\ md <= 255) (hmn : 0 <= mn /\ mn <= 65535) (CA : ∀ w, Calls Tryz.prog 4 #[] w fun e w' => e = .returned (.bool true) /\ Below w.heap.size w w') (W : World) :
 Calls Tryz.prog 3 #[.int .i64 ba, .int .i64 ra, .int .u8 hw, .int .u8 md, .int .u16 mn] W fun e w' => e = .returned (.bool true) /\ Below W.heap.size W w' := by
 have e1 : (IntKind.u64.wrap ba).tmod 1000000000000 = IntKind.u64.wrap ba % 1000000000000 := Int.tmod_eq_emod_of_nonneg (wrap_u64_nonneg ba)
 have e2 : (IntKind.u64.wrap ra).tmod 1000000001 = IntKind.u64.wrap ra % 1000000001 := Int.tmod_eq_emod_of_nonneg (wrap_u64_nonneg ra)
 have hwr : ∀ x : Int, -9223372036854775808 <= x -> x <= 9223372036854775807 -> wrap64 x = x := fun x h1 h2 => by unfold wrap64; omega
 obtain ⟨dp, hdp, hdp0, hdp1⟩ : ∃ d, d = IntKind.u64.wrap ba % 1000000000000 /\ 0 <= d /\ d < 1000000000000 := ⟨_, rfl, by omega, by omega⟩
 obtain ⟨rt, hrt, hrt0, hrt1⟩ : ∃ d, d = IntKind.u64.wrap ra % 1000000001 /\ 0 <= d /\ d < 1000000001 := ⟨_, rfl, by omega, by omega⟩
 obtain ⟨hh, hhh, hh0, hh1⟩ : ∃ d, d = hw % 4 /\ 0 <= d /\ d < 4 := ⟨_, rfl, by omega, by omega⟩
 obtain ⟨mm, hmm, hmm0, hmm1⟩ : ∃ d, d = md % 7 /\ 0 <= d /\ d < 7 := ⟨_, rfl, by omega, by omega⟩
 obtain ⟨ds, hds, hds0, hds1⟩ : ∃ d, d = mn % 3000 /\ 0 <= d /\ d < 3000 := ⟨_, rfl, by omega, by omega⟩
 go_enter Tryz.func3, Tryz.ntmps3
 go_wp2_with fail
 refine (CA W).mono ?_
 rintro e w1 ⟨rfl, hb1⟩
 have HB1 := Hd hb1
 clear hb1 CA
 go_wp2_with fail
 rw [<- hdp, <- hrt, <- hhh, <- hmm, <- hds]
 obtain ⟨dep, hdep⟩ : ∃ x, x = 1 + dp := ⟨_, rfl⟩
 obtain ⟨d, hd⟩ : ∃ x, x = 1 + 31 * ds := ⟨_, rfl⟩
 rw [<- hdep, <- hd]
 have dep1 : 1 <= dep /\ dep <= 1000000000000 := by omega
 have d1 : 1 <= d /\ d <= 3600000 := by omega
 obtain ⟨q, hq1, hq2, hq3, hq4⟩ : ∃ q : Qd, q.how = hh /\ q.mo = mm /\ q.lim = 0 /\ q.rate = rt := ⟨⟨hh, mm, 0, rt, { id := by show (1 : Int) <= 1 /\ (1 : Int) <= 1000000000; omega, kind := .inl rfl, how := by show hh = 0 ∨ hh = 1 ∨ hh = 2 ∨ hh = 3; omega, mo := by show 0 <= mm /\ mm <= 6; omega, fee := by show (0 : Int) <= 0 /\ (0 : Int) <= 10000000000000; omega, lim := by show (0 : Int) <= 0 /\ (0 : Int) <= 10000000000000; omega, rate := by show 0 <= rt /\ rt <= 1000000000; omega }⟩, rfl, rfl, rfl, rfl⟩
 rw [<- hq1, <- hq2, <- hq4]
 clear e1 e2 hwr hdp hrt hhh hmm hds hdep hd hdp0 hdp1 hrt0 hrt1 hds0 hds1 hh0 hh1 hmm0 hmm1
 refine (new_ok d (by omega) _).mono ?_
 rintro e w3 ⟨rfl, hb3, hs3⟩
 have HB3 := Hd (HB1.o.trans (hb3.mono HB1.o.size))
 obtain ⟨n, hn⟩ : ∃ n, n = w1.heap.size := ⟨_, rfl⟩
 rw [<- hn] at hs3 ⊢
 have HN := Hd (show W.heap.size <= n by rw [hn]; exact HB1.o.size)
 have HS3 := Hd hs3
 clear hs3 hb3 hn HB1
 have HQ3 := Hd hq3
 clear hq1 hq2 hq3 hq4
 go_wp2_with fail
 change Code.wp _ _ _ _ (cmdsW q 0 dep w3)
 rw [show cmdsW q 0 dep w3 = cmdsW q q.lim dep w3 by rw [HQ3.o]]
 have HL0 := Hd (cmdsW_lq (q := q) (dep := dep) HB3.o HS3.o)
 obtain ⟨x, hx⟩ : ∃ x, x = w3.heap.size + 1 + 1 + 1 := ⟨_, rfl⟩
 obtain ⟨W4, hW4⟩ : ∃ W4, W4 = cmdsW q q.lim dep w3 := ⟨_, rfl⟩
 obtain ⟨g0, hg0⟩ : ∃ g0, g0 = w3.heap.size := ⟨_, rfl⟩
 rw [<- hx, <- hW4, <- hg0] at HL0
 rw [<- hW4, <- hx]
 clear hx hW4 hg0 HB3 HS3
 go_loopw [85] (fun t wr => ∃ i : Nat, i <= 3 /\ t = .int .i64 i /\ Hi (Lq W q n d dep g0 x i wr)) (fun t _ => 3 - (intOf t).toNat)
 case atStart => exact ⟨0, by omega, rfl, HL0⟩
 case round =>
  clear HL0
  obtain ⟨i, hi, rfl, HL⟩ := hrel
  have : i = 0 ∨ i = 1 ∨ i = 2 ∨ i = 3 := by omega
  rcases this with rfl | rfl | rfl | rfl
  . skip
    go_wp2_with (first
     | (refine wpListG_part rfl 34 (.tmp 87) rfl x 0 rfl 34 (evsQ q dep g0) (evP q g0) _ HL.o.2.1 (evsQ_part q dep g0 0 (by omega)) Tryz.underlying34 rfl (by kernel_rfl) ?_)
     | (obtain ⟨g10, hg10⟩ : ∃ g, g = wr.heap.size := ⟨_, rfl⟩
        have H3 := Hd ((HasO.start [] wr).new hg10 (.cells evZ 34))
        rw [<- hg10]
        refine wpList_turn rfl 34 (.tmp 20) (.tmp 88) rfl g10 0 (.agg (evP q g0)) rfl rfl 34 evZ (evP q g0) (H3.o.get 0 rfl) (by kernel_rfl) (by simp [Value.cells, evP, evO, evD, evE, evZ, evQ]) (by simp [Value.cells, Value.oneCell', evP, evO, evD, evE, evZ, evQ]) rfl ?_; intro W4 HT4
        have hb4 := below_turnT (W := wr) (Below.al (Below.refl _ wr) (.cells evZ 34)) HT4 (Nat.le_of_eq hg10.symm)
        have HL4 := Hd (HL.o.step hb4)
        have HE4 := Hd HT4.at_
        clear hb4 HT4 H3 hg10)
     | (refine wpListG_row rfl 34 (.tmp 20) rfl g10 rfl 34 (evP q g0) _ HE4.o Tryz.underlying34 rfl (by kernel_rfl) ?_))
    refine (lq_plan0 HL4.o).mono ?_
    rintro e w5 ⟨⟨A', k', c', rfl, ht5⟩, hb5⟩
    have HT5 := Hd ht5
    clear ht5
    have HL5 := Hd (HL4.o.step hb5)
    clear hb5 HL4 HE4
    go_wp2_with (first
     | (obtain ⟨g11, hg11⟩ : ∃ g, g = w5.heap.size := ⟨_, rfl⟩
        have H3 := Hd ((HasO.start [] w5).new hg11 (.cells evZ 34))
        rw [<- hg11]
        refine wpList_turn rfl 34 (.tmp 21) (.tmp 93) rfl g11 0 (.agg (evE 1 1 1 0 1 q.how q.mo 0 q.lim (.slice A' k' c'))) rfl rfl 34 evZ (evE 1 1 1 0 1 q.how q.mo 0 q.lim (.slice A' k' c')) (H3.o.get 0 rfl) (by kernel_rfl) (by simp [Value.cells, evP, evO, evD, evE, evZ, evQ]) (by simp [Value.cells, Value.oneCell', evP, evO, evD, evE, evZ, evQ]) rfl ?_; intro W8 HT8
        have hb8 := below_turnT (W := w5) (Below.al (Below.refl _ w5) (.cells evZ 34)) HT8 (Nat.le_of_eq hg11.symm)
        have HL8 := Hd (HL5.o.step hb8)
        have HE8 := Hd HT8.at_
        clear HT8
        have HT8 := Hd (HT5.o.step hb8)
        clear hb8 H3 hg11)
     | (refine wpListG_row rfl 34 (.tmp 21) rfl g11 rfl 34 (evE 1 1 1 0 1 q.how q.mo 0 q.lim (.slice A' k' c')) _ HE8.o Tryz.underlying34 rfl (by kernel_rfl) ?_))
    refine (lq_apply0 HN.o HL8.o A' k' c' HT8.o).mono ?_
    rintro e w9 ⟨rfl, hl9⟩
    have HL9 := Hd hl9
    clear hl9 HL8 HE8 HL5
    go_wp2_with fail
    refine ⟨⟨1, by omega, by simp, HL9⟩, by simp [intOf]⟩
  . skip
    go_wp2_with (first
     | (refine wpListG_part rfl 34 (.tmp 87) rfl x 11 rfl 34 (evsQ q dep g0) evO _ HL.o.2.1 (evsQ_part q dep g0 1 (by omega)) Tryz.underlying34 rfl (by kernel_rfl) ?_)
     | (obtain ⟨g10, hg10⟩ : ∃ g, g = wr.heap.size := ⟨_, rfl⟩
        have H3 := Hd ((HasO.start [] wr).new hg10 (.cells evZ 34))
        rw [<- hg10]
        refine wpList_turn rfl 34 (.tmp 20) (.tmp 88) rfl g10 0 (.agg evO) rfl rfl 34 evZ evO (H3.o.get 0 rfl) (by kernel_rfl) (by simp [Value.cells, evP, evO, evD, evE, evZ, evQ]) (by simp [Value.cells, Value.oneCell', evP, evO, evD, evE, evZ, evQ]) rfl ?_; intro W4 HT4
        have hb4 := below_turnT (W := wr) (Below.al (Below.refl _ wr) (.cells evZ 34)) HT4 (Nat.le_of_eq hg10.symm)
        have HL4 := Hd (HL.o.step hb4)
        have HE4 := Hd HT4.at_
        clear hb4 HT4 H3 hg10)
     | (refine wpListG_row rfl 34 (.tmp 20) rfl g10 rfl 34 evO _ HE4.o Tryz.underlying34 rfl (by kernel_rfl) ?_))
    refine (lq_plan1 (by omega) HL4.o).mono ?_
    rintro e w5 ⟨rfl, hb5⟩
    have HL5 := Hd (HL4.o.step hb5)
    clear hb5 HL4 HE4
    go_wp2_with (first
     | (obtain ⟨g11, hg11⟩ : ∃ g, g = w5.heap.size := ⟨_, rfl⟩
        have H3 := Hd ((HasO.start [] w5).new hg11 (.cells evZ 34))
        rw [<- hg11]
        refine wpList_turn rfl 34 (.tmp 21) (.tmp 93) rfl g11 0 (.agg (evE 2 10 1 0 0 0 0 0 0 (.slice none 0 0))) rfl rfl 34 evZ (evE 2 10 1 0 0 0 0 0 0 (.slice none 0 0)) (H3.o.get 0 rfl) (by kernel_rfl) (by simp [Value.cells, evP, evO, evD, evE, evZ, evQ]) (by simp [Value.cells, Value.oneCell', evP, evO, evD, evE, evZ, evQ]) rfl ?_; intro W8 HT8
        have hb8 := below_turnT (W := w5) (Below.al (Below.refl _ w5) (.cells evZ 34)) HT8 (Nat.le_of_eq hg11.symm)
        have HL8 := Hd (HL5.o.step hb8)
        have HE8 := Hd HT8.at_
        clear HT8
        clear hb8 H3 hg11)
     | (refine wpListG_row rfl 34 (.tmp 21) rfl g11 rfl 34 (evE 2 10 1 0 0 0 0 0 0 (.slice none 0 0)) _ HE8.o Tryz.underlying34 rfl (by kernel_rfl) ?_))
    refine (lq_apply1 HN.o (by omega) HL8.o).mono ?_
    rintro e w9 ⟨rfl, hl9⟩
    have HL9 := Hd hl9
    clear hl9 HL8 HE8 HL5
    go_wp2_with fail
    refine ⟨⟨2, by omega, by simp, HL9⟩, by simp [intOf]⟩
  . skip
    go_wp2_with (first
     | (refine wpListG_part rfl 34 (.tmp 87) rfl x 22 rfl 34 (evsQ q dep g0) (evD dep) _ HL.o.2.1 (evsQ_part q dep g0 2 (by omega)) Tryz.underlying34 rfl (by kernel_rfl) ?_)
     | (obtain ⟨g10, hg10⟩ : ∃ g, g = wr.heap.size := ⟨_, rfl⟩
        have H3 := Hd ((HasO.start [] wr).new hg10 (.cells evZ 34))
        rw [<- hg10]
        refine wpList_turn rfl 34 (.tmp 20) (.tmp 88) rfl g10 0 (.agg (evD dep)) rfl rfl 34 evZ (evD dep) (H3.o.get 0 rfl) (by kernel_rfl) (by simp [Value.cells, evP, evO, evD, evE, evZ, evQ]) (by simp [Value.cells, Value.oneCell', evP, evO, evD, evE, evZ, evQ]) rfl ?_; intro W4 HT4
        have hb4 := below_turnT (W := wr) (Below.al (Below.refl _ wr) (.cells evZ 34)) HT4 (Nat.le_of_eq hg10.symm)
        have HL4 := Hd (HL.o.step hb4)
        have HE4 := Hd HT4.at_
        clear hb4 HT4 H3 hg10)
     | (refine wpListG_row rfl 34 (.tmp 20) rfl g10 rfl 34 (evD dep) _ HE4.o Tryz.underlying34 rfl (by kernel_rfl) ?_))
    refine (lq_plan2 dep1 HL4.o).mono ?_
    rintro e w5 ⟨rfl, hb5⟩
    have HL5 := Hd (HL4.o.step hb5)
    clear hb5 HL4 HE4
    go_wp2_with (first
     | (obtain ⟨g11, hg11⟩ : ∃ g, g = w5.heap.size := ⟨_, rfl⟩
        have H3 := Hd ((HasO.start [] w5).new hg11 (.cells evZ 34))
        rw [<- hg11]
        refine wpList_turn rfl 34 (.tmp 21) (.tmp 93) rfl g11 0 (.agg (evE 4 10 dep 0 0 0 0 0 0 (.slice none 0 0))) rfl rfl 34 evZ (evE 4 10 dep 0 0 0 0 0 0 (.slice none 0 0)) (H3.o.get 0 rfl) (by kernel_rfl) (by simp [Value.cells, evP, evO, evD, evE, evZ, evQ]) (by simp [Value.cells, Value.oneCell', evP, evO, evD, evE, evZ, evQ]) rfl ?_; intro W8 HT8
        have hb8 := below_turnT (W := w5) (Below.al (Below.refl _ w5) (.cells evZ 34)) HT8 (Nat.le_of_eq hg11.symm)
        have HL8 := Hd (HL5.o.step hb8)
        have HE8 := Hd HT8.at_
        clear HT8
        clear hb8 H3 hg11)
     | (refine wpListG_row rfl 34 (.tmp 21) rfl g11 rfl 34 (evE 4 10 dep 0 0 0 0 0 0 (.slice none 0 0)) _ HE8.o Tryz.underlying34 rfl (by kernel_rfl) ?_))
    refine (lq_apply2 dep1 HN.o HL8.o).mono ?_
    rintro e w9 ⟨rfl, hl9⟩
    have HL9 := Hd hl9
    clear hl9 HL8 HE8 HL5
    go_wp2_with fail
    refine ⟨⟨3, by omega, by simp, HL9⟩, by simp [intOf]⟩
  . obtain ⟨ga, bh, hs3⟩ := HL.o.s3
    have HLO : Hi (Lo W q n ga bh dep d 0 0 wr) := Hd (Lo.start HL.o.1 hs3)
    clear hs3 HL
    rw [show ((3 : Nat) : Int) = 3 from rfl]
    go_wp2_with fail
    go_loopw [24, 25, 26] (fun mi p t wr => ∃ (i : Nat) (z : Int), mi = .int .i64 (micV q dep d i) /\ p = .int .i64 z /\ t = .int .i64 (i : Int) /\ Hi (Lo W q n ga bh dep d i z wr)) (fun _ _ t _ => 40 - (intOf t).toNat)
    case atStart => exact ⟨0, 0, rfl, rfl, rfl, HLO⟩
    case round =>
     obtain ⟨i, z, rfl, rfl, rfl, HLI⟩ := hrel
     clear HLO
     rcases HLI.o with ⟨rfl, hi30, hne, hfn⟩ | ⟨j, rfl, hj30, rfl, hfe⟩
     . have HNE := Hd hne
       have HFN := Hd hfn
       clear hne hfn HLI
       obtain ⟨m0, hm0⟩ : ∃ m, m = micV q dep d i := ⟨_, rfl⟩
       have hmb := mic_in (q := q) (dep := dep) (d := d) (by omega) d1 i (by omega)
       obtain ⟨rs, hrs⟩ : ∃ r, r = Acc.dayG dep q.rate (Bas.partN q.how (d + i)) (Bas.partD q.how) q.mo := ⟨_, rfl⟩
       have hrb := day_in (q := q) (dep := dep) (x := d + i) (by omega) (by omega)
       rw [<- hrs] at hrb
       rw [<- hm0] at hmb ⊢
       have HM1 : Hi (micV q dep d (i + 1) = m0 + rs) := Hd (by rw [hm0, hrs]; rfl)
       have CDY := Hd (fun (mo : Nat) (hmo : (mo : Int) = q.mo) (g : Nat) (w : World) (hg : w.heap[g]? = some (.cells (Big.tierR q.rate) 31)) => Big.daily_ok dep q.rate q.how (d + i) mo g 1 (by omega) q.ok.rate q.ok.how (by have := q.ok.mo.2; simp only [] at this; omega) (by omega) w hg)
       obtain ⟨mo, hmo⟩ : ∃ mo : Nat, (mo : Int) = q.mo := ⟨q.mo.toNat, by have := q.ok.mo.1; simp only [] at this; omega⟩
       have CDM := Hd (fun (g : Nat) (w : World) hg => CDY.o mo hmo g w hg)
       rw [hmo, <- hrs] at CDM
       have c0 : wr.cell? ⟨n + 7, 0, none⟩ = some (.int .i64 (d + i)) := by obtain ⟨_, seq, _, h⟩ := HFN.o; exact (stX_cells h).1
       clear CDY hmo hrs hm0
       go_wp2_with fail
       refine (mday_ok (n + 7) (d + i) wr c0).mono ?_
       rintro e w2 ⟨rfl, hw⟩
       obtain rfl : wr = w2 := hw.symm
       clear c0 hw
       go_wp2_with fail
       refine (CDM.o _ _ (heap_alloc_new _ _)).mono ?_
       rintro e w5 ⟨⟨v5, rfl, q5⟩, hb5⟩
       have hbA : Below wr.heap.size wr w5 := (Below.al (Below.refl _ _) (.cells #[.int .i64 0, .int .i64 q.rate] 31)).trans (hb5.mono (by simp))
       have HF5 := Hd (HFN.o.step hbA)
       have CSH := Hd (Big.short_ok v5 rs.toNat w5 (by omega) q5)
       rw [show ((rs.toNat : Nat) : Int) = rs by omega] at CSH
       clear hb5 hbA q5 CDM HFN
       go_wp2_with fail
       refine CSH.o.mono ?_
       rintro e w6 ⟨rfl, hb6⟩
       have HF6 := Hd (HF5.o.step hb6)
       have hs64 : -9223372036854775808 <= m0 + rs /\ m0 + rs <= 9223372036854775807 := by omega
       clear hb6 CSH HF5
       have HM0 : Hi (Fm W q n ga bh dep d i 0 false 6 w6) := Hd (.inl ⟨rfl, rfl, rfl, HF6.o⟩)
       clear HF6
       go_wp2_with fail
       go_loopw [25, 28] (fun p dn wx => ∃ (z : Int) (bd : Bool) (m : Nat), p = .int .i64 z /\ dn = .bool bd /\ Hi (Fm W q n ga bh dep d i z bd m wx)) (fun _ dn wx => mu n dn wx)
       case atStart => exact ⟨0, false, 6, rfl, rfl, HM0⟩
       case round =>
        obtain ⟨z, bd, m, rfl, rfl, HM⟩ := hrel
        cases bd with
        | false =>
          obtain ⟨op, n0, n1, n2, p', dn', m', hn2, hop, hmm, hnx, hap⟩ := HM.o.round HN.o (by omega) (by omega) d1
          have HNX := Hd hnx
          have HAP := Hd hap
          have HMM := Hd hmm
          have HMU := Hd HM.o.mu
          clear hmm hnx hap HM0 HM
          rcases hop with ⟨rfl, rfl, rfl, rfl⟩ | ⟨rfl, rfl, rfl, rfl⟩ | ⟨rfl, rfl, rfl, rfl⟩ | ⟨rfl, rfl, rfl, rfl⟩ | ⟨rfl, rfl, rfl, rfl⟩
          all_goals
           go_wp2_with fail
           refine (HNX.o _ (Below.refl _ _)).mono ?_
           rintro e w2 ⟨rfl, hb2⟩
           have HB2 := Hd hb2
           clear hb2
           go_wp2_with (first
            | (obtain ⟨g29, hg29⟩ : ∃ g, g = w2.heap.size := ⟨_, rfl⟩
               have H3 := Hd ((HasO.start [] w2).new hg29 (.cells evZ 34))
               rw [<- hg29]
               refine wpList_turn rfl 34 (.tmp 29) (.tmp 133) rfl g29 0 (.agg (evE _ n0 _ n2 0 0 0 0 0 (.slice none 0 0))) rfl rfl 34 evZ (evE _ n0 _ n2 0 0 0 0 0 (.slice none 0 0)) (H3.o.get 0 rfl) (by kernel_rfl) (by simp [Value.cells, evE, evZ]) (by simp [Value.cells, Value.oneCell', evE, evZ]) rfl ?_; intro W4 HT4
               have HB4 := Hd (HB2.o.trans ((below_turnT (W := w2) (Below.al (Below.refl _ w2) (.cells evZ 34)) HT4 (Nat.le_of_eq hg29.symm)).mono HB2.o.size))
               have HE4 := Hd HT4.at_
               clear HT4 H3 hg29)
            | (refine wpListG_row rfl 34 (.tmp 29) rfl g29 rfl 34 _ _ HE4.o Tryz.underlying34 rfl (by kernel_rfl) ?_))
           have ha4 := HAP.o W4 HB4.o
           refine ha4.2.mono ?_
           rintro e w5 ⟨rfl, hk5, hm5⟩
           have hE5 := (hk5.block _ (obj_lt HE4.o) (ha4.1.not_mem HE4.o rfl)).trans HE4.o
           have c0 := Blk.cell (t := 34) hE5 0
           have c3 := Blk.cell (t := 34) hE5 3
           have c4 := Blk.cell (t := 34) hE5 4
           simp only [evE, List.getElem?_toArray, List.getElem?_cons_succ, List.getElem?_cons_zero] at c0 c3 c4
           have HM5 := Hd hm5
           clear hk5 hm5 hE5 ha4 HE4 HB4
           go_wp2_with fail
           refine ⟨⟨_, _, m', rfl, rfl, HM5⟩, ?_⟩
           rw [<- HM5.o.mu, <- HMU.o]
           exact HMM.o
        | true =>
          have hlo := Lo.next (q := q) d1 hi30 HNE.o HM.o.fin
          have HLN := Hd hlo
          clear HM HM0 hlo
          go_wp2_with fail
          refine ⟨⟨i + 1, z, by rw [HM1.o], rfl, by simp, HLN⟩, ?_⟩
          simp only [intOf]; omega
     . obtain ⟨hb, seq, hst⟩ := hfe
       obtain ⟨g1, g2, g3, g4, g5, g6, g7⟩ := wh_in (q := q) (dep := dep) (d := d) (i := j) (by omega) d1 (by omega)
       have CP := Hd (fun w => Acc.pay_ok (micV q dep d (j + 1)) (10000000000000 - dep) w)
       rw [show Acc.payX (micV q dep d (j + 1)) (10000000000000 - dep) = whV q dep d j from rfl, show Acc.payY (micV q dep d (j + 1)) (10000000000000 - dep) = rsV q dep d j from rfl, g3] at CP
       obtain ⟨M, hM⟩ : ∃ m, m = micV q dep d (j + 1) := ⟨_, rfl⟩
       obtain ⟨wh, hwh⟩ : ∃ m, m = whV q dep d j := ⟨_, rfl⟩
       obtain ⟨rs, hrs⟩ : ∃ m, m = rsV q dep d j := ⟨_, rfl⟩
       rw [<- hM, <- hwh, <- hrs] at CP
       rw [<- hwh, <- hrs] at hst
       rw [<- hM, <- hwh] at g1
       rw [<- hM, <- hrs] at g2
       rw [<- hwh] at g4 g5
       rw [<- hrs] at g6 g7
       rw [<- hM, <- hwh]
       have hM2 : 1000000 * wh + rs = M := by omega
       have hp0 : ((wh + 1) == 0) = false := beq_eq_false_iff_ne.2 (by omega)
       have HST := Hd hst
       have HB := Hd hb
       clear hM hwh hrs hst hb g1 g2 g3 HLI
       go_wp2_with fail
       refine (accountOf_ok q n ga bh _ seq (dep + wh) rs dep false [] wr HST.o).mono ?_
       rintro e w2 ⟨rfl, hb2⟩
       have HST2 := Hd (HST.o.step hb2)
       have HB2 := Hd (HB.o.trans (hb2.mono HB.o.size))
       clear hb2 HST HB
       unfold acctV
       go_wp2_with fail
       obtain ⟨v3, hv3⟩ : ∃ v, v = w2.alloc (.cells #[.int .i64 10, .int .i64 1, .int .i64 0, .int .i64 1, .bool true, .int .i64 (dep + wh), .int .i64 0, .int .i64 rs] 48) := ⟨_, rfl⟩
       have hk3 : Blk v3 w2.heap.size 48 #[.int .i64 10, .int .i64 1, .int .i64 0, .int .i64 1, .bool true, .int .i64 (dep + wh), .int .i64 0, .int .i64 rs] := by rw [hv3]; exact Blk.new _ _ _
       have hbA : Below w2.heap.size w2 v3 := by rw [hv3]; exact Below.al (Below.refl _ _) _
       have HST3 := Hd (HST2.o.step hbA)
       have HB3 := Hd (HB2.o.trans (hbA.mono HB2.o.size))
       have c5 : v3.cell? ⟨w2.heap.size, 5, none⟩ = some (.int .i64 (dep + wh)) := by rw [Blk.cell hk3 5]; rfl
       have c7 : v3.cell? ⟨w2.heap.size, 7, none⟩ = some (.int .i64 rs) := by rw [Blk.cell hk3 7]; rfl
       rw [<- hv3]
       clear hv3 hk3 hbA HST2 HB2
       refine (CP.o _).mono ?_
       rintro e w4 ⟨rfl, hw⟩
       obtain rfl := hw.symm
       clear hw CP
       go_wp2_with fail
       refine (trialOf_ok q n ga bh _ seq (dep + wh) rs dep (by omega) false [] _ HST3.o).mono ?_
       rintro e w5 ⟨⟨v, rfl, ho⟩, hb5⟩
       obtain ⟨A, cc, rfl⟩ := own_slice ho
       have HB5 := Hd (HB3.o.trans (hb5.mono HB3.o.size))
       rw [trC_lf (by omega) (by omega), show dep + wh - dep = wh by omega] at ho ⊢
       clear hb5 HST3 HB3 c5 c7
       by_cases hz : wh = 0
       . rw [if_pos hz] at ho ⊢
         obtain ⟨g, cur, rfl, hg, hcur⟩ := row_of ho (by simp)
         obtain ⟨h1, l1, hL1⟩ : ∃ h l, Ch.lineE 1 0 (lf dep (dep + wh) 1 * 1000000000000) 12 = #[.int .i64 1, .int .i64 0, .int .i64 h, .int .u64 l, .int .i64 12] := ⟨_, _, rfl⟩
         obtain ⟨h2, l2, hL2⟩ : ∃ h l, Ch.lineE 2 0 (lf dep (dep + wh) 2 * 1000000000000) 12 = #[.int .i64 2, .int .i64 0, .int .i64 h, .int .u64 l, .int .i64 12] := ⟨_, _, rfl⟩
         have P1 := line_of hcur 0 1 rfl
         have P2 := line_of hcur 1 2 rfl
         rw [hL1] at P1
         rw [hL2] at P2
         have HP1 := Hd P1
         have HP2 := Hd P2
         have HG5 := Hd hg
         clear P1 P2 hg hcur ho hL1 hL2
         simp only [List.length_cons, List.length_nil, Nat.zero_add, Nat.reduceAdd]
         go_wp2_with fail
         go_loopw [209] (fun t wr => ∃ i : Nat, i <= 2 /\ t = .int .i64 (i : Int) /\ Hi (Below W.heap.size W wr) /\ Hi (wr.heap[g]? = some (.cells cur 58))) (fun t _ => 3 - (intOf t).toNat)
         case atStart => exact ⟨0, by omega, rfl, HB5, HG5⟩
         case round =>
          obtain ⟨i, hi, rfl, HB, HG⟩ := hrel
          have : i = 0 ∨ i = 1 ∨ i = 2 := by omega
          rcases this with rfl | rfl | rfl
          . skip
            go_wp2_with (refine wpListG_part rfl 58 (.tmp 211) rfl g 0 rfl 58 cur #[.int .i64 1, .int .i64 0, .int .i64 h1, .int .u64 l1, .int .i64 12] _ HG.o HP1.o Tryz.underlying58 rfl (by kernel_rfl) ?_)
            have hal : Below wr.heap.size wr (wr.alloc (.cells #[.int .i64 1, .int .i64 0, .int .i64 h1, .int .u64 l1, .int .i64 12] 58)) := Below.al (Below.refl _ _) _
            refine ⟨⟨1, by omega, rfl, Hd (HB.o.trans (hal.mono HB.o.size)), Hd ((hal.block _ (obj_lt HG.o)).trans HG.o)⟩, by simp [intOf]⟩
          . skip
            go_wp2_with (refine wpListG_part rfl 58 (.tmp 211) rfl g 5 rfl 58 cur #[.int .i64 2, .int .i64 0, .int .i64 h2, .int .u64 l2, .int .i64 12] _ HG.o HP2.o Tryz.underlying58 rfl (by kernel_rfl) ?_)
            have hal : Below wr.heap.size wr (wr.alloc (.cells #[.int .i64 2, .int .i64 0, .int .i64 h2, .int .u64 l2, .int .i64 12] 58)) := Below.al (Below.refl _ _) _
            refine ⟨⟨2, by omega, rfl, Hd (HB.o.trans (hal.mono HB.o.size)), Hd ((hal.block _ (obj_lt HG.o)).trans HG.o)⟩, by simp [intOf]⟩
          . go_wp2_with fail
            exact bodyPost_ret (results_one rfl _ _ rfl) rfl ⟨rfl, HB.o⟩
       . rw [if_neg hz] at ho ⊢
         obtain ⟨g, cur, rfl, hg, hcur⟩ := row_of ho (by simp)
         obtain ⟨h1, l1, hL1⟩ : ∃ h l, Ch.lineE 1 0 (lf dep (dep + wh) 1 * 1000000000000) 12 = #[.int .i64 1, .int .i64 0, .int .i64 h, .int .u64 l, .int .i64 12] := ⟨_, _, rfl⟩
         obtain ⟨h2, l2, hL2⟩ : ∃ h l, Ch.lineE 2 0 (lf dep (dep + wh) 2 * 1000000000000) 12 = #[.int .i64 2, .int .i64 0, .int .i64 h, .int .u64 l, .int .i64 12] := ⟨_, _, rfl⟩
         obtain ⟨h4, l4, hL4, hD4⟩ : ∃ h l, Ch.lineE 4 0 (lf dep (dep + wh) 4 * 1000000000000) 12 = #[.int .i64 4, .int .i64 0, .int .i64 h, .int .u64 l, .int .i64 12] /\ Dec.decE (wh * 1000000000000) 12 = #[.int .i64 h, .int .u64 l, .int .i64 12] := ⟨_, _, rfl, by rw [show lf dep (dep + wh) 4 = wh by show dep + wh - dep = wh; omega]; rfl⟩
         have P1 := line_of hcur 0 1 rfl
         have P2 := line_of hcur 1 2 rfl
         have P4 := line_of hcur 2 4 rfl
         rw [hL1] at P1
         rw [hL2] at P2
         rw [hL4] at P4
         have CI := Hd (fun w => Dec.int12_ok wh (by omega) w)
         rw [hD4] at CI
         have HP1 := Hd P1
         have HP2 := Hd P2
         have HP4 := Hd P4
         have HG5 := Hd hg
         clear P1 P2 P4 hg hcur ho hL1 hL2 hL4 hD4
         simp only [List.length_cons, List.length_nil, Nat.zero_add, Nat.reduceAdd]
         go_wp2_with fail
         go_loopw [209] (fun t wr => ∃ i : Nat, i <= 2 /\ t = .int .i64 (i : Int) /\ Hi (Below W.heap.size W wr) /\ Hi (wr.heap[g]? = some (.cells cur 58))) (fun t _ => 3 - (intOf t).toNat)
         case atStart => exact ⟨0, by omega, rfl, HB5, HG5⟩
         case round =>
          obtain ⟨i, hi, rfl, HB, HG⟩ := hrel
          have : i = 0 ∨ i = 1 ∨ i = 2 := by omega
          rcases this with rfl | rfl | rfl
          . skip
            go_wp2_with (refine wpListG_part rfl 58 (.tmp 211) rfl g 0 rfl 58 cur #[.int .i64 1, .int .i64 0, .int .i64 h1, .int .u64 l1, .int .i64 12] _ HG.o HP1.o Tryz.underlying58 rfl (by kernel_rfl) ?_)
            have hal : Below wr.heap.size wr (wr.alloc (.cells #[.int .i64 1, .int .i64 0, .int .i64 h1, .int .u64 l1, .int .i64 12] 58)) := Below.al (Below.refl _ _) _
            refine ⟨⟨1, by omega, rfl, Hd (HB.o.trans (hal.mono HB.o.size)), Hd ((hal.block _ (obj_lt HG.o)).trans HG.o)⟩, by simp [intOf]⟩
          . skip
            go_wp2_with (refine wpListG_part rfl 58 (.tmp 211) rfl g 5 rfl 58 cur #[.int .i64 2, .int .i64 0, .int .i64 h2, .int .u64 l2, .int .i64 12] _ HG.o HP2.o Tryz.underlying58 rfl (by kernel_rfl) ?_)
            have hal : Below wr.heap.size wr (wr.alloc (.cells #[.int .i64 2, .int .i64 0, .int .i64 h2, .int .u64 l2, .int .i64 12] 58)) := Below.al (Below.refl _ _) _
            refine ⟨⟨2, by omega, rfl, Hd (HB.o.trans (hal.mono HB.o.size)), Hd ((hal.block _ (obj_lt HG.o)).trans HG.o)⟩, by simp [intOf]⟩
          . skip
            go_wp2_with (refine wpListG_part rfl 58 (.tmp 211) rfl g 10 rfl 58 cur #[.int .i64 4, .int .i64 0, .int .i64 h4, .int .u64 l4, .int .i64 12] _ HG.o HP4.o Tryz.underlying58 rfl (by kernel_rfl) ?_)
            refine (CI.o _).mono ?_
            rintro e w8 ⟨rfl, hb8⟩
            have hbF : Below W.heap.size W w8 := HB.o.trans (((Below.al (Below.refl _ _) (.cells #[.int .i64 4, .int .i64 0, .int .i64 h4, .int .u64 l4, .int .i64 12] 58)).trans (hb8.mono (by simp))).mono HB.o.size)
            have hpos : 0 < wh := by omega
            go_wp2_with fail
            exact bodyPost_ret (results_one rfl _ _ rfl) rfl ⟨rfl, hbF⟩
end Bk
end Go.Proofs.YtkdnebalpdebeaaGreatDoor
