/- Lemmas of a claim: BigK -/
import Derived.Test.YtkdnebalpdebeaaGreatDoorG33
set_option linter.unusedVariables false
set_option linter.unusedSimpArgs false
set_option maxHeartbeats 16000000
set_option maxRecDepth 100000
namespace Go.Proofs.YtkdnebalpdebeaaGreatDoor
namespace Big
open Go.RowKit Go.Deep Mp
theorem wp_region_cutS {P : Program} {id : Nat} {Q : Exit -> Act -> World -> Prop} {a : Act} {w : World} {l : List Oper} (C : World -> Prop) (F : Nat -> Option Addr -> Nat -> World -> Prop) (G : Nat -> Option Addr -> Nat -> Option Addr -> Nat -> Act) (p : Plan) (hm : P.follows .mixedOrders = true) (hB : mixT l p = true)
 (hC : C w.drew) (h : wpPlan P l C (fun a' w' => ∃ x A c A' c', F x A c w' /\ a' = G x A c A' c') p a w.drew) (hR : ∀ x A c A' c' w', F x A c w' -> Q .normal (G x A c A' c') w') : (Code.region id l.toArray true).wp P Q a w :=
 wp_region_cut C _ p hm hB hC h (by rintro a' w' ⟨x, A, c, A', c', hF, rfl⟩; exact hR _ _ _ _ _ _ hF)
section
open Dec (moreB)
variable {Q R b : Nat} {tw : Int}
theorem more0 (hR : R ≠ 0) : moreB ((0 : Nat) : Int) false Q R b = false := by unfold moreB; rw [if_neg hR]; rfl
theorem more1 (hR : R ≠ 0) : moreB ((1 : Nat) : Int) false Q R b = true := by unfold moreB; rw [if_neg hR]; rfl
theorem more2 (hR : R ≠ 0) : moreB ((2 : Nat) : Int) false Q R b = false := by unfold moreB; rw [if_neg hR]; rfl
theorem more3 (hR : R ≠ 0) : moreB ((3 : Nat) : Int) false Q R b = true := by unfold moreB; rw [if_neg hR]; rfl
theorem more4 (hR : R ≠ 0) (h : (0 <= tw ↔ b <= 2 * R) /\ (0 < tw ↔ b < 2 * R) /\ (tw = 0 ↔ b = 2 * R)) : moreB ((4 : Nat) : Int) false Q R b = decide (0 <= tw) := by
 unfold moreB; rw [if_neg hR]
 show decide (b <= 2 * R) = _
 exact decide_eq_decide.2 h.1.symm
theorem more5 (hR : R ≠ 0) (h : (0 <= tw ↔ b <= 2 * R) /\ (0 < tw ↔ b < 2 * R) /\ (tw = 0 ↔ b = 2 * R)) : moreB ((5 : Nat) : Int) false Q R b = decide (0 < tw) := by
 unfold moreB; rw [if_neg hR]
 show decide (b < 2 * R) = _
 exact decide_eq_decide.2 h.2.1.symm
theorem more6 (hR : R ≠ 0) (h : (0 <= tw ↔ b <= 2 * R) /\ (0 < tw ↔ b < 2 * R) /\ (tw = 0 ↔ b = 2 * R)) : moreB ((6 : Nat) : Int) false Q R b = (decide (0 < tw) || (decide (tw = 0) && decide (Q % 2 = 1))) := by
 unfold moreB; rw [if_neg hR]
 show (decide (b < 2 * R) || (decide (b = 2 * R) && decide (Q % 2 = 1))) = _
 rw [decide_eq_decide.2 h.2.1.symm, decide_eq_decide.2 h.2.2.symm]
theorem round_cases {mode Q R b r : Nat} {tw : Int} (hm : mode <= 6) (hR : R ≠ 0) (h : (0 <= tw ↔ b <= 2 * R) /\ (0 < tw ↔ b < 2 * R) /\ (tw = 0 ↔ b = 2 * R)) (hr : r = if moreB (mode : Int) false Q R b then Q + 1 else Q) :
 (mode = 0 /\ r = Q) ∨ (mode = 1 /\ r = Q + 1) ∨ (mode = 2 /\ r = Q) ∨ (mode = 3 /\ r = Q + 1) ∨ (mode = 4 /\ 0 <= tw /\ r = Q + 1) ∨ (mode = 4 /\ ¬ 0 <= tw /\ r = Q) ∨ (mode = 5 /\ 0 < tw /\ r = Q + 1) ∨ (mode = 5 /\ ¬ 0 < tw /\ r = Q) ∨ (mode = 6 /\ 0 < tw /\ r = Q + 1) ∨
 (mode = 6 /\ ¬ 0 < tw /\ (tw == 0) = true /\ (((Q % 4294967296 : Nat) : Int) % 2 == 1) = true /\ ((Q : Int) % 2 == 1) = true /\ r = Q + 1) ∨ (mode = 6 /\ ¬ 0 < tw /\ (tw == 0) = true /\ (((Q % 4294967296 : Nat) : Int) % 2 == 1) = false /\ ((Q : Int) % 2 == 1) = false /\ r = Q) ∨ (mode = 6 /\ ¬ 0 < tw /\ (tw == 0) = false /\ r = Q) := by
 have hmm : mode = 0 ∨ mode = 1 ∨ mode = 2 ∨ mode = 3 ∨ mode = 4 ∨ mode = 5 ∨ mode = 6 := by omega
 rcases hmm with rfl | rfl | rfl | rfl | rfl | rfl | rfl
 . rw [more0 hR, if_neg (by decide)] at hr; simp [hr]
 . rw [more1 hR, if_pos rfl] at hr; simp [hr]
 . rw [more2 hR, if_neg (by decide)] at hr; simp [hr]
 . rw [more3 hR, if_pos rfl] at hr; simp [hr]
 . rw [more4 hR h] at hr
   by_cases ht : 0 <= tw
   . rw [decide_eq_true ht, if_pos rfl] at hr; exact .inr (.inr (.inr (.inr (.inl ⟨rfl, ht, hr⟩))))
   . rw [decide_eq_false ht, if_neg (by decide)] at hr; exact .inr (.inr (.inr (.inr (.inr (.inl ⟨rfl, ht, hr⟩)))))
 . rw [more5 hR h] at hr
   by_cases ht : 0 < tw
   . rw [decide_eq_true ht, if_pos rfl] at hr; exact .inr (.inr (.inr (.inr (.inr (.inr (.inl ⟨rfl, ht, hr⟩))))))
   . rw [decide_eq_false ht, if_neg (by decide)] at hr; exact .inr (.inr (.inr (.inr (.inr (.inr (.inr (.inl ⟨rfl, ht, hr⟩)))))))
 . rw [more6 hR h] at hr
   refine .inr (.inr (.inr (.inr (.inr (.inr (.inr (.inr ?_)))))))
   by_cases ht : 0 < tw
   . rw [decide_eq_true ht, Bool.true_or, if_pos rfl] at hr; exact .inl ⟨rfl, ht, hr⟩
   . refine .inr ?_
     by_cases ht2 : tw = 0
     . have hb0 : (tw == 0) = true := by rw [ht2]; rfl
       by_cases hod : Q % 2 = 1
       . rw [decide_eq_false ht, decide_eq_true ht2, decide_eq_true hod, Bool.false_or, Bool.and_self, if_pos rfl] at hr
         exact .inl ⟨rfl, ht, hb0, beq_iff_eq.2 (by omega), beq_iff_eq.2 (by omega), hr⟩
       . rw [decide_eq_false ht, decide_eq_true ht2, decide_eq_false hod, Bool.false_or, Bool.and_false, if_neg (by decide)] at hr
         exact .inr (.inl ⟨rfl, ht, hb0, beq_eq_false_iff_ne.2 (by omega), beq_eq_false_iff_ne.2 (by omega), hr⟩)
     . rw [decide_eq_false ht, decide_eq_false ht2, Bool.false_or, Bool.false_and, if_neg (by decide)] at hr
       exact .inr (.inr ⟨rfl, ht, beq_eq_false_iff_ne.2 ht2, hr⟩)
end
theorem digit0 {q : Nat} (h : q ≠ 0) : (digits q).getD 0 0 = q % 4294967296 := by rw [digits_pos h]; rfl
theorem rounded_ok (v : Value) (a b mode : Nat) (bv : Value) (hb : b ≠ 0) (hmode : mode <= 6) (hla : (digits a).length <= 1000) (hlb : (digits b).length <= 1000) (w : World) (hv : IV w v a) (hu : Hv w bv b) :
 Calls Tryz.prog 35 #[v, bv, .int .i64 (mode : Int)] w fun e w' => (∃ z, e = .returned z /\ IV w' z (Dec.roundN mode false a b)) /\ Below w.heap.size w w' := by
 obtain ⟨A, c, rfl, hc, hA⟩ := hv
 obtain ⟨B, d, rfl, hd, hB⟩ := hu
 have CQ := Hd (fun w' (hbl : Below w.heap.size w w') => quo_ok A B c d a b hb w' ((hA.below hbl).more hbl.size) hc ((hB.below hbl).more hbl.size) (by omega) (by omega))
 have HB0 := Hd hB
 have HHB := Hd hb
 obtain ⟨la, hl1⟩ : ∃ l, l = (digits a).length := ⟨_, rfl⟩
 obtain ⟨lb, hl2⟩ : ∃ l, l = (digits b).length := ⟨_, rfl⟩
 have HLA := Hd (And.intro hl1 hla)
 have HLB := Hd (And.intro hl2 hlb)
 rw [<- hl1, <- hl2] at CQ
 rw [<- hl1, <- hl2]
 have H1 := Hd (((HasO.start [] w).new rfl (.cells #[.bool false, .slice A la c] 43)).new (g := w.heap.size + 1) (by simp) (.cells intZ 43))
 clear hla hlb hl1 hl2 hA hB hc hd hb
 obtain ⟨x, hx⟩ : ∃ x, x = w.heap.size := ⟨_, rfl⟩
 go_enter Tryz.func35, Tryz.ntmps35
 go_wp2_with (first
  | (obtain ⟨r6, hr6⟩ : ∃ r, r = w.heap.size + 1 := ⟨_, rfl⟩
     rw [<- hr6, <- hx] at H1 ⊢
     have HR := Hd (show w.heap.size <= r6 /\ w.heap.size <= x by omega)
     clear hx hr6
     (refine wpListG_cell rfl 41 (.tmp 15) rfl x 1 rfl 43 #[.bool false, .slice A la c] (.slice A la c) rfl _ (H1.o.get 1 rfl) Tryz.underlying41 rfl ?_))
  | fail)
 refine (CQ.o _ H1.o.1.below).mono ?_
 rintro e w2 ⟨qv, rv, rfl, hq, hr, hb2⟩
 have H2 := Hd (H1.o.step hb2)
 have HBw := Hd ((HB0.o.below (H1.o.1.below.trans (hb2.mono H1.o.size))).more (Nat.le_trans H1.o.size hb2.size))
 clear hb2 H1 CQ HB0
 obtain ⟨Q, hQ⟩ : ∃ Q, Q = a / b := ⟨_, rfl⟩
 obtain ⟨R, hR⟩ : ∃ R, R = a % b := ⟨_, rfl⟩
 have HRND : Hi (Dec.roundN mode false a b = if Dec.moreB mode false Q R b then Q + 1 else Q) := Hd (by unfold Dec.roundN; rw [hQ, hR])
 have HQA := Hd (show Q <= a by rw [hQ]; exact Nat.div_le_self a b)
 have HRB := Hd (show R < b by rw [hR]; exact Nat.mod_lt _ (by have := HHB.o; omega))
 rw [<- hQ] at hq
 rw [<- hR] at hr
 clear hQ hR
 obtain ⟨Aq, cq, rfl, hcq, hAq⟩ := hq
 obtain ⟨Ar, cr, rfl, hcr, hAr⟩ := hr
 have HQD := Hd hAq
 have HRD := Hd hAr
 obtain ⟨lq, hlq⟩ : ∃ l, l = (digits Q).length := ⟨_, rfl⟩
 obtain ⟨lr, hlr⟩ : ∃ l, l = (digits R).length := ⟨_, rfl⟩
 have HLQ := Hd (And.intro hlq hcq)
 have HLR := Hd (And.intro hlr hcr)
 rw [<- hlq, <- hlr]
 clear hAq hAr hlq hlr hcq hcr
 have hal : Below w2.heap.size w2 (w2.alloc (.cells #[.bool false, .slice Aq lq cq] 43)) := Below.al (Below.refl _ _) _
 have HQ3 := Hd ((HQD.o.below hal).more hal.size)
 have HR3 := Hd ((HRD.o.below hal).more hal.size)
 have HB3 := Hd ((HBw.o.below hal).more hal.size)
 have H3 := Hd (H2.o.new rfl (.cells #[.bool false, .slice Aq lq cq] 43))
 have HDN := Hd (H2.o.size)
 clear HQD HRD HBw hal
 by_cases hR0 : R = 0
 . have h0 : ((lr : Int) == 0) = true := by rw [HLR.o.1, hR0, digits_zero]; rfl
   have HM : Hi (Dec.roundN mode false a b = Q) := Hd (by rw [HRND.o]; unfold Dec.moreB; rw [if_pos hR0]; rfl)
   go_wp2_with (first
    | (refine wpListG_cell rfl 4 (.tmp 21) rfl x 0 rfl 43 #[.bool false, .slice A la c] (.bool false) rfl _ (H2.o.get 1 rfl) Tryz.underlying4 rfl ?_)
    | refine wpList_turn rfl 43 (.tmp 6) (.tmp 28) rfl r6 0 (.agg #[.bool false, .slice Aq lq cq]) rfl rfl 43 intZ #[.bool false, .slice Aq lq cq] (H3.o.get 1 rfl) (by kernel_rfl) (by simp [Value.cells, intZ]) (by simp [Value.cells, Value.oneCell', intZ]) rfl ?_; intro W5 HT5)
   have hk := H3.o.1.trans HT5.keep (by intro k hk; simp only [List.mem_singleton] at hk; subst hk; exact .inr HR.o.1)
   exact bodyPost_ret (results_cell_row rfl _ _ r6 43 #[.bool false, .slice Aq lq cq] (0, 0) _ rfl HT5.at_ Tryz.underlying43 rfl (by kernel_rfl)) rfl ⟨⟨_, rfl, by rw [HM.o]; exact ⟨Aq, cq, by rw [HLQ.o.1], HLQ.o.2, HQ3.o.turn (H3.o.obj 1 rfl) intZ_no HT5⟩⟩, hk.below⟩
 . have h0 : ((lr : Int) == 0) = false := beq_eq_false_iff_ne.2 (by rw [HLR.o.1]; exact fun h => hR0 ((digits_nil (n := R)).1 (by omega)))
   go_wp2_with (refine wpListG_cell rfl 4 (.tmp 21) rfl x 0 rfl 43 #[.bool false, .slice A la c] (.bool false) rfl _ (H2.o.get 1 rfl) Tryz.underlying4 rfl ?_)
   obtain ⟨dn, hdn⟩ : ∃ r, r = w2.heap.size := ⟨_, rfl⟩
   obtain ⟨W3, hW3⟩ : ∃ W3, W3 = w2.alloc (.cells #[.bool false, .slice Aq lq cq] 43) := ⟨_, rfl⟩
   rw [<- hW3] at HQ3 HR3 HB3
   rw [<- hdn, <- hW3] at H3
   rw [<- hdn] at HDN
   rw [<- hdn, <- hW3]
   clear hdn hW3 H2
   have H4 : Hi (HasO [] W3 [(dn, .cells #[.bool false, .slice Aq lq cq] 43), (r6, .cells intZ 43), (x, .cells #[.bool false, .slice A la c] 43)] W3) := Hd ⟨Keep.refl _ _, H3.o.2⟩
   have HK3 := Hd H3.o.1
   have HDX := Hd (And.intro (obj_lt (H4.o.obj 0 rfl)) (And.intro (obj_lt (H4.o.obj 1 rfl)) (obj_lt (H4.o.obj 2 rfl))))
   have HLQ2 : Hi ((digits Q).length <= 1048576) := Hd (by have := digits_mono HQA.o; have := HLA.o.2; omega)
   have HLO : Hi (∀ l, l = (digits 1).length -> l <= 1048576) := Hd (fun l h => by rw [h]; exact Nat.le_trans (digits_le (k := 1) (by decide)) (by omega))
   obtain ⟨lz, hlz⟩ : ∃ l, l = (digits (Q + 1)).length := ⟨_, rfl⟩
   have HLZ := Hd hlz
   obtain ⟨l1, hl1⟩ : ∃ l, l = (digits 1).length := ⟨_, rfl⟩
   have HL1 := Hd hl1
   clear H3 hlz hl1
   apply wp_region_cutS (fun w' => HasO [] W3 [(dn, .cells #[.bool false, .slice Aq lq cq] 43), (r6, .cells intZ 43), (x, .cells #[.bool false, .slice A la c] 43)] w') (fun up Z cz w' => HasO [] W3 ((up, .cells #[.bool false, .slice Z lz cz] 43) :: [(dn, .cells #[.bool false, .slice Aq lq cq] 43), (r6, .cells intZ 43), (x, .cells #[.bool false, .slice A la c] 43)]) w' /\ (lz <= cz /\ W3.heap.size <= up) /\ Holds w' w'.heap.size Z (Q + 1)) _ (.seg [0, 1, 2] (.fork 3 (.fork 4 (.seg [5] (.turn 6 (.turn 7 .nil))) 6 (.turn 4 (.seg [5] (.turn 7 .nil)))) 6 (.turn 3 (.turn 4 (.seg [5] (.turn 7 .nil)))))) (by kernel_rfl) (by kernel_rfl) H4.o.drew
   case h =>
    simp only [wpPlan, List.map_cons, List.map_nil, opAt, List.getElem?_cons_succ, List.getElem?_cons_zero, Option.getD_some]
    repeat (go_big_quiet_step ((intro _; rfl)))
    refine wpQuiet_cell 4 (.tmp 29) rfl rfl ⟨x, 0, none⟩ rfl (.bool false) _ (fun w hw => (hw.get 2 rfl).cell 0) Tryz.underlying4 rfl (fun K1 k1 => ?_)
    go_simp
    refine k1 _ ?_
    clear k1 K1
    repeat (go_big_quiet_step ((intro _; rfl)))
    refine wpQuiet_nil ?_
    have HD := Hd H4.o.drew
    refine ⟨?_, ?_⟩
    . skip
      go_wp2_with fail
      refine (word_ok 1 (by omega) _).mono ?_
      rintro e w5 ⟨v1, rfl, hm1⟩
      obtain ⟨A1, c1, rfl, hc1, hA1, hb1⟩ := hm1
      have H5 := Hd (HD.o.step hb1)
      have HA1 := Hd hA1
      rw [<- HL1.o]
      clear hA1 hb1 hc1
      go_wp2_with fail
      refine ⟨H5.o.of_mem (by simp), ?_⟩
      refine ⟨?_, ?_⟩
      . skip
        go_wp2_with fail
        have CP := plus_ok Aq A1 cq c1 Q 1 _ ((HQ3.o.below H5.o.1.below).more H5.o.1.size) HA1.o HLQ2.o (by rw [<- HL1.o]; exact HLO.o _ HL1.o)
        rw [<- HLQ.o.1, <- HL1.o] at CP
        refine CP.mono ?_
        rintro e w6 ⟨v2, rfl, hm2⟩
        obtain ⟨Z, cz, rfl, hcz, hZ, hb2⟩ := hm2
        have H6 := Hd (H5.o.step hb2)
        have HZ := Hd hZ
        rw [<- HLZ.o] at hcz ⊢
        clear hZ hb2 CP
        go_wp2_with fail
        refine ⟨H6.o.of_mem (by simp), ?_⟩
        repeat (go_big_quiet_step ((intro _; rfl)))
        refine wpQuiet_nil ?_
        go_wp2_with fail
        obtain ⟨up, hup⟩ : ∃ r, r = w6.heap.size := ⟨_, rfl⟩
        have H7 := Hd (H6.o.new hup (.cells intZ 43))
        have HZ7 := Hd ((HZ.o.below (Below.al (Below.refl _ w6) (.cells intZ 43))).more (by simp : w6.heap.size <= (w6.alloc (.cells intZ 43)).heap.size))
        have HUP := Hd (show W3.heap.size <= up by rw [hup]; exact H6.o.1.size)
        rw [<- hup]
        clear hup H6 HZ
        refine ⟨H7.o.tail, ?_⟩
        go_wp2_with refine wpList_turn rfl 43 (.tmp 10) (.tmp 34) rfl up 0 (.agg #[.bool false, .slice Z lz cz]) rfl rfl 43 intZ #[.bool false, .slice Z lz cz] (H7.o.get 0 rfl) (by kernel_rfl) (by simp [Value.cells, intZ]) (by simp [Value.cells, Value.oneCell', intZ]) rfl ?_; intro W8 HT8
        have H8 := Hd (H7.o.turn 0 rfl HT8 (.inr HUP.o) (by
         intro f hf
         simp only [List.eraseIdx_cons_zero, List.mem_cons, List.not_mem_nil, or_false] at hf
         have h1 := HUP.o
         have h2 := HDX.o
         rcases hf with rfl | rfl | rfl <;> (simp only []; omega)))
        have HZ8 := HZ7.o.turn (H7.o.obj 0 rfl) intZ_no HT8
        refine ⟨H8.o.tail, ?_⟩
        exact ⟨up, Z, cz, ⟨H8.o, ⟨hcz, by first | exact HUP.o | exact Nat.le_refl _⟩, HZ8⟩, A1, c1, rfl⟩
      . skip
        go_wp2_with fail
        obtain ⟨up, hup⟩ : ∃ r, r = w5.heap.size := ⟨_, rfl⟩
        have HU := Hd (H5.o.new hup (.cells intZ 43))
        have HUP := Hd (show W3.heap.size <= up by rw [hup]; exact H5.o.1.size)
        have HA1U := Hd ((HA1.o.below (Below.al (Below.refl _ w5) (.cells intZ 43))).more (by simp : w5.heap.size <= (w5.alloc (.cells intZ 43)).heap.size))
        rw [<- hup]
        clear hup
        refine ⟨HU.o.tail, ?_⟩
        go_wp2_with fail
        have CP := plus_ok Aq A1 cq c1 Q 1 _ ((HQ3.o.below HU.o.1.below).more HU.o.1.size) HA1U.o HLQ2.o (by rw [<- HL1.o]; exact HLO.o _ HL1.o)
        rw [<- HLQ.o.1, <- HL1.o] at CP
        refine CP.mono ?_
        rintro e w6 ⟨v2, rfl, hm2⟩
        obtain ⟨Z, cz, rfl, hcz, hZ, hb2⟩ := hm2
        have HX := Hd (HU.o.step hb2)
        have HZ := Hd hZ
        rw [<- HLZ.o] at hcz ⊢
        clear hZ hb2 CP
        go_wp2_with fail
        refine ⟨HX.o.of_mem (by simp), ?_⟩
        repeat (go_big_quiet_step ((intro _; rfl)))
        refine wpQuiet_nil ?_
        go_wp2_with refine wpList_turn rfl 43 (.tmp 10) (.tmp 34) rfl up 0 (.agg #[.bool false, .slice Z lz cz]) rfl rfl 43 intZ #[.bool false, .slice Z lz cz] (HX.o.get 0 rfl) (by kernel_rfl) (by simp [Value.cells, intZ]) (by simp [Value.cells, Value.oneCell', intZ]) rfl ?_; intro W8 HT8
        have H8 := Hd (HX.o.turn 0 rfl HT8 (.inr HUP.o) (by
         intro f hf
         simp only [List.eraseIdx_cons_zero, List.mem_cons, List.not_mem_nil, or_false] at hf
         have h1 := HUP.o
         have h2 := HDX.o
         rcases hf with rfl | rfl | rfl <;> (simp only []; omega)))
        have HZ8 := HZ.o.turn (HX.o.obj 0 rfl) intZ_no HT8
        refine ⟨H8.o.tail, ?_⟩
        exact ⟨up, Z, cz, ⟨H8.o, ⟨hcz, by first | exact HUP.o | exact Nat.le_refl _⟩, HZ8⟩, A1, c1, rfl⟩
    . skip
      go_wp2_with fail
      obtain ⟨up, hup⟩ : ∃ r, r = W3.heap.size := ⟨_, rfl⟩
      have HU := Hd (HD.o.new hup (.cells intZ 43))
      have HUP := Hd (show W3.heap.size <= up by omega)
      rw [<- hup]
      clear hup
      refine ⟨HU.o.tail, ?_⟩
      go_wp2_with fail
      refine (word_ok 1 (by omega) _).mono ?_
      rintro e w5 ⟨v1, rfl, hm1⟩
      obtain ⟨A1, c1, rfl, hc1, hA1, hb1⟩ := hm1
      have H5 := Hd (HU.o.step hb1)
      have HA1 := Hd hA1
      rw [<- HL1.o]
      clear hA1 hb1 hc1
      go_wp2_with fail
      refine ⟨H5.o.of_mem (by simp), ?_⟩
      go_wp2_with fail
      have CP := plus_ok Aq A1 cq c1 Q 1 _ ((HQ3.o.below H5.o.1.below).more H5.o.1.size) HA1.o HLQ2.o (by rw [<- HL1.o]; exact HLO.o _ HL1.o)
      rw [<- HLQ.o.1, <- HL1.o] at CP
      refine CP.mono ?_
      rintro e w6 ⟨v2, rfl, hm2⟩
      obtain ⟨Z, cz, rfl, hcz, hZ, hb2⟩ := hm2
      have HX := Hd (H5.o.step hb2)
      have HZ := Hd hZ
      rw [<- HLZ.o] at hcz ⊢
      clear hZ hb2 CP
      go_wp2_with fail
      refine ⟨HX.o.of_mem (by simp), ?_⟩
      repeat (go_big_quiet_step ((intro _; rfl)))
      refine wpQuiet_nil ?_
      go_wp2_with refine wpList_turn rfl 43 (.tmp 10) (.tmp 34) rfl up 0 (.agg #[.bool false, .slice Z lz cz]) rfl rfl 43 intZ #[.bool false, .slice Z lz cz] (HX.o.get 0 rfl) (by kernel_rfl) (by simp [Value.cells, intZ]) (by simp [Value.cells, Value.oneCell', intZ]) rfl ?_; intro W8 HT8
      have H8 := Hd (HX.o.turn 0 rfl HT8 (.inr HUP.o) (by
       intro f hf
       simp only [List.eraseIdx_cons_zero, List.mem_cons, List.not_mem_nil, or_false] at hf
       have h1 := HUP.o
       have h2 := HDX.o
       rcases hf with rfl | rfl | rfl <;> (simp only []; omega)))
      have HZ8 := HZ.o.turn (HX.o.obj 0 rfl) intZ_no HT8
      refine ⟨H8.o.tail, ?_⟩
      exact ⟨up, Z, cz, ⟨H8.o, ⟨hcz, by first | exact HUP.o | exact Nat.le_refl _⟩, HZ8⟩, A1, c1, rfl⟩
   case hR =>
    intro up Z cz A1 c1 w5 hF
    obtain ⟨h5, ⟨hcz, hup⟩, hZ⟩ := hF
    have H5 := Hd h5
    have HCZ := Hd (And.intro hcz hup)
    have HZ5 := Hd hZ
    have HQ5 := Hd ((HQ3.o.below h5.1.below).more h5.1.size)
    have HB5 := Hd ((HB3.o.below h5.1.below).more h5.1.size)
    have hR5 := (HR3.o.below h5.1.below).more h5.1.size
    have hrb : (digits R).length <= 1000 := Nat.le_trans (digits_mono (Nat.le_of_lt HRB.o)) HLB.o.2
    have CP := plus_ok Ar Ar cr cr R R w5 hR5 hR5 (by omega) (by omega)
    rw [<- HLR.o.1] at CP
    have CP := Hd CP
    have HDR := Hd hrb
    clear h5 hcz hup hZ hR5 hrb HQ3 HR3 HB3 H4
    go_wp2_with fail
    refine CP.o.mono ?_
    rintro e w6 ⟨v6, rfl, hm6⟩
    obtain ⟨T, ct, rfl, hct, hT, hb6⟩ := hm6
    have H6 := Hd (H5.o.step hb6)
    have HZ6 := Hd ((HZ5.o.below hb6).more hb6.size)
    have HQ6 := Hd ((HQ5.o.below hb6).more hb6.size)
    have htl : (digits (R + R)).length <= 9223372036854775807 := Nat.le_trans (digits_le (k := (digits R).length + 1) (by
     have := val_lt (digits_lt R)
     rw [val_digits] at this
     rw [Nat.pow_succ]; omega)) (by have := HDR.o; omega)
    have CC := compare_ok T B ct d w6.heap.size (R + R) b w6 hT ((HB5.o.below hb6).more hb6.size) htl (by have := HLB.o.2; omega)
    rw [<- HLB.o.1] at CC
    obtain ⟨lt, hlt⟩ : ∃ l, l = (digits (R + R)).length := ⟨_, rfl⟩
    rw [<- hlt] at CC ⊢
    have CC := Hd CC
    clear hct hT hb6 htl hlt CP H5 HZ5 HQ5 HB5
    go_wp2_with fail
    refine CC.o.mono ?_
    rintro e w7 ⟨rfl, hd7⟩
    have hb7 : Below w6.heap.size w6 w7 := hd7.below _
    have H7 := Hd (H6.o.step hb7)
    have HZ7 := Hd ((HZ6.o.below hb7).more hb7.size)
    have HQ7 := Hd ((HQ6.o.below hb7).more hb7.size)
    obtain ⟨tw, htw⟩ : ∃ tw, tw = cmp (R + R) b := ⟨_, rfl⟩
    have HTW : Hi ((0 <= tw ↔ b <= 2 * R) /\ (0 < tw ↔ b < 2 * R) /\ (tw = 0 ↔ b = 2 * R)) := Hd (by
     rw [htw]; unfold cmp; split
     . omega
     . split <;> omega)
    rw [<- htw]
    clear hd7 hb7 htw CC H6 HZ6 HQ6
    by_cases hQ0 : Q = 0
    . have hlq : ¬ (0 : Int) < lq := by rw [HLQ.o.1, hQ0, digits_zero]; simp
      have HQ0 := Hd hQ0
      clear hQ0
      have hmm := round_cases hmode hR0 HTW.o HRND.o
      clear hmode
      rcases hmm with ⟨rfl, hm⟩ | ⟨rfl, hm⟩ | ⟨rfl, hm⟩ | ⟨rfl, hm⟩ | ⟨rfl, ht, hm⟩ | ⟨rfl, ht, hm⟩ | ⟨rfl, ht, hm⟩ | ⟨rfl, ht, hm⟩ | ⟨rfl, ht, hm⟩ | ⟨rfl, ht, hb0, hod2, hod3, hm⟩ | ⟨rfl, ht, hb0, hod2, hod3, hm⟩ | ⟨rfl, ht, hb0, hm⟩
      all_goals first
       | (have HM : Hi (Dec.roundN _ false a b = Q) := Hd hm
          clear hm
          go_wp2_with (first
           | (refine wpListG_cell rfl 4 (.tmp 55) rfl x 0 rfl 43 #[.bool false, .slice A la c] (.bool false) rfl _ (H7.o.get 3 rfl) Tryz.underlying4 rfl ?_)
           | (refine wpListG_cell rfl 4 (.tmp 59) rfl x 0 rfl 43 #[.bool false, .slice A la c] (.bool false) rfl _ (H7.o.get 3 rfl) Tryz.underlying4 rfl ?_)
           | (refine wpListG_row rfl 43 (.tmp 9) rfl dn rfl 43 #[.bool false, .slice Aq lq cq] _ (H7.o.get 1 rfl) Tryz.underlying43 rfl (by kernel_rfl) ?_)
           | refine wpList_turn rfl 43 (.tmp 6) (.tmp 83) rfl r6 0 (.agg #[.bool false, .slice Aq lq cq]) rfl rfl 43 intZ #[.bool false, .slice Aq lq cq] (H7.o.get 2 rfl) (by kernel_rfl) (by simp [Value.cells, intZ]) (by simp [Value.cells, Value.oneCell', intZ]) rfl ?_; intro W9 HT9)
          have hk := (HK3.o.trans H7.o.1 (by simp)).trans HT9.keep (by intro k hk; simp only [List.mem_singleton] at hk; subst hk; exact .inr HR.o.1)
          exact bodyPost_ret (results_cell_row rfl _ _ r6 43 #[.bool false, .slice Aq lq cq] (0, 0) _ rfl HT9.at_ Tryz.underlying43 rfl (by kernel_rfl)) rfl ⟨⟨_, rfl, by rw [HM.o]; exact ⟨Aq, cq, by rw [HLQ.o.1], HLQ.o.2, HQ7.o.turn (H7.o.obj 2 rfl) intZ_no HT9⟩⟩, hk.below⟩)
       | (have HM : Hi (Dec.roundN _ false a b = Q + 1) := Hd hm
          clear hm
          go_wp2_with (first
           | (refine wpListG_cell rfl 4 (.tmp 55) rfl x 0 rfl 43 #[.bool false, .slice A la c] (.bool false) rfl _ (H7.o.get 3 rfl) Tryz.underlying4 rfl ?_)
           | (refine wpListG_cell rfl 4 (.tmp 59) rfl x 0 rfl 43 #[.bool false, .slice A la c] (.bool false) rfl _ (H7.o.get 3 rfl) Tryz.underlying4 rfl ?_)
           | (refine wpListG_row rfl 43 (.tmp 10) rfl up rfl 43 #[.bool false, .slice Z lz cz] _ (H7.o.get 0 rfl) Tryz.underlying43 rfl (by kernel_rfl) ?_)
           | refine wpList_turn rfl 43 (.tmp 6) (.tmp 82) rfl r6 0 (.agg #[.bool false, .slice Z lz cz]) rfl rfl 43 intZ #[.bool false, .slice Z lz cz] (H7.o.get 2 rfl) (by kernel_rfl) (by simp [Value.cells, intZ]) (by simp [Value.cells, Value.oneCell', intZ]) rfl ?_; intro W9 HT9)
          have hk := (HK3.o.trans H7.o.1 (by simp)).trans HT9.keep (by intro k hk; simp only [List.mem_singleton] at hk; subst hk; exact .inr HR.o.1)
          exact bodyPost_ret (results_cell_row rfl _ _ r6 43 #[.bool false, .slice Z lz cz] (0, 0) _ rfl HT9.at_ Tryz.underlying43 rfl (by kernel_rfl)) rfl ⟨⟨_, rfl, by rw [HM.o]; exact ⟨Z, cz, by rw [HLZ.o], by rw [<- HLZ.o]; exact HCZ.o.1, HZ7.o.turn (H7.o.obj 2 rfl) intZ_no HT9⟩⟩, hk.below⟩)
       | (exfalso; rw [HQ0.o] at hod3; simp at hod3)
    . have hq1 : 1 <= (digits Q).length := by
       rcases Nat.eq_zero_or_pos (digits Q).length with h | h
       . exact absurd (digits_nil.1 h) hQ0
       . exact h
      obtain ⟨aq, rfl, _, cq0⟩ := (show RI w7 w7.heap.size .u64 Aq (toI (digits Q)) from HQ7.o).one (j := 0) (by rw [toI_length]; omega)
      rw [rd_toI (by omega), digit0 hQ0] at cq0
      have hlq : (0 : Int) < lq := by rw [HLQ.o.1]; omega
      have cq1 : w7.cell? aq = some (.int .u64 ((Q % 4294967296 : Nat) : Int)) := by simpa [Addr.add] using cq0
      clear hq1 hQ0
      have hmm := round_cases hmode hR0 HTW.o HRND.o
      clear hmode
      rcases hmm with ⟨rfl, hm⟩ | ⟨rfl, hm⟩ | ⟨rfl, hm⟩ | ⟨rfl, hm⟩ | ⟨rfl, ht, hm⟩ | ⟨rfl, ht, hm⟩ | ⟨rfl, ht, hm⟩ | ⟨rfl, ht, hm⟩ | ⟨rfl, ht, hm⟩ | ⟨rfl, ht, hb0, hod2, hod3, hm⟩ | ⟨rfl, ht, hb0, hod2, hod3, hm⟩ | ⟨rfl, ht, hb0, hm⟩
      all_goals first
       | (have HM : Hi (Dec.roundN _ false a b = Q) := Hd hm
          clear hm
          go_wp2_with (first
           | (refine wpListG_cell rfl 4 (.tmp 55) rfl x 0 rfl 43 #[.bool false, .slice A la c] (.bool false) rfl _ (H7.o.get 3 rfl) Tryz.underlying4 rfl ?_)
           | (refine wpListG_cell rfl 4 (.tmp 59) rfl x 0 rfl 43 #[.bool false, .slice A la c] (.bool false) rfl _ (H7.o.get 3 rfl) Tryz.underlying4 rfl ?_)
           | (refine wpListG_row rfl 43 (.tmp 9) rfl dn rfl 43 #[.bool false, .slice (some aq) lq cq] _ (H7.o.get 1 rfl) Tryz.underlying43 rfl (by kernel_rfl) ?_)
           | refine wpList_turn rfl 43 (.tmp 6) (.tmp 83) rfl r6 0 (.agg #[.bool false, .slice (some aq) lq cq]) rfl rfl 43 intZ #[.bool false, .slice (some aq) lq cq] (H7.o.get 2 rfl) (by kernel_rfl) (by simp [Value.cells, intZ]) (by simp [Value.cells, Value.oneCell', intZ]) rfl ?_; intro W9 HT9)
          have hk := (HK3.o.trans H7.o.1 (by simp)).trans HT9.keep (by intro k hk; simp only [List.mem_singleton] at hk; subst hk; exact .inr HR.o.1)
          exact bodyPost_ret (results_cell_row rfl _ _ r6 43 #[.bool false, .slice (some aq) lq cq] (0, 0) _ rfl HT9.at_ Tryz.underlying43 rfl (by kernel_rfl)) rfl ⟨⟨_, rfl, by rw [HM.o]; exact ⟨some aq, cq, by rw [HLQ.o.1], HLQ.o.2, HQ7.o.turn (H7.o.obj 2 rfl) intZ_no HT9⟩⟩, hk.below⟩)
       | (have HM : Hi (Dec.roundN _ false a b = Q + 1) := Hd hm
          clear hm
          go_wp2_with (first
           | (refine wpListG_cell rfl 4 (.tmp 55) rfl x 0 rfl 43 #[.bool false, .slice A la c] (.bool false) rfl _ (H7.o.get 3 rfl) Tryz.underlying4 rfl ?_)
           | (refine wpListG_cell rfl 4 (.tmp 59) rfl x 0 rfl 43 #[.bool false, .slice A la c] (.bool false) rfl _ (H7.o.get 3 rfl) Tryz.underlying4 rfl ?_)
           | (refine wpListG_row rfl 43 (.tmp 10) rfl up rfl 43 #[.bool false, .slice Z lz cz] _ (H7.o.get 0 rfl) Tryz.underlying43 rfl (by kernel_rfl) ?_)
           | refine wpList_turn rfl 43 (.tmp 6) (.tmp 82) rfl r6 0 (.agg #[.bool false, .slice Z lz cz]) rfl rfl 43 intZ #[.bool false, .slice Z lz cz] (H7.o.get 2 rfl) (by kernel_rfl) (by simp [Value.cells, intZ]) (by simp [Value.cells, Value.oneCell', intZ]) rfl ?_; intro W9 HT9)
          have hk := (HK3.o.trans H7.o.1 (by simp)).trans HT9.keep (by intro k hk; simp only [List.mem_singleton] at hk; subst hk; exact .inr HR.o.1)
          exact bodyPost_ret (results_cell_row rfl _ _ r6 43 #[.bool false, .slice Z lz cz] (0, 0) _ rfl HT9.at_ Tryz.underlying43 rfl (by kernel_rfl)) rfl ⟨⟨_, rfl, by rw [HM.o]; exact ⟨Z, cz, by rw [HLZ.o], by rw [<- HLZ.o]; exact HCZ.o.1, HZ7.o.turn (H7.o.obj 2 rfl) intZ_no HT9⟩⟩, hk.below⟩)
end Big
end Go.Proofs.YtkdnebalpdebeaaGreatDoor
