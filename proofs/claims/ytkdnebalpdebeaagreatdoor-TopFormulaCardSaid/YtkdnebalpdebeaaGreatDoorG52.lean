/- Lemmas of a claim: DayB -/
import Derived.Test.YtkdnebalpdebeaaGreatDoorG51
import Derived.Test.YtkdnebalpdebeaaGreatDoorG35
set_option linter.unusedVariables false
set_option linter.unusedSimpArgs false
set_option maxHeartbeats 16000000
set_option maxRecDepth 100000
namespace Go.Proofs.YtkdnebalpdebeaaGreatDoor
namespace Big
open Go.RowKit Go.Deep Mp
theorem wp_region_cutV {P : Program} {id : Nat} {Q : Exit -> Act -> World -> Prop} {a : Act} {w : World} {l : List Oper} (C : World -> Prop) (F : Nat -> Option Addr -> Nat -> World -> Prop) (G : Nat -> Option Addr -> Nat -> Value -> Value -> Value -> Act) (p : Plan) (hm : P.follows .mixedOrders = true) (hB : mixT l p = true)
 (hC : C w.drew) (h : wpPlan P l C (fun a' w' => ∃ x A c u v z, F x A c w' /\ a' = G x A c u v z) p a w.drew) (hR : ∀ x A c u v z w', F x A c w' -> Q .normal (G x A c u v z) w') : (Code.region id l.toArray true).wp P Q a w :=
 wp_region_cut C _ p hm hB hC h (by rintro a' w' ⟨x, A, c, u, v, z, hF, rfl⟩; exact hR _ _ _ _ _ _ _ hF)
theorem iv_zero (w : World) : IV w (.agg intZ) 0 := ⟨none, 0, by rw [digits_zero]; rfl, by rw [digits_zero]; exact Nat.le_refl _, by unfold Holds; rw [digits_zero]; exact ⟨by simp [toI, nums], fun h => by simp [toI] at h⟩⟩
theorem dig2 {n : Nat} (h : n < 18446744073709551616) : (digits n).length <= 2 := digits_le (by simpa using h)
theorem dig10 {n : Nat} (h : n < 4294967296 ^ 10) : (digits n).length <= 10 := digits_le h
theorem daily_ok (b r how d : Int) (mo g c : Nat) (hb : 0 <= b /\ b <= 10000000000000) (hr : 0 <= r /\ r <= 1000000000) (hh : how = 0 ∨ how = 1 ∨ how = 2 ∨ how = 3) (hmo : mo <= 6) (hd : 1 <= d /\ d < 3652059) (W : World) (hg : W.heap[g]? = some (.cells (tierR r) 31)) :
 Calls Tryz.prog 10 #[.int .i64 b, .slice (some ⟨g, 0, none⟩) 1 c, .int .i64 how, .int .i64 (mo : Int), .int .i64 d, .int .i64 (d + 1)] W fun e w' => (∃ z, e = .returned z /\ IV w' z (Acc.dayG b r (Bas.partN how d) (Bas.partD how) mo).toNat) /\ Below W.heap.size W w' := by
 obtain ⟨n0, n1⟩ := Bas.part_in (h := how) (d := d) hd
 obtain ⟨D0, D1⟩ := Bas.partD_in how
 have CPT := Hd (fun w => Rc.rpart_ok how d hh hd w)
 have RD := Dec.ref_day (mode := (mo : Int)) hb.1 hr.1 n0 (show 0 <= Bas.partD how by omega)
 obtain ⟨n, hn⟩ : ∃ n, n = Bas.partN how d := ⟨_, rfl⟩
 obtain ⟨D, hD⟩ : ∃ D, D = Bas.partD how := ⟨_, rfl⟩
 obtain ⟨res, hres⟩ : ∃ q, q = Acc.dayG b r (Bas.partN how d) (Bas.partD how) mo := ⟨_, rfl⟩
 rw [<- hres] at RD ⊢
 rw [<- hn, <- hD] at CPT RD
 rw [<- hn] at n0 n1
 rw [<- hD] at D0 D1
 have HRES := Hd (show res.toNat = Dec.roundN (mo : Int) false (b.toNat * r.toNat * n.toNat * 1000000) (D.toNat * 1000000000) by rw [RD]; exact Int.toNat_natCast _)
 clear hn hD hres RD
 have hs1 : b.toNat * r.toNat <= 10000000000000 * 1000000000 := Nat.mul_le_mul (by omega) (by omega)
 have hs2 : b.toNat * r.toNat * n.toNat <= 10000000000000 * 1000000000 * 366 := Nat.mul_le_mul hs1 (by omega)
 have hs3 : b.toNat * r.toNat * n.toNat * 1000000 <= 10000000000000 * 1000000000 * 366 * 1000000 := Nat.mul_le_mul hs2 (Nat.le_refl _)
 obtain ⟨s, hs⟩ : ∃ s, s = b.toNat * r.toNat := ⟨_, rfl⟩
 rw [<- hs] at HRES hs1 hs2 hs3
 have CB := Hd (fun w => made_ok b (by omega) w)
 have CR := Hd (fun w => made_ok r (by omega) w)
 have CN := Hd (fun w => made_ok n (by omega) w)
 have CM := Hd (fun w => made_ok 1000000 (by omega) w)
 have CP1 := Hd (fun v u w hv hu => product_ok v u b.toNat r.toNat (Nat.le_trans (dig2 (by omega)) (by omega)) (Nat.le_trans (dig2 (by omega)) (by omega)) w hv hu)
 rw [<- hs] at CP1
 have CS := Hd (fun v u w hv hu => sum_ok v u 0 s (Nat.le_trans (dig2 (by omega)) (by omega)) (Nat.le_trans (dig10 (by omega)) (by omega)) w hv hu)
 rw [Nat.zero_add] at CS
 have CP2 := Hd (fun v u w hv hu => product_ok v u s n.toNat (Nat.le_trans (dig10 (by omega)) (by omega)) (Nat.le_trans (dig2 (by omega)) (by omega)) w hv hu)
 have CP3 := Hd (fun v u w hv hu => product_ok v u (s * n.toNat) 1000000 (Nat.le_trans (dig10 (by omega)) (by omega)) (Nat.le_trans (dig2 (by omega)) (by omega)) w hv hu)
 have CW := Hd (fun w => word_ok D.toNat (by omega) w)
 rw [show ((D.toNat : Nat) : Int) = D by omega] at CW
 have hwD : IntKind.u64.wrap D = D := by simp only [IntKind.wrap_u64]; omega
 have CT9 := Hd (fun w => rten_ok 9 (by omega) w)
 rw [show (10 : Nat) ^ 9 = 1000000000 from rfl] at CT9
 have CTM := Hd (fun A B c d w hx hy => times_ok A B c d D.toNat 1000000000 w hx hy (Nat.le_trans (dig2 (by omega)) (by omega)) (Nat.le_trans (dig2 (by omega)) (by omega)))
 have CRO := Hd (fun v bv w hv hu => rounded_ok v (s * n.toNat * 1000000) (D.toNat * 1000000000) mo bv (by omega) hmo (Nat.le_trans (dig10 (by omega)) (by omega)) (Nat.le_trans (dig10 (by omega)) (by omega)) w hv hu)
 rw [<- HRES.o] at CRO
 have CPA := Hd (fun w hg => parts_ok b r g c (by omega) w hg)
 have HG := Hd hg
 obtain ⟨ls, hls⟩ : ∃ l, l = (digits s).length := ⟨_, rfl⟩
 obtain ⟨lz, hlz⟩ : ∃ l, l = (digits (s * n.toNat * 1000000)).length := ⟨_, rfl⟩
 obtain ⟨lr, hlr⟩ : ∃ l, l = (digits res.toNat).length := ⟨_, rfl⟩
 have HLS := Hd hls
 have HLZ := Hd hlz
 have HLR := Hd hlr
 clear hls hlz hlr hg HRES hs hs1 hs2 hs3 n0 n1 D0 D1 hb hr hh hmo hd
 have H1 := Hd (((HasO.cons HG.o (HasO.start [] W)).new (g := W.heap.size) rfl (.cells intZ 43)).new (g := W.heap.size + 1) (by simp) (.cells intZ 43))
 obtain ⟨x, hx⟩ : ∃ x, x = W.heap.size := ⟨_, rfl⟩
 obtain ⟨y, hy⟩ : ∃ y, y = W.heap.size + 1 := ⟨_, rfl⟩
 rw [<- hy, <- hx] at H1
 have HXY := Hd (show W.heap.size <= x /\ W.heap.size <= y /\ x ≠ y /\ g ≠ x /\ g ≠ y by have := obj_lt HG.o; omega)
 go_enter Tryz.func10, Tryz.ntmps10
 go_wp2_with fail
 rw [<- hy, <- hx]
 have H2 : Hi (HasO [] W [(y, .cells intZ 43), (x, .cells intZ 43), (g, .cells (tierR r) 31)] ((W.alloc (.cells intZ 43)).alloc (.cells intZ 43))) := H1
 clear H1 hx hy
 refine (CPA.o _ (H2.o.obj 2 rfl)).mono ?_
 rintro e w3 ⟨⟨G, cap, rfl, hc3⟩, hb3⟩
 have H3 : Hi (HasO [] W [(y, .cells intZ 43), (x, .cells intZ 43), (g, .cells (tierR r) 31)] w3) := Hd (H2.o.step hb3)
 have HC3 := Hd hc3
 clear hb3 hc3 H2 CPA
 go_wp2_with fail
 go_loopw [24] (fun i wr => (i = .int .i64 0 /\ wr = w3) ∨ (i = .int .i64 1 /\ ∃ As cs, Hi (HasO [] W [(y, .cells #[.bool false, .slice As ls cs] 43), (x, .cells intZ 43), (g, .cells (tierR r) 31)] wr) /\ Hi (ls <= cs) /\ Hi (Holds wr wr.heap.size As s))) (fun i _ => (1 - intOf i).toNat)
 case atStart => exact .inl ⟨rfl, rfl⟩
 case round =>
  rcases hrel with ⟨rfl, hw⟩ | ⟨rfl, As, cs, H4, HCS, HS4⟩
  . obtain rfl := hw.symm
    clear hw
    have hc := HC3.o
    go_wp2_with fail
    refine wp_region_regL (fun w' => HasO [] W [(y, .cells intZ 43), (x, .cells intZ 43), (g, .cells (tierR r) 31)] w') (fun w' => HasO [] W [(y, .cells intZ 43), (x, .cells intZ 43), (g, .cells (tierR r) 31)] w') (fun _ => (0, #[])) [0, 1, 3, 4, 5, 6, 7] [] [2, 8, 9, 10, 11] [0, 1, 3, 4, 5, 6, 7] (by kernel_rfl) (by kernel_rfl) ?_ (fun w w' h hb => h.step hb) ?_ (fun k hk => by cases hk) ?_
    . exact fun w h => h
    . exact H3.o.drew
    simp only [List.map_cons, List.map_nil, opAt, List.getElem?_cons_succ, List.getElem?_cons_zero, Option.getD_some, List.contains_cons, List.contains_nil, Nat.reduceBEq, Bool.or_false, Bool.or_true, Bool.true_or, Bool.false_or]
    refine wpX_float rfl ?_
    refine wpQuiet_row 43 (.tmp 13) rfl rfl y rfl 43 intZ _ (fun w hw => hw.get 0 rfl) Tryz.underlying43 rfl (by kernel_rfl) (fun K1 k1 => ?_)
    go_simp
    refine k1 _ ?_
    clear k1 K1
    refine wpQuiet_nil ?_
    repeat (refine wpX_float rfl ?_; go_big_quiet_step ((intro _; rfl)); refine wpQuiet_nil ?_)
    refine wpX_float rfl ?_
    refine wpQuiet_cell 2 (.tmp 35) rfl rfl ⟨g, 1, none⟩ rfl (.int .i64 r) _ (fun w hw => (hw.get 2 rfl).cell 1) Tryz.underlying2 rfl (fun K1 k1 => ?_)
    go_simp
    refine k1 _ ?_
    clear k1 K1
    refine wpQuiet_nil ?_
    refine wpX_nil ?_
    intro gs w4 H4
    intro hmade
    simp only [putAll, wpTailL, opAt, List.getElem?_cons_succ, List.getElem?_cons_zero, Option.getD_some, Act.put]
    have H4 := Hd H4
    clear hmade hc
    go_wp2_with fail
    refine (CB.o _).mono ?_
    rintro e w5 ⟨⟨v5, rfl, q5⟩, hb5⟩
    have H5 := Hd (H4.o.step hb5)
    have Q5 := Hd q5
    clear hb5 q5 H4
    go_wp2_with fail
    refine ⟨fun _ => H5.o, ?_⟩
    go_wp2_with fail
    refine (CR.o _).mono ?_
    rintro e w6 ⟨⟨v6, rfl, q6⟩, hb6⟩
    have H6 := Hd (H5.o.step hb6)
    have Q6 := Hd q6
    have Q56 := Hd (Q5.o.step hb6)
    clear hb6 q6 H5 Q5
    go_wp2_with fail
    refine ⟨fun _ => H6.o, ?_⟩
    go_wp2_with fail
    refine (CP1.o _ _ _ Q56.o Q6.o).mono ?_
    rintro e w7 ⟨⟨v7, rfl, q7⟩, hb7⟩
    have H7 := Hd (H6.o.step hb7)
    have Q7 := Hd q7
    clear hb7 q7 H6 Q56 Q6
    go_wp2_with fail
    refine ⟨fun _ => H7.o, ?_⟩
    go_wp2_with fail
    refine (CS.o _ _ _ (iv_zero _) Q7.o).mono ?_
    rintro e w8 ⟨⟨v8, rfl, q8⟩, hb8⟩
    have H8 := Hd (H7.o.step hb8)
    obtain ⟨As, cs, rfl, hcs, hA⟩ := q8
    rw [<- HLS.o] at hcs ⊢
    have HA := Hd hA
    have HCS := Hd hcs
    clear hb8 hA hcs H7 Q7
    go_wp2_with fail
    refine ⟨fun _ => H8.o, ?_⟩
    go_wp2_with (refine wpList_turn rfl 43 (.tmp 13) (.tmp 39) rfl y 0 (.agg #[.bool false, .slice As ls cs]) rfl rfl 43 intZ #[.bool false, .slice As ls cs] (H8.o.get 0 rfl) (by kernel_rfl) (by simp [Value.cells, intZ, tierZ, tierR]) (by simp [Value.cells, Value.oneCell', intZ, tierZ, tierR]) rfl ?_; intro W9 HT9)
    rw [onlyNormal_normal]
    have H9 := Hd (H8.o.turn 0 rfl HT9 (.inr HXY.o.2.1) (by
     have := HXY.o
     intro f hf
     simp only [List.eraseIdx_cons_zero, List.mem_cons, List.not_mem_nil, or_false] at hf
     rcases hf with rfl | rfl <;> (simp only []; omega)))
    have HA9 := Hd (HA.o.turn (H8.o.obj 0 rfl) intZ_no HT9)
    clear HT9 H8 HA
    go_wp2_with fail
    go_roundw
    case rel => exact .inr ⟨by go_num, As, cs, Hd (by simpa using H9.o), HCS, HA9⟩
    case measure => simp [intOf]
  . go_wp2_with fail
    refine (CPT.o _).mono ?_
    rintro e w5 ⟨rfl, hw⟩
    obtain rfl := hw.symm
    clear hw
    go_wp2_with fail
    have HS5 := Hd (HS4.o.below ((Below.refl _ _).drew))
    apply wp_region_cutV (fun w' => HasO [] W [(y, .cells #[.bool false, .slice As ls cs] 43), (x, .cells intZ 43), (g, .cells (tierR r) 31)] w') (fun up Z cz w' => HasO [] W ((up, .cells #[.bool false, .slice Z lz cz] 43) :: [(y, .cells #[.bool false, .slice As ls cs] 43), (x, .cells intZ 43), (g, .cells (tierR r) 31)]) w' /\ (lz <= cz /\ W.heap.size <= up) /\ Holds w' w'.heap.size Z (s * n.toNat * 1000000)) _ (.seg [0, 1] (.fork 2 (.fork 3 (.fork 4 (.fork 5 (.turn 6 (.turn 7 .nil)) 6 (.turn 5 (.turn 7 .nil))) 6 (.turn 4 (.turn 5 (.turn 7 .nil)))) 6 (.turn 3 (.turn 4 (.turn 5 (.turn 7 .nil))))) 6 (.turn 2 (.turn 3 (.turn 4 (.turn 5 (.turn 7 .nil))))))) (by kernel_rfl) (by kernel_rfl) H4.o.drew
    case h =>
     simp only [wpPlan, List.map_cons, List.map_nil, opAt, List.getElem?_cons_succ, List.getElem?_cons_zero, Option.getD_some]
     refine wpQuiet_row 43 (.tmp 13) rfl rfl y rfl 43 #[.bool false, .slice As ls cs] _ (fun w hw => hw.get 0 rfl) Tryz.underlying43 rfl (by kernel_rfl) (fun K1 k1 => ?_)
     go_simp
     refine k1 _ ?_
     clear k1 K1
     repeat (go_big_quiet_step ((intro _; rfl)))
     refine wpQuiet_nil ?_
     have HH0 := Hd H4.o.drew
     have Q480 : Hi (IV wr.drew (.agg #[.bool false, .slice As ls cs]) s) := Hd ⟨As, cs, by rw [<- HLS.o], by rw [<- HLS.o]; exact HCS.o, HS5.o⟩
     refine ⟨?_, ?_⟩
     . skip
       go_wp2_with fail
       refine (CN.o _).mono ?_
       rintro e x1 ⟨⟨v50, rfl, q⟩, hb⟩
       have HH1 := Hd (HH0.o.step hb)
       have Q501 := Hd q
       have Q481 := Hd (Q480.o.step hb)
       clear Q480
       clear hb q HH0
       go_wp2_with fail
       refine ⟨HH1.o, ?_⟩
       refine ⟨?_, ?_⟩
       . skip
         go_wp2_with fail
         refine (CP2.o _ _ _ Q481.o Q501.o).mono ?_
         rintro e x2 ⟨⟨v51, rfl, q⟩, hb⟩
         have HH2 := Hd (HH1.o.step hb)
         have Q512 := Hd q
         clear Q481
         clear Q501
         clear hb q HH1
         go_wp2_with fail
         refine ⟨HH2.o, ?_⟩
         refine ⟨?_, ?_⟩
         . skip
           go_wp2_with fail
           refine (CM.o _).mono ?_
           rintro e x3 ⟨⟨v52, rfl, q⟩, hb⟩
           have HH3 := Hd (HH2.o.step hb)
           have Q523 := Hd q
           have Q513 := Hd (Q512.o.step hb)
           clear Q512
           clear hb q HH2
           go_wp2_with fail
           refine ⟨HH3.o, ?_⟩
           refine ⟨?_, ?_⟩
           . skip
             go_wp2_with fail
             refine (CP3.o _ _ _ Q513.o Q523.o).mono ?_
             rintro e x4 ⟨⟨v53, rfl, q⟩, hb⟩
             have HH4 := Hd (HH3.o.step hb)
             have Q534 := Hd q
             clear Q513
             clear Q523
             clear hb q HH3
             go_wp2_with fail
             refine ⟨HH4.o, ?_⟩
             go_wp2_with fail
             obtain ⟨up, hup⟩ : ∃ r, r = x4.heap.size := ⟨_, rfl⟩
             have HH5 := Hd (HH4.o.new hup (.cells intZ 43))
             have HUP : Hi (W.heap.size <= up) := Hd (by rw [hup]; exact HH4.o.size)
             have HUPN : Hi (∀ f ∈ ([(y, .cells #[.bool false, .slice As ls cs] 43), (x, .cells intZ 43), (g, .cells (tierR r) 31)] : List (Nat × Obj)), f.1 < up) := Hd (fun f hf => by rw [hup]; exact obj_lt (HH4.o.2 f hf))
             have Q535 := Hd (Q534.o.step (Below.al (Below.refl _ _) (.cells intZ 43)))
             clear Q534
             rw [<- hup]
             clear hup HH4
             refine ⟨HH5.o.tail, ?_⟩
             obtain ⟨Z, cz, rfl, hcz, hZ⟩ := Q535.o
             rw [<- HLZ.o] at hcz ⊢
             have HZ := Hd hZ
             have HCZ := Hd hcz
             clear hZ hcz Q535
             go_wp2_with refine wpList_turn rfl 43 (.tmp 18) (.tmp 53) rfl up 0 (.agg #[.bool false, .slice Z lz cz]) rfl rfl 43 intZ #[.bool false, .slice Z lz cz] (HH5.o.get 0 rfl) (by kernel_rfl) (by simp [Value.cells, intZ, tierZ, tierR]) (by simp [Value.cells, Value.oneCell', intZ, tierZ, tierR]) rfl ?_; intro W8 HT8
             have H8 := Hd (HH5.o.turn 0 rfl HT8 (.inr HUP.o) (by
              intro f hf
              exact Nat.ne_of_lt (HUPN.o f (by simpa using hf))))
             have HZ8 := Hd (HZ.o.turn (HH5.o.obj 0 rfl) intZ_no HT8)
             refine ⟨H8.o.tail, ?_⟩
             exact ⟨up, Z, cz, ⟨H8.o, ⟨HCZ.o, HUP.o⟩, HZ8.o⟩, v50, v51, v52, rfl⟩
           . skip
             go_wp2_with fail
             obtain ⟨up, hup⟩ : ∃ r, r = x3.heap.size := ⟨_, rfl⟩
             have HH6 := Hd (HH3.o.new hup (.cells intZ 43))
             have HUP : Hi (W.heap.size <= up) := Hd (by rw [hup]; exact HH3.o.size)
             have HUPN : Hi (∀ f ∈ ([(y, .cells #[.bool false, .slice As ls cs] 43), (x, .cells intZ 43), (g, .cells (tierR r) 31)] : List (Nat × Obj)), f.1 < up) := Hd (fun f hf => by rw [hup]; exact obj_lt (HH3.o.2 f hf))
             have Q516 := Hd (Q513.o.step (Below.al (Below.refl _ _) (.cells intZ 43)))
             clear Q513
             have Q526 := Hd (Q523.o.step (Below.al (Below.refl _ _) (.cells intZ 43)))
             clear Q523
             rw [<- hup]
             clear hup HH3
             refine ⟨HH6.o.tail, ?_⟩
             go_wp2_with fail
             refine (CP3.o _ _ _ Q516.o Q526.o).mono ?_
             rintro e x7 ⟨⟨v53, rfl, q⟩, hb⟩
             have HH7 := Hd (HH6.o.step hb)
             have Q537 := Hd q
             clear Q516
             clear Q526
             clear hb q HH6
             go_wp2_with fail
             refine ⟨HH7.o.tail, ?_⟩
             obtain ⟨Z, cz, rfl, hcz, hZ⟩ := Q537.o
             rw [<- HLZ.o] at hcz ⊢
             have HZ := Hd hZ
             have HCZ := Hd hcz
             clear hZ hcz Q537
             go_wp2_with refine wpList_turn rfl 43 (.tmp 18) (.tmp 53) rfl up 0 (.agg #[.bool false, .slice Z lz cz]) rfl rfl 43 intZ #[.bool false, .slice Z lz cz] (HH7.o.get 0 rfl) (by kernel_rfl) (by simp [Value.cells, intZ, tierZ, tierR]) (by simp [Value.cells, Value.oneCell', intZ, tierZ, tierR]) rfl ?_; intro W8 HT8
             have H8 := Hd (HH7.o.turn 0 rfl HT8 (.inr HUP.o) (by
              intro f hf
              exact Nat.ne_of_lt (HUPN.o f (by simpa using hf))))
             have HZ8 := Hd (HZ.o.turn (HH7.o.obj 0 rfl) intZ_no HT8)
             refine ⟨H8.o.tail, ?_⟩
             exact ⟨up, Z, cz, ⟨H8.o, ⟨HCZ.o, HUP.o⟩, HZ8.o⟩, v50, v51, v52, rfl⟩
         . skip
           go_wp2_with fail
           obtain ⟨up, hup⟩ : ∃ r, r = x2.heap.size := ⟨_, rfl⟩
           have HH8 := Hd (HH2.o.new hup (.cells intZ 43))
           have HUP : Hi (W.heap.size <= up) := Hd (by rw [hup]; exact HH2.o.size)
           have HUPN : Hi (∀ f ∈ ([(y, .cells #[.bool false, .slice As ls cs] 43), (x, .cells intZ 43), (g, .cells (tierR r) 31)] : List (Nat × Obj)), f.1 < up) := Hd (fun f hf => by rw [hup]; exact obj_lt (HH2.o.2 f hf))
           have Q518 := Hd (Q512.o.step (Below.al (Below.refl _ _) (.cells intZ 43)))
           clear Q512
           rw [<- hup]
           clear hup HH2
           refine ⟨HH8.o.tail, ?_⟩
           go_wp2_with fail
           refine (CM.o _).mono ?_
           rintro e x9 ⟨⟨v52, rfl, q⟩, hb⟩
           have HH9 := Hd (HH8.o.step hb)
           have Q529 := Hd q
           have Q519 := Hd (Q518.o.step hb)
           clear Q518
           clear hb q HH8
           go_wp2_with fail
           refine ⟨HH9.o.tail, ?_⟩
           go_wp2_with fail
           refine (CP3.o _ _ _ Q519.o Q529.o).mono ?_
           rintro e x10 ⟨⟨v53, rfl, q⟩, hb⟩
           have HH10 := Hd (HH9.o.step hb)
           have Q5310 := Hd q
           clear Q519
           clear Q529
           clear hb q HH9
           go_wp2_with fail
           refine ⟨HH10.o.tail, ?_⟩
           obtain ⟨Z, cz, rfl, hcz, hZ⟩ := Q5310.o
           rw [<- HLZ.o] at hcz ⊢
           have HZ := Hd hZ
           have HCZ := Hd hcz
           clear hZ hcz Q5310
           go_wp2_with refine wpList_turn rfl 43 (.tmp 18) (.tmp 53) rfl up 0 (.agg #[.bool false, .slice Z lz cz]) rfl rfl 43 intZ #[.bool false, .slice Z lz cz] (HH10.o.get 0 rfl) (by kernel_rfl) (by simp [Value.cells, intZ, tierZ, tierR]) (by simp [Value.cells, Value.oneCell', intZ, tierZ, tierR]) rfl ?_; intro W8 HT8
           have H8 := Hd (HH10.o.turn 0 rfl HT8 (.inr HUP.o) (by
            intro f hf
            exact Nat.ne_of_lt (HUPN.o f (by simpa using hf))))
           have HZ8 := Hd (HZ.o.turn (HH10.o.obj 0 rfl) intZ_no HT8)
           refine ⟨H8.o.tail, ?_⟩
           exact ⟨up, Z, cz, ⟨H8.o, ⟨HCZ.o, HUP.o⟩, HZ8.o⟩, v50, v51, v52, rfl⟩
       . skip
         go_wp2_with fail
         obtain ⟨up, hup⟩ : ∃ r, r = x1.heap.size := ⟨_, rfl⟩
         have HH11 := Hd (HH1.o.new hup (.cells intZ 43))
         have HUP : Hi (W.heap.size <= up) := Hd (by rw [hup]; exact HH1.o.size)
         have HUPN : Hi (∀ f ∈ ([(y, .cells #[.bool false, .slice As ls cs] 43), (x, .cells intZ 43), (g, .cells (tierR r) 31)] : List (Nat × Obj)), f.1 < up) := Hd (fun f hf => by rw [hup]; exact obj_lt (HH1.o.2 f hf))
         have Q4811 := Hd (Q481.o.step (Below.al (Below.refl _ _) (.cells intZ 43)))
         clear Q481
         have Q5011 := Hd (Q501.o.step (Below.al (Below.refl _ _) (.cells intZ 43)))
         clear Q501
         rw [<- hup]
         clear hup HH1
         refine ⟨HH11.o.tail, ?_⟩
         go_wp2_with fail
         refine (CP2.o _ _ _ Q4811.o Q5011.o).mono ?_
         rintro e x12 ⟨⟨v51, rfl, q⟩, hb⟩
         have HH12 := Hd (HH11.o.step hb)
         have Q5112 := Hd q
         clear Q4811
         clear Q5011
         clear hb q HH11
         go_wp2_with fail
         refine ⟨HH12.o.tail, ?_⟩
         go_wp2_with fail
         refine (CM.o _).mono ?_
         rintro e x13 ⟨⟨v52, rfl, q⟩, hb⟩
         have HH13 := Hd (HH12.o.step hb)
         have Q5213 := Hd q
         have Q5113 := Hd (Q5112.o.step hb)
         clear Q5112
         clear hb q HH12
         go_wp2_with fail
         refine ⟨HH13.o.tail, ?_⟩
         go_wp2_with fail
         refine (CP3.o _ _ _ Q5113.o Q5213.o).mono ?_
         rintro e x14 ⟨⟨v53, rfl, q⟩, hb⟩
         have HH14 := Hd (HH13.o.step hb)
         have Q5314 := Hd q
         clear Q5113
         clear Q5213
         clear hb q HH13
         go_wp2_with fail
         refine ⟨HH14.o.tail, ?_⟩
         obtain ⟨Z, cz, rfl, hcz, hZ⟩ := Q5314.o
         rw [<- HLZ.o] at hcz ⊢
         have HZ := Hd hZ
         have HCZ := Hd hcz
         clear hZ hcz Q5314
         go_wp2_with refine wpList_turn rfl 43 (.tmp 18) (.tmp 53) rfl up 0 (.agg #[.bool false, .slice Z lz cz]) rfl rfl 43 intZ #[.bool false, .slice Z lz cz] (HH14.o.get 0 rfl) (by kernel_rfl) (by simp [Value.cells, intZ, tierZ, tierR]) (by simp [Value.cells, Value.oneCell', intZ, tierZ, tierR]) rfl ?_; intro W8 HT8
         have H8 := Hd (HH14.o.turn 0 rfl HT8 (.inr HUP.o) (by
          intro f hf
          exact Nat.ne_of_lt (HUPN.o f (by simpa using hf))))
         have HZ8 := Hd (HZ.o.turn (HH14.o.obj 0 rfl) intZ_no HT8)
         refine ⟨H8.o.tail, ?_⟩
         exact ⟨up, Z, cz, ⟨H8.o, ⟨HCZ.o, HUP.o⟩, HZ8.o⟩, v50, v51, v52, rfl⟩
     . skip
       go_wp2_with fail
       obtain ⟨up, hup⟩ : ∃ r, r = wr.heap.size := ⟨_, rfl⟩
       have HH15 := Hd (HH0.o.new hup (.cells intZ 43))
       have HUP : Hi (W.heap.size <= up) := Hd (by rw [hup]; exact HH0.o.size)
       have HUPN : Hi (∀ f ∈ ([(y, .cells #[.bool false, .slice As ls cs] 43), (x, .cells intZ 43), (g, .cells (tierR r) 31)] : List (Nat × Obj)), f.1 < up) := Hd (fun f hf => by rw [hup]; exact obj_lt (HH0.o.2 f hf))
       have Q4815 := Hd (Q480.o.step (Below.al (Below.refl _ _) (.cells intZ 43)))
       clear Q480
       rw [<- hup]
       clear hup HH0
       refine ⟨HH15.o.tail, ?_⟩
       go_wp2_with fail
       refine (CN.o _).mono ?_
       rintro e x16 ⟨⟨v50, rfl, q⟩, hb⟩
       have HH16 := Hd (HH15.o.step hb)
       have Q5016 := Hd q
       have Q4816 := Hd (Q4815.o.step hb)
       clear Q4815
       clear hb q HH15
       go_wp2_with fail
       refine ⟨HH16.o.tail, ?_⟩
       go_wp2_with fail
       refine (CP2.o _ _ _ Q4816.o Q5016.o).mono ?_
       rintro e x17 ⟨⟨v51, rfl, q⟩, hb⟩
       have HH17 := Hd (HH16.o.step hb)
       have Q5117 := Hd q
       clear Q4816
       clear Q5016
       clear hb q HH16
       go_wp2_with fail
       refine ⟨HH17.o.tail, ?_⟩
       go_wp2_with fail
       refine (CM.o _).mono ?_
       rintro e x18 ⟨⟨v52, rfl, q⟩, hb⟩
       have HH18 := Hd (HH17.o.step hb)
       have Q5218 := Hd q
       have Q5118 := Hd (Q5117.o.step hb)
       clear Q5117
       clear hb q HH17
       go_wp2_with fail
       refine ⟨HH18.o.tail, ?_⟩
       go_wp2_with fail
       refine (CP3.o _ _ _ Q5118.o Q5218.o).mono ?_
       rintro e x19 ⟨⟨v53, rfl, q⟩, hb⟩
       have HH19 := Hd (HH18.o.step hb)
       have Q5319 := Hd q
       clear Q5118
       clear Q5218
       clear hb q HH18
       go_wp2_with fail
       refine ⟨HH19.o.tail, ?_⟩
       obtain ⟨Z, cz, rfl, hcz, hZ⟩ := Q5319.o
       rw [<- HLZ.o] at hcz ⊢
       have HZ := Hd hZ
       have HCZ := Hd hcz
       clear hZ hcz Q5319
       go_wp2_with refine wpList_turn rfl 43 (.tmp 18) (.tmp 53) rfl up 0 (.agg #[.bool false, .slice Z lz cz]) rfl rfl 43 intZ #[.bool false, .slice Z lz cz] (HH19.o.get 0 rfl) (by kernel_rfl) (by simp [Value.cells, intZ, tierZ, tierR]) (by simp [Value.cells, Value.oneCell', intZ, tierZ, tierR]) rfl ?_; intro W8 HT8
       have H8 := Hd (HH19.o.turn 0 rfl HT8 (.inr HUP.o) (by
        intro f hf
        exact Nat.ne_of_lt (HUPN.o f (by simpa using hf))))
       have HZ8 := Hd (HZ.o.turn (HH19.o.obj 0 rfl) intZ_no HT8)
       refine ⟨H8.o.tail, ?_⟩
       exact ⟨up, Z, cz, ⟨H8.o, ⟨HCZ.o, HUP.o⟩, HZ8.o⟩, v50, v51, v52, rfl⟩
    case hR =>
     intro up Z cz v50 v51 v52 w5 hF
     obtain ⟨h5, ⟨hcz, hup⟩, hZ⟩ := hF
     have H5 : Hi (HasO [] W [(up, .cells #[.bool false, .slice Z lz cz] 43), (x, .cells intZ 43)] w5) := Hd (h5.of_mem (by simp))
     have QZ5 : Hi (IV w5 (.agg #[.bool false, .slice Z lz cz]) (s * n.toNat * 1000000)) := Hd ⟨Z, cz, by rw [<- HLZ.o], by rw [<- HLZ.o]; exact hcz, hZ⟩
     clear h5 hcz hup hZ H4 HS4 HS5 HCS H3 HC3
     obtain ⟨l7, hl7⟩ : ∃ l, l = (digits D.toNat).length := ⟨_, rfl⟩
     obtain ⟨l8, hl8⟩ : ∃ l, l = (digits 1000000000).length := ⟨_, rfl⟩
     have HL7 := Hd hl7
     have HL8 := Hd hl8
     rw [<- hl7, <- hl8] at CTM
     clear hl7 hl8
     go_wp2_with fail
     have HK5 := Hd H5.o.1
     have H5 : Hi (HasO [] w5 [(up, .cells #[.bool false, .slice Z lz cz] 43), (x, .cells intZ 43)] w5) := Hd ⟨Keep.refl _ _, H5.o.2⟩
     refine wp_region_regL (fun w' => HasO [] w5 [(up, .cells #[.bool false, .slice Z lz cz] 43), (x, .cells intZ 43)] w') (fun w' => HasO [] w5 [(up, .cells #[.bool false, .slice Z lz cz] 43), (x, .cells intZ 43)] w') (fun _ => (0, #[])) [0, 1, 2, 6] [] [3, 4, 5, 7, 8] [0, 1, 2, 6] (by kernel_rfl) (by kernel_rfl) ?_ (fun w w' h hb => h.step hb) ?_ (fun k hk => by cases hk) ?_
     . exact fun w h => h
     . exact H5.o.drew
     simp only [List.map_cons, List.map_nil, opAt, List.getElem?_cons_succ, List.getElem?_cons_zero, Option.getD_some, List.contains_cons, List.contains_nil, Nat.reduceBEq, Bool.or_false, Bool.or_true, Bool.true_or, Bool.false_or]
     refine wpX_float rfl ?_
     refine wpQuiet_row 43 (.tmp 18) rfl rfl up rfl 43 #[.bool false, .slice Z lz cz] _ (fun w hw => hw.get 0 rfl) Tryz.underlying43 rfl (by kernel_rfl) (fun K1 k1 => ?_)
     go_simp
     refine k1 _ ?_
     clear k1 K1
     refine wpQuiet_nil ?_
     repeat (refine wpX_float rfl ?_; go_big_quiet_step ((intro _; rfl)); refine wpQuiet_nil ?_)
     refine wpX_nil ?_
     intro gs w6 H6
     intro hmade
     simp only [putAll, wpTailL, opAt, List.getElem?_cons_succ, List.getElem?_cons_zero, Option.getD_some, Act.put]
     have H6 := Hd H6
     have QZ6 := Hd (QZ5.o.step H6.o.1.below)
     clear hmade H5 QZ5
     go_wp2_with fail
     refine (CW.o _).mono ?_
     rintro e w7 ⟨v7, rfl, hm7⟩
     obtain ⟨A7, c7, rfl, hc7, hA7, hb7⟩ := hm7
     have H7 := Hd (H6.o.step hb7)
     have QZ7 := Hd (QZ6.o.step hb7)
     have HA7 := Hd hA7
     rw [<- HL7.o]
     clear hc7 hA7 hb7 H6 QZ6
     go_wp2_with fail
     refine ⟨fun _ => H7.o, ?_⟩
     go_wp2_with fail
     refine (CT9.o _).mono ?_
     rintro e w8 ⟨v8, rfl, hm8⟩
     obtain ⟨A8, c8, rfl, hc8, hA8, hb8⟩ := hm8
     have H8 := Hd (H7.o.step hb8)
     have QZ8 := Hd (QZ7.o.step hb8)
     have HA78 := Hd ((HA7.o.below hb8).more hb8.size)
     have HA8 := Hd hA8
     rw [<- HL8.o]
     clear hc8 hA8 hb8 H7 QZ7 HA7
     go_wp2_with fail
     refine ⟨fun _ => H8.o, ?_⟩
     go_wp2_with fail
     refine (CTM.o _ _ _ _ _ HA78.o HA8.o).mono ?_
     rintro e w9 ⟨v9, rfl, hm9⟩
     have H9 := Hd (H8.o.step hm9.below)
     have QZ9 := Hd (QZ8.o.step hm9.below)
     have HV9 := Hd hm9.hv
     clear hm9 H8 QZ8 HA78 HA8
     go_wp2_with fail
     refine ⟨fun _ => H9.o, ?_⟩
     go_wp2_with fail
     refine (CRO.o _ _ _ QZ9.o HV9.o).mono ?_
     rintro e w10 ⟨⟨v10, rfl, q10⟩, hb10⟩
     have H10 := Hd (H9.o.step hb10)
     obtain ⟨R, cr, rfl, hcr, hR⟩ := q10
     rw [<- HLR.o] at hcr ⊢
     have HR := Hd hR
     have HCR := Hd hcr
     clear hcr hR hb10 H9 QZ9 HV9
     go_wp2_with fail
     refine ⟨fun _ => H10.o, ?_⟩
     go_wp2_with (refine wpList_turn rfl 43 (.tmp 12) (.tmp 61) rfl x 0 (.agg #[.bool false, .slice R lr cr]) rfl rfl 43 intZ #[.bool false, .slice R lr cr] (H10.o.get 1 rfl) (by kernel_rfl) (by simp [Value.cells, intZ, tierZ, tierR]) (by simp [Value.cells, Value.oneCell', intZ, tierZ, tierR]) rfl ?_; intro W11 HT11)
     rw [onlyNormal_normal]
     go_wp2_with fail
     have hk := (HK5.o.trans H10.o.1 (by simp)).trans HT11.keep (by intro k hk; simp only [List.mem_singleton] at hk; subst hk; exact .inr HXY.o.1)
     exact bodyPost_ret (results_cell_row rfl _ _ x 43 #[.bool false, .slice R lr cr] (0, 0) _ rfl HT11.at_ Tryz.underlying43 rfl (by kernel_rfl)) rfl ⟨⟨_, rfl, R, cr, by rw [HLR.o], by rw [<- HLR.o]; exact HCR.o, HR.o.turn (H10.o.obj 1 rfl) intZ_no HT11⟩, hk.below⟩
end Big
end Go.Proofs.YtkdnebalpdebeaaGreatDoor
