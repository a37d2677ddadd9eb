/- Lemmas of a claim, several texts in one: BkK -/
import Derived.Test.YtlfomhdphbchpaaGreatDoorG38
/-! the log's Append -/
namespace Go.Proofs.YtlfomhdphbchpaaGreatDoor.Bk
open Go.RowKit Go.Deep Go.Shelf Go.Proofs.YtlfomhdphbchpaaGreatDoor.Mp Go.Proofs.YtlfomhdphbchpaaGreatDoor.Mo
open Go.Proofs.YtlfomhdphbchpaaGreatDoor.Sha (rowB rowB_size rowB_one toI toI_length)
open Go.Proofs.YtlfomhdphbchpaaGreatDoor.Crc (nat crc)
open Go.Proofs.YtlfomhdphbchpaaGreatDoor.Cal (results_one results_two results_three)
set_option linter.unusedVariables false
set_option linter.unusedSimpArgs false
theorem out_lt (s : Sha.St) : ∀ x ∈ Sha.out s, x < 256 := by
  intro x hx
  simp only [Sha.out, Sha.be4, List.mem_append, List.mem_cons, List.not_mem_nil, or_false] at hx
  omega
theorem sha_32 (l : List Nat) : (Sha.sha l).length = 32 ∧ Byt (toI (Sha.sha l)) := by
  refine ⟨Sha.out_length _, Sha.byt_toI (fun b hb => out_lt _ b hb)⟩
theorem rowB_full {qs : List Nat} (h : qs.length = 32) : (rowB qs 32).toList = nums .u8 (toI qs) := by
  simp [rowB, h, nums, toI]
theorem logE_size {gd : Nat} {per nx : Int} {lk : Array Value} (h : lk.size = 32) : (logE gd per nx lk).size = 37 := by simp [logE, h]
theorem logE_part (gd : Nat) (per nx : Int) (lk : Array Value) : ∀ (j : Nat) (v : Value), lk.toList[j]? = some v → (logE gd per nx lk)[4 + j]? = some v := by
  intro j v h
  have hj := (List.getElem?_eq_some_iff.1 h).1
  rw [logE, List.getElem?_toArray, Nat.add_comm 4 j]
  simp only [List.getElem?_cons_succ]
  rw [List.getElem?_append_left hj]; exact h
theorem logE_link {gd : Nat} {per nx : Int} {lk lk' : Array Value} (h : lk.size = 32) (h' : lk'.size = 32) : splice (logE gd per nx lk) 4 (Value.agg lk').cells = logE gd per nx lk' := by
  apply Array.ext'
  simp [splice, logE, Value.cells, h, h']
theorem logE_next {gd : Nat} {per nx nx' : Int} {lk : Array Value} : splice (logE gd per nx lk) 3 (Value.int .i64 nx').cells = logE gd per nx' lk := by
  apply Array.ext'
  simp [splice, logE, Value.cells]
def z32 : Array Value := #[.int .u8 0, .int .u8 0, .int .u8 0, .int .u8 0, .int .u8 0, .int .u8 0, .int .u8 0, .int .u8 0, .int .u8 0, .int .u8 0, .int .u8 0, .int .u8 0, .int .u8 0, .int .u8 0, .int .u8 0, .int .u8 0, .int .u8 0, .int .u8 0, .int .u8 0, .int .u8 0, .int .u8 0, .int .u8 0, .int .u8 0, .int .u8 0, .int .u8 0, .int .u8 0, .int .u8 0, .int .u8 0, .int .u8 0, .int .u8 0, .int .u8 0, .int .u8 0]
theorem splice_all {z lk : Array Value} (h : z.size = lk.size) : splice z 0 (Value.agg lk).cells = lk := by
  apply Array.ext'
  simp [splice, Value.cells, h]
set_option maxHeartbeats 8000000 in
set_option maxRecDepth 100000 in
theorem logAppend_ok (gl gd bf gp c : Nat) (room ops nx k : Int) (d : UInt8) (hk : (nx - 1).tdiv 4 = k) (hk1 : k = 0 ∨ k = 1) (hd : d = if k = 0 then 48 else 49) (hnx : 1 ≤ nx ∧ nx ≤ 1000000) (ho : 0 ≤ ops ∧ ops ≤ 1000000)
    (L : List (UInt8 × Value)) (hL : OkN L d) (qs : List Nat) (hq : qs.length = 32) (hqb : Byt (toI qs)) (ps : List Int) (hps : 1 ≤ ps.length ∧ ps.length ≤ 4096) (hb : Byt ps) (hr : ((usedL L + (ps.length + 59) / 24 : Nat) : Int) ≤ room) (hroom : room ≤ 65536)
    (W : World) (hgl : Blk W gl 144 (logE gd 4 nx (rowB qs 32))) (h : Dk gd bf room ops L W) (hp : RI W W.heap.size .u8 (some ⟨gp, 0, none⟩) ps) :
    Calls Tryz.prog 122 #[.pointer (some ⟨gl, 0, none⟩), .slice (some ⟨gp, 0, none⟩) ps.length c] W fun e w' => e = .returned (.tuple #[.int .i64 nx, .int .i64 0]) ∧ Keep [gl, gd, bf] W w' ∧
      ∃ (qs' : List Nat) (v v' : Value), qs'.length = 32 ∧ Byt (toI qs') ∧ w'.heap[gl]? = some (.cells (logE gd 4 (nx + 1) (rowB qs' 32)) 144) ∧ lenV v' = lenV (getN L d) + (ps.length + 59) / 24 ∧ Dk gd bf room (ops + 2) (setN (setN L d v) d v') w' := by
  obtain ⟨hn1, hn2⟩ := hnx
  obtain ⟨hp1, hp2⟩ := hps
  obtain ⟨hs32, hsb⟩ := sha_32 (qs ++ nat ps)
  have CC := Lib.hid (fun w hx => Sha.chain_ok qs hq (some ⟨gp, 0, none⟩) c ps w hx (by omega) hb hqb)
  have CN := Lib.hid (fun w => name_ok k hk1 w)
  have HP := Lib.hid hp
  have HW := Lib.hid hgl
  have HD := Lib.hid h
  have HL := Lib.hid hL
  have HB := Lib.hid hb
  have HR := Lib.hid hr
  obtain ⟨qs', hqs'⟩ : ∃ qs', qs' = Sha.sha (qs ++ nat ps) := ⟨_, rfl⟩
  obtain ⟨lk, hlk⟩ : ∃ lk, lk = rowB qs' 32 := ⟨_, rfl⟩
  rw [← hqs', ← hlk] at CC
  rw [← hqs'] at hs32 hsb
  have HZ := Lib.hid (show lk.size = 32 by rw [hlk]; exact rowB_size (by omega))
  have HQ := Lib.hid (rowB_size (ws := qs) (n := 32) (by omega))
  have H1k := Lib.hid (show lk.all (·.oneCell') = true by rw [hlk]; exact rowB_one _ _)
  have HSI : Hid (∃ xs : List Int, lk.toList = nums .u8 xs ∧ xs.length = 32) := Lib.hid ⟨toI qs', by rw [hlk]; exact rowB_full hs32, by rw [toI_length]; exact hs32⟩
  have HSK := Lib.hid (And.intro hs32 (And.intro hsb hlk))
  have CS := Lib.hid (fun w hx => sectors_ok nx gp c ps lk HSI.out (by omega) w hx hb)
  obtain ⟨s, hsd⟩ : ∃ s, s = nm d := ⟨_, rfl⟩
  have HSD := Lib.hid hsd
  rw [← hd, ← hsd] at CN
  have hlen1 : decide (4096 < (ps.length : Int)) = false := by simp; omega
  have hlen2 : ((ps.length : Int) == 0) = false := beq_eq_false_iff_ne.2 (by omega)
  have c36 : W.cell? ⟨gl, 36, none⟩ = some (.bool false) := by
    rw [Blk.cell hgl 36]
    simp [logE, List.getElem?_append_right, HQ.out]
  have hgw := obj_lt hgl
  have HGW := Lib.hid hgw
  obtain ⟨m, hm⟩ : ∃ m, m = ps.length := ⟨_, rfl⟩
  have HM := Lib.hid hm
  rw [← hm] at CC CS hlen1 hlen2 hp1 hp2 hr ⊢
  have hk0 : 0 ≤ k ∧ k ≤ 1 := by omega
  obtain ⟨N, hN⟩ : ∃ N, N = (m + 59) / 24 := ⟨_, rfl⟩
  rw [← hN] at CS hr ⊢
  have HNN := Lib.hid hN
  have HRR := Lib.hid (And.intro hr hroom)
  have hgl7 := obj_lt h.1
  have HNE : Hid (gl ≠ gd ∧ gl ≠ bf) := Lib.hid ⟨ne_alike h.1 hgl rfl, ne_alike h.2.1 hgl rfl⟩
  have HLT : Hid (gd < W.heap.size ∧ bf < W.heap.size ∧ gl < W.heap.size) := Lib.hid ⟨obj_lt h.1, obj_lt h.2.1, hgw⟩
  have HOP := Lib.hid ho
  clear hgl h hL hb hp hq hqb hqs' hlk hs32 hsb hk1 hd hsd hr hroom hm hN hgl7 ho
  go_enter Tryz.func122, Tryz.ntmps122
  go_wp2_with (refine wpListG_part rfl 142 (.tmp 28) rfl gl 4 rfl 144 (logE gd 4 nx (rowB qs 32)) (rowB qs 32) _ HW.out (logE_part _ _ _ _) Tryz.underlying142 rfl (by rw [HQ.out]; kernel_rfl) ?_)
  refine (CC.out _ HP.out).mono ?_
  rintro e w1 ⟨rfl, hb1⟩
  have H1 : Hid (HasO [] W [(gl, .cells (logE gd 4 nx (rowB qs 32)) 144)] w1) := Lib.hid (HasO.cons ((hb1.block gl hgw).trans HW.out) (HasO.nil (Keep.of_below hb1)))
  have HZ1 := Lib.hid hb1.size
  clear hb1 c36
  go_wp2_with (
    obtain ⟨g6, hg6⟩ : ∃ g6, g6 = w1.heap.size := ⟨_, rfl⟩
    have H2 := Lib.hid (H1.out.new hg6 (.cells z32 142))
    rw [← hg6] at HZ1
    rw [← hg6]
    clear hg6
    refine wpList_turn rfl 142 (.tmp 6) (.tmp 31) rfl g6 0 (.agg lk) rfl rfl 142 z32 lk (H2.out.get 0 rfl) (by rw [show (Value.agg lk).cells.size = 32 from HZ.out]; kernel_rfl) (by rw [show (Value.agg lk).cells.size = 32 from HZ.out]; decide) H1k.out (splice_all (by rw [HZ.out]; rfl)) ?_
    intro W2 HT2
    have H3 := Lib.hid (H2.out.turn 0 rfl HT2 (.inr HZ1.out) (H2.out.apart 0 rfl rfl))
    clear H1 H2 HT2)
  simp only [Act.put]
  refine wp_region_class (fun w' => HasO [] W _ w') [0, 1, 2, 3, 4, 5, 6, 7, 8, 9, 10, 11] (by kernel_rfl) (by kernel_rfl) (H3.out.drew) ?_
  simp only [List.map_cons, List.map_nil, opAt, List.getElem?_cons_succ, List.getElem?_cons_zero, Option.getD_some]
  repeat (go_big_quiet_step ((intro _; rfl)))
  refine wpQuiet_cell 2 (.tmp 34) rfl rfl ⟨gl, 3, none⟩ rfl (.int .i64 nx) _ (fun w hw => by rw [Blk.cell (hw.get 1 rfl) 3]; exact rfl) Tryz.underlying2 rfl (fun KK hKK => ?_)
  go_simp
  refine hKK _ ?_
  clear hKK KK
  repeat (go_big_quiet_step ((intro _; rfl)))
  refine wpQuiet_cell 2 (.tmp 39) rfl rfl ⟨gl, 1, none⟩ rfl (.int .i64 4) _ (fun w hw => by rw [Blk.cell (hw.get 1 rfl) 1]; exact rfl) Tryz.underlying2 rfl (fun KK hKK => ?_)
  go_simp
  refine hKK _ ?_
  clear hKK KK
  repeat (go_big_quiet_step ((intro _; rfl)))
  go_big_quiet_step ((intro hw; exact (CN.out _).mono fun e w' h => ⟨h.1, hw.step h.2⟩))
  repeat (go_big_quiet_step ((intro _; rfl)))
  refine wpQuiet_nil ?_
  intro w5 H5
  have H5 := Lib.hid H5
  clear H3
  go_wp2_with fail
  refine wp_region_regF (fun w' => HasO [] W [(g6, .cells lk 142), (gl, .cells (logE gd 4 nx (rowB qs 32)) 144)] w') (fun w' => HasO [gl, gd, bf] W [(g6, .cells lk 142), (gl, .cells (logE gd 4 nx (rowB qs 32)) 144)] w') (fun _ => (0, #[])) [0, 1, 2, 3, 4, 5, 6, 7, 8, 9, 10, 11] [] [12, 13, 14, 15] [0, 1, 2, 3, 4, 5, 6, 7, 8, 9, 10, 11] (by kernel_rfl) (by kernel_rfl) ?_ (fun w w' h hb => h.step hb) ?_ (fun k hk => by cases hk) ?_
  · exact fun w h => ⟨h.1.mono (by simp), h.2⟩
  · exact H5.out.drew
  simp only [List.map_cons, List.map_nil, opAt, List.getElem?_cons_succ, List.getElem?_cons_zero, Option.getD_some, List.contains_cons, List.contains_nil, Nat.reduceBEq, Bool.or_false, Bool.or_true, Bool.true_or, Bool.false_or]
  repeat (refine wpX_float rfl ?_; go_big_quiet_step ((intro _; rfl)); refine wpQuiet_nil ?_)
  refine wpX_float rfl ?_
  refine wpQuiet_cell 44 (.tmp 46) rfl rfl ⟨gl, 0, none⟩ rfl (.pointer (some ⟨gd, 0, none⟩)) _ (fun w hw => (hw.get 1 rfl).cell 0) Tryz.underlying44 rfl (fun KK hKK => ?_)
  go_simp
  refine hKK _ ?_
  clear hKK KK
  refine wpQuiet_nil ?_
  repeat (refine wpX_float rfl ?_; go_big_quiet_step ((intro _; rfl)); refine wpQuiet_nil ?_)
  refine wpX_float rfl ?_
  refine wpQuiet_cell 2 (.tmp 51) rfl rfl ⟨gl, 3, none⟩ rfl (.int .i64 nx) _ (fun w hw => (hw.get 1 rfl).cell 3) Tryz.underlying2 rfl (fun KK hKK => ?_)
  go_simp
  refine hKK _ ?_
  clear hKK KK
  refine wpQuiet_nil ?_
  repeat (refine wpX_float rfl ?_; go_big_quiet_step ((intro _; rfl)); refine wpQuiet_nil ?_)
  refine wpX_float rfl ?_
  refine wpQuiet_row 142 (.tmp 6) rfl rfl g6 rfl 142 lk _ (fun w hw => hw.get 0 rfl) Tryz.underlying142 rfl (by rw [HZ.out]; kernel_rfl) (fun KK hKK => ?_)
  go_simp
  refine hKK _ ?_
  clear hKK KK
  refine wpQuiet_nil ?_
  repeat (refine wpX_float rfl ?_; go_big_quiet_step ((intro _; rfl)); refine wpQuiet_nil ?_)
  refine wpX_nil ?_
  intro gs w6 H6
  intro hmade
  simp only [putAll, wpTail, opAt, List.getElem?_cons_succ, List.getElem?_cons_zero, Option.getD_some, Act.put]
  have H6 := Lib.hid H6
  clear hmade H5
  go_wp2_with fail
  refine (CS.out w6 ((HP.out.below H6.out.below).more H6.out.size)).mono ?_
  rintro e w7 ⟨g7, c7, xs, rfl, hxl, hx7, hc1, hc2, hb7⟩
  have H7 := Lib.hid (H6.out.step hb7)
  have HX := Lib.hid (And.intro hxl (And.intro hx7 (And.intro hc1 hc2)))
  clear hxl hx7 hc1 hc2 hb7 H6 CS
  go_wp2_with fail
  refine ⟨⟨H7.out.1.mono (by simp), H7.out.2⟩, ?_⟩
  have CA := Lib.hid (append_ok gd bf g7 (32 * N) c7 room ops (by have := HOP.out; omega) L d HL.out (by have := HNN.out; omega) ⟨HX.out.2.2.1, HX.out.2.2.2, by have := HNN.out; omega⟩ (by rw [show (32 * N + 31) / 32 = N by omega]; exact HRR.out.1) HRR.out.2 w7 (HD.out.step H7.out.below) xs HX.out.1 HX.out.2.1)
  rw [← HSD.out, show (32 * N + 31) / 32 = N by omega] at CA
  go_wp2_with fail
  refine CA.out.mono ?_
  rintro e w8 ⟨rfl, hk8, v8, hv8, hd8⟩
  have H8 : Hid (HasO [gl, gd, bf] W [(g6, .cells lk 142), (gl, .cells (logE gd 4 nx (rowB qs 32)) 144)] w8) := Lib.hid ((H7.out.re' (T := [gl, gd, bf]) (by simp)).call hk8 (by simp) (by
    have := HNE.out
    have := HLT.out
    have := HZ1.out
    simp only [List.mem_cons, List.not_mem_nil, or_false, forall_eq_or_imp, forall_eq, not_or]
    omega))
  have HV8 := Lib.hid hv8
  have HD8 := Lib.hid hd8
  clear hk8 hv8 hd8 CA HX H7
  go_wp2_with fail
  refine ⟨H8.out, ?_⟩
  go_wp2_with fail
  refine (done_ok gl gd 4 nx (rowB qs 32) HQ.out w8 (H8.out.obj 1 rfl)).mono ?_
  rintro e w9 ⟨rfl, ht9⟩
  have H9 : Hid (HasO [gl, gd, bf] W [(g6, .cells lk 142), (gl, .cells (logE gd 4 nx (rowB qs 32)) 144)] w9) := Lib.hid (H8.out.turn 1 rfl ht9 (.inl (by simp)) (H8.out.apart 1 rfl rfl))
  have HD9 : Hid (Dk gd bf room (ops + 1) (setN L d v8) w9) := Lib.hid (HD8.out.keep ht9.keep (by simp only [List.mem_singleton]; exact fun e => HNE.out.1 e.symm) (by simp only [List.mem_singleton]; exact fun e => HNE.out.2 e.symm) (by
    intro k hk cur hc
    simp only [List.mem_singleton] at hk
    subst hk
    rw [H8.out.obj 1 rfl] at hc; cases hc))
  have c0 : w9.cell? ⟨gl, 0, none⟩ = some (.pointer (some ⟨gd, 0, none⟩)) := by rw [Blk.cell (H9.out.get 1 rfl) 0]; rfl
  clear ht9 H8 HD8
  go_wp2_with fail
  refine ⟨H9.out, ?_⟩
  go_wp2_with fail
  refine ⟨H9.out, ?_⟩
  go_wp2_with fail
  have CY := Lib.hid (sync_ok gd bf room (ops + 1) (by have := HOP.out; omega) (setN L d v8) d (HL.out.set v8).1 (HL.out.set v8).2.1 w9 HD9.out)
  rw [← HSD.out] at CY
  refine CY.out.mono ?_
  rintro e w10 ⟨rfl, hk10, v10, hv10, hd10⟩
  have H10 : Hid (HasO [gl, gd, bf] W [(g6, .cells lk 142), (gl, .cells (logE gd 4 nx (rowB qs 32)) 144)] w10) := Lib.hid (H9.out.call hk10 (by simp) (by
    have := HNE.out
    have := HLT.out
    have := HZ1.out
    simp only [List.mem_cons, List.not_mem_nil, or_false, forall_eq_or_imp, forall_eq, not_or]
    omega))
  have HV10 := Lib.hid (hv10.trans ((congrArg lenV (HL.out.set v8).2.2).trans HV8.out))
  have HD10 := Lib.hid hd10
  clear hk10 hv10 hd10 CY H9 HD9 c0
  go_wp2_with fail
  refine (done_ok gl gd 4 nx (rowB qs 32) HQ.out w10 (H10.out.obj 1 rfl)).mono ?_
  rintro e w11 ⟨rfl, ht11⟩
  have H11 : Hid (HasO [gl, gd, bf] W [(g6, .cells lk 142), (gl, .cells (logE gd 4 nx (rowB qs 32)) 144)] w11) := Lib.hid (H10.out.turn 1 rfl ht11 (.inl (by simp)) (H10.out.apart 1 rfl rfl))
  have HD11 : Hid (Dk gd bf room (ops + 1 + 1) (setN (setN L d v8) d v10) w11) := Lib.hid (HD10.out.keep ht11.keep (by simp only [List.mem_singleton]; exact fun e => HNE.out.1 e.symm) (by simp only [List.mem_singleton]; exact fun e => HNE.out.2 e.symm) (by
    intro k hk cur hc
    simp only [List.mem_singleton] at hk
    subst hk
    rw [H10.out.obj 1 rfl] at hc; cases hc))
  clear ht11 H10 HD10
  go_wp2_with (first
    | (refine wpListG_row rfl 142 (.tmp 6) rfl g6 rfl 142 lk _ (H11.out.get 0 rfl) Tryz.underlying142 rfl (by rw [HZ.out]; kernel_rfl) ?_)
    | (refine wpList_turn rfl 142 (.tmp 75) (.tmp 73) rfl gl 4 (.agg lk) rfl rfl 144 (logE gd 4 nx (rowB qs 32)) (logE gd 4 nx lk) (H11.out.get 1 rfl) (by rw [show (Value.agg lk).cells.size = 32 from HZ.out]; kernel_rfl) (by rw [show (Value.agg lk).cells.size = 32 from HZ.out, logE_size HQ.out]; decide) H1k.out (logE_link HQ.out HZ.out) ?_
       intro W12 HT12
       have H12 := Lib.hid (H11.out.turn 1 rfl HT12 (.inl (by simp)) (H11.out.apart 1 rfl rfl))
       have HD12 : Hid (Dk gd bf room (ops + 1 + 1) (setN (setN L d v8) d v10) W12) := Lib.hid (HD11.out.keep HT12.keep (by simp only [List.mem_singleton]; exact fun e => HNE.out.1 e.symm) (by simp only [List.mem_singleton]; exact fun e => HNE.out.2 e.symm) (by
         intro k hk cur hc
         simp only [List.mem_singleton] at hk
         subst hk
         rw [H11.out.obj 1 rfl] at hc; cases hc))
       have c3 : W12.cell? ⟨gl, 3, none⟩ = some (.int .i64 nx) := by rw [Blk.cell (H12.out.get 1 rfl) 3]; rfl
       clear HT12 H11 HD11)
    | (refine wpList_turn rfl 2 (.tmp 82) (.tmp 80) rfl gl 3 (.int .i64 (nx + 1)) rfl rfl 144 (logE gd 4 nx lk) (logE gd 4 (nx + 1) lk) (H12.out.get 1 rfl) (by kernel_rfl) (by rw [logE_size HZ.out]; simp [Value.cells]) (by simp [Value.cells, Value.oneCell']) logE_next ?_
       intro W13 HT13
       have H13 := Lib.hid (H12.out.turn 1 rfl HT13 (.inl (by simp)) (H12.out.apart 1 rfl rfl))
       have HD13 : Hid (Dk gd bf room (ops + 1 + 1) (setN (setN L d v8) d v10) W13) := Lib.hid (HD12.out.keep HT13.keep (by simp only [List.mem_singleton]; exact fun e => HNE.out.1 e.symm) (by simp only [List.mem_singleton]; exact fun e => HNE.out.2 e.symm) (by
         intro k hk cur hc
         simp only [List.mem_singleton] at hk
         subst hk
         rw [H12.out.obj 1 rfl] at hc; cases hc))
       clear c3
       have c3 : W13.cell? ⟨gl, 3, none⟩ = some (.int .i64 (nx + 1)) := by rw [Blk.cell (H13.out.get 1 rfl) 3]; rfl
       clear HT13 H12 HD12))
  refine bodyPost_ret (results_two rfl _ _ rfl rfl) rfl ⟨?_, H13.out.1, qs', v8, v10, HSK.out.1, HSK.out.2.1, ?_, HV10.out, ?_⟩
  · simp
  · rw [← HSK.out.2.2]; exact H13.out.obj 1 rfl
  · rw [show ops + 2 = ops + 1 + 1 by omega]; exact HD13.out
end Go.Proofs.YtlfomhdphbchpaaGreatDoor.Bk
