import Derived.Test.YtipbnjcgololpaaChain
/-! the document's Chain, over what its Sha does -/
namespace Go.Proofs.Ytipbnjcgololpaa.Sha
open Go.RowKit Go.Deep Go.Proofs.Ytipbnjcgololpaa.Pack Go.Proofs.Ytipbnjcgololpaa.Crc
set_option linter.unusedVariables false
set_option linter.unusedSimpArgs false
/-- 'a[i]' of an array of bytes by value -/
theorem run_index_byte (cs : Array Value) (k : Nat) (x : Int) (w : World) (hk : k < 32) (hx : cs[k]? = some (.int .u8 x)) :
    (Instr.index 33 (.agg cs) (.int .i64 (k : Int))).run Try.prog w = .ok (.int .u8 x) w := by
  have h1 : (0 : Int) ≤ k ∧ (k : Int) < 32 := by omega
  have hu : Try.prog.underlying 33 = some (.array 32 5) := by kernel_rfl
  have hv : Try.prog.underlying 5 = some (.int .u8) := by kernel_rfl
  obtain ⟨i0, hi, hz0, hz1, hz2⟩ := info_parts info5
  simp [Instr.index, run_underlying hu, run_underlying hv, asIntOf, h1, go_sem, part, isAgg, sizeOf, typeInfo, hi, hz1, hx]
  intro h; omega
set_option maxHeartbeats 1000000 in
set_option maxRecDepth 100000 in
theorem refchain_of (HS : ∀ (P : Option Addr) (c : Nat) (xs : List Int) (w : World), RI w w.heap.size .u8 P xs → xs.length + 80 ≤ 140737488355328 → Byt xs →
      Calls Try.prog 15 #[.slice P xs.length c] w fun e w' => e = .returned (.agg (rowB (sha (nat xs)) 32)) ∧ Below w.heap.size w w')
    (ps : List Nat) (h32 : ps.length = 32) (P : Option Addr) (c : Nat) (xs : List Int) (w : World) (hx : RI w w.heap.size .u8 P xs) (hl : xs.length + 112 ≤ 140737488355328) (hb : Byt xs) (hp : Byt (toI ps)) :
    Calls Try.prog 17 #[.agg (rowB ps 32), .slice P xs.length c] w fun e w' => e = .returned (.agg (rowB (sha (ps ++ nat xs)) 32)) ∧ Below w.heap.size w w' := by
  have HX := Lib.hid hx
  have HB := Lib.hid hb
  have HP := Lib.hid hp
  have HSS := Lib.hid HS
  clear hx hb hp HS
  have hL : (toI ps).length = 32 := by rw [toI_length, h32]
  have hL2 : (toI ps ++ xs).length = 32 + xs.length := by simp [hL]
  have hsz := rowB_size (ws := ps) (n := 32) (by omega)
  have hget : ∀ k, k < 32 → (rowB ps 32)[k]? = some (.int .u8 (rd (toI ps) k)) := by
    intro k hk
    have hcs : (rowB ps 32).toList = nums .u8 (toI ps) := by simp [rowB, h32, nums, toI, Function.comp_def]
    rw [← Array.getElem?_toList, hcs]
    exact nums_get .u8 _ k (by omega)
  obtain ⟨R, hR⟩ : ∃ R, R = rowB ps 32 := ⟨_, rfl⟩
  rw [← hR] at hget hsz ⊢
  have HG := Lib.hid hget
  have HSZ := Lib.hid hsz
  clear hR hget hsz
  go_enter Try.func17, Try.ntmps17
  have hIn : Blk ((w.alloc (.cells R 33)).alloc (.cells (rowB [] 32) 33)) w.heap.size 33 R := (Blk.new w _ _).alloc _
  have hOut : Blk ((w.alloc (.cells R 33)).alloc (.cells (rowB [] 32) 33)) (w.heap.size + 1) 33 (rowB [] 32) := Blk.new' (by simp)
  have d0 : Below w.heap.size w ((w.alloc (.cells R 33)).alloc (.cells (rowB [] 32) 33)) := ((Below.refl _ _).alloc (Nat.le_refl _) _).alloc (by simp) _
  have HI := Lib.hid hIn
  have HO := Lib.hid hOut
  have HD := Lib.hid d0
  clear hOut d0 hIn
  go_wp2_with (first
    | (refine wpList_load_row rfl 33 (.tmp 2) rfl w.heap.size rfl 33 R (0, 0) _ HI.out Try.underlying33 rfl (by rw [HSZ.out]; kernel_rfl) ?_))
  go_loopw [5, 9] (fun v i wr => ∃ (k : Nat) (A : Option Addr) (c' : Nat), k ≤ 32 ∧ v = .slice A k c' ∧ i = .int .i64 k ∧ Hid (wr.ownsRow (w.heap.size + 2) 5 1 (.slice A k c') k (nums .u8 ((toI ps).take k))) ∧ Hid (Blk wr (w.heap.size + 1) 33 (rowB [] 32)) ∧ Hid (w.heap.size + 2 ≤ wr.heap.size) ∧ Below w.heap.size w wr) (fun _ i _ => 32 - (intOf i).toNat)
  case atStart => exact ⟨0, none, 0, by omega, rfl, rfl, Lib.hid (World.ownsRow_nil _ _ _ _), HO, Lib.hid (by simp), HD.out⟩
  case round =>
    obtain ⟨k, A, c', hk, rfl, rfl, HW, HO1, HS1, hb⟩ := hrel
    by_cases hk32 : k < 32
    · have hix := HG.out k hk32
      have hrun := run_index_byte R k _ wr hk32 hix
      have hk1 : (k : Int) < 32 := by omega
      have hk0 : (0 : Int) ≤ k := by omega
      have hLk : ((toI ps).take k).length = k := by simp [hL]; omega
      obtain ⟨zs, hzs⟩ : ∃ zs, zs = (toI ps).take k := ⟨_, rfl⟩
      have hz1 : (toI ps).take (k + 1) = zs ++ [rd (toI ps) k] := by
        rw [hzs]
        rw [List.take_succ_eq_append_getElem (by omega), rd_get (by omega)]
      rw [← hzs] at HW hLk
      obtain ⟨y, hy⟩ : ∃ y, y = rd (toI ps) k := ⟨_, rfl⟩
      rw [← hy] at hrun hz1
      clear hix
      have HZ := Lib.hid hz1
      clear hzs hy hz1
      go_wp2_with (at_builtin; refine wpList_app1 wr rfl (.tmp 12) (.tmp 14) _ rfl (w.heap.size + 2) 5 .u8 1 Try.underlying27 info5 (by omega) (.slice A k c') zs (by rw [hLk]; exact HW.out) rfl y rfl (by omega) HS1.out ?_; intro v3 w3 hown3 hg3 hat3)
      obtain ⟨A3, c3, rfl⟩ := own_slice hown3
      have hl3 : (zs ++ [y]).length = k + 1 := by simp [hLk]
      rw [hl3] at hown3
      rw [← HZ.out] at hown3
      have b3 := below_own hb hg3 HW.out (by omega) (by have := HS1.out; omega)
      have b4 := below_own (Below.refl (w.heap.size + 2) wr) hg3 HW.out (Nat.le_refl _) HS1.out
      have s4 := b4.size
      have HO4 := Lib.hid (HO1.out.below b4 (by omega))
      have HS4 := Lib.hid (show w.heap.size + 2 ≤ w3.heap.size by have := HS1.out; omega)
      have HW4 := Lib.hid hown3
      clear hown3 hg3 hat3 HW b4 hrun
      go_roundw
      case rel => exact ⟨k + 1, A3, c3, by omega, by rw [hl3], by go_num, HW4, HO4, HS4, b3⟩
      case measure => simp [intOf]; omega
    · have hk' : k = 32 := by omega
      subst hk'
      have hT : (toI ps).take 32 = toI ps := List.take_of_length_le (by omega)
      have HW1 := Lib.hid (show wr.ownsRow (w.heap.size + 2) 5 1 (.slice A 32 c') 32 (nums .u8 (toI ps)) by have := HW.out; rwa [hT] at this)
      have hr0 : RI wr w.heap.size .u8 P xs := HX.out.below hb
      have HR0 := Lib.hid hr0
      clear hT HW hr0 hk hk32
      go_wp2_with (first
        | (at_builtin
           refine wpList_app wr rfl (.tmp 17) (.tmp 18) _ rfl (w.heap.size + 2) 5 .u8 1 Try.underlying27 info5 (by omega) (.slice A 32 c') (toI ps) (by rw [hL]; exact HW1.out) rfl w.heap.size P c xs rfl HR0.out (by rw [hL]; omega) HS1.out ?_
           intro v3 w3 hown3 hg3 hat3
           obtain ⟨A3, c3, rfl⟩ := own_slice hown3
           have hr3 := Lib.hid (RI.of_own hown3).2
           have b3 := below_own hb hg3 HW1.out (by omega) (by have := HS1.out; omega)
           have b4 := below_own (Below.refl (w.heap.size + 2) wr) hg3 HW1.out (Nat.le_refl _) HS1.out
           have HO4 := Lib.hid (HO1.out.below b4 (by omega))
           clear hown3 hg3 hat3 b4))
      have hn : nat (toI ps ++ xs) = ps ++ nat xs := by rw [nat_app, nat_toI]
      have hbt : Byt (toI ps ++ xs) := fun x hx => (List.mem_append.1 hx).elim (HP.out x) (HB.out x)
      have H := HSS.out A3 c3 (toI ps ++ xs) w3 hr3.out (by omega) hbt
      rw [hL2] at H
      refine H.mono ?_
      rintro e w5 ⟨rfl, b5⟩
      rw [hn]
      have HO5 := HO4.out.below b5 HO4.out.lt
      have e5 := b3.trans (b5.mono b3.size)
      have hlen : (sha (ps ++ nat xs)).length = 32 := out_length _
      obtain ⟨D, hD⟩ : ∃ D, D = sha (ps ++ nat xs) := ⟨_, rfl⟩
      rw [← hD] at hlen ⊢
      have HDD := Lib.hid hD
      clear hbt hn HO4 b3 b5 hD H hr3
      go_wp2_with (refine wpList_put rfl 33 (.tmp 4) (.tmp 20) rfl (w.heap.size + 1) (rowB D 32) rfl rfl 33 _ HO5 (by rw [rowB_size (Nat.le_of_eq hlen)]; kernel_rfl) (by rw [rowB_size (Nat.le_of_eq hlen)]; rfl) (rowB_one _ _) ?_; intro W9 hB9 hfar9 hbel9 hsz9 hcl9)
      have e9 := hbel9 w.heap.size w (by omega) e5
      exact bodyPost_ret (results_cell_row rfl _ W9 (w.heap.size + 1) 33 (rowB D 32) (0, 0) _ rfl hB9 Try.underlying33 rfl (by rw [rowB_size (Nat.le_of_eq hlen)]; kernel_rfl)) rfl ⟨by rw [HDD.out], e9⟩
end Go.Proofs.Ytipbnjcgololpaa.Sha
