/- Lemmas of a claim: BkA, BkB, BkC -/
import Derived.Test.YtkdnebalpdebeaaGreatDoorG26
import Derived.Lib.SlBytesConst
import Derived.Lib.SlBytesRow
set_option linter.unusedVariables false
set_option linter.unusedSimpArgs false
set_option maxHeartbeats 16000000
set_option maxRecDepth 100000
namespace Go.Proofs.YtkdnebalpdebeaaGreatDoor
namespace Bk
open Go.RowKit Go.Deep Mp Mo
open Cal (results_one results_two results_three)
def diskE (bf : Nat) (room ops : Int) : Array Value := #[.map (some bf), .int .i64 room, .bool false, .int .i64 0, .int .i64 ops, .nilFunc]
theorem diskNew_ok (room : Int) (hr : 1 <= room /\ room <= 65536) (W : World) : Calls Tryz.prog 16 #[.int .i64 room] W fun e w' => e = .returned (.tuple #[.pointer (some ⟨W.heap.size + 1, 0, none⟩), .int .i64 0]) /\ w' = (W.alloc (.map #[] 0)).alloc (.cells (diskE W.heap.size room 0) 127) := by
 have hmm := fun w : World => (run_makeMap (P := Tryz.prog) 125 w)
 have d1 : decide (room < 1) = false := by simp; omega
 have d2 : decide (65536 < room) = false := by simp; omega
 clear hr
 go_enter Tryz.func16, Tryz.ntmps16
 go_wp2_with fail
 exact bodyPost_ret (results_two rfl _ _ rfl rfl) rfl ⟨rfl, rfl⟩
theorem on_ok (gd bf : Nat) (room ops : Int) (W : World) (h : Blk W gd 127 (diskE bf room ops)) : Calls Tryz.prog 95 #[.pointer (some ⟨gd, 0, none⟩)] W fun e w' => e = .returned (.bool true) /\ w' = W := by
 have c2 := h.cell 2
 simp only [diskE, List.getElem?_toArray, List.getElem?_cons_succ, List.getElem?_cons_zero] at c2
 clear h
 go_enter Tryz.func95, Tryz.ntmps95
 go_wp2_with fail
 exact bodyPost_ret (results_one rfl _ _ rfl) rfl ⟨rfl, rfl⟩
theorem names0_ok (gd bf : Nat) (room ops : Int) (W : World) (h : Blk W gd 127 (diskE bf room ops)) (hf : W.heap[bf]? = some (.map #[] 0)) : Calls Tryz.prog 142 #[.pointer (some ⟨gd, 0, none⟩)] W fun e w' => e = .returned (.slice none 0 0) /\ Below W.heap.size W w' := by
 have c2 := h.cell 2
 have c0 := h.cell 0
 simp only [diskE, List.getElem?_toArray, List.getElem?_cons_succ, List.getElem?_cons_zero] at c2 c0
 have HF := Hd hf
 clear h hf
 go_enter Tryz.func142, Tryz.ntmps142
 go_wp2_with fail
 refine (keysD_ok (some bf) _).mono ?_
 rintro e w2 ⟨rfl, hw⟩
 obtain rfl := hw
 go_wp2_with fail
 refine (sortedD_ok bf W HF.o).mono ?_
 rintro e w3 ⟨rfl, hb3⟩
 have HB3 : Hi (Below W.heap.size W w3) := Hd ((Below.al (Below.refl _ _) _).trans (hb3.mono (by simp)))
 clear hb3 c0 c2
 go_wp2_with fail
 exact bodyPost_ret (results_one rfl _ _ rfl) rfl ⟨rfl, HB3.o⟩
theorem segs0_ok (gd bf : Nat) (room ops : Int) (W : World) (h : Blk W gd 127 (diskE bf room ops)) (hf : W.heap[bf]? = some (.map #[] 0)) : Calls Tryz.prog 96 #[.pointer (some ⟨gd, 0, none⟩)] W fun e w' => e = .returned (.slice none 0 0) /\ Below W.heap.size W w' := by
 have CN := Hd (names0_ok gd bf room ops W h hf)
 clear h hf
 go_enter Tryz.func96, Tryz.ntmps96
 go_wp2_with fail
 refine CN.o.mono ?_
 rintro e w1 ⟨rfl, hb1⟩
 have HB1 := Hd hb1
 clear hb1
 go_wp2_with fail
 go_loopw [3, 11] (fun l i wr => i = .int .i64 0 /\ l = .slice none 0 0 /\ wr = w1) (fun _ _ _ => 0)
 case atStart => exact ⟨rfl, rfl, rfl⟩
 case round =>
  obtain ⟨rfl, rfl, hwr⟩ := hrel
  obtain rfl : w1 = wr := hwr.symm
  go_wp2_with fail
  refine (AnyM.slices_Sort_int_none Tryz.sort104 none 0 _).mono ?_
  rintro e w2 ⟨rfl, hw⟩
  obtain rfl : w1 = w2 := hw.symm
  go_wp2_with fail
  exact bodyPost_ret (v := .slice none 0 0) (results_one rfl _ _ rfl) rfl ⟨rfl, HB1.o⟩
theorem list0_ok (gd bf : Nat) (room ops : Int) (W : World) (h : Blk W gd 127 (diskE bf room ops)) (hf : W.heap[bf]? = some (.map #[] 0)) : Calls Tryz.prog 102 #[.pointer (some ⟨gd, 0, none⟩)] W fun e w' => e = .returned (.slice none 0 0) /\ Below W.heap.size W w' := by
 have CN := Hd (names0_ok gd bf room ops W h hf)
 clear h hf
 go_enter Tryz.func102, Tryz.ntmps102
 go_wp2_with fail
 refine CN.o.mono ?_
 rintro e w1 ⟨rfl, hb1⟩
 have HB1 := Hd hb1
 clear hb1
 go_wp2_with fail
 go_loopw [3, 11] (fun l i wr => i = .int .i64 0 /\ l = .slice none 0 0 /\ wr = w1) (fun _ _ _ => 0)
 case atStart => exact ⟨rfl, rfl, rfl⟩
 case round =>
  obtain ⟨rfl, rfl, hwr⟩ := hrel
  obtain rfl : w1 = wr := hwr.symm
  go_wp2_with fail
  exact bodyPost_ret (v := .slice none 0 0) (results_one rfl _ _ rfl) rfl ⟨rfl, HB1.o⟩
theorem rev0_ok (W : World) : Calls Tryz.prog 103 #[.slice none 0 0] W fun e w' => e = .returned (.tuple #[]) /\ w' = W := by
 go_enter Tryz.func103, Tryz.ntmps103
 go_wp2_with fail
 go_loopw [2, 3] (fun i j wr => i = .int .i64 0 /\ j = .int .i64 (-1) /\ wr = W) (fun _ _ _ => 0)
 case atStart => exact ⟨rfl, rfl, rfl⟩
 case round =>
  obtain ⟨rfl, rfl, hwr⟩ := hrel
  obtain rfl : W = wr := hwr.symm
  go_wp2_with fail
  go_end0
  exact ⟨rfl, rfl⟩
def logE (gd : Nat) (per nx : Int) (lk : Array Value) : Array Value := (.pointer (some ⟨gd, 0, none⟩) :: .int .i64 per :: .int .i64 1 :: .int .i64 nx :: (lk.toList ++ [.bool false])).toArray
def lk0 : Array Value := (List.replicate 32 (Value.int .u8 0)).toArray
theorem logOpen_ok (gd bf : Nat) (room ops per : Int) (hp : 1 <= per /\ per <= 1000) (W : World) (h : Blk W gd 127 (diskE bf room ops)) (hf : W.heap[bf]? = some (.map #[] 0)) :
 Calls Tryz.prog 48 #[.pointer (some ⟨gd, 0, none⟩), .int .i64 per] W fun e w' => e = .returned (.tuple #[.pointer (some ⟨W.heap.size, 0, none⟩), .slice none 0 0, .int .i64 0]) /\ Below W.heap.size W w' /\ w'.heap[W.heap.size]? = some (.cells (logE gd per 1 lk0) 192) := by
 have CO := Hd (on_ok gd bf room ops W h)
 have CS := Hd (fun w (hb : Below W.heap.size W w) => segs0_ok gd bf room ops w (by unfold Blk; exact (hb.block gd h.lt).trans h) ((hb.block bf (obj_lt hf)).trans hf))
 have d1 : decide (per < 1) = false := by simp; omega
 have d2 : decide (1000 < per) = false := by simp; omega
 clear h hf hp
 go_enter Tryz.func48, Tryz.ntmps48
 go_wp2_with fail
 refine CO.o.mono ?_
 rintro e w1 ⟨rfl, hw⟩
 obtain rfl : W = w1 := hw.symm
 go_wp2_with fail
 refine (CS.o _ (Below.al (Below.refl _ _) _)).mono ?_
 rintro e w2 ⟨rfl, hb2⟩
 have HB2 : Hi (Below W.heap.size W w2) := Hd ((Below.al (Below.refl _ _) _).trans (hb2.mono (by simp)))
 have HL2 : Hi (w2.heap[W.heap.size]? = some (.cells (logE gd per 1 lk0) 192)) := Hd ((hb2.block W.heap.size (by simp)).trans (heap_alloc_new _ _))
 clear hb2
 go_wp2_with fail
 exact bodyPost_ret (results_three rfl _ _ rfl rfl rfl) rfl ⟨rfl, HB2.o, HL2.o⟩
theorem load0_ok (gd bf : Nat) (room ops : Int) (W : World) (h : Blk W gd 127 (diskE bf room ops)) (hf : W.heap[bf]? = some (.map #[] 0)) : Calls Tryz.prog 49 #[.pointer (some ⟨gd, 0, none⟩)] W fun e w' => e = .returned (.tuple #[.int .i64 0, .slice none 0 0, .int .i64 7]) /\ Below W.heap.size W w' := by
 have CO := Hd (on_ok gd bf room ops W h)
 have CL := Hd (list0_ok gd bf room ops W h hf)
 clear h hf
 go_enter Tryz.func49, Tryz.ntmps49
 go_wp2_with fail
 refine CO.o.mono ?_
 rintro e w1 ⟨rfl, hw⟩
 obtain rfl : W = w1 := hw.symm
 go_wp2_with fail
 refine CL.o.mono ?_
 rintro e w2 ⟨rfl, hb2⟩
 have HB2 := Hd hb2
 clear hb2
 go_wp2_with fail
 refine (rev0_ok _).mono ?_
 rintro e w3 ⟨rfl, hw⟩
 obtain rfl : w2 = w3 := hw.symm
 go_wp2_with fail
 go_loopw [23] (fun i wr => i = .int .i64 0 /\ wr = w2) (fun _ _ => 0)
 case atStart => exact ⟨rfl, rfl⟩
 case round =>
  obtain ⟨rfl, hwr⟩ := hrel
  obtain rfl : w2 = wr := hwr.symm
  go_wp2_with fail
  exact bodyPost_ret (results_three rfl _ _ rfl rfl rfl) rfl ⟨rfl, HB2.o⟩
theorem first_ok (gl gd : Nat) (per nx : Int) (lk : Array Value) (W : World) (h : Blk W gl 192 (logE gd per nx lk)) : Calls Tryz.prog 51 #[.pointer (some ⟨gl, 0, none⟩)] W fun e w' => e = .returned (.int .i64 1) /\ w' = W := by
 have c2 : W.cell? ⟨gl, 2, none⟩ = some (.int .i64 1) := h.cell 2
 clear h
 go_enter Tryz.func51, Tryz.ntmps51
 go_wp2_with fail
 exact bodyPost_ret (results_one rfl _ _ rfl) rfl ⟨rfl, rfl⟩
theorem nextL_ok (gl gd : Nat) (per nx : Int) (lk : Array Value) (W : World) (h : Blk W gl 192 (logE gd per nx lk)) : Calls Tryz.prog 52 #[.pointer (some ⟨gl, 0, none⟩)] W fun e w' => e = .returned (.int .i64 nx) /\ w' = W := by
 have c3 : W.cell? ⟨gl, 3, none⟩ = some (.int .i64 nx) := h.cell 3
 clear h
 go_enter Tryz.func52, Tryz.ntmps52
 go_wp2_with fail
 exact bodyPost_ret (results_one rfl _ _ rfl) rfl ⟨rfl, rfl⟩
def bankE (gd gl gm : Nat) (evs : Value) : Array Value := #[.pointer (some ⟨gd, 0, none⟩), .pointer (some ⟨gl, 0, none⟩), .pointer (some ⟨gm, 0, none⟩), evs, .bool false]
def OpenP (gd : Nat) (per day : Int) (W : World) (e : Ending) (w' : World) : Prop := ∃ gb gl, e = .returned (.tuple #[.pointer (some ⟨gb, 0, none⟩), .int .i64 0]) /\ Below W.heap.size W w' /\ W.heap.size <= gl /\ W.heap.size <= gb /\ St0 W.heap.size day w' /\
 w'.heap[gb]? = some (.cells (bankE gd gl (W.heap.size + 7) (.slice none 0 0)) 133) /\ w'.heap[gl]? = some (.cells (logE gd per 1 lk0) 192)
theorem bankOpen_ok (gd bf : Nat) (room ops per day : Int) (hp : 1 <= per /\ per <= 1000) (hd : 1 <= day /\ day <= 3652059) (W : World) (h : Blk W gd 127 (diskE bf room ops)) (hf : W.heap[bf]? = some (.map #[] 0)) :
 Calls Tryz.prog 17 #[.pointer (some ⟨gd, 0, none⟩), .int .i64 per, .int .i64 day] W fun e w' => OpenP gd per day W e w' := by
 have hb0 := h.lt
 have hf0 := obj_lt hf
 have CM := Hd (Mo.new_ok day hd W)
 have CL := Hd (fun w (hb : Below W.heap.size W w) => logOpen_ok gd bf room ops per hp w (by unfold Blk; exact (hb.block gd hb0).trans h) ((hb.block bf hf0).trans hf))
 have CS := Hd (fun w (hb : Below W.heap.size W w) => load0_ok gd bf room ops w (by unfold Blk; exact (hb.block gd hb0).trans h) ((hb.block bf hf0).trans hf))
 clear h hf hp hd hb0 hf0
 go_enter Tryz.func17, Tryz.ntmps17
 go_wp2_with fail
 refine CM.o.mono ?_
 rintro e w1 ⟨rfl, hb1, hs1⟩
 have HB1 := Hd hb1
 have HS1 := Hd hs1
 clear hb1 hs1 CM
 go_wp2_with fail
 refine (CL.o _ HB1.o).mono ?_
 rintro e w2 ⟨rfl, hb2, hl2⟩
 have HB2 : Hi (Below W.heap.size W w2) := Hd (HB1.o.trans (hb2.mono HB1.o.size))
 have HS2 := Hd (HS1.o.step hb2)
 have HL2 := Hd hl2
 have HZ1 := Hd HB1.o.size
 obtain ⟨gl, hgl⟩ : ∃ gl, gl = w1.heap.size := ⟨_, rfl⟩
 rw [<- hgl] at HL2 HZ1 ⊢
 clear hb2 hl2 HS1 HB1 CL hgl
 go_wp2_with fail
 have H3 : Hi (HasO [] W [(w2.heap.size, .cells (bankE gd gl (W.heap.size + 7) (.slice none 0 0)) 133), (gl, .cells (logE gd per 1 lk0) 192)] _) := Hd ((HasO.cons HL2.o (HasO.nil (Keep.of_below HB2.o))).new rfl (.cells (bankE gd gl (W.heap.size + 7) (.slice none 0 0)) 133))
 have HS3 := Hd (HS2.o.step (Below.al (Below.refl _ _) (.cells (bankE gd gl (W.heap.size + 7) (.slice none 0 0)) 133)))
 have HZ2 := Hd HB2.o.size
 obtain ⟨gb, hgb⟩ : ∃ gb, gb = w2.heap.size := ⟨_, rfl⟩
 rw [<- hgb] at H3 HZ2 ⊢
 clear HS2 HB2 HL2 hgb
 refine (CS.o _ H3.o.below).mono ?_
 rintro e w4 ⟨rfl, hb4⟩
 have H4 := Hd (H3.o.step hb4)
 have HS4 := Hd (HS3.o.step hb4)
 clear hb4 H3 HS3 CS
 go_wp2_with fail
 refine (first_ok gl gd per 1 lk0 _ (H4.o.obj 1 rfl)).mono ?_
 rintro e w5 ⟨rfl, hw⟩
 obtain rfl : w4 = w5 := hw.symm
 go_wp2_with fail
 refine (nextL_ok gl gd per 1 lk0 _ (H4.o.obj 1 rfl)).mono ?_
 rintro e w5 ⟨rfl, hw⟩
 obtain rfl : w4 = w5 := hw.symm
 go_wp2_with fail
 go_loopw [73] (fun i wr => i = .int .i64 0 /\ wr = w4) (fun _ _ => 0)
 case atStart => exact ⟨rfl, rfl⟩
 case round =>
  obtain ⟨rfl, hwr⟩ := hrel
  obtain rfl : w4 = wr := hwr.symm
  go_wp2_with fail
  exact bodyPost_ret (results_two rfl _ _ rfl rfl) rfl ⟨gb, gl, rfl, H4.o.below, HZ1.o, HZ2.o, HS4.o, H4.o.obj 0 rfl, H4.o.obj 1 rfl⟩
end Bk
namespace Bk
open Go.RowKit Go.Deep Mp Mo
open Cal (results_one results_two results_three)
def nm (d : UInt8) : ByteArray := ⟨#[108, 48, 48, 48, 48, 48, 48, 48, d]⟩
theorem named_ok (d : UInt8) (hd : d = 48 ∨ d = 49) (W : World) : Calls Tryz.prog 197 #[.string (nm d)] W fun e w' => e = .returned (.bool true) /\ Below W.heap.size W w' := by
 rcases hd with rfl | rfl
 all_goals
  unfold nm
  go_enter Tryz.func197, Tryz.ntmps197
  go_wp2_with fail
  go_loopw [6] (fun i wr => ∃ j : Nat, j <= 9 /\ i = .int .i64 j /\ Hi (Below W.heap.size W wr)) (fun i _ => 9 - (intOf i).toNat)
  case atStart => exact ⟨0, by omega, rfl, Hd (Below.refl _ _)⟩
  case round =>
   obtain ⟨j, hj, rfl, HB⟩ := hrel
   have : j = 0 ∨ j = 1 ∨ j = 2 ∨ j = 3 ∨ j = 4 ∨ j = 5 ∨ j = 6 ∨ j = 7 ∨ j = 8 ∨ j = 9 := by omega
   rcases this with rfl | rfl | rfl | rfl | rfl | rfl | rfl | rfl | rfl | rfl
   case inr.inr.inr.inr.inr.inr.inr.inr.inr =>
    go_wp2_with fail
    exact bodyPost_ret (results_one rfl _ _ rfl) rfl ⟨rfl, HB.o⟩
   all_goals
    go_wp2_with fail
    first | exact ⟨⟨1, by omega, rfl, HB⟩, by simp [intOf]⟩ | exact ⟨⟨2, by omega, rfl, HB⟩, by simp [intOf]⟩ | exact ⟨⟨3, by omega, rfl, HB⟩, by simp [intOf]⟩ | exact ⟨⟨4, by omega, rfl, HB⟩, by simp [intOf]⟩ | exact ⟨⟨5, by omega, rfl, HB⟩, by simp [intOf]⟩ | exact ⟨⟨6, by omega, rfl, HB⟩, by simp [intOf]⟩ | exact ⟨⟨7, by omega, rfl, HB⟩, by simp [intOf]⟩ | exact ⟨⟨8, by omega, rfl, HB⟩, by simp [intOf]⟩ | exact ⟨⟨9, by omega, rfl, HB⟩, by simp [intOf]⟩
def filesE (L : List (UInt8 × Value)) : Array MapEntry := ((L.zip (List.range L.length)).map fun p => { key := .string (nm p.1.1), val := p.1.2, born := p.2 }).toArray
def hasN (L : List (UInt8 × Value)) (d : UInt8) : Bool := L.any (·.1 == d)
def getN (L : List (UInt8 × Value)) (d : UInt8) : Value := ((L.find? (·.1 == d)).map (·.2)).getD (.slice none 0 0)
def LOk2 (L : List (UInt8 × Value)) : Prop := L = [] ∨ (∃ u, L = [(48, u)]) ∨ ∃ u v, L = [(48, u), (49, v)]
theorem lookF {L : List (UInt8 × Value)} (hL : LOk2 L) (d : UInt8) (hd : d = 48 ∨ d = 49) (bf : Nat) (ok : Bool) (w : World) (h : w.heap[bf]? = some (.map (filesE L) L.length)) :
 (Instr.lookup 125 (.map (some bf)) (.string (nm d)) ok).run Tryz.prog w = .ok (if ok then .tuple #[getN L d, .bool (hasN L d)] else getN L d) w := by
 have key := fun r hf => run_lookup1 (P := Tryz.prog) (d := .string) (z := .slice none 0 0) Tryz.underlying125 (by kernel_rfl) (show MapKept.IsKey .string (.string (nm d)) from trivial) (fun w => by first | exact Tryz.zeroValue250 w | exact Tryz.zeroValue250 _) bf (filesE L) L.length r hf ok w h
 rcases hL with rfl | ⟨u, rfl⟩ | ⟨u, v, rfl⟩ <;> rcases hd with rfl | rfl
 . rw [key none rfl]; cases ok <;> rfl
 . rw [key none rfl]; cases ok <;> rfl
 . rw [key (some (0, u)) rfl]; cases ok <;> rfl
 . rw [key none rfl]; cases ok <;> rfl
 . rw [key (some (0, u)) rfl]; cases ok <;> rfl
 . rw [key (some (1, v)) rfl]; cases ok <;> rfl
theorem check_ok (gd bf : Nat) (room ops : Int) (L : List (UInt8 × Value)) (hL : LOk2 L) (d : UInt8) (hd : d = 48 ∨ d = 49) (there : Bool) (ht : there = true -> hasN L d = true) (W : World) (h : Blk W gd 127 (diskE bf room ops)) (hf : W.heap[bf]? = some (.map (filesE L) L.length)) :
 Calls Tryz.prog 146 #[.pointer (some ⟨gd, 0, none⟩), .string (nm d), .bool there] W fun e w' => e = .returned (.int .i64 0) /\ Below W.heap.size W w' := by
 have CN := Hd (named_ok d hd W)
 have CL := Hd (fun w hw => lookF hL d hd bf true w hw)
 have H0 := Hd (HasO.cons h (HasO.cons hf (HasO.start [] W)))
 obtain ⟨s, hs⟩ : ∃ s, s = nm d := ⟨_, rfl⟩
 rw [<- hs] at CN CL ⊢
 obtain ⟨bh, hbh⟩ : ∃ bh, bh = hasN L d := ⟨_, rfl⟩
 obtain ⟨vh, hvh⟩ : ∃ vh, vh = getN L d := ⟨_, rfl⟩
 simp only [if_true] at CL
 rw [<- hbh, <- hvh] at CL
 have hb : there = false ∨ bh = true := by
  cases there with
  | false => exact .inl rfl
  | true => exact .inr (by rw [hbh]; exact ht rfl)
 clear h hf ht hs hbh hvh hd
 go_enter Tryz.func146, Tryz.ntmps146
 go_wp2_with fail
 refine CN.o.mono ?_
 rintro e w1 ⟨rfl, hb1⟩
 have H1 := Hd (H0.o.step hb1)
 have c0 := (H1.o.get 0 rfl).cell 0
 have c2 := (H1.o.get 0 rfl).cell 2
 have hlk := CL.o w1 (H1.o.obj 1 rfl)
 simp only [diskE, List.getElem?_toArray, List.getElem?_cons_succ, List.getElem?_cons_zero] at c0 c2
 clear hb1 H0
 rcases hb with rfl | rfl
 . go_wp2_with fail
   exact bodyPost_ret (results_one rfl _ _ rfl) rfl ⟨rfl, H1.o.below⟩
 . cases there with
   | false =>
     go_wp2_with fail
     exact bodyPost_ret (results_one rfl _ _ rfl) rfl ⟨rfl, H1.o.below⟩
   | true =>
     go_wp2_with fail
     exact bodyPost_ret (results_one rfl _ _ rfl) rfl ⟨rfl, H1.o.below⟩
end Bk
namespace Bk
open Go.RowKit Go.Deep Mp Mo
open Cal (results_one results_two results_three)
theorem doA_ok (gd bf : Nat) (room ops : Int) (ho : 0 <= ops /\ ops <= 1000000000000) (cap : Array Value) (R : World -> Prop) (W : World) (h : Blk W gd 127 (diskE bf room ops))
 (hC : ∀ w, Turn W gd (.cells (diskE bf room (ops + 1)) 127) w -> Calls Tryz.prog 241 cap w fun e w' => e = .returned (.tuple #[]) /\ R w') :
 Calls Tryz.prog 147 #[.pointer (some ⟨gd, 0, none⟩), .func (.func 241) #[] cap] W fun e w' => e = .returned (.int .i64 0) /\ R w' := by
 have c4 := h.cell 4
 have HW := Hd h
 have HC := Hd hC
 simp only [diskE, List.getElem?_toArray, List.getElem?_cons_succ, List.getElem?_cons_zero] at c4
 clear h hC
 go_enter Tryz.func147, Tryz.ntmps147
 go_wp2_with (
  refine wpList_turn rfl 3 (.tmp 11) (.tmp 9) rfl gd 4 (.int .i64 (ops + 1)) rfl rfl 127 (diskE bf room ops) (diskE bf room (ops + 1)) HW.o (by kernel_rfl) (by simp [Value.cells, diskE]) (by simp [Value.cells, Value.oneCell', diskE]) rfl ?_; intro W1 HT1
  have c3 := Blk.cell (show Blk W1 gd 127 (diskE bf room (ops + 1)) from HT1.at_) 3
  simp only [diskE, List.getElem?_toArray, List.getElem?_cons_succ, List.getElem?_cons_zero] at c3
  have HT := Hd HT1
  clear HT1 c4)
 refine (HC.o W1 HT.o).mono ?_
 rintro e w2 ⟨rfl, hr⟩
 have HR := Hd hr
 clear hr
 go_wp2_with fail
 exact bodyPost_ret (results_one rfl _ _ rfl) rfl ⟨rfl, HR.o⟩
theorem doS_ok (gd bf : Nat) (room ops : Int) (ho : 0 <= ops /\ ops <= 1000000000000) (cap : Array Value) (R : World -> Prop) (W : World) (h : Blk W gd 127 (diskE bf room ops))
 (hC : ∀ w, Turn W gd (.cells (diskE bf room (ops + 1)) 127) w -> Calls Tryz.prog 243 cap w fun e w' => e = .returned (.tuple #[]) /\ R w') :
 Calls Tryz.prog 147 #[.pointer (some ⟨gd, 0, none⟩), .func (.func 243) #[] cap] W fun e w' => e = .returned (.int .i64 0) /\ R w' := by
 have c4 := h.cell 4
 have HW := Hd h
 have HC := Hd hC
 simp only [diskE, List.getElem?_toArray, List.getElem?_cons_succ, List.getElem?_cons_zero] at c4
 clear h hC
 go_enter Tryz.func147, Tryz.ntmps147
 go_wp2_with (
  refine wpList_turn rfl 3 (.tmp 11) (.tmp 9) rfl gd 4 (.int .i64 (ops + 1)) rfl rfl 127 (diskE bf room ops) (diskE bf room (ops + 1)) HW.o (by kernel_rfl) (by simp [Value.cells, diskE]) (by simp [Value.cells, Value.oneCell', diskE]) rfl ?_; intro W1 HT1
  have c3 := Blk.cell (show Blk W1 gd 127 (diskE bf room (ops + 1)) from HT1.at_) 3
  simp only [diskE, List.getElem?_toArray, List.getElem?_cons_succ, List.getElem?_cons_zero] at c3
  have HT := Hd HT1
  clear HT1 c4)
 refine (HC.o W1 HT.o).mono ?_
 rintro e w2 ⟨rfl, hr⟩
 have HR := Hd hr
 clear hr
 go_wp2_with fail
 exact bodyPost_ret (results_one rfl _ _ rfl) rfl ⟨rfl, HR.o⟩
theorem empty_ok (W : World) : Calls Tryz.prog 241 #[] W fun e w' => e = .returned (.tuple #[]) /\ w' = W := by
 go_enter Tryz.func241, Tryz.ntmps241
 go_wp2_with fail
 go_end0
 exact ⟨rfl, rfl⟩
theorem done_ok (gl gd : Nat) (per nx : Int) (lk : Array Value) (hlk : lk.size = 32) (W : World) (h : Blk W gl 192 (logE gd per nx lk)) :
 Calls Tryz.prog 205 #[.pointer (some ⟨gl, 0, none⟩), .int .i64 0] W fun e w' => e = .returned (.int .i64 0) /\ Turn W gl (.cells (logE gd per nx lk) 192) w' := by
 have hl32 : lk.toList.length = 32 := by simpa using hlk
 have c36 : W.cell? ⟨gl, 36, none⟩ = some (.bool false) := by
  rw [h.cell 36]
  simp [logE, List.getElem?_append_right, hlk]
 have h36 : 36 + (Value.bool false).cells.size <= (logE gd per nx lk).size := by simp [logE, Value.cells, hlk]
 have hsp : splice (logE gd per nx lk) 36 (Value.bool false).cells = logE gd per nx lk := by
  apply Array.ext'
  simp [splice, logE, Value.cells, hlk]
 have HW := Hd h
 clear h hlk
 go_enter Tryz.func205, Tryz.ntmps205
 go_wp2_with (refine wpList_turn rfl 4 (.tmp 15) (.tmp 13) rfl gl 36 (.bool false) rfl rfl 192 (logE gd per nx lk) (logE gd per nx lk) HW.o (by kernel_rfl) h36 (by simp [Value.cells, Value.oneCell']) hsp ?_; intro W1 HT1)
 exact bodyPost_ret (results_one rfl _ _ rfl) rfl ⟨rfl, HT1⟩
theorem number_ok (n : Int) (W : World) : Calls Tryz.prog 194 #[.int .u32 n] W fun e w' => ∃ xs : List Int, xs.length = 4 /\ (∀ x ∈ xs, 0 <= x /\ x <= 255) /\ e = .returned (.slice (some ⟨W.heap.size, 0, none⟩) 4 4) /\ w' = W.alloc (.cells (nums .u8 xs).toArray 5) := by
 go_enter Tryz.func194, Tryz.ntmps194
 go_wp2_with fail
 refine bodyPost_ret (results_one rfl _ _ rfl) rfl ⟨[_, _, _, _], rfl, ?_, rfl, rfl⟩
 intro x hx
 simp only [List.mem_cons, List.not_mem_nil, or_false] at hx
 omega
theorem setCell_mark (w : World) (c : Array Value) (t : TypeId) (fr : Nat × Nat) (i : Nat) (v : Value) : (w.alloc (.cells c t fr)).setCell ⟨w.heap.size, i, none⟩ v = w.alloc (.cells (c.setIfInBounds i v) t fr) := by
 rw [setCell_eq_setRow _ _ i c t fr v (by show (w.heap.push _)[w.heap.size]? = _; simp)]
 simp only [World.setRow, World.alloc]
 congr 1
 apply Array.ext_getElem?
 intro j
 rw [Array.getElem?_modify]
 by_cases h : w.heap.size = j
 . subst h
   simp
 . have h' : ¬ j = w.heap.size := fun e => h e.symm
   simp [h, h', Array.getElem?_push]
def nmC (d : Int) : Array Value := #[.int .u8 108, .int .u8 48, .int .u8 48, .int .u8 48, .int .u8 48, .int .u8 48, .int .u8 48, .int .u8 48, .int .u8 d]
theorem name_ok (k : Int) (hk : k = 0 ∨ k = 1) (W : World) : Calls Tryz.prog 99 #[.int .i64 k] W fun e w' => e = .returned (.string (nm (if k = 0 then 48 else 49))) /\ Below W.heap.size W w' := by
 have kc := fun (w : World) (C : Array Value) (n c : Nat) => Lib.run_convert_bytes_const (P := Tryz.prog) w 134 5 C n c Tryz.underlying134 Tryz.underlying5
 obtain ⟨sn, hsn⟩ : ∃ sn, sn = nm (if k = 0 then 48 else 49) := ⟨_, rfl⟩
 rw [<- hsn]
 go_enter Tryz.func99, Tryz.ntmps99
 go_wp2_with fail
 go_loopw [4, 0] (fun i kk wr => (i = .int .i64 8 /\ kk = .int .i64 k /\ wr = W.alloc (.cells (nmC 48) 5 (9, 10))) ∨ ∃ j : Nat, j <= 7 /\ i = .int .i64 j /\ kk = .int .i64 0 /\ wr = W.alloc (.cells (nmC (48 + k)) 5 (9, 10))) (fun i _ _ => (intOf i).toNat)
 case atStart => exact .inl ⟨rfl, rfl, rfl⟩
 case round =>
  have fz : ∀ (C : Array Value) (i : Nat), i < 9 -> (W.alloc (.cells C 5 (9, 10))).frozen? ⟨W.heap.size, i, none⟩ = false := fun C i hi => by rw [World.frozen?_alloc_mark]; simp; omega
  have ce : ∀ (C : Array Value) (i : Nat), (W.alloc (.cells C 5 (9, 10))).cell? ⟨W.heap.size, i, none⟩ = C[i]? := fun C i => World.cell?_alloc_mark W C 5 (9, 10) i
  have sm := fun (C : Array Value) (i : Nat) (v : Value) => setCell_mark W C 5 (9, 10) i v
  rcases hrel with ⟨rfl, rfl, rfl⟩ | ⟨j, hj, rfl, rfl, rfl⟩
  . have c8 := ce (nmC 48) 8
    have f8 := fz (nmC 48) 8 (by omega)
    simp only [nmC, List.getElem?_toArray, List.getElem?_cons_succ, List.getElem?_cons_zero] at c8 f8
    unfold nmC
    rcases hk with rfl | rfl
    . go_wp2_with fail
      refine ⟨.inr ⟨7, by omega, rfl, rfl, ?_⟩, by simp [intOf]⟩
      rfl
    . go_wp2_with fail
      refine ⟨.inr ⟨7, by omega, rfl, rfl, ?_⟩, by simp [intOf]⟩
      rfl
  . have : j = 0 ∨ j = 1 ∨ j = 2 ∨ j = 3 ∨ j = 4 ∨ j = 5 ∨ j = 6 ∨ j = 7 := by omega
    have hcv : Sem.run Tryz.prog (convert 134 9 (.slice (some ⟨W.heap.size, 0, none⟩) 9 9)) (W.alloc (.cells (nmC (48 + k)) 5 (9, 10))) = .ok (.string (nm (if k = 0 then 48 else 49))) (W.alloc (.cells (nmC (48 + k)) 5 (9, 10))) := by
     rcases hk with rfl | rfl
     . exact Lib.run_convert_whole (W.alloc (.cells (nmC (48 + 0)) 5 (9, 10))) 134 5 9 Tryz.underlying134 Tryz.underlying5 Tryz.underlying9 W.heap.size 0 (nm 48) (fun i hi => by
        rw [Nat.zero_add, ce]
        have : i < 9 := hi
        have : i = 0 ∨ i = 1 ∨ i = 2 ∨ i = 3 ∨ i = 4 ∨ i = 5 ∨ i = 6 ∨ i = 7 ∨ i = 8 := by omega
        rcases this with rfl | rfl | rfl | rfl | rfl | rfl | rfl | rfl | rfl <;> rfl) 9
     . exact Lib.run_convert_whole (W.alloc (.cells (nmC (48 + 1)) 5 (9, 10))) 134 5 9 Tryz.underlying134 Tryz.underlying5 Tryz.underlying9 W.heap.size 0 (nm 49) (fun i hi => by
        rw [Nat.zero_add, ce]
        have : i < 9 := hi
        have : i = 0 ∨ i = 1 ∨ i = 2 ∨ i = 3 ∨ i = 4 ∨ i = 5 ∨ i = 6 ∨ i = 7 ∨ i = 8 := by omega
        rcases this with rfl | rfl | rfl | rfl | rfl | rfl | rfl | rfl | rfl <;> rfl) 9
    have c1 := ce (nmC (48 + k)) 1
    have f1 := fz (nmC (48 + k)) 1 (by omega)
    have c2 := ce (nmC (48 + k)) 2
    have f2 := fz (nmC (48 + k)) 2 (by omega)
    have c3 := ce (nmC (48 + k)) 3
    have f3 := fz (nmC (48 + k)) 3 (by omega)
    have c4 := ce (nmC (48 + k)) 4
    have f4 := fz (nmC (48 + k)) 4 (by omega)
    have c5 := ce (nmC (48 + k)) 5
    have f5 := fz (nmC (48 + k)) 5 (by omega)
    have c6 := ce (nmC (48 + k)) 6
    have f6 := fz (nmC (48 + k)) 6 (by omega)
    have c7 := ce (nmC (48 + k)) 7
    have f7 := fz (nmC (48 + k)) 7 (by omega)
    obtain ⟨dk, hdk⟩ : ∃ dk, dk = 48 + k := ⟨_, rfl⟩
    rw [<- hsn] at hcv
    rw [<- hdk] at hcv c1 f1 c2 f2 c3 f3 c4 f4 c5 f5 c6 f6 c7 f7 ⊢
    clear hsn hdk hk kc fz ce
    simp only [nmC, List.getElem?_toArray, List.getElem?_cons_succ, List.getElem?_cons_zero] at hcv c1 f1 c2 f2 c3 f3 c4 f4 c5 f5 c6 f6 c7 f7
    unfold nmC
    rcases this with rfl | rfl | rfl | rfl | rfl | rfl | rfl | rfl
    . go_wp2_with fail
      exact bodyPost_ret (results_one rfl _ _ rfl) rfl ⟨rfl, Below.al (Below.refl _ _) _⟩
    all_goals
     clear hcv
     go_wp2_with fail
     first | exact ⟨.inr ⟨0, by omega, rfl, (by first | rfl | trivial), (by first | exact ⟨rfl, rfl⟩ | rfl | trivial)⟩, by simp [intOf]⟩ | exact ⟨.inr ⟨1, by omega, rfl, (by first | rfl | trivial), (by first | exact ⟨rfl, rfl⟩ | rfl | trivial)⟩, by simp [intOf]⟩ | exact ⟨.inr ⟨2, by omega, rfl, (by first | rfl | trivial), (by first | exact ⟨rfl, rfl⟩ | rfl | trivial)⟩, by simp [intOf]⟩ | exact ⟨.inr ⟨3, by omega, rfl, (by first | rfl | trivial), (by first | exact ⟨rfl, rfl⟩ | rfl | trivial)⟩, by simp [intOf]⟩ | exact ⟨.inr ⟨4, by omega, rfl, (by first | rfl | trivial), (by first | exact ⟨rfl, rfl⟩ | rfl | trivial)⟩, by simp [intOf]⟩ | exact ⟨.inr ⟨5, by omega, rfl, (by first | rfl | trivial), (by first | exact ⟨rfl, rfl⟩ | rfl | trivial)⟩, by simp [intOf]⟩ | exact ⟨.inr ⟨6, by omega, rfl, (by first | rfl | trivial), (by first | exact ⟨rfl, rfl⟩ | rfl | trivial)⟩, by simp [intOf]⟩
end Bk
end Go.Proofs.YtkdnebalpdebeaaGreatDoor
