/- Lemmas of a claim: RefD, DayA, DayC -/
import Derived.Test.YtkdnebalpdebeaaGreatDoorG33
import Derived.Test.YtkdnebalpdebeaaGreatDoorG34
set_option linter.unusedVariables false
set_option linter.unusedSimpArgs false
set_option maxHeartbeats 16000000
set_option maxRecDepth 100000
namespace Go.Proofs.YtkdnebalpdebeaaGreatDoor
namespace Dec
theorem ref_day {b r n D mode : Int} (hb : 0 <= b) (hr : 0 <= r) (hn : 0 <= n) (hD : 0 <= D) : Acc.dayG b r n D mode = ((roundN mode false (b.toNat * r.toNat * n.toNat * 1000000) (D.toNat * 1000000000) : Nat) : Int) := by
 obtain ⟨B, rfl⟩ := Int.eq_ofNat_of_zero_le hb
 obtain ⟨R, rfl⟩ := Int.eq_ofNat_of_zero_le hr
 obtain ⟨N, rfl⟩ := Int.eq_ofNat_of_zero_le hn
 obtain ⟨E, rfl⟩ := Int.eq_ofNat_of_zero_le hD
 have h := roundN_scale mode false (B * R * N) (E * 1000) 1000000 (by omega)
 rw [show E * 1000 * 1000000 = E * 1000000000 by omega] at h
 unfold Acc.dayG
 rw [show ((B : Int) * R * N).natAbs = B * R * N by rw [Int.natAbs_mul, Int.natAbs_mul]; rfl, show ((1000 : Int) * E).natAbs = E * 1000 by rw [Int.natAbs_mul, Nat.mul_comm]; rfl]
 simp only [Int.toNat_natCast]
 rw [h]
end Dec
namespace Big
open Go.RowKit Go.Deep Mp
def tierZ : Array Value := #[.int .i64 0, .int .i64 0]
def tierR (r : Int) : Array Value := #[.int .i64 0, .int .i64 r]
theorem parts_ok (b r : Int) (g c : Nat) (hb : 0 <= b /\ b <= 9223372036854775807) (W : World) (hg : W.heap[g]? = some (.cells (tierR r) 31)) :
 Calls Tryz.prog 30 #[.int .i64 b, .slice (some ⟨g, 0, none⟩) 1 c] W fun e w' => (∃ G cap, e = .returned (.slice (some ⟨G, 0, none⟩) 1 cap) /\ w'.cell? ⟨G, 0, none⟩ = some (.int .i64 b)) /\ Below W.heap.size W w' := by
 obtain ⟨b0, b1⟩ := hb
 have HG := Hd hg
 clear hg
 go_enter Tryz.func30, Tryz.ntmps30
 go_wp2_with fail
 go_loopw [5, 11] (fun v i wr => (v = .slice none 0 0 /\ i = .int .i64 0 /\ wr = W) ∨ (i = .int .i64 1 /\ (∃ G cap, v = .slice (some ⟨G, 0, none⟩) 1 cap /\ wr.cell? ⟨G, 0, none⟩ = some (.int .i64 b)) /\ Hi (Below W.heap.size W wr))) (fun _ i _ => (1 - intOf i).toNat)
 case atStart => exact .inl ⟨rfl, rfl, rfl⟩
 case round =>
  rcases hrel with ⟨rfl, rfl, hw⟩ | ⟨rfl, ⟨G, cap, rfl, hc⟩, HB⟩
  . obtain rfl := hw.symm
    clear hw
    have H1 := Hd ((HasO.cons HG.o (HasO.start [] W)).new (g := W.heap.size) rfl (.cells tierZ 31))
    go_wp2_with (first
     | (refine wpListG_part rfl 31 (.tmp 14) rfl g 0 rfl 31 (tierR r) (tierR r) _ HG.o (by intro j v hv; simpa using hv) Tryz.underlying31 rfl (by kernel_rfl) ?_)
     | refine wpList_turn rfl 31 (.tmp 7) (.tmp 15) rfl W.heap.size 0 (.agg (tierR r)) rfl rfl 31 tierZ (tierR r) (H1.o.get 0 rfl) (by kernel_rfl) (by simp [Value.cells, tierZ, tierR]) (by simp [Value.cells, Value.oneCell', tierZ, tierR]) rfl ?_; intro W3 HT3
     | (refine wpListG_cell rfl 2 (.tmp 40) rfl W.heap.size 0 rfl 31 (tierR r) (.int .i64 0) rfl _ HT3.at_ Tryz.underlying2 rfl ?_))
    have hmx : max b 0 = b := by omega
    rw [hmx]
    have hb3 : Below W.heap.size W W3 := (H1.o.1.trans HT3.keep (S := []) (by intro k hk; simp only [List.mem_singleton] at hk; subst hk; exact .inr (Nat.le_refl _))).below
    go_roundw
    case rel =>
     refine .inr ⟨rfl, ⟨W3.heap.size + 1, _, rfl, ?_⟩, Hd ?_⟩
     . show World.cell? (World.alloc (W3.alloc (.cells #[.int .i64 b] 2)) _) ⟨W3.heap.size + 1, 0, none⟩ = _
       rw [show W3.heap.size + 1 = (W3.alloc (.cells #[.int .i64 b] 2)).heap.size by simp, Blk.cell (heap_alloc_new _ _) 0, Array.getElem?_append_left (by simp)]
       rfl
     . exact (Below.al (Below.al hb3 _) _).drew
    case measure => simp [intOf]
  . go_wp2_with fail
    go_ret
    exact ⟨⟨G, cap, rfl, hc⟩, HB.o⟩
end Big
namespace Big
open Go.RowKit Go.Deep Mp
theorem short_ok (v : Value) (a : Nat) (w : World) (ha : a <= 9223372036854775807) (hv : IV w v a) :
 Calls Tryz.prog 9 #[v] w fun e w' => e = .returned (.int .i64 (a : Int)) /\ Below w.heap.size w w' := by
 have CS := Hd (fun w' (hb : Below w.heap.size w w') => small_ok v a w' ha (hv.step hb))
 obtain ⟨A, c, rfl, hc, hA⟩ := hv
 obtain ⟨l, hl⟩ : ∃ l, l = (digits a).length := ⟨_, rfl⟩
 rw [<- hl] at CS ⊢
 have H1 := Hd ((HasO.start [] w).new rfl (.cells #[.bool false, .slice A l c] 43))
 clear hl hA hc
 go_enter Tryz.func9, Tryz.ntmps9
 go_wp2_with (refine wpListG_row rfl 43 (.tmp 1) rfl w.heap.size rfl 43 #[.bool false, .slice A l c] _ (H1.o.get 0 rfl) Tryz.underlying43 rfl (by kernel_rfl) ?_)
 refine (CS.o _ H1.o.1.below).mono ?_
 rintro e w2 ⟨rfl, hb2⟩
 have hb := H1.o.1.below.trans (hb2.mono H1.o.size)
 go_wp2_with fail
 exact bodyPost_ret (Cal.results_one rfl _ _ rfl) rfl ⟨rfl, hb⟩
end Big
end Go.Proofs.YtkdnebalpdebeaaGreatDoor
