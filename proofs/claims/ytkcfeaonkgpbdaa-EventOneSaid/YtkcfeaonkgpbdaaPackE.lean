import Derived.Test.YtkcfeaonkgpbdaaPackD
/-! the document's own reading: the walks -/
namespace Go.Proofs.Ytkcfeaonkgpbdaa.Pack
open Go.RowKit Go.Deep
set_option linter.unusedVariables false
set_option maxRecDepth 100000 in
set_option maxHeartbeats 2000000 in
theorem docreaduint_ok (P : Option Addr) (c : Nat) (xs : List Int) (w : World) (hx : RI w w.heap.size .u8 P xs) (hc : xs.length ≤ c) (hl : xs.length ≤ 9223372036854775807) (hb : Byt xs) :
    Calls Try.prog 29 #[.slice P xs.length c] w fun e w' => e = .returned (.tuple #[.int .u64 (rdU xs).1, .int .i64 (rdU xs).2.1, .int .i64 (rdU xs).2.2]) ∧ Below w.heap.size w w' := by
  have HX := Lib.hid hx
  have HB := Lib.hid hb
  clear hx hb
  go_enter Try.func29, Try.ntmps29
  go_wp2
  go_loop [5, 6, 7] (fun n p i => ∃ (k : Nat) (m pl : Int), i = .int .i64 k ∧ n = .int .u64 m ∧ p = .int .u64 pl ∧ k ≤ 10 ∧ k ≤ xs.length ∧ 0 ≤ m ∧ 0 ≤ pl ∧ Hid (m = val (xs.take k) % 18446744073709551616) ∧ Hid (pl = 128 ^ k % 18446744073709551616) ∧ Hid (∀ j, j < k → 128 ≤ rd xs j)) (fun _ _ i => 10 - (intOf i).toNat)
  case atStart => exact ⟨0, 0, 1, rfl, rfl, rfl, by omega, by omega, by omega, by omega, Lib.hid (by simp [val]), Lib.hid (by simp), Lib.hid (fun j hj => absurd hj (by omega))⟩
  case round =>
    obtain ⟨k, m, pl, rfl, rfl, rfl, hk, hkl, hm0, hp0, HM, HP, HJ⟩ := hrel
    by_cases hlt : k < xs.length
    · by_cases hk10 : k < 10
      · obtain ⟨ad, rfl, _, hca⟩ := HX.out.one hlt
        have hby : 0 ≤ rd xs k ∧ rd xs k ≤ 255 := by rw [rd_get hlt]; exact HB.out _ (List.getElem_mem hlt)
        obtain ⟨hb0, hb1⟩ := hby
        have hs : xs.take (k + 1) = xs.take k ++ [rd xs k] := by rw [List.take_succ_eq_append_getElem hlt, rd_get hlt]
        have hv : IntKind.u64.wrap (m + IntKind.u64.wrap (rd xs k % 128 * pl)) = val (xs.take (k + 1)) % 18446744073709551616 := by
          rw [HM.out, HP.out, doc_wrap, hs, val_snoc]
          simp only [List.length_take, show min k xs.length = k from by omega]
        have HV := Lib.hid hv
        have HBe : Hid (∃ b, b = rd xs k) := Lib.hid ⟨_, rfl⟩
        clear hv hs
        by_cases hb128 : rd xs k < 128
        · have hh := doc_hit HB.out hlt HJ.out hb128 hk10
          generalize hN : val (xs.take (k + 1)) % 18446744073709551616 = N at *
          have hN0 : 0 ≤ N ∧ N < 18446744073709551616 := by omega
          have HH := Lib.hid hh
          clear hh hN
          go_wp2_with fail
          rw [HV.out]
          refine (refuint_ok N _ hN0.1 hN0.2).mono ?_
          rintro e w1 ⟨v1, rfl, hown, hb1⟩
          have s1 := hb1.size
          obtain ⟨Q, cq, rfl⟩ := own_slice hown
          have hrq := (RI.of_own hown).2
          have hlq := enc_len N
          have hr1 := HX.out.below hb1
          have HR := Lib.hid hr1
          have HQ := Lib.hid hrq
          clear hr1 hrq hown
          go_wp2_with fail
          refine (front_ok (some ad) Q c cq w1.heap.size xs (enc N) _ (HR.out.more s1) HQ.out hc hl (by omega)).mono ?_
          rintro e w2 ⟨rfl, q, rfl⟩
          by_cases h1 : xs.take (enc N).length = enc N
          · have d1 : decide (xs.take (enc N).length = enc N) = true := decide_eq_true h1
            have H1 := Lib.hid h1
            clear h1
            rw [d1]
            clear d1
            by_cases h2 : (enc N).length = k + 1
            · have d2 : (((enc N).length : Int) == (k : Int) + 1) = true := by simp; omega
              have H2 := Lib.hid h2
              clear h2
              go_wp2
              go_ret3
              refine ⟨ret3 ?_, below_drewN hb1 _⟩
              rw [rdU_some (by rw [HH.out, if_pos ⟨H1.out, H2.out⟩])]
              rfl
            · have d2 : (((enc N).length : Int) == (k : Int) + 1) = false := by simp; omega
              have H2 := Lib.hid h2
              clear h2
              go_wp2
              go_ret3
              refine ⟨ret3 ?_, below_drewN hb1 _⟩
              rw [rdU_none (by rw [HH.out, if_neg (fun h => H2.out h.2)])]
          · have d1 : decide (xs.take (enc N).length = enc N) = false := decide_eq_false h1
            have H1 := Lib.hid h1
            clear h1
            rw [d1]
            clear d1
            go_wp2
            go_ret3
            refine ⟨ret3 ?_, below_drewN hb1 _⟩
            rw [rdU_none (by rw [HH.out, if_neg (fun h => H1.out h.1)])]
        · go_wp2
          go_round
          case rel =>
            refine ⟨k + 1, _, _, by go_num, rfl, rfl, by omega, by omega, ?_, ?_, Lib.hid HV.out, Lib.hid ?_, Lib.hid (fun j hj => ?_)⟩
            · rw [IntKind.wrap_u64]; omega
            · rw [IntKind.wrap_u64]; omega
            · rw [HP.out, doc_place, Int.pow_succ]
            · by_cases e : j = k
              · subst e; omega
              · exact HJ.out j (by omega)
          case measure => simp [intOf]; omega
      · go_wp2
        go_ret3
        refine ⟨ret3 ?_, Below.refl _ _⟩
        rw [rdU_none]
        exact doc_miss HB.out (.inr (by omega)) HJ.out
    · go_wp2
      go_ret3
      refine ⟨ret3 ?_, Below.refl _ _⟩
      rw [rdU_none]
      exact doc_miss (k := k) HB.out (.inl (by omega)) HJ.out
end Go.Proofs.Ytkcfeaonkgpbdaa.Pack
