import Derived.Test.YtipbnjcgololpaaLib
/-! passbook/passbookref01.SameBytes: are two lists alike? -/
namespace Go.Proofs.Ytipbnjcgololpaa.SameBytes
open Go.RowKit Go.Deep
set_option linter.unusedVariables false
set_option maxHeartbeats 1000000 in
theorem any (B : Nat) (P Q : Option Addr) (ca cb : Nat) (xs ys : List Int) (w : World) (hx : RI w B .u8 P xs) (hy : RI w B .u8 Q ys) (hs : xs.length ≤ 9223372036854775807) (hs' : ys.length ≤ 9223372036854775807) :
    Calls Try.prog 25 #[.slice P xs.length ca, .slice Q ys.length cb] w fun e w' => e = .returned (.bool (decide (xs = ys))) ∧ Drew w w' := by
  have HX := Lib.hid hx
  have HY := Lib.hid hy
  clear hx hy
  by_cases hl : xs.length = ys.length
  · have hl1 : ((xs.length : Int) != (ys.length : Int)) = false := by simp [hl]
    have hl2 : (xs.length == ys.length) = true := by simp [hl]
    have HL := Lib.hid hl
    clear hl
    go_enter Try.func25, Try.ntmps25
    go_wp2
    repeat (go_quiet (fail); try go_wp2)
    go_loopw [13] (fun i wr => ∃ k : Nat, k ≤ xs.length ∧ i = .int .i64 k ∧ Hid (∀ j, j < k → rd xs j = rd ys j) ∧ Drew w wr) (fun i _ => xs.length - (intOf i).toNat)
    case atStart => exact ⟨0, Nat.zero_le _, rfl, Lib.hid (fun j hj => absurd hj (by omega)), by repeat (first | exact Drew.refl _ | apply Drew.step)⟩
    case round =>
      obtain ⟨k, hk, rfl, HE, ⟨q, rfl⟩⟩ := hrel
      by_cases hlt : k < xs.length
      · obtain ⟨ad, rfl, _, hca⟩ := HX.out.one hlt
        obtain ⟨bd, rfl, _, hcb⟩ := HY.out.one (j := k) (by have := HL.out; omega)
        have hlt2 : k < ys.length := by have := HL.out; omega
        cases he : (rd xs k == rd ys k) with
        | true =>
          have he' : (rd xs k != rd ys k) = false := by rw [bne, he]; rfl
          go_wp2
          repeat (go_quiet (fail); try go_wp2)
          go_roundw
          case rel => exact ⟨k + 1, by omega, by go_num, Lib.hid (fun j hj => by
            by_cases e : j = k
            · subst e; simpa using he
            · exact HE.out j (by omega)), by repeat (first | exact Drew.refl _ | apply Drew.step)⟩
          case measure => simp [intOf]; omega
        | false =>
          have he' : (rd xs k != rd ys k) = true := by rw [bne, he]; rfl
          have hne : decide (xs = ys) = false := by
            refine decide_eq_false fun h => ?_
            subst h; simp at he
          have HN := Lib.hid hne
          clear hne
          go_wp2
          repeat (go_quiet (fail); try go_wp2)
          go_ret
          exact ⟨by rw [HN.out]; rfl, by repeat (first | exact Drew.refl _ | apply Drew.step)⟩
      · have hyes : decide (xs = ys) = true := decide_eq_true (decide_lists HL.out (fun j hj => HE.out j (by omega)))
        have HN := Lib.hid hyes
        clear hyes
        go_wp2
        go_ret
        exact ⟨by rw [HN.out]; rfl, by repeat (first | exact Drew.refl _ | apply Drew.step)⟩
  · have hl1 : ((xs.length : Int) != (ys.length : Int)) = true := by simp; omega
    have hl2 : (xs.length == ys.length) = false := by simp [hl]
    have hne : decide (xs = ys) = false := decide_eq_false fun h => hl (by rw [h])
    have HN := Lib.hid hne
    clear hne hl
    go_enter Try.func25, Try.ntmps25
    go_wp2
    repeat (go_quiet (fail); try go_wp2)
    go_ret
    exact ⟨by rw [HN.out]; rfl, by repeat (first | exact Drew.refl _ | apply Drew.step)⟩
theorem same (B : Nat) (P Q : Option Addr) (n m ca cb : Nat) (xs ys : List Int) (w : World) (hx : RI w B .u8 P xs) (hy : RI w B .u8 Q ys) (hs : xs.length ≤ 9223372036854775807) (h : xs = ys) (hn : xs.length = n) (hm : ys.length = m) :
    Calls Try.prog 25 #[.slice P n ca, .slice Q m cb] w fun e w' => e = .returned (.bool true) ∧ Drew w w' := by
  subst hn hm h
  have := any B P Q ca cb xs xs w hx hy hs hs
  rwa [decide_eq_true rfl] at this
end Go.Proofs.Ytipbnjcgololpaa.SameBytes
