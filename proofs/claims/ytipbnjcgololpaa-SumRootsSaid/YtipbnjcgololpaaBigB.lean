import Derived.Test.YtipbnjcgololpaaBigA
/-! the document's natural numbers: Left -/
namespace Go.Proofs.Ytipbnjcgololpaa.Big
open Go.RowKit Go.Deep
set_option linter.unusedVariables false
set_option linter.unusedSimpArgs false
theorem callsCast {P : Program} {f : FuncId} {args args' : Array Value} {w : World} {R : Ending → World → Prop} (h : Calls P f args w R) (e : args = args') : Calls P f args' w R := e ▸ h
theorem left_step (s x cy : Nat) (hs : s < 32) (hx : x < 4294967296) (hc : cy < 4294967296) : x * 2 ^ s + cy < 18446744073709551616 ∧ (x * 2 ^ s + cy) / 4294967296 < 4294967296 := by
  have h1 : (2 : Nat) ^ s ≤ 2147483648 := by
    have := Nat.pow_le_pow_right (n := 2) (by omega) (show s ≤ 31 by omega)
    simpa using this
  have h2 : x * 2 ^ s ≤ 4294967295 * 2147483648 := Nat.mul_le_mul (by omega) h1
  omega
set_option maxRecDepth 100000 in
set_option maxHeartbeats 4000000 in
theorem left_ok (P : Option Addr) (c a n : Nat) (w : World) (hx : Holds w w.heap.size P a) (hn : n ≤ 1048576) (hl : (digits a).length ≤ 1048576) :
    Calls Try.prog 26 #[.slice P (digits a).length c, .int .i64 (n : Int)] w fun e w' => ∃ v, e = .returned v ∧ Made w w' v (a * 2 ^ n) := by
  have HX := Lib.hid (show RI w w.heap.size .u64 P (toI (digits a)) from hx)
  have HD := Lib.hid (digits_lt a)
  have HV := Lib.hid (val_digits a)
  clear hx
  generalize digits a = l at *
  obtain ⟨i0, hi0, hz0, hz1, hz2⟩ := info_parts info64
  obtain ⟨m, hm⟩ : ∃ m : Nat, m = n / 32 := ⟨_, rfl⟩
  obtain ⟨s, hs⟩ : ∃ s : Nat, s = n % 32 := ⟨_, rfl⟩
  have hs32 : s < 32 := by omega
  have hm2 : m ≤ 1048576 := by omega
  have hq : (n : Int) / 32 = m := by omega
  have hr : (n : Int) % 32 = s := by omega
  have hnm : n = 32 * m + s := by omega
  have HNM := Lib.hid hnm
  clear hm hs hnm
  go_enter Try.func26, Try.ntmps26
  go_wp2_with (refine wpList_make_full _ rfl (.tmp 10) (.tmp 10) 47 rfl w.heap.size 40 _ (.int .u64 0) 1 Try.underlying47 hi0 hz0 hz1 .i64 .i64 (m : Int) (m : Int) m rfl rfl rfl rfl (by rw [hz2]; omega) (by simp only [maxLen]; omega) (Nat.le_refl _) ?_; intro w2 hown hgr)
  rw [show (madeCells (Value.int .u64 0).cells (m * 1)).toList = nums .u64 (toI (List.replicate m 0)) from by rw [Nat.mul_one]; exact (toList_madeCells_one _ _).trans (by simp [nums, toI])] at hown
  have b2 : Below w.heap.size w w2 := (Below.refl _ _).grown hgr (Nat.le_refl _) (by simp)
  have HO := Lib.hid hown
  clear hown hgr hq
  go_loopw [5, 6, 14] (fun v y i wr => ∃ (k cy : Nat) (A : Option Addr) (c' q : Nat) (done : List Nat), i = .int .i64 k ∧ k ≤ l.length ∧ y = .int .u64 cy ∧ cy < 4294967296 ∧ v = .slice A q c' ∧ q = m + k ∧ Hid (done.length = q) ∧ Hid (wr.ownsRow w.heap.size 40 1 (.slice A q c') q (nums .u64 (toI done))) ∧ Hid (∀ d ∈ done, d < 4294967296) ∧
      Hid (val done + 4294967296 ^ q * cy = 4294967296 ^ m * (2 ^ s * val (l.take k))) ∧ Below w.heap.size w wr) (fun _ _ i _ => l.length - (intOf i).toNat)
  case atStart => exact ⟨0, 0, _, m, m, List.replicate m 0, rfl, by omega, rfl, by omega, rfl, rfl, Lib.hid (by simp), HO, Lib.hid (by intro d hd; rw [List.eq_of_mem_replicate hd]; omega), Lib.hid (by simp [val_zeros, val]), b2⟩
  case round =>
    clear b2 HO
    obtain ⟨k, cy, A, c', q, done, rfl, hk, rfl, hcy, rfl, hqk, HL, HO, HB, HE, hbl⟩ := hrel
    have hs0 := hbl.size
    by_cases hlt : k < l.length
    · obtain ⟨ad, rfl, _, hcell⟩ := (HX.out.below hbl).one (j := k) (by rw [toI_length]; exact hlt)
      rw [rd_toI hlt] at hcell
      have hxlt := HD.out _ (List.getElem_mem hlt)
      rw [show l[k] = l.getD k 0 from by simp [List.getD, hlt]] at hxlt
      have hst := left_step s _ cy hs32 hxlt hcy
      have hvt := val_take_succ hlt
      obtain ⟨x, hx⟩ : ∃ x, x = l.getD k 0 := ⟨_, rfl⟩
      rw [← hx] at hcell hxlt hst hvt
      obtain ⟨t, ht⟩ : ∃ t, t = x * 2 ^ s := ⟨_, rfl⟩
      rw [← ht] at hst
      have hti : (x : Int) * 2 ^ s = (t : Int) := by rw [ht]; push_cast; rfl
      have HT := Lib.hid ht
      have HVT := Lib.hid hvt
      obtain ⟨T, hT⟩ : ∃ T, T = t + cy := ⟨_, rfl⟩
      have hwr : IntKind.u64.wrap (IntKind.u64.wrap (t : Int) + (cy : Int)) = (T : Int) := by
        rw [IntKind.wrap_u64, IntKind.wrap_u64, hT]; omega
      have hTd : T / 4294967296 < 4294967296 := by rw [hT]; exact hst.2
      have HTT := Lib.hid hT
      have HTD := Lib.hid hTd
      have HQ := Lib.hid hqk
      have hqb : (q + 1) * 8 ≤ 140737488355328 := by omega
      have hL := HL.out
      have HOO := Lib.hid (show wr.ownsRow w.heap.size 40 1 (.slice A q c') (toI done).length (nums .u64 (toI done)) by rw [toI_length, hL]; exact HO.out)
      clear ht hx hvt hst hqk hT hTd hL
      go_wp2_with (at_builtin; refine wpList_app1 wr rfl (.tmp 24) (.tmp 27) _ rfl w.heap.size 40 .u64 8 Try.underlying47 info64 (by omega) (.slice A q c') (toI done) HOO.out rfl ((T : Int) % 4294967296) rfl (by rw [toI_length, HL.out]; exact hqb) hs0 ?_; intro v3 w3 hown3 hg3 hat3)
      obtain ⟨A3, c3, rfl⟩ := own_slice hown3
      have b3 := below_own hbl hg3 HO.out (Nat.le_refl _) hs0
      go_roundw
      case rel =>
        have e : toI done ++ [(T : Int) % 4294967296] = toI (done ++ [T % 4294967296]) := by rw [toI_app]; simp [toI]
        have hE := HE.out
        refine ⟨k + 1, T / 4294967296, A3, c3, _, done ++ [T % 4294967296], by go_num, by omega, by rw [show IntKind.u64.wrap ((T : Int) / 4294967296) = ((T / 4294967296 : Nat) : Int) from by rw [IntKind.wrap_u64]; have := HTD.out; omega], HTD.out, rfl, by simp [toI_length, HL.out, HQ.out]; omega, Lib.hid (by simp [toI_length]), Lib.hid (by rw [e] at hown3; simpa [toI_length] using hown3), Lib.hid ?_, Lib.hid ?_, b3⟩
        · intro d hd
          rcases List.mem_append.1 hd with h | h
          · exact HB.out d h
          · obtain rfl := List.mem_singleton.1 h; omega
        · rw [val_app, HL.out, HVT.out]
          have hq2 : (toI done ++ [(T : Int) % 4294967296]).length = q + 1 := by simp [toI_length, HL.out]
          rw [hq2, Nat.pow_succ]
          simp only [val, Nat.mul_zero, Nat.add_zero]
          have hTT : T = x * 2 ^ s + cy := by rw [HTT.out, HT.out]
          have e3 : 4294967296 ^ q * (T % 4294967296) + 4294967296 ^ q * 4294967296 * (T / 4294967296) = 4294967296 ^ q * T := by
            rw [Nat.mul_assoc, ← Nat.mul_add, Nat.mod_add_div]
          rw [Nat.add_assoc, e3, hTT, HQ.out, Nat.pow_add]
          rw [HQ.out, Nat.pow_add] at hE
          have e4 : 4294967296 ^ m * 4294967296 ^ k * (x * 2 ^ s + cy) = 4294967296 ^ m * 4294967296 ^ k * (x * 2 ^ s) + 4294967296 ^ m * 4294967296 ^ k * cy := Nat.mul_add ..
          have e5 : 4294967296 ^ m * (2 ^ s * (val (l.take k) + 4294967296 ^ k * x)) = 4294967296 ^ m * (2 ^ s * val (l.take k)) + 4294967296 ^ m * 4294967296 ^ k * (x * 2 ^ s) := by
            rw [Nat.mul_add, Nat.mul_add]; congr 1; ac_rfl
          rw [e4, e5, ← hE]
          omega
      case measure => simp [intOf]; omega
    · have hkl : k = l.length := by omega
      have hqb : (q + 1) * 8 ≤ 140737488355328 := by omega
      have hL := HL.out
      have HOO := Lib.hid (show wr.ownsRow w.heap.size 40 1 (.slice A q c') (toI done).length (nums .u64 (toI done)) by rw [toI_length, hL]; exact HO.out)
      have HQ := Lib.hid hqk
      clear hqk hL
      go_wp2_with (at_builtin; refine wpList_app1 wr rfl (.tmp 32) (.tmp 34) _ rfl w.heap.size 40 .u64 8 Try.underlying47 info64 (by omega) (.slice A q c') (toI done) HOO.out rfl (cy : Int) rfl (by rw [toI_length, HL.out]; exact hqb) hs0 ?_; intro v3 w3 hown3 hg3 hat3)
      obtain ⟨A3, c3, rfl⟩ := own_slice hown3
      have b3 := below_own hbl hg3 HO.out (Nat.le_refl _) hs0
      have hc3 := own_cap hown3
      have hr3 := (RI.of_own hown3).2
      have e : toI done ++ [(cy : Int)] = toI (done ++ [cy]) := by rw [toI_app]; simp [toI]
      rw [e] at hr3 hc3
      have hl3 : (toI (done ++ [cy])).length = (done ++ [cy]).length := toI_length _
      have hdl : ∀ d ∈ done ++ [cy], d < 4294967296 := by
        intro d hd
        rcases List.mem_append.1 hd with h | h
        · exact HB.out d h
        · obtain rfl := List.mem_singleton.1 h; exact hcy
      have hval : val (done ++ [cy]) = a * 2 ^ n := by
        have hE := HE.out
        rw [hkl, List.take_length, HV.out] at hE
        rw [val_app, HL.out]
        simp only [val, Nat.mul_zero, Nat.add_zero]
        rw [hE, HNM.out, Nat.pow_add, Nat.pow_mul]
        rw [show (2 : Nat) ^ 32 = 4294967296 from by decide]
        ac_rfl
      have N := norm_ok A3 c3 w3.heap.size (done ++ [cy]) w3 hr3 (by rw [← hl3]; simp [toI_length, HL.out]; omega) (by rw [← hl3]; exact hc3)
      have hm := RI.normed hr3 hdl
      rw [norm_val hdl, hval] at N
      rw [hval] at hm
      have hlen : (digits (a * 2 ^ n)).length ≤ c3 := by
        rw [← hval, ← norm_val hdl]
        exact Nat.le_trans (norm_length_le _) (by rw [← hl3]; exact hc3)
      have N' := Lib.hid (callsCast N (args' := #[.slice A3 (toI done ++ [(cy : Int)]).length c3]) (by rw [e, hl3]))
      clear N hval hdl hl3 e hr3
      refine N'.out.mono ?_
      rintro e' w4 ⟨rfl, rfl⟩
      go_wp2
      go_ret
      exact ⟨_, rfl, A3, c3, rfl, hlen, hm, b3⟩
end Go.Proofs.Ytipbnjcgololpaa.Big
