import Derived.Test.YtkcfeaonkgpbdaaEvG
/-! the document's numbers -/
namespace Go.Proofs.Ytkcfeaonkgpbdaa.Event
open Go.RowKit Go.Deep Go.Proofs.Ytkcfeaonkgpbdaa Go.Proofs.Ytkcfeaonkgpbdaa.Pack
set_option linter.unusedVariables false
set_option linter.unusedSimpArgs false
def sliceLen : Value → Nat
  | .slice _ n _ => n
  | _ => 0
theorem info2 : (Try.prog.info? 2).map (fun i => (i.zero, i.size, i.bytes)) = some (some (.int .i64 0), 1, 8) := by kernel_rfl
theorem bd_snoc {xs : List Int} {r : Nat} (h : bd false xs r = false) (h0 : (rdU (rs r xs)).2.2 = 0) : bd false xs (r + 1) = false := by
  simp only [bd, h, bads, h0]; rfl
theorem own_grown {w w' : World} {base size n : Nat} {e : TypeId} {v : Value} {xs : List Value} {r : Option Nat} (h : w.ownsRow base e size v n xs) (hg : w.grownBy w' r) (hne : ∀ k, v.ownBlock = some k → some k ≠ r) : w'.ownsRow base e size v n xs := by
  refine ⟨h.1, ?_⟩
  rcases h.2 with h1 | ⟨g, cap, cur, hv, hb, hh, h1⟩
  · exact .inl h1
  · exact .inr ⟨g, cap, cur, hv, hb, (hg.block g (Array.getElem?_eq_some_iff.1 hh).1 (hne g (by rw [hv]; rfl))).trans hh, h1⟩
theorem bd_all : ∀ {xs : List Int} {m : Nat}, bd false xs m = false → ∀ i, i < m → (rdU (rs i xs)).2.2 = 0
  | xs, 0, _, i, hi => absurd hi (Nat.not_lt_zero _)
  | xs, m + 1, h, i, hi => by
    simp only [bd, bads, Bool.or_eq_false_iff, bne_eq_false_iff_eq] at h
    by_cases e : i = m
    · rw [e]; exact h.2
    · exact bd_all h.1 i (by omega)
set_option maxRecDepth 100000 in
set_option maxHeartbeats 4000000 in
theorem numbers_ok (P : Option Addr) (c m : Nat) (xs : List Int) (w : World) (hx : RI w w.heap.size .u8 P xs) (hc : xs.length ≤ c) (hl : xs.length ≤ 4096) (hb : Byt xs) (hm : m ≤ 16) :
    Calls Try.prog 30 #[.slice P xs.length c, .int .i64 m] w fun e w' => ∃ (r k : Nat) (A : Option Addr) (c' : Nat), e = .returned (.tuple #[.slice A r c', .int .i64 k]) ∧
      r ≤ m ∧ bd false xs r = false ∧ (r = m ∨ (rdU (rs r xs)).2.2 ≠ 0) ∧ k ≤ xs.length ∧ rs r xs = xs.drop k ∧ w'.ownsRow w.heap.size 2 1 (.slice A r c') r (nums .i64 (vls xs r)) ∧ Below w.heap.size w w' := by
  have HX := Lib.hid hx
  have HB := Lib.hid hb
  obtain ⟨L, hL⟩ : ∃ L, L = xs.length := ⟨_, rfl⟩
  rw [← hL] at hc hl ⊢
  have HL := Lib.hid hL
  clear hx hb hL
  go_enter Try.func30, Try.ntmps30
  go_wp2_with fail
  go_loopw [6, 7] (fun v kv wr => ∃ (r k : Nat) (A : Option Addr) (c' : Nat), r ≤ m ∧ v = .slice A r c' ∧ kv = .int .i64 k ∧ Hid (bd false xs r = false) ∧ k ≤ L ∧ Hid (rs r xs = xs.drop k) ∧ Hid (wr.ownsRow w.heap.size 2 1 (.slice A r c') r (nums .i64 (vls xs r))) ∧ Below w.heap.size w wr) (fun v _ _ => m - (sliceLen v))
  case atStart => exact ⟨0, 0, none, 0, by omega, rfl, rfl, Lib.hid rfl, by omega, Lib.hid rfl, Lib.hid (World.ownsRow_nil _ _ _ _), Below.refl _ _⟩
  case round =>
    obtain ⟨r, k, A, c', hr, rfl, rfl, HBD, hk, HRS, HO, hbl⟩ := hrel
    have hs := hbl.size
    by_cases hrm : r < m
    · have hrm' : (r : Int) < m := by omega
      have hd := decide_eq_true hrm'
      have hrange := rdU_range (rs r xs) (rs_byt HB.out r)
      obtain ⟨q, hq⟩ : ∃ q : Nat, (rdU (rs r xs)).2.1 = q := ⟨(rdU (rs r xs)).2.1.toNat, by omega⟩
      have hcode : (rdU (rs r xs)).2.2 = 0 ∨ (rdU (rs r xs)).2.2 = 3 := by omega
      have hrl : (rs r xs).length = L - k := by rw [HRS.out, List.length_drop, ← HL.out]
      have hqk : q ≤ L - k := by omega
      obtain ⟨f, hf⟩ : ∃ f, f = (rdU (rs r xs)).2.2 := ⟨_, rfl⟩
      obtain ⟨v, hv⟩ : ∃ v, v = vl xs r := ⟨_, rfl⟩
      rw [← hf] at hcode
      have hrest : rs (r + 1) xs = xs.drop (k + q) := by
        show rest (rs r xs) = _
        unfold rest
        rw [hq, HRS.out, List.drop_drop]
        rfl
      have HF := Lib.hid hf
      have HV := Lib.hid hv
      have HQ := Lib.hid hq
      have HREST := Lib.hid hrest
      have HRL := Lib.hid hrl
      clear hf hv hrest hrange hq hrl
      go_wp2_with (first
        | (refine wpList_cut rfl (.tmp 16) (.tmp 17) 29 rfl Try.underlying29 (fun _ => by kernel_rfl) P L c k .i64 rfl rfl hk hc ?_
           intro A' hA'))
      have hri := hA' wr w.heap.size .u8 xs HL.out.symm (HX.out.below hbl)
      rw [← HRS.out] at hri
      have hcall := docreadint_ok A' (c - k) (rs r xs) wr (hri.more hs) (by rw [HRL.out]; omega) (by rw [HRL.out]; omega) (rs_byt HB.out r)
      rw [HRL.out, HQ.out, ← HF.out] at hcall
      refine hcall.mono ?_
      rintro e1 w1 ⟨rfl, b1⟩
      rw [show zag (rdU (rs r xs)).1 = v from HV.out.symm]
      have hs1 := b1.size
      have hb1 : Below w.heap.size w w1 := hbl.trans (b1.mono hs)
      have HO1 := Lib.hid (own_below HO.out b1)
      clear hcall hri hA'
      rcases hcode with hcode | hcode <;> subst hcode
      · have hvl := vls_len xs r
        go_wp2_with (at_builtin; refine wpList_app1 w1 rfl (.tmp 25) (.tmp 27) _ rfl w.heap.size 2 .i64 8 Try.underlying56 info2 (by omega) (.slice A r c') (vls xs r) (by rw [vls_len]; exact HO1.out) rfl v rfl (by rw [vls_len]; omega) (by omega) ?_; intro v2 w2 hown2 hg2 hat2)
        obtain ⟨A3, c3, rfl⟩ := own_slice hown2
        have hlen3 : (vls xs r ++ [v]).length = r + 1 := by simp [vls_len]
        rw [hlen3] at hown2 ⊢
        go_roundw
        case rel =>
          refine ⟨r + 1, k + q, A3, c3, by omega, rfl, by go_num, Lib.hid (bd_snoc HBD.out HF.out.symm), by omega, HREST, Lib.hid ?_, ?_⟩
          · rw [vls_succ, ← HV.out]; exact hown2
          · exact below_own hb1 hg2 HO1.out (Nat.le_refl _) (by omega)
        case measure => simp only [sliceLen]; omega
      · go_wp2
        go_ret2
        refine ⟨r, k, A, c', rfl, hr, HBD.out, .inr (by rw [← HF.out]; decide), hk, HRS.out, HO1.out, hb1⟩
    · have hrm2 : r = m := by omega
      subst hrm2
      have hrm' : ¬ (r : Int) < r := by omega
      have hd := decide_eq_false hrm'
      go_wp2
      go_ret2
      exact ⟨r, k, A, c', rfl, hr, HBD.out, .inl rfl, hk, HRS.out, HO.out, hbl⟩
end Go.Proofs.Ytkcfeaonkgpbdaa.Event
