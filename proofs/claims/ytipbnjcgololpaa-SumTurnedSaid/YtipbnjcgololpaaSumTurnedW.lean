import Derived.Test.YtipbnjcgololpaaAwake6
/-! one bit that is turned is seen by Crc: the law's walk -/
namespace Go.Proofs.Ytipbnjcgololpaa.SumTurnedW
open Go.RowKit Go.Deep Go.Proofs.Ytipbnjcgololpaa.Pack Go.Proofs.Ytipbnjcgololpaa.Crc Go.Proofs.Ytipbnjcgololpaa.Sha
set_option linter.unusedVariables false
theorem callsCast {P : Program} {f : FuncId} {args args' : Array Value} {w : World} {R : Ending → World → Prop} (h : Calls P f args w R) (e : args = args') : Calls P f args' w R := e ▸ h
theorem nat_set (xs : List Int) (j : Nat) (v : Int) : nat (xs.set j v) = (nat xs).set j v.toNat := by simp [nat, List.map_set]
theorem RI.put {w : World} {B g : Nat} {t : TypeId} {cs : Array Value} {k : IntKind} {xs : List Int} (h : RI w B k (some ⟨g, 0, none⟩) xs) (hb : Blk w g t cs) (j : Nat) (v : Int) : RI (w.setCell ⟨g, j, none⟩ (.int k v)) B k (some ⟨g, 0, none⟩) (xs.set j v) := by
  refine ⟨by simp [nums], fun hn => ?_⟩
  obtain ⟨ad, e, hB, hc⟩ := h.2 (by simpa using hn)
  injection e with e; subst e
  refine ⟨_, rfl, hB, fun i u hu => ?_⟩
  have hi : i < xs.length := by have := (List.getElem?_eq_some_iff.1 hu).1; simpa [nums] using this
  have h0 := hc i (.int k (rd xs i)) (nums_get k xs i hi)
  rw [Addr.add_lit, Nat.zero_add] at h0 ⊢
  rw [hb.cell i] at h0
  rw [(hb.set_ j (.int k v)).cell i, Array.getElem?_setIfInBounds]
  rw [nums_get k _ i (by simpa using hi)] at hu
  obtain rfl := Option.some.inj hu
  by_cases hij : j = i
  · subst hij
    rw [if_pos rfl, if_pos (Array.getElem?_eq_some_iff.1 h0).1]
    simp [rd, List.getD, hi]
  · rw [if_neg hij, h0]
    simp [rd, List.getD, hij]
theorem bit_turned (b s : Nat) (hb : b < 256) (hs : s < 8) : ∃ v : Nat, bits .xor .u8 (b : Int) (2 ^ s : Nat) = (v : Int) ∧ v < 256 ∧ v ≠ b := by
  have hp : (2 : Nat) ^ s < 256 := Nat.lt_of_lt_of_le (Nat.pow_lt_pow_right (by omega) hs) (by decide)
  refine ⟨b ^^^ 2 ^ s, u8_xor_nat b (2 ^ s) hb hp, Nat.xor_lt_two_pow (n := 8) hb hp, fun h => ?_⟩
  have := congrArg (b ^^^ ·) h
  simp [← Nat.xor_assoc] at this
set_option maxRecDepth 100000 in
set_option maxHeartbeats 4000000 in
theorem walk (P : Option Addr) (c : Nat) (xs : List Int) (at_ bit : Int) (w : World) (h0 : ArrIn w .u8 1 P c xs) (w1 : (Lit.int .u16 at_).wf = true) (w2 : (Lit.int .u8 bit).wf = true) :
    Calls Try.prog 4 #[.slice P xs.length c, .int .u16 at_, .int .u8 bit] w fun e w' => e = .returned (.bool true) ∧ Below w.heap.size w w' := by
  have ha := bounds_u16 w1
  have hbt := bounds_u8 w2
  have hb := h0.byt
  have hc := h0.cap
  have hl := h0.size
  have HB := Lib.hid (show Byt xs from hb)
  have HX := Lib.hid h0.reads
  clear hb h0 w1 w2
  by_cases hn : xs.length = 0
  · have hx0 : xs = [] := List.eq_nil_of_length_eq_zero hn
    subst hx0
    go_enter Try.func4, Try.ntmps4
    go_wp2_with fail
    refine (awake_ok _).mono ?_
    rintro e w1 ⟨rfl, b1⟩
    have H := crc_ok P c w.heap.size [] w1 (HX.out.below b1) (by simp) HB.out
    rw [show nat [] = [] from rfl, crc_nil] at H
    go_wp2_with fail
    refine H.mono ?_
    rintro e w2 ⟨rfl, rfl⟩
    go_wp2
    go_ret
    exact ⟨rfl, b1⟩
  · have hn0 : ((xs.length : Int) == 0) = false := beq_eq_false_iff_ne.2 (by omega)
    have hpos : 0 < xs.length := by omega
    obtain ⟨j, hj⟩ : ∃ j : Nat, at_ % (xs.length : Int) = j := ⟨(at_ % (xs.length : Int)).toNat, (Int.toNat_of_nonneg (Int.emod_nonneg at_ (show (xs.length : Int) ≠ 0 by omega))).symm⟩
    have hjl : j < xs.length := by have := Int.emod_lt_of_pos at_ (show (0 : Int) < xs.length by omega); rw [hj] at this; omega
    go_enter Try.func4, Try.ntmps4
    go_wp2_with fail
    refine (awake_ok _).mono ?_
    rintro e w1 ⟨rfl, b1⟩
    have s1 := b1.size
    go_wp2_with fail
    refine (twin_ok P c xs _ ((HX.out.below b1).more s1) (by omega)).mono ?_
    rintro e w3 ⟨v3, rfl, f3⟩
    obtain ⟨g, cap, cs, rfl, hg, hB, hsz, hcs⟩ := own_blk f3.1 hpos
    have hr := Lib.hid (RI.of_own f3.1).2
    have b3 := f3.2
    obtain ⟨b, hbb⟩ : ∃ b : Nat, rd xs j = b := ⟨(rd xs j).toNat, by have := HB.out _ (List.getElem_mem hjl); rw [← rd_get hjl] at this; omega⟩
    have hb256 : b < 256 := by have := HB.out _ (List.getElem_mem hjl); rw [← rd_get hjl] at this; omega
    have hcell : w3.cell? ⟨g, j, none⟩ = some (.int .u8 (b : Int)) := by
      obtain ⟨ad, e, _, hc'⟩ := hr.out.one hjl
      injection e with e; subst e
      rw [hbb] at hc'
      rwa [Addr.add_lit, Nat.zero_add] at hc'
    have hfr := hB.frozen j
    have HBlk := Lib.hid hB
    have HBB := Lib.hid hbb
    clear f3 hB hcs hbb
    go_wp2_with fail
    obtain ⟨v, hv, hv256, hvb⟩ := bit_turned b (bit % 8).toNat hb256 (by omega)
    have hp : (2 : Int) ^ (bit % 8).toNat % 256 = ((2 ^ (bit % 8).toNat : Nat) : Int) := by
      have h2 : (2 : Nat) ^ (bit % 8).toNat < 256 := Nat.lt_of_lt_of_le (Nat.pow_lt_pow_right (by omega) (show (bit % 8).toNat < 8 by omega)) (by decide)
      rw [show (2 : Int) ^ (bit % 8).toNat = ((2 ^ (bit % 8).toNat : Nat) : Int) from by push_cast; rfl]
      generalize 2 ^ (bit % 8).toNat = y at *
      omega
    rw [hp, hv]
    have hr4 := Lib.hid (RI.put hr.out HBlk.out j (v : Int))
    have b4 : Below w.heap.size w (w3.setCell ⟨g, j, none⟩ (.int .u8 (v : Int))) := (b1.trans (b3.mono s1)).setCell (by show w.heap.size ≤ g; omega) _
    have hby : Byt (xs.set j (v : Int)) := fun x hx => by
      rcases List.mem_or_eq_of_mem_set hx with h | h
      · exact HB.out x h
      · omega
    have hne : crc (nat (xs.set j (v : Int))) ≠ crc (nat xs) := by
      rw [nat_set]
      refine crc_turned (nat xs) j _ (nat_lt HB.out) (by rw [nat_length]; exact hjl) (by omega) ?_
      have : (nat xs)[j]'(by rw [nat_length]; exact hjl) = b := by
        simp only [nat, List.getElem_map]
        rw [← rd_get hjl, HBB.out]; rfl
      rw [this]; simp; omega
    have hx4 := Lib.hid (HX.out.below b4)
    have H1 := crc_ok (some ⟨g, 0, none⟩) cap _ (xs.set j (v : Int)) _ hr4.out (by simp; omega) hby
    have H2 := crc_ok P c _ xs _ hx4.out (by omega) HB.out
    have hneq : (((crc (nat (xs.set j (v : Int))) : Nat) : Int) != ((crc (nat xs) : Nat) : Int)) = true := bne_iff_ne.2 (fun h => hne (Int.ofNat.inj h))
    generalize crc (nat (xs.set j (v : Int))) = c1 at *
    generalize crc (nat xs) = c2 at *
    have HB4 := Lib.hid b4
    clear hne hcell hfr HBlk b4 b1 b3 hp hv
    refine (callsCast H1 (by simp)).mono ?_
    rintro e w5 ⟨rfl, rfl⟩
    clear H1
    go_wp2_with fail
    refine H2.mono ?_
    rintro e w6 ⟨rfl, rfl⟩
    clear H2
    go_wp2
    go_ret
    exact ⟨rfl, HB4.out⟩
end Go.Proofs.Ytipbnjcgololpaa.SumTurnedW
