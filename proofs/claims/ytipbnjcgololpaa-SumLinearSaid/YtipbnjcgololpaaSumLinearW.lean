import Derived.Test.YtipbnjcgololpaaAwake6
/-! three texts put upon one another: the law's walk -/
namespace Go.Proofs.Ytipbnjcgololpaa.SumLinearW
open Go.RowKit Go.Deep Go.Proofs.Ytipbnjcgololpaa.Pack Go.Proofs.Ytipbnjcgololpaa.Crc Go.Proofs.Ytipbnjcgololpaa.Sha
set_option linter.unusedVariables false
theorem callsCast {P : Program} {f : FuncId} {args args' : Array Value} {w : World} {R : Ending → World → Prop} (h : Calls P f args w R) (e : args = args') : Calls P f args' w R := e ▸ h
theorem crc_still (P : Option Addr) (L c B : Nat) (xs : List Int) (w : World) (hx : RI w B .u8 P xs) (hL : L = xs.length) (hl : xs.length ≤ 9223372036854775807) (hb : Byt xs) :
    Calls Try.prog 10 #[.slice P L c] w fun e w' => e = .returned (.int .u32 (crc (nat xs) : Nat)) ∧ w' = w := by
  subst hL
  exact (crc_ok P c B xs w hx hl hb).mono fun _ _ h => ⟨h.1, h.2.symm⟩
/-- byte j of the three texts put upon one another -/
def x3 (xs ys zs : List Int) (j : Nat) : Int := (((rd xs j).toNat ^^^ (rd ys j).toNat ^^^ (rd zs j).toNat : Nat) : Int)
theorem x3_get {xs ys zs : List Int} {n j : Nat} (h1 : n ≤ xs.length) (h2 : n ≤ ys.length) (h3 : n ≤ zs.length) (hj : j < n) : (xor3 ((nat xs).take n) ((nat ys).take n) ((nat zs).take n))[j]? = some (x3 xs ys zs j).toNat := by
  have key : ∀ (l m k : List Nat) (j : Nat) (a b c : Nat), l[j]? = some a → m[j]? = some b → k[j]? = some c → (xor3 l m k)[j]? = some (a ^^^ b ^^^ c) := by
    intro l
    induction l with
    | nil => intro m k j a b c h; simp at h
    | cons a0 l ih =>
      intro m k j a b c h1 h2 h3
      cases m with
      | nil => simp at h2
      | cons b0 m =>
        cases k with
        | nil => simp at h3
        | cons c0 k =>
          cases j with
          | zero => simp at h1 h2 h3; subst h1 h2 h3; rfl
          | succ j => simp at h1 h2 h3; simpa [xor3] using ih m k j a b c h1 h2 h3
  refine key _ _ _ j _ _ _ ?_ ?_ ?_
  · simp [hj, nat, rd, List.getD, show j < xs.length by omega]
  · simp [hj, nat, rd, List.getD, show j < ys.length by omega]
  · simp [hj, nat, rd, List.getD, show j < zs.length by omega]
theorem xor3_length : ∀ (l m k : List Nat), l.length = m.length → l.length = k.length → (xor3 l m k).length = l.length
  | [], [], [], _, _ => rfl
  | a :: l, b :: m, c :: k, h, h' => by simp [xor3, xor3_length l m k (by simpa using h) (by simpa using h')]
theorem own_some {w : World} {base g n c : Nat} {e : TypeId} {k : IntKind} {xs : List Int} (h : w.ownsRow base e 1 (.slice (some ⟨g, 0, none⟩) n c) n (nums k xs)) : ∃ cs, Blk w g e cs ∧ n ≤ cs.size ∧ ∀ j, j < n → ∃ m, cs[j]? = some (.int k m) := by
  rcases Nat.eq_zero_or_pos n with h0 | h0
  · rcases h.2 with ⟨h1, _⟩ | ⟨g', cap, cur, hv, hg, hh, _⟩
    · cases h1
    · injection hv with hv; injection hv with hv; injection hv with hv
      subst hv
      exact ⟨cur, hh, by omega, fun j hj => by omega⟩
  · obtain ⟨g', cap, cs, hv, _, hb, h1, h2⟩ := own_blk h h0
    injection hv with hv; injection hv with hv; injection hv with hv
    subst hv
    exact ⟨cs, hb, h1, h2⟩
/-- the first k cells are the bytes, the rest numbers -/
def Upto (cs : Array Value) (n k : Nat) (f : Nat → Int) : Prop := n ≤ cs.size ∧ (∀ j, j < k → cs[j]? = some (.int .u8 (f j))) ∧ ∀ j, j < n → ∃ m, cs[j]? = some (.int .u8 m)
theorem Upto.next {cs : Array Value} {n k : Nat} {f : Nat → Int} (h : Upto cs n k f) (hk : k < n) : Upto (cs.setIfInBounds k (.int .u8 (f k))) n (k + 1) f := by
  obtain ⟨h1, h2, h3⟩ := h
  refine ⟨by simpa using h1, fun j hj => ?_, fun j hj => ?_⟩
  · rw [Array.getElem?_setIfInBounds]
    by_cases e : k = j
    · subst e; rw [if_pos rfl, if_pos (by omega)]
    · rw [if_neg e]; exact h2 j (by omega)
  · rw [Array.getElem?_setIfInBounds]
    by_cases e : k = j
    · subst e; rw [if_pos rfl, if_pos (by omega)]; exact ⟨_, rfl⟩
    · rw [if_neg e]; exact h3 j hj
set_option maxRecDepth 100000 in
set_option maxHeartbeats 4000000 in
theorem walk (P : Option Addr) (c : Nat) (xs : List Int) (Q : Option Addr) (d : Nat) (ys : List Int) (R : Option Addr) (e : Nat) (zs : List Int) (w : World) (h0 : ArrIn w .u8 1 P c xs) (h1 : ArrIn w .u8 1 Q d ys) (h2 : ArrIn w .u8 1 R e zs) :
    Calls Try.prog 5 #[.slice P xs.length c, .slice Q ys.length d, .slice R zs.length e] w fun e w' => e = .returned (.bool true) ∧ Below w.heap.size w w' := by
  have hc := h0.cap
  have hd := h1.cap
  have he := h2.cap
  have hl := h0.size
  have hl1 := h1.size
  have hl2 := h2.size
  have HBX := Lib.hid (show Byt xs from h0.byt)
  have HBY := Lib.hid (show Byt ys from h1.byt)
  have HBZ := Lib.hid (show Byt zs from h2.byt)
  have HX := Lib.hid h0.reads
  have HY := Lib.hid h1.reads
  have HZ := Lib.hid h2.reads
  clear h0 h1 h2
  obtain ⟨n, hn⟩ : ∃ n : Nat, n = min (min xs.length ys.length) zs.length := ⟨_, rfl⟩
  have hnx : n ≤ xs.length := by omega
  have hny : n ≤ ys.length := by omega
  have hnz : n ≤ zs.length := by omega
  have HN := Lib.hid hn
  clear hn
  obtain ⟨i0, hi0, hz0, hz1, hz2⟩ := info_parts info5
  go_enter Try.func5, Try.ntmps5
  go_wp2_with fail
  refine (awake_ok _).mono ?_
  rintro e' w1 ⟨rfl, b1⟩
  have s1 := b1.size
  go_upto_region 3 with (fail)
  go_cut [7] (fun v wc => v = .int .i64 (n : Int) ∧ w1 = wc)
  case first =>
    go_wp2_with fail
    all_goals go_meet
    case rel => exact ⟨by have := HN.out; congr 1; omega, rfl⟩
    case rel => exact ⟨by have := HN.out; congr 1; omega, rfl⟩
    case rel => exact ⟨by have := HN.out; congr 1; omega, rfl⟩
  case rest =>
  obtain ⟨rfl, rfl⟩ := hcut
  go_wp2_with (refine wpList_make_full _ rfl (.tmp 19) (.tmp 19) 27 rfl w1.heap.size 5 _ (.int .u8 0) 1 Try.underlying27 hi0 hz0 hz1 .i64 .i64 (n : Int) (n : Int) n rfl rfl rfl rfl (by rw [hz2]; omega) (by simp only [maxLen]; omega) (Nat.le_refl _) ?_; intro w2 hown hgr)
  obtain ⟨g, hgg⟩ : ∃ g, g = w1.heap.size := ⟨_, rfl⟩
  rw [← hgg] at hown ⊢
  rw [show (madeCells (Value.int .u8 0).cells (n * 1)).toList = nums .u8 (List.replicate n 0) from by rw [Nat.mul_one]; exact (toList_madeCells_one _ _).trans (by simp [nums])] at hown
  obtain ⟨cs0, hB0, hsz0, hall0⟩ := own_some hown
  have b2 : Below w.heap.size w w2 := b1.grown hgr s1 (by simp)
  have hgw : w.heap.size ≤ g := by omega
  clear hown hgr hgg b1 s1
  go_loopw [23] (fun i wr => ∃ (k : Nat) (cs : Array Value), i = .int .i64 k ∧ k ≤ n ∧ Hid (Blk wr g 5 cs) ∧ Hid (Upto cs n k (x3 xs ys zs)) ∧ Below w.heap.size w wr) (fun i _ => n - (intOf i).toNat)
  case atStart => exact ⟨0, cs0, rfl, by omega, Lib.hid hB0, Lib.hid ⟨hsz0, fun j hj => by omega, hall0⟩, b2⟩
  case round =>
    clear b2 hB0 hall0 hsz0
    obtain ⟨k, cs, rfl, hk, HBk, HU, hbl⟩ := hrel
    by_cases hlt : k < n
    · obtain ⟨ap, rfl, hpb, cp⟩ := (HX.out.below hbl).one (show k < xs.length by omega)
      obtain ⟨aq, rfl, hqb, cq⟩ := (HY.out.below hbl).one (show k < ys.length by omega)
      obtain ⟨ar, rfl, hrb, cr⟩ := (HZ.out.below hbl).one (show k < zs.length by omega)
      have hx0 := HBX.out _ (List.getElem_mem (show k < xs.length by omega))
      have hy0 := HBY.out _ (List.getElem_mem (show k < ys.length by omega))
      have hz0' := HBZ.out _ (List.getElem_mem (show k < zs.length by omega))
      rw [← rd_get (show k < xs.length by omega)] at hx0
      rw [← rd_get (show k < ys.length by omega)] at hy0
      rw [← rd_get (show k < zs.length by omega)] at hz0'
      have hval : bits .xor .u8 (bits .xor .u8 (rd xs k) (rd ys k)) (rd zs k) = x3 xs ys zs k := by
        rw [u8_xor _ _ hx0.1 (by omega) hy0.1 (by omega), u8_xor _ _ (by omega) (by have := Nat.xor_lt_two_pow (n := 8) (show (rd xs k).toNat < 2 ^ 8 by omega) (show (rd ys k).toNat < 2 ^ 8 by omega); omega) hz0'.1 (by omega)]
        rfl
      obtain ⟨m0, hm0⟩ := HU.out.2.2 k hlt
      have hcl := (HBk.out.cell k).trans hm0
      have hfr := HBk.out.frozen k
      have g1 : (k : Int) < xs.length := by omega
      have g2 : (k : Int) < ys.length := by omega
      have g3 : (k : Int) < zs.length := by omega
      have g4 : (k : Int) < n := by omega
      have HV := Lib.hid hval
      clear hval hm0 hx0 hy0 hz0'
      generalize rd xs k = bx at *
      generalize rd ys k = by' at *
      generalize rd zs k = bz at *
      go_wp2_with fail
      refine wp_region_tail 17 (by kernel_rfl) (by kernel_rfl) ?_
      simp only [List.take_succ_cons, List.take_zero, List.drop_succ_cons, List.drop_zero]
      repeat still_step
      refine wpStill_nil ?_
      go_wp2
      go_roundw
      case rel =>
        rw [HV.out]
        exact ⟨k + 1, cs.setIfInBounds k (.int .u8 (x3 xs ys zs k)), by go_num, by omega, Lib.hid (HBk.out.set_ _ _).drew, Lib.hid (HU.out.next hlt), (hbl.setCell hgw _).drew⟩
      case measure => simp [intOf]; omega
    · have hkn : k = n := by omega
      have hU := HU.out
      rw [hkn] at hU
      obtain ⟨X, hX⟩ : ∃ X, X = xor3 ((nat xs).take n) ((nat ys).take n) ((nat zs).take n) := ⟨_, rfl⟩
      have hXl : X.length = n := by rw [hX, xor3_length _ _ _ (by simp [nat_length]; omega) (by simp [nat_length]; omega)]; simp [nat_length]; omega
      have hXb : ∀ b ∈ X, b < 256 := by
        rw [hX]
        exact xor3_lt _ _ _ (fun b hb => nat_lt HBX.out b (List.mem_of_mem_take hb)) (fun b hb => nat_lt HBY.out b (List.mem_of_mem_take hb)) (fun b hb => nat_lt HBZ.out b (List.mem_of_mem_take hb))
      have hRX : RI wr wr.heap.size .u8 (some ⟨g, 0, none⟩) (toI X) := by
        refine ⟨by simp [nums], fun hn => ⟨_, rfl, HBk.out.lt, fun i u hu => ?_⟩⟩
        have hi : i < n := by have := (List.getElem?_eq_some_iff.1 hu).1; simpa [nums, toI_length, hXl] using this
        rw [Addr.add_lit, Nat.zero_add, HBk.out.cell i, hU.2.1 i hi, ← hu]
        rw [nums_get .u8 (toI X) i (by rw [toI_length, hXl]; exact hi)]
        have hxi := x3_get hnx hny hnz hi
        rw [← hX] at hxi
        have e : rd (toI X) i = x3 xs ys zs i := by
          unfold rd toI
          rw [List.getD, List.getElem?_map, hxi]
          rfl
        rw [e]
      have hcr : crc X = crc (nat (xs.take n)) ^^^ crc (nat (ys.take n)) ^^^ crc (nat (zs.take n)) := by
        have e : ∀ l : List Int, nat (l.take n) = (nat l).take n := fun l => by simp [nat]
        rw [hX, crc_xor3 _ _ _ (by simp [nat_length]; omega) (by simp [nat_length]; omega) (fun b hb => nat_lt HBX.out b (List.mem_of_mem_take hb)) (fun b hb => nat_lt HBY.out b (List.mem_of_mem_take hb)) (fun b hb => nat_lt HBZ.out b (List.mem_of_mem_take hb)), e, e, e]
      have C0 := fun ww (h : ww = wr.drew) => crc_still (some ⟨g, 0, none⟩) n n wr.heap.size (toI X) ww (by subst h; exact hRX) (by rw [toI_length, hXl]) (by rw [toI_length, hXl]; omega) (byt_toI hXb)
      have C1 := fun ww (h : ww = wr.drew) => crc_still P n c w.heap.size (xs.take n) ww (by subst h; exact (HX.out.below hbl).take n) (by simp; omega) (by simp; omega) (fun x hx => HBX.out x (List.mem_of_mem_take hx))
      have C2 := fun ww (h : ww = wr.drew) => crc_still Q n d w.heap.size (ys.take n) ww (by subst h; exact (HY.out.below hbl).take n) (by simp; omega) (by simp; omega) (fun x hx => HBY.out x (List.mem_of_mem_take hx))
      have C3 := fun ww (h : ww = wr.drew) => crc_still R n e w.heap.size (zs.take n) ww (by subst h; exact (HZ.out.below hbl).take n) (by simp; omega) (by simp; omega) (fun x hx => HBZ.out x (List.mem_of_mem_take hx))
      rw [nat_toI] at C0
      have l1 : crc (nat (xs.take n)) < 4294967296 := by unfold crc; omega
      have l2 : crc (nat (ys.take n)) < 4294967296 := by unfold crc; omega
      have l3 : crc (nat (zs.take n)) < 4294967296 := by unfold crc; omega
      have hfin : (((crc X : Nat) : Int) == bits .xor .u32 (bits .xor .u32 ((crc (nat (xs.take n)) : Nat) : Int) ((crc (nat (ys.take n)) : Nat) : Int)) ((crc (nat (zs.take n)) : Nat) : Int)) = true := by
        rw [u32_xor_nat _ _ l1 l2, u32_xor_nat _ _ (xor_lt l1 l2) l3, hcr]
        simp
      clear hcr l1 l2 l3
      generalize crc X = k0 at *
      generalize crc (nat (xs.take n)) = k1 at *
      generalize crc (nat (ys.take n)) = k2 at *
      generalize crc (nat (zs.take n)) = k3 at *
      have HC0 := Lib.hid C0
      have HC1 := Lib.hid C1
      have HC2 := Lib.hid C2
      have HC3 := Lib.hid C3
      have gk : ¬ ((k : Int) < (n : Int)) := by omega
      have n1 : n ≤ c := by omega
      have n2 : n ≤ d := by omega
      have n3 : n ≤ e := by omega
      clear C0 C1 C2 C3 hX hXl hXb hRX hU hkn
      go_wp2_with fail
      refine wp_region_same (by kernel_rfl) (by kernel_rfl) ?_
      repeat still_step
      still_call (HC0.out _ rfl)
      repeat still_step
      still_call (HC1.out _ rfl)
      repeat still_step
      still_call (HC2.out _ rfl)
      repeat still_step
      still_call (HC3.out _ rfl)
      repeat still_step
      refine wpStill_nil ?_
      go_wp2
      go_ret
      exact ⟨rfl, hbl.drew⟩
end Go.Proofs.Ytipbnjcgololpaa.SumLinearW
