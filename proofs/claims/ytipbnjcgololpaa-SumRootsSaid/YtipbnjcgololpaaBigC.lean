import Derived.Test.YtipbnjcgololpaaBigB
/-! the document's natural numbers: Times -/
namespace Go.Proofs.Ytipbnjcgololpaa.Big
open Go.RowKit Go.Deep
set_option linter.unusedVariables false
set_option linter.unusedSimpArgs false
theorem RI.put {w : World} {B g : Nat} {t : TypeId} {cs : Array Value} {k : IntKind} {xs : List Int} (h : RI w B k (some ⟨g, 0, none⟩) xs) (hb : Blk w g t cs) (j : Nat) (v : Int) : RI (w.setCell ⟨g, j, none⟩ (.int k v)) B k (some ⟨g, 0, none⟩) (xs.set j v) := by
  refine ⟨by simp [nums], fun hn => ?_⟩
  obtain ⟨ad, e, hB, hc⟩ := h.2 (by simpa using hn)
  injection e with e; subst e
  refine ⟨_, rfl, hB, fun i u hu => ?_⟩
  have hi : i < xs.length := by have := (List.getElem?_eq_some_iff.1 hu).1; simpa [nums] using this
  have h0 := hc i (.int k (rd xs i)) (nums_get k xs i hi)
  rw [Addr.add_lit, Nat.zero_add] at h0 ⊢
  rw [hb.cell i] at h0
  rw [(hb.set_ j (.int k v)).cell i, Array.getElem?_setIfInBounds]
  rw [nums_get k _ i (by simpa using hi)] at hu
  obtain rfl := Option.some.inj hu
  by_cases hij : j = i
  · subst hij
    rw [if_pos rfl, if_pos (Array.getElem?_eq_some_iff.1 h0).1]
    simp [rd, List.getD, hi]
  · rw [if_neg hij, h0]
    simp [rd, List.getD, hij]
theorem toI_set (l : List Nat) (i v : Nat) : toI (l.set i v) = (toI l).set i (v : Int) := by simp [toI, List.map_set]
/-- the digits that the call itself writes -/
def Digs (w : World) (g : Nat) (C : List Nat) : Prop := RI w w.heap.size .u64 (some ⟨g, 0, none⟩) (toI C) ∧ (∃ cs, Blk w g 40 cs) ∧ ∀ d ∈ C, d < 4294967296
theorem Digs.put {w : World} {g : Nat} {C : List Nat} (h : Digs w g C) (j v : Nat) (hv : v < 4294967296) : Digs (w.setCell ⟨g, j, none⟩ (.int .u64 (v : Int))) g (C.set j v) := by
  obtain ⟨h1, ⟨cs, h2⟩, h3⟩ := h
  refine ⟨?_, ⟨_, h2.set_ j _⟩, fun d hd => ?_⟩
  · rw [toI_set]
    have := RI.put h1 h2 j (v : Int)
    simpa using this
  · rcases List.mem_or_eq_of_mem_set hd with h | h
    · exact h3 d h
    · omega
theorem Digs.drew {w : World} {g : Nat} {C : List Nat} (h : Digs w g C) (n : Nat) : Digs (w.drewN n) g C := h
theorem Digs.get {w : World} {g : Nat} {C : List Nat} (h : Digs w g C) {j : Nat} (hj : j < C.length) : w.cell? ⟨g, j, none⟩ = some (.int .u64 (C.getD j 0 : Nat)) := by
  obtain ⟨ad, e, _, hc⟩ := h.1.one (j := j) (by rw [toI_length]; exact hj)
  injection e with e; subst e
  rw [Addr.add_lit, Nat.zero_add, rd_toI hj] at hc
  exact hc
theorem Digs.free {w : World} {g : Nat} {C : List Nat} (h : Digs w g C) (j : Nat) : w.frozen? ⟨g, j, none⟩ = false := by
  obtain ⟨_, ⟨cs, hb⟩, _⟩ := h
  exact hb.frozen j
theorem Digs.lt {C : List Nat} {w : World} {g : Nat} (h : Digs w g C) (j : Nat) : C.getD j 0 < 4294967296 := by
  rcases Nat.lt_or_ge j C.length with h1 | h1
  · rw [List.getD, List.getElem?_eq_getElem h1]; exact h.2.2 _ (List.getElem_mem h1)
  · simp [List.getD, h1]
theorem own_some {w : World} {base g n c : Nat} {e : TypeId} {k : IntKind} {xs : List Int} (h : w.ownsRow base e 1 (.slice (some ⟨g, 0, none⟩) n c) n (nums k xs)) : ∃ cs, Blk w g e cs := by
  rcases h.2 with ⟨h1, _⟩ | ⟨g', cap, cur, hv, hg, hh, _⟩
  · cases h1
  · injection hv with hv; injection hv with hv; injection hv with hv
    subst hv
    exact ⟨cur, hh⟩
theorem mul_bound (x y z cy : Nat) (hx : x < 4294967296) (hy : y < 4294967296) (hz : z < 4294967296) (hc : cy < 4294967296) : cy + (x * y + z) < 18446744073709551616 ∧ (cy + (x * y + z)) / 4294967296 < 4294967296 := by
  have : x * y ≤ 4294967295 * 4294967295 := Nat.mul_le_mul (by omega) (by omega)
  omega
set_option maxRecDepth 100000 in
set_option maxHeartbeats 4000000 in
theorem times_ok (P Q : Option Addr) (c d a b : Nat) (w : World) (hx : Holds w w.heap.size P a) (hy : Holds w w.heap.size Q b) (hl : (digits a).length ≤ 1048576) (hm : (digits b).length ≤ 1048576) :
    Calls Try.prog 29 #[.slice P (digits a).length c, .slice Q (digits b).length d] w fun e w' => ∃ v, e = .returned v ∧ Made w w' v (a * b) := by
  have HX := Lib.hid (show RI w w.heap.size .u64 P (toI (digits a)) from hx)
  have HY := Lib.hid (show RI w w.heap.size .u64 Q (toI (digits b)) from hy)
  have HDA := Lib.hid (digits_lt a)
  have HDB := Lib.hid (digits_lt b)
  have HVA := Lib.hid (val_digits a)
  have HVB := Lib.hid (val_digits b)
  clear hx hy
  generalize digits a = l at *
  generalize digits b = m at *
  obtain ⟨i0, hi0, hz0, hz1, hz2⟩ := info_parts info64
  obtain ⟨n, hn⟩ : ∃ n : Nat, n = l.length + m.length := ⟨_, rfl⟩
  have hnI : (l.length : Int) + m.length = n := by omega
  have hn2 : n ≤ 2097152 := by omega
  have HN := Lib.hid hn
  clear hn
  go_enter Try.func29, Try.ntmps29
  go_wp2_with (refine wpList_make_full _ rfl (.tmp 13) (.tmp 13) 47 rfl w.heap.size 40 _ (.int .u64 0) 1 Try.underlying47 hi0 hz0 hz1 .i64 .i64 (n : Int) (n : Int) n rfl rfl rfl rfl (by rw [hz2]; omega) (by simp only [maxLen]; omega) (Nat.le_refl _) ?_; intro w2 hown hgr)
  rw [show (madeCells (Value.int .u64 0).cells (n * 1)).toList = nums .u64 (toI (List.replicate n 0)) from by rw [Nat.mul_one]; exact (toList_madeCells_one _ _).trans (by simp [nums, toI])] at hown
  have b2 : Below w.heap.size w w2 := (Below.refl _ _).grown hgr (Nat.le_refl _) (by simp)
  have hD0 : Digs w2 w.heap.size (List.replicate n 0) := ⟨(RI.of_own hown).2, own_some hown, fun x hx => by rw [List.eq_of_mem_replicate hx]; omega⟩
  have HD0 := Lib.hid hD0
  obtain ⟨g, hg⟩ : ∃ g, g = w.heap.size := ⟨_, rfl⟩
  rw [← hg] at HD0 ⊢
  have hgw : w.heap.size ≤ g := by omega
  clear hown hgr hD0 hnI hg
  go_loopw [17] (fun v wr => ∃ (i : Nat) (C : List Nat), v = .int .i64 i ∧ i ≤ l.length ∧ Hid (C.length = n) ∧ Hid (Digs wr g C) ∧ Hid (val C = val (l.take i) * b) ∧ Hid (∀ j, i + m.length ≤ j → C.getD j 0 = 0) ∧ Below w.heap.size w wr) (fun v _ => l.length - (intOf v).toNat)
  case atStart => exact ⟨0, List.replicate n 0, rfl, by omega, Lib.hid (by simp), HD0, Lib.hid (by simp [val_zeros, val]), Lib.hid (fun j _ => by rw [List.getD, List.getElem?_replicate]; split <;> rfl), b2⟩
  case round =>
    clear b2 HD0
    obtain ⟨i, C, rfl, hi, HC, HD, HE, HZ, hbl⟩ := hrel
    by_cases hlt : i < l.length
    · go_wp2_with fail
      go_loopw [7, 22] (fun cv v wc => ∃ (j cy : Nat) (C : List Nat), cv = .int .u64 cy ∧ cy < 4294967296 ∧ v = .int .i64 j ∧ j ≤ m.length ∧ Hid (C.length = n) ∧ Hid (Digs wc g C) ∧ Hid (val C + 4294967296 ^ (i + j) * cy = val (l.take i) * b + 4294967296 ^ i * (l.getD i 0 * val (m.take j))) ∧ Hid (∀ j, i + m.length ≤ j → C.getD j 0 = 0) ∧ Below w.heap.size w wc) (fun _ v _ => m.length - (intOf v).toNat)
      case atStart => exact ⟨0, 0, C, rfl, by omega, rfl, by omega, HC, HD, Lib.hid (by simp [val]; exact HE.out), HZ, hbl⟩
      case round =>
        clear HC HD HE HZ hbl
        obtain ⟨j, cy, C, rfl, hcy, rfl, hj, HC, HD, HE, HZ, hbl⟩ := hrel
        by_cases hjl : j < m.length
        · obtain ⟨ad, rfl, _, ca⟩ := (HX.out.below hbl).one (j := i) (by rw [toI_length]; exact hlt)
          obtain ⟨bd, rfl, _, cb⟩ := (HY.out.below hbl).one (j := j) (by rw [toI_length]; exact hjl)
          rw [rd_toI hlt] at ca
          rw [rd_toI hjl] at cb
          have hxlt := HDA.out _ (List.getElem_mem hlt)
          rw [show l[i] = l.getD i 0 from by simp [List.getD, hlt]] at hxlt
          have hylt := HDB.out _ (List.getElem_mem hjl)
          rw [show m[j] = m.getD j 0 from by simp [List.getD, hjl]] at hylt
          have hij : i + j < n := by have := HN.out; omega
          have cc := HD.out.get (j := i + j) (by rw [HC.out]; exact hij)
          have fc := HD.out.free (i + j)
          have hzlt := HD.out.lt (i + j)
          have hvt := val_take_succ hjl
          have hbd := mul_bound _ _ _ cy hxlt hylt hzlt hcy
          have hvs := fun v => val_set (l := C) (i := i + j) (by rw [HC.out]; exact hij) v
          obtain ⟨x, hx⟩ : ∃ x, x = l.getD i 0 := ⟨_, rfl⟩
          obtain ⟨y, hy⟩ : ∃ y, y = m.getD j 0 := ⟨_, rfl⟩
          obtain ⟨z, hz⟩ : ∃ z, z = C.getD (i + j) 0 := ⟨_, rfl⟩
          rw [← hx] at ca hbd HE
          rw [← hy] at cb hbd hvt
          rw [← hz] at cc hbd hvs
          obtain ⟨p, hp⟩ : ∃ p, p = x * y := ⟨_, rfl⟩
          rw [← hp] at hbd
          have hpI : (x : Int) * (y : Int) = (p : Int) := by rw [hp]; push_cast; rfl
          obtain ⟨T, hT⟩ : ∃ T, T = cy + (p + z) := ⟨_, rfl⟩
          rw [← hT] at hbd
          have HX2 := Lib.hid hx
          have HZ2 := Lib.hid hz
          have HP := Lib.hid hp
          have HT := Lib.hid hT
          have HVT := Lib.hid hvt
          have HVS := Lib.hid hvs
          have HTD := Lib.hid hbd
          have hij' : (i : Int) + j < n := by omega
          have gi : (i : Int) < l.length := by omega
          have gj : (j : Int) < m.length := by omega
          have eij : IntKind.i64.wrap ((i : Int) + j) = (i : Int) + j := IntWalk.i64_in _ (by omega)
          have tij : ((i : Int) + j).toNat = i + j := by omega
          clear hx hy hz hp hT hvt hvs hbd hxlt hylt hzlt
          go_wp2_with fail
          go_quiet (fail)
          have hwT : IntKind.u64.wrap ((cy : Int) + IntKind.u64.wrap (IntKind.u64.wrap (p : Int) + (z : Int))) = (T : Int) := by
            have h1 := HTD.out
            have h2 := HT.out
            simp only [IntKind.wrap_u64]
            omega
          rw [hwT]
          clear hwT hpI ca cb
          go_wp2
          go_roundw
          case rel =>
            have hTd : T / 4294967296 < 4294967296 := HTD.out.2
            have w1 : IntKind.u64.wrap ((T : Int) / 4294967296) = ((T / 4294967296 : Nat) : Int) := by rw [IntKind.wrap_u64]; omega
            refine ⟨j + 1, T / 4294967296, C.set (i + j) (T % 4294967296), by rw [w1], hTd, by go_num, by omega, Lib.hid (by simp [HC.out]), Lib.hid ?_, Lib.hid ?_, Lib.hid ?_, (below_drewN hbl nq).setCell hgw _⟩
            · have := (HD.out.drew nq).put (i + j) (T % 4294967296) (by omega)
              simpa using this
            · have hs := HVS.out (T % 4294967296)
              have he := HE.out
              have hp := HP.out
              have ht := HT.out
              rw [HVT.out, show i + (j + 1) = (i + j) + 1 from by omega, Nat.pow_succ, ← HX2.out]
              have e1 : 4294967296 ^ (i + j) * (T % 4294967296) + 4294967296 ^ (i + j) * 4294967296 * (T / 4294967296) = 4294967296 ^ (i + j) * T := by
                rw [Nat.mul_assoc, ← Nat.mul_add, Nat.mod_add_div]
              have e2 : 4294967296 ^ (i + j) * T = 4294967296 ^ (i + j) * cy + (4294967296 ^ (i + j) * p + 4294967296 ^ (i + j) * z) := by rw [ht, Nat.mul_add, Nat.mul_add]
              have e3 : 4294967296 ^ i * (x * (val (m.take j) + 4294967296 ^ j * y)) = 4294967296 ^ i * (x * val (m.take j)) + 4294967296 ^ (i + j) * p := by
                rw [Nat.mul_add, Nat.mul_add, hp, Nat.pow_add]
                congr 1; ac_rfl
              rw [e3]
              omega
            · intro q hq
              rw [List.getD, List.getElem?_set_ne (by omega)]
              exact HZ.out q hq
          case measure => simp [intOf]; omega
        · have hjm : j = m.length := by omega
          have hil : i + m.length < n := by have := HN.out; omega
          have cz := HD.out.get (j := i + m.length) (by rw [HC.out]; exact hil)
          rw [HZ.out _ (Nat.le_refl _)] at cz
          have cf := HD.out.free (i + m.length)
          have hE := HE.out
          rw [hjm, List.take_length, HVB.out] at hE
          have HE2 := Lib.hid hE
          have g1 : (i : Int) + m.length < n := by omega
          clear hE
          go_wp2
          go_roundw
          case rel =>
            have hs := val_set (l := C) (i := i + m.length) (by rw [HC.out]; exact hil) cy
            rw [HZ.out _ (Nat.le_refl _)] at hs
            refine ⟨i + 1, C.set (i + m.length) cy, by go_num, by omega, Lib.hid (by simp [HC.out]), Lib.hid (HD.out.put _ cy hcy), Lib.hid ?_, Lib.hid ?_, hbl.setCell hgw _⟩
            · have he := HE2.out
              rw [val_take_succ hlt]
              have e1 : (val (l.take i) + 4294967296 ^ i * l.getD i 0) * b = val (l.take i) * b + 4294967296 ^ i * (l.getD i 0 * b) := by rw [Nat.add_mul, Nat.mul_assoc]
              rw [e1]
              omega
            · intro q hq
              rw [List.getD, List.getElem?_set_ne (by omega)]
              exact HZ.out q (by omega)
          case measure => simp [intOf]; omega
    · have hil : i = l.length := by omega
      have hE := HE.out
      rw [hil, List.take_length, HVA.out] at hE
      have N := norm_ok (some ⟨g, 0, none⟩) n wr.heap.size C wr HD.out.1 (by rw [HC.out]; omega) (by rw [HC.out]; omega)
      rw [norm_val HD.out.2.2, hE] at N
      have hm := RI.normed HD.out.1 HD.out.2.2
      rw [hE] at hm
      have hlen : (digits (a * b)).length ≤ n := by
        rw [← hE, ← norm_val HD.out.2.2, ← HC.out]
        exact norm_length_le _
      have N' := Lib.hid (callsCast N (args' := #[.slice (some ⟨g, 0, none⟩) n n]) (by rw [HC.out]))
      have HM := Lib.hid hm
      clear N hm hE hil
      go_wp2_with fail
      refine N'.out.mono ?_
      rintro e' w4 ⟨rfl, rfl⟩
      go_wp2
      go_ret
      exact ⟨_, rfl, some ⟨g, 0, none⟩, n, rfl, hlen, HM.out, hbl⟩
end Go.Proofs.Ytipbnjcgololpaa.Big
