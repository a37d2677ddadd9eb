/- Lemmas of a claim: BigC, BigD -/
import Derived.Test.YtkdnebalpdebeaaGreatDoorG29
set_option linter.unusedVariables false
set_option linter.unusedSimpArgs false
set_option maxHeartbeats 16000000
set_option maxRecDepth 100000
namespace Go.Proofs.YtkdnebalpdebeaaGreatDoor
namespace Big
open Go.RowKit Go.Deep
theorem RI.put {w : World} {B g : Nat} {t : TypeId} {cs : Array Value} {k : IntKind} {xs : List Int} (h : RI w B k (some ⟨g, 0, none⟩) xs) (hb : Blk w g t cs) (j : Nat) (v : Int) : RI (w.setCell ⟨g, j, none⟩ (.int k v)) B k (some ⟨g, 0, none⟩) (xs.set j v) := by
 refine ⟨by simp [nums], fun hn => ?_⟩
 obtain ⟨ad, e, hB, hc⟩ := h.2 (by simpa using hn)
 injection e with e; subst e
 refine ⟨_, rfl, hB, fun i u hu => ?_⟩
 have hi : i < xs.length := by have := (List.getElem?_eq_some_iff.1 hu).1; simpa [nums] using this
 have h0 := hc i (.int k (rd xs i)) (nums_get k xs i hi)
 rw [Addr.add_lit, Nat.zero_add] at h0 ⊢
 rw [hb.cell i] at h0
 rw [(hb.set_ j (.int k v)).cell i, Array.getElem?_setIfInBounds]
 rw [nums_get k _ i (by simpa using hi)] at hu
 obtain rfl := Option.some.inj hu
 by_cases hij : j = i
 . subst hij
   rw [if_pos rfl, if_pos (Array.getElem?_eq_some_iff.1 h0).1]
   simp [rd, List.getD, hi]
 . rw [if_neg hij, h0]
   simp [rd, List.getD, hij]
theorem toI_set (l : List Nat) (i v : Nat) : toI (l.set i v) = (toI l).set i (v : Int) := by simp [toI, List.map_set]
def Digs (w : World) (g : Nat) (C : List Nat) : Prop := RI w w.heap.size .u64 (some ⟨g, 0, none⟩) (toI C) /\ (∃ cs, Blk w g 24 cs) /\ ∀ d ∈ C, d < 4294967296
theorem Digs.put {w : World} {g : Nat} {C : List Nat} (h : Digs w g C) (j v : Nat) (hv : v < 4294967296) : Digs (w.setCell ⟨g, j, none⟩ (.int .u64 (v : Int))) g (C.set j v) := by
 obtain ⟨h1, ⟨cs, h2⟩, h3⟩ := h
 refine ⟨?_, ⟨_, h2.set_ j _⟩, fun d hd => ?_⟩
 . rw [toI_set]
   have := RI.put h1 h2 j (v : Int)
   simpa using this
 . rcases List.mem_or_eq_of_mem_set hd with h | h
   . exact h3 d h
   . omega
theorem Digs.drew {w : World} {g : Nat} {C : List Nat} (h : Digs w g C) (n : Nat) : Digs (w.drewN n) g C := h
theorem Digs.get {w : World} {g : Nat} {C : List Nat} (h : Digs w g C) {j : Nat} (hj : j < C.length) : w.cell? ⟨g, j, none⟩ = some (.int .u64 (C.getD j 0 : Nat)) := by
 obtain ⟨ad, e, _, hc⟩ := h.1.one (j := j) (by rw [toI_length]; exact hj)
 injection e with e; subst e
 rw [Addr.add_lit, Nat.zero_add, rd_toI hj] at hc
 exact hc
theorem Digs.free {w : World} {g : Nat} {C : List Nat} (h : Digs w g C) (j : Nat) : w.frozen? ⟨g, j, none⟩ = false := by
 obtain ⟨_, ⟨cs, hb⟩, _⟩ := h
 exact hb.frozen j
theorem Digs.lt {C : List Nat} {w : World} {g : Nat} (h : Digs w g C) (j : Nat) : C.getD j 0 < 4294967296 := by
 rcases Nat.lt_or_ge j C.length with h1 | h1
 . rw [List.getD, List.getElem?_eq_getElem h1]; exact h.2.2 _ (List.getElem_mem h1)
 . simp [List.getD, h1]
theorem own_some {w : World} {base g n c : Nat} {e : TypeId} {k : IntKind} {xs : List Int} (h : w.ownsRow base e 1 (.slice (some ⟨g, 0, none⟩) n c) n (nums k xs)) : ∃ cs, Blk w g e cs := by
 rcases h.2 with ⟨h1, _⟩ | ⟨g', cap, cur, hv, hg, hh, _⟩
 . cases h1
 . injection hv with hv; injection hv with hv; injection hv with hv
   subst hv
   exact ⟨cur, hh⟩
theorem mul_bound (x y z cy : Nat) (hx : x < 4294967296) (hy : y < 4294967296) (hz : z < 4294967296) (hc : cy < 4294967296) : cy + (x * y + z) < 18446744073709551616 /\ (cy + (x * y + z)) / 4294967296 < 4294967296 := by
 have : x * y <= 4294967295 * 4294967295 := Nat.mul_le_mul (by omega) (by omega)
 omega
theorem times_ok (P Q : Option Addr) (c d a b : Nat) (w : World) (hx : Holds w w.heap.size P a) (hy : Holds w w.heap.size Q b) (hl : (digits a).length <= 1048576) (hm : (digits b).length <= 1048576) :
 Calls Tryz.prog 36 #[.slice P (digits a).length c, .slice Q (digits b).length d] w fun e w' => ∃ v, e = .returned v /\ Made w w' v (a * b) := by
 have HX := Hd (show RI w w.heap.size .u64 P (toI (digits a)) from hx)
 have HY := Hd (show RI w w.heap.size .u64 Q (toI (digits b)) from hy)
 have HDA := Hd (digits_lt a)
 have HDB := Hd (digits_lt b)
 have HVA := Hd (val_digits a)
 have HVB := Hd (val_digits b)
 clear hx hy
 generalize digits a = l at *
 generalize digits b = m at *
 obtain ⟨i0, hi0, hz0, hz1, hz2⟩ := info_parts info64
 obtain ⟨n, hn⟩ : ∃ n : Nat, n = l.length + m.length := ⟨_, rfl⟩
 have hnI : (l.length : Int) + m.length = n := by omega
 have hn2 : n <= 2097152 := by omega
 have HN := Hd hn
 clear hn
 go_enter Tryz.func36, Tryz.ntmps36
 go_wp2_with (refine wpList_make_full _ rfl (.tmp 13) (.tmp 13) 41 rfl w.heap.size 24 _ (.int .u64 0) 1 Tryz.underlying41 hi0 hz0 hz1 .i64 .i64 (n : Int) (n : Int) n rfl rfl rfl rfl (by rw [hz2]; omega) (by simp only [maxLen]; omega) (Nat.le_refl _) ?_; intro w2 hown hgr)
 rw [show (madeCells (Value.int .u64 0).cells (n * 1)).toList = nums .u64 (toI (List.replicate n 0)) from by rw [Nat.mul_one]; exact (toList_madeCells_one _ _).trans (by simp [nums, toI])] at hown
 have b2 : Below w.heap.size w w2 := (Below.refl _ _).grown hgr (Nat.le_refl _) (by simp)
 have hD0 : Digs w2 w.heap.size (List.replicate n 0) := ⟨(RI.of_own hown).2, own_some hown, fun x hx => by rw [List.eq_of_mem_replicate hx]; omega⟩
 have HD0 := Hd hD0
 obtain ⟨g, hg⟩ : ∃ g, g = w.heap.size := ⟨_, rfl⟩
 rw [<- hg] at HD0 ⊢
 have hgw : w.heap.size <= g := by omega
 clear hown hgr hD0 hnI hg
 go_loopw [17] (fun v wr => ∃ (i : Nat) (C : List Nat), v = .int .i64 i /\ i <= l.length /\ Hi (C.length = n) /\ Hi (Digs wr g C) /\ Hi (val C = val (l.take i) * b) /\ Hi (∀ j, i + m.length <= j -> C.getD j 0 = 0) /\ Below w.heap.size w wr) (fun v _ => l.length - (intOf v).toNat)
 case atStart => exact ⟨0, List.replicate n 0, rfl, by omega, Hd (by simp), HD0, Hd (by simp [val_zeros, val]), Hd (fun j _ => by rw [List.getD, List.getElem?_replicate]; split <;> rfl), b2⟩
 case round =>
  clear b2 HD0
  obtain ⟨i, C, rfl, hi, HC, HD, HE, HZ, hbl⟩ := hrel
  by_cases hlt : i < l.length
  . go_wp2_with fail
    go_loopw [7, 22] (fun cv v wc => ∃ (j cy : Nat) (C : List Nat), cv = .int .u64 cy /\ cy < 4294967296 /\ v = .int .i64 j /\ j <= m.length /\ Hi (C.length = n) /\ Hi (Digs wc g C) /\ Hi (val C + 4294967296 ^ (i + j) * cy = val (l.take i) * b + 4294967296 ^ i * (l.getD i 0 * val (m.take j))) /\ Hi (∀ j, i + m.length <= j -> C.getD j 0 = 0) /\ Below w.heap.size w wc) (fun _ v _ => m.length - (intOf v).toNat)
    case atStart => exact ⟨0, 0, C, rfl, by omega, rfl, by omega, HC, HD, Hd (by simp [val]; exact HE.o), HZ, hbl⟩
    case round =>
     clear HC HD HE HZ hbl
     obtain ⟨j, cy, C, rfl, hcy, rfl, hj, HC, HD, HE, HZ, hbl⟩ := hrel
     by_cases hjl : j < m.length
     . obtain ⟨ad, rfl, _, ca⟩ := (HX.o.below hbl).one (j := i) (by rw [toI_length]; exact hlt)
       obtain ⟨bd, rfl, _, cb⟩ := (HY.o.below hbl).one (j := j) (by rw [toI_length]; exact hjl)
       rw [rd_toI hlt] at ca
       rw [rd_toI hjl] at cb
       have hxlt := HDA.o _ (List.getElem_mem hlt)
       rw [show l[i] = l.getD i 0 from by simp [List.getD, hlt]] at hxlt
       have hylt := HDB.o _ (List.getElem_mem hjl)
       rw [show m[j] = m.getD j 0 from by simp [List.getD, hjl]] at hylt
       have hij : i + j < n := by have := HN.o; omega
       have cc := HD.o.get (j := i + j) (by rw [HC.o]; exact hij)
       have fc := HD.o.free (i + j)
       have hzlt := HD.o.lt (i + j)
       have hvt := val_take_succ hjl
       have hbd := mul_bound _ _ _ cy hxlt hylt hzlt hcy
       have hvs := fun v => val_set (l := C) (i := i + j) (by rw [HC.o]; exact hij) v
       obtain ⟨x, hx⟩ : ∃ x, x = l.getD i 0 := ⟨_, rfl⟩
       obtain ⟨y, hy⟩ : ∃ y, y = m.getD j 0 := ⟨_, rfl⟩
       obtain ⟨z, hz⟩ : ∃ z, z = C.getD (i + j) 0 := ⟨_, rfl⟩
       rw [<- hx] at ca hbd HE
       rw [<- hy] at cb hbd hvt
       rw [<- hz] at cc hbd hvs
       obtain ⟨p, hp⟩ : ∃ p, p = x * y := ⟨_, rfl⟩
       rw [<- hp] at hbd
       have hpI : (x : Int) * (y : Int) = (p : Int) := by rw [hp]; push_cast; rfl
       obtain ⟨T, hT⟩ : ∃ T, T = cy + (p + z) := ⟨_, rfl⟩
       rw [<- hT] at hbd
       have HX2 := Hd hx
       have HZ2 := Hd hz
       have HP := Hd hp
       have HT := Hd hT
       have HVT := Hd hvt
       have HVS := Hd hvs
       have HTD := Hd hbd
       have hij' : (i : Int) + j < n := by omega
       have gi : (i : Int) < l.length := by omega
       have gj : (j : Int) < m.length := by omega
       have eij : IntKind.i64.wrap ((i : Int) + j) = (i : Int) + j := IntWalk.i64_in _ (by omega)
       have tij : ((i : Int) + j).toNat = i + j := by omega
       clear hx hy hz hp hT hvt hvs hbd hxlt hylt hzlt
       go_wp2_with fail
       go_quiet (fail)
       have hwT : IntKind.u64.wrap ((cy : Int) + IntKind.u64.wrap (IntKind.u64.wrap (p : Int) + (z : Int))) = (T : Int) := by
        have h1 := HTD.o
        have h2 := HT.o
        simp only [IntKind.wrap_u64]
        omega
       rw [hwT]
       clear hwT hpI ca cb
       go_wp2
       go_roundw
       case rel =>
        have hTd : T / 4294967296 < 4294967296 := HTD.o.2
        have w1 : IntKind.u64.wrap ((T : Int) / 4294967296) = ((T / 4294967296 : Nat) : Int) := by rw [IntKind.wrap_u64]; omega
        refine ⟨j + 1, T / 4294967296, C.set (i + j) (T % 4294967296), by rw [w1], hTd, by go_num, by omega, Hd (by simp [HC.o]), Hd ?_, Hd ?_, Hd ?_, (below_drewN hbl nq).setCell hgw _⟩
        . have := (HD.o.drew nq).put (i + j) (T % 4294967296) (by omega)
          simpa using this
        . have hs := HVS.o (T % 4294967296)
          have he := HE.o
          have hp := HP.o
          have ht := HT.o
          rw [HVT.o, show i + (j + 1) = (i + j) + 1 from by omega, Nat.pow_succ, <- HX2.o]
          have e1 : 4294967296 ^ (i + j) * (T % 4294967296) + 4294967296 ^ (i + j) * 4294967296 * (T / 4294967296) = 4294967296 ^ (i + j) * T := by
           rw [Nat.mul_assoc, <- Nat.mul_add, Nat.mod_add_div]
          have e2 : 4294967296 ^ (i + j) * T = 4294967296 ^ (i + j) * cy + (4294967296 ^ (i + j) * p + 4294967296 ^ (i + j) * z) := by rw [ht, Nat.mul_add, Nat.mul_add]
          have e3 : 4294967296 ^ i * (x * (val (m.take j) + 4294967296 ^ j * y)) = 4294967296 ^ i * (x * val (m.take j)) + 4294967296 ^ (i + j) * p := by
           rw [Nat.mul_add, Nat.mul_add, hp, Nat.pow_add]
           congr 1; ac_rfl
          rw [e3]
          omega
        . intro q hq
          rw [List.getD, List.getElem?_set_ne (by omega)]
          exact HZ.o q hq
       case measure => simp [intOf]; omega
     . have hjm : j = m.length := by omega
       have hil : i + m.length < n := by have := HN.o; omega
       have cz := HD.o.get (j := i + m.length) (by rw [HC.o]; exact hil)
       rw [HZ.o _ (Nat.le_refl _)] at cz
       have cf := HD.o.free (i + m.length)
       have hE := HE.o
       rw [hjm, List.take_length, HVB.o] at hE
       have HE2 := Hd hE
       have g1 : (i : Int) + m.length < n := by omega
       clear hE
       go_wp2
       go_roundw
       case rel =>
        have hs := val_set (l := C) (i := i + m.length) (by rw [HC.o]; exact hil) cy
        rw [HZ.o _ (Nat.le_refl _)] at hs
        refine ⟨i + 1, C.set (i + m.length) cy, by go_num, by omega, Hd (by simp [HC.o]), Hd (HD.o.put _ cy hcy), Hd ?_, Hd ?_, hbl.setCell hgw _⟩
        . have he := HE2.o
          rw [val_take_succ hlt]
          have e1 : (val (l.take i) + 4294967296 ^ i * l.getD i 0) * b = val (l.take i) * b + 4294967296 ^ i * (l.getD i 0 * b) := by rw [Nat.add_mul, Nat.mul_assoc]
          rw [e1]
          omega
        . intro q hq
          rw [List.getD, List.getElem?_set_ne (by omega)]
          exact HZ.o q (by omega)
       case measure => simp [intOf]; omega
  . have hil : i = l.length := by omega
    have hE := HE.o
    rw [hil, List.take_length, HVA.o] at hE
    have N := norm_ok (some ⟨g, 0, none⟩) n wr.heap.size C wr HD.o.1 (by rw [HC.o]; omega) (by rw [HC.o]; omega)
    rw [norm_val HD.o.2.2, hE] at N
    have hm := RI.normed HD.o.1 HD.o.2.2
    rw [hE] at hm
    have hlen : (digits (a * b)).length <= n := by
     rw [<- hE, <- norm_val HD.o.2.2, <- HC.o]
     exact norm_length_le _
    have N' := Hd (callsCast N (args' := #[.slice (some ⟨g, 0, none⟩) n n]) (by rw [HC.o]))
    have HM := Hd hm
    clear N hm hE hil
    go_wp2_with fail
    refine N'.o.mono ?_
    rintro e' w4 ⟨rfl, rfl⟩
    go_wp2
    go_ret
    exact ⟨_, rfl, some ⟨g, 0, none⟩, n, rfl, hlen, HM.o, hbl⟩
end Big
namespace Big
theorem digits_le {n k : Nat} (h : n < 4294967296 ^ k) : (digits n).length <= k := by
 by_cases h0 : n = 0
 . subst h0; rw [digits_zero]; simp
 . have h1 := digits_ge h0
   rcases Nat.lt_or_ge k (digits n).length with hl | hl
   . have h2 : 4294967296 ^ k <= 4294967296 ^ ((digits n).length - 1) := Nat.pow_le_pow_right (by omega) (by omega)
     omega
   . exact hl
theorem digits_nil {n : Nat} : (digits n).length = 0 ↔ n = 0 := by
 constructor
 . intro h
   by_cases h0 : n = 0
   . exact h0
   . rw [digits_pos h0] at h; simp at h
 . rintro rfl; rw [digits_zero]; rfl
def bl (x : Nat) : Nat := if x = 0 then 0 else bl (x / 2) + 1
termination_by x
decreasing_by omega
theorem bl_zero : bl 0 = 0 := by rw [bl]; simp
theorem bl_pos {x : Nat} (h : x ≠ 0) : bl x = bl (x / 2) + 1 := by rw [bl, if_neg h]
theorem bl_spec (x : Nat) : x < 2 ^ bl x /\ (x ≠ 0 -> 1 <= bl x /\ 2 ^ (bl x - 1) <= x) := by
 induction x using Nat.strongRecOn with
 | ind x ih =>
   by_cases h : x = 0
   . subst h; rw [bl_zero]; simp
   . rw [bl_pos h]
     obtain ⟨h1, h2⟩ := ih (x / 2) (by omega)
     refine ⟨by rw [Nat.pow_succ]; omega, fun _ => ⟨by omega, ?_⟩⟩
     rw [Nat.add_sub_cancel]
     by_cases h3 : x / 2 = 0
     . rw [h3, bl_zero]; simp; omega
     . obtain ⟨h4, h5⟩ := h2 h3
       obtain ⟨k, hk⟩ : ∃ k, bl (x / 2) = k + 1 := ⟨bl (x / 2) - 1, by omega⟩
       rw [hk] at h5 ⊢
       rw [Nat.add_sub_cancel] at h5
       rw [Nat.pow_succ]; omega
theorem bl_le {x k : Nat} (h : x < 2 ^ k) : bl x <= k := by
 by_cases h0 : x = 0
 . subst h0; rw [bl_zero]; omega
 . obtain ⟨h1, h2⟩ := (bl_spec x).2 h0
   rcases Nat.lt_or_ge k (bl x) with hl | hl
   . have : 2 ^ k <= 2 ^ (bl x - 1) := Nat.pow_le_pow_right (by omega) (by omega)
     omega
   . exact hl
def szV (n : Nat) : Nat := if n = 0 then 0 else 32 * ((digits n).length - 1) + bl ((digits n).getD ((digits n).length - 1) 0)
theorem last_split {n : Nat} (h : n ≠ 0) : ∃ lo : Nat, n = lo + 4294967296 ^ ((digits n).length - 1) * (digits n).getD ((digits n).length - 1) 0 /\ lo < 4294967296 ^ ((digits n).length - 1) /\ (digits n).getD ((digits n).length - 1) 0 ≠ 0 /\ (digits n).getD ((digits n).length - 1) 0 < 4294967296 := by
 have hl : 1 <= (digits n).length := by
  rcases Nat.eq_zero_or_pos (digits n).length with h0 | h0
  . exact absurd (digits_nil.1 h0) h
  . exact h0
 have hv := val_take_succ (l := digits n) (i := (digits n).length - 1) (by omega)
 rw [show (digits n).length - 1 + 1 = (digits n).length by omega, List.take_length, val_digits] at hv
 have hlo := val_lt (l := (digits n).take ((digits n).length - 1)) (fun d hd => digits_lt n d (List.mem_of_mem_take hd))
 rw [List.length_take, Nat.min_eq_left (by omega)] at hlo
 have hg := digits_ge h
 refine ⟨_, hv, hlo, ?_, ?_⟩
 . intro e
   rw [e, Nat.mul_zero] at hv
   omega
 . have hlt : (digits n).length - 1 < (digits n).length := by omega
   have := digits_lt n _ (List.getElem_mem hlt)
   simpa [List.getD, hlt] using this
theorem szV_spec (n : Nat) : n < 2 ^ szV n /\ (n ≠ 0 -> 1 <= szV n /\ 2 ^ (szV n - 1) <= n) /\ szV n <= 32 * (digits n).length := by
 unfold szV
 by_cases h : n = 0
 . subst h; simp
 . rw [if_neg h]
   have hl : 1 <= (digits n).length := by
    rcases Nat.eq_zero_or_pos (digits n).length with h0 | h0
    . exact absurd (digits_nil.1 h0) h
    . exact h0
   obtain ⟨lo, h1, h2, h3, h4⟩ := last_split h
   generalize (digits n).getD ((digits n).length - 1) 0 = x at *
   obtain ⟨k, hk⟩ : ∃ k, k = (digits n).length - 1 := ⟨_, rfl⟩
   rw [<- hk] at h1 h2 ⊢
   obtain ⟨b1, b2⟩ := bl_spec x
   obtain ⟨b3, b4⟩ := b2 h3
   have b5 : bl x <= 32 := bl_le (by simpa using h4)
   have e1 : (2 : Nat) ^ (32 * k) = 4294967296 ^ k := by rw [Nat.pow_mul]
   refine ⟨?_, fun _ => ⟨by omega, ?_⟩, by omega⟩
   . rw [Nat.pow_add, e1]
     have : 4294967296 ^ k * (x + 1) <= 4294967296 ^ k * 2 ^ bl x := Nat.mul_le_mul_left _ (by omega)
     rw [Nat.mul_add] at this
     omega
   . rw [show 32 * k + bl x - 1 = 32 * k + (bl x - 1) by omega, Nat.pow_add, e1]
     have := Nat.mul_le_mul_left (4294967296 ^ k) b4
     omega
theorem quo_start {a b : Nat} (hb : b ≠ 0) : ((szV a : Int) - szV b < 0 /\ a < b) ∨ (0 <= (szV a : Int) - szV b /\ a < b * 2 ^ (((szV a : Int) - szV b).toNat + 1)) := by
 obtain ⟨a1, _, _⟩ := szV_spec a
 obtain ⟨_, b2, _⟩ := szV_spec b
 obtain ⟨b3, b4⟩ := b2 hb
 by_cases h : (szV a : Int) - szV b < 0
 . refine .inl ⟨h, ?_⟩
   have : 2 ^ szV a <= 2 ^ (szV b - 1) := Nat.pow_le_pow_right (by omega) (by omega)
   omega
 . refine .inr ⟨by omega, ?_⟩
   obtain ⟨k, hk⟩ : ∃ k : Nat, (szV a : Int) - szV b = k := ⟨szV a - szV b, by omega⟩
   rw [hk, Int.toNat_natCast]
   have e : 2 ^ szV a = 2 ^ (szV b - 1) * 2 ^ (k + 1) := by rw [<- Nat.pow_add]; congr 1; omega
   have := Nat.mul_le_mul_right (2 ^ (k + 1)) b4
   omega
theorem quo_end {a b q r : Nat} (h : q * b + r = a) (hr : r < b) : q = a / b /\ r = a % b := by
 have h1 : a = r + b * q := by rw [Nat.mul_comm]; omega
 subst h1
 refine ⟨?_, ?_⟩
 . rw [Nat.add_mul_div_left _ _ (by omega), Nat.div_eq_of_lt hr]; omega
 . rw [Nat.add_mul_mod_self_left, Nat.mod_eq_of_lt hr]
end Big
end Go.Proofs.YtkdnebalpdebeaaGreatDoor
