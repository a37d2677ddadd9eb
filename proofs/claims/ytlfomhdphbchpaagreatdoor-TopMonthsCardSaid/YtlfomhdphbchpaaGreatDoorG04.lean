/- Lemmas of a claim, several texts in one: Has, Cal, Wide -/
import Derived.Test.YtlfomhdphbchpaaGreatDoorG03
import Derived.Test.YtlfomhdphbchpaaGreatDoorG01
import Derived.Laws.CopyOwn
import Derived.Laws.MathBits
/-! What a world holds above an old one: blocks, each with its cells. -/
namespace Go.Proofs.YtlfomhdphbchpaaGreatDoor
open Go.RowKit Go.Deep
set_option linter.unusedVariables false
set_option linter.unusedSimpArgs false
/-- nothing old has turned, and these blocks lie there -/
def Has (W : World) (fs : List (Nat × TypeId × Array Value)) (w : World) : Prop := Below W.heap.size W w ∧ ∀ f ∈ fs, Blk w f.1 f.2.1 f.2.2
theorem Blk.step {w w' : World} {g : Nat} {t : TypeId} {cs : Array Value} (h : Blk w g t cs) (hb : Below w.heap.size w w') : Blk w' g t cs := by
  unfold Blk at *; rw [hb.block g (Blk.lt h)]; exact h
theorem Below.al {W w : World} (h : Below W.heap.size W w) (o : Obj) : Below W.heap.size W (w.alloc o) := h.alloc h.size o
theorem Has.nil {W w : World} (h : Below W.heap.size W w) : Has W [] w := ⟨h, fun _ h => by cases h⟩
theorem Has.cons {W w : World} {g : Nat} {t : TypeId} {cs : Array Value} {fs : List (Nat × TypeId × Array Value)} (h : Blk w g t cs) (hf : Has W fs w) : Has W ((g, t, cs) :: fs) w :=
  ⟨hf.1, fun f hm => by rcases List.mem_cons.1 hm with rfl | hm; exact h; exact hf.2 f hm⟩
theorem Has.start (W : World) : Has W [] W := Has.nil (Below.refl _ _)
theorem Has.step {W w w' : World} {fs : List (Nat × TypeId × Array Value)} (h : Has W fs w) (hb : Below w.heap.size w w') : Has W fs w' :=
  ⟨h.1.trans (hb.mono h.1.size), fun f hm => (h.2 f hm).step hb⟩
theorem Has.drew {W w : World} {fs : List (Nat × TypeId × Array Value)} (h : Has W fs w) : Has W fs w.drew := h.step (Below.refl _ _).drew
theorem Has.alloc {W w : World} {fs : List (Nat × TypeId × Array Value)} (h : Has W fs w) (o : Obj) : Has W fs (w.alloc o) := h.step ((Below.refl _ _).alloc (Nat.le_refl _) o)
theorem Has.new {W w : World} {fs : List (Nat × TypeId × Array Value)} (h : Has W fs w) {g : Nat} (hg : g = w.heap.size) (t : TypeId) (cs : Array Value) : Has W ((g, t, cs) :: fs) (w.alloc (.cells cs t)) := by
  subst hg; exact Has.cons (Blk.new w t cs) (h.alloc _)
theorem Has.size {W w : World} {fs : List (Nat × TypeId × Array Value)} (h : Has W fs w) : W.heap.size ≤ w.heap.size := h.1.size
theorem Has.below {W w : World} {fs : List (Nat × TypeId × Array Value)} (h : Has W fs w) : Below W.heap.size W w := h.1
theorem Has.get {W w : World} {fs : List (Nat × TypeId × Array Value)} (h : Has W fs w) (i : Nat) {f : Nat × TypeId × Array Value} (hi : fs[i]? = some f) : Blk w f.1 f.2.1 f.2.2 := h.2 f (List.mem_of_getElem? hi)
theorem Has.tail {W w : World} {f : Nat × TypeId × Array Value} {fs : List (Nat × TypeId × Array Value)} (h : Has W (f :: fs) w) : Has W fs w := ⟨h.1, fun g hm => h.2 g (List.mem_cons_of_mem _ hm)⟩
/-- the first block's cells are others now -/
theorem Has.turn {W w w' : World} {g : Nat} {t : TypeId} {cs cs' : Array Value} {fs : List (Nat × TypeId × Array Value)} (h : Has W ((g, t, cs) :: fs) w) (hg : W.heap.size ≤ g) (hne : ∀ f ∈ fs, f.1 ≠ g)
    (hn : Blk w' g t cs') (hfar : ∀ g' t' c', g' ≠ g → Blk w g' t' c' → Blk w' g' t' c') (hbel : ∀ B w0, B ≤ g → Below B w0 w → Below B w0 w') : Has W ((g, t, cs') :: fs) w' :=
  Has.cons hn ⟨hbel _ _ hg h.1, fun f hm => hfar _ _ _ (hne f hm) (h.2 f (List.mem_cons_of_mem _ hm))⟩
/-- a cell of the first block is another one now -/
theorem Has.set {W w : World} {g : Nat} {t : TypeId} {cs : Array Value} {fs : List (Nat × TypeId × Array Value)} (h : Has W ((g, t, cs) :: fs) w) (hg : W.heap.size ≤ g) (hne : ∀ f ∈ fs, f.1 ≠ g) (k : Nat) (v : Value) :
    Has W ((g, t, cs.setIfInBounds k v) :: fs) (w.setCell ⟨g, k, none⟩ v) :=
  Has.cons ((h.2 _ List.mem_cons_self).set_ k v) ⟨h.1.setCell hg _, fun f hm => (h.2 f (List.mem_cons_of_mem _ hm)).far (by have := hne f hm; simpa using this) _⟩
theorem Has.swap {W w : World} {f g : Nat × TypeId × Array Value} {fs : List (Nat × TypeId × Array Value)} (h : Has W (f :: g :: fs) w) : Has W (g :: f :: fs) w :=
  ⟨h.1, fun x hm => h.2 x (by simp only [List.mem_cons] at hm ⊢; rcases hm with h | h | h; exact .inr (.inl h); exact .inl h; exact .inr (.inr h))⟩
theorem Has.fresh {W w : World} {fs : List (Nat × TypeId × Array Value)} (h : Has W fs w) : ∀ f ∈ fs, f.1 ≠ w.heap.size := fun f hf => Nat.ne_of_lt (h.2 f hf).lt
theorem results_rows2 {P : Program} {fn : Func} {p u : Tmp} {ty ty' : TypeId} (h : fn.results = #[.cell p ty, .cell u ty']) (tmps : Array Value) (w : World) (g g' : Nat) (t t' : TypeId) (cs cs' : Array Value) (d d' : TypeDesc)
    (hp : tmps.getD p undef = .pointer (some ⟨g, 0, none⟩)) (hg : Blk w g t cs) (hu : P.underlying ty = some d) (hd : (match d with | .struct _ | .array _ _ => true | _ => false) = true) (hi : (P.info? ty).map (·.size) = some cs.size)
    (hp' : tmps.getD u undef = .pointer (some ⟨g', 0, none⟩)) (hg' : Blk w g' t' cs') (hu' : P.underlying ty' = some d') (hd' : (match d' with | .struct _ | .array _ _ => true | _ => false) = true) (hi' : (P.info? ty').map (·.size) = some cs'.size) :
    (results fn tmps).run P w = .ok (.tuple #[.agg cs, .agg cs']) w := by
  have hq : tmps[p]?.getD undef = .pointer (some ⟨g, 0, none⟩) := by simpa using hp
  have hq' : tmps[u]?.getD undef = .pointer (some ⟨g', 0, none⟩) := by simpa using hp'
  simp [results, h, hq, hq', asAddr, run_loadVar_row w g t ty cs (0, 0) d hg hu hd hi, run_loadVar_row w g' t' ty' cs' (0, 0) d' hg' hu' hd' hi', Result.andThen]
theorem results_row_tmp {P : Program} {fn : Func} {p u : Tmp} {ty : TypeId} (h : fn.results = #[.cell p ty, .tmp u]) (tmps : Array Value) (w : World) (g : Nat) (t : TypeId) (cs : Array Value) (d : TypeDesc) (v : Value)
    (hp : tmps.getD p undef = .pointer (some ⟨g, 0, none⟩)) (hg : Blk w g t cs)
    (hu : P.underlying ty = some d) (hd : (match d with | .struct _ | .array _ _ => true | _ => false) = true) (hi : (P.info? ty).map (·.size) = some cs.size) (hv : tmps.getD u undef = v) :
    (results fn tmps).run P w = .ok (.tuple #[.agg cs, v]) w := by
  have hq : tmps[p]?.getD undef = .pointer (some ⟨g, 0, none⟩) := by simpa using hp
  have hq' : tmps[u]?.getD undef = v := by simpa using hv
  simp [results, h, hq, hq', asAddr, run_loadVar_row w g t ty cs (0, 0) d hg hu hd hi, Result.andThen]
theorem Has.of_mem {W w : World} {fs gs : List (Nat × TypeId × Array Value)} (h : Has W fs w) (hm : ∀ f ∈ gs, f ∈ fs) : Has W gs w := ⟨h.1, fun f hf => h.2 f (hm f hf)⟩
end Go.Proofs.YtlfomhdphbchpaaGreatDoor

/-! cal: MonthEnd is some function of the day; money.Digits at the first currency -/
namespace Go.Proofs.YtlfomhdphbchpaaGreatDoor.Cal
open Go.RowKit Go.Deep
set_option linter.unusedVariables false
set_option linter.unusedSimpArgs false
theorem results_one {fn : Func} {u : Tmp} (h : fn.results = #[.tmp u]) (tmps : Array Value) (w : World) {v : Value} (hv : tmps.getD u undef = v) : (results fn tmps).run Tryz.prog w = .ok v w := by
  subst hv; exact results_tmp h _ _ _
theorem results_two {fn : Func} {u v : Tmp} (h : fn.results = #[.tmp u, .tmp v]) (tmps : Array Value) (w : World) {x y : Value} (hx : tmps.getD u undef = x) (hy : tmps.getD v undef = y) : (results fn tmps).run Tryz.prog w = .ok (.tuple #[x, y]) w := by
  subst hx hy
  simp [results, h, go_sem, Result.andThen]
theorem results_three {fn : Func} {u v t : Tmp} (h : fn.results = #[.tmp u, .tmp v, .tmp t]) (tmps : Array Value) (w : World) {x y z : Value} (hx : tmps.getD u undef = x) (hy : tmps.getD v undef = y) (hz : tmps.getD t undef = z) : (results fn tmps).run Tryz.prog w = .ok (.tuple #[x, y, z]) w := by
  subst hx hy hz
  simp [results, h, go_sem, Result.andThen]
def leapB (y : Int) : Bool := (y % 4 == 0 && y % 100 != 0) || y % 400 == 0
def ahd (y : Int) : Int := 365 * (y - 1) + (y - 1) / 4 - (y - 1) / 100 + (y - 1) / 400
set_option maxHeartbeats 4000000 in
theorem leap_ok (y : Int) (h : 0 ≤ y ∧ y ≤ 100000) (W : World) : Calls Tryz.prog 58 #[.int .i64 y] W fun e w' => e = .returned (.bool (leapB y)) ∧ w' = W := by
  obtain ⟨h1, h2⟩ := h
  obtain ⟨a, ha⟩ : ∃ a, a = y % 4 := ⟨_, rfl⟩
  obtain ⟨b, hb⟩ : ∃ b, b = y % 100 := ⟨_, rfl⟩
  obtain ⟨c, hc⟩ : ∃ c, c = y % 400 := ⟨_, rfl⟩
  unfold leapB
  rw [← ha, ← hb, ← hc]
  have ea := ha.symm
  have eb := hb.symm
  have ec := hc.symm
  clear ha hb hc
  cases h4 : (a == 0) with
  | true =>
    cases h5 : (b != 0) with
    | true =>
      go_enter Tryz.func58, Tryz.ntmps58
      go_wp2_with fail
      exact bodyPost_ret (results_one rfl _ _ rfl) rfl ⟨rfl, rfl⟩
    | false =>
      go_enter Tryz.func58, Tryz.ntmps58
      go_wp2_with fail
      exact bodyPost_ret (results_one rfl _ _ rfl) rfl ⟨by simp, rfl⟩
  | false =>
    go_enter Tryz.func58, Tryz.ntmps58
    go_wp2_with fail
    exact bodyPost_ret (results_one rfl _ _ rfl) rfl ⟨by simp, rfl⟩
set_option maxHeartbeats 4000000 in
theorem ahead_ok (y : Int) (h : 1 ≤ y ∧ y ≤ 100000) (W : World) : Calls Tryz.prog 57 #[.int .i64 y] W fun e w' => e = .returned (.int .i64 (ahd y)) ∧ w' = W := by
  obtain ⟨h1, h2⟩ := h
  unfold ahd
  go_enter Tryz.func57, Tryz.ntmps57
  go_wp2_with fail
  exact bodyPost_ret (results_one rfl _ _ rfl) rfl ⟨by simp, rfl⟩
def lenI (y m : Int) : Int := if m = 2 then (if leapB y then 29 else 28) else 30 + (m + m / 8) % 2
theorem lenI_in (y m : Int) : 28 ≤ lenI y m ∧ lenI y m ≤ 31 := by unfold lenI; split; split <;> omega; omega
theorem andI1 (n : Int) (h : 0 ≤ n ∧ n < 9223372036854775808) : bits .and .i64 n 1 = n % 2 := by
  have := i64_and_nat n.toNat 1 (by omega) (by decide)
  rw [show ((n.toNat : Nat) : Int) = n by omega, Nat.and_one_is_mod] at this
  rw [show ((1 : Nat) : Int) = 1 from rfl] at this
  rw [this]; omega
set_option maxHeartbeats 4000000 in
theorem length_ok (y m : Int) (h : 0 ≤ y ∧ y ≤ 100000) (hm : 1 ≤ m ∧ m ≤ 1000000000) (W : World) : Calls Tryz.prog 27 #[.int .i64 y, .int .i64 m] W fun e w' => e = .returned (.int .i64 (lenI y m)) ∧ w' = W := by
  obtain ⟨h1, h2⟩ := hm
  by_cases h3 : m = 2
  · subst h3
    have CL := Lib.hid (fun W' => leap_ok y h W')
    unfold lenI
    simp only [if_true]
    cases hb : leapB y with
    | true =>
      rw [hb] at CL
      clear hb h h1 h2
      go_enter Tryz.func27, Tryz.ntmps27
      go_wp2_with fail
      refine (CL.out _).mono ?_
      rintro e w1 ⟨rfl, rfl⟩
      go_wp2_with fail
      exact bodyPost_ret (results_one rfl _ _ rfl) rfl ⟨rfl, rfl⟩
    | false =>
      rw [hb] at CL
      clear hb h h1 h2
      go_enter Tryz.func27, Tryz.ntmps27
      go_wp2_with fail
      refine (CL.out _).mono ?_
      rintro e w1 ⟨rfl, rfl⟩
      go_wp2_with fail
      exact bodyPost_ret (results_one rfl _ _ rfl) rfl ⟨rfl, rfl⟩
  · have e0 : (m == 2) = false := beq_eq_false_iff_ne.2 h3
    have e1 := andI1 (m + m / 8) (by omega)
    unfold lenI
    rw [if_neg h3]
    clear h3 h
    go_enter Tryz.func27, Tryz.ntmps27
    go_wp2_with fail
    exact bodyPost_ret (results_one rfl _ _ rfl) rfl ⟨by first | rfl | simp, rfl⟩
set_option maxHeartbeats 4000000 in
theorem is_ok (n : Int) (h : 1 ≤ n ∧ n ≤ 3652059) (W : World) : Calls Tryz.prog 25 #[.int .i64 n] W fun e w' => e = .returned (.bool true) ∧ w' = W := by
  obtain ⟨h1, h2⟩ := h
  go_enter Tryz.func25, Tryz.ntmps25
  go_wp2_with fail
  exact bodyPost_ret (results_one rfl _ _ rfl) rfl ⟨by first | rfl | simp, rfl⟩
/-- the year from y on, in at most k steps -/
def yr (n : Int) : Nat → Int → Int
  | 0, y => y
  | k + 1, y => if ahd (y + 1) < n then yr n k (y + 1) else y
/-- the month and its day, from m on -/
def mo (y : Int) : Nat → Int → Int → Int × Int
  | 0, m, n => (m, n)
  | k + 1, m, n => if lenI y m < n then mo y k (m + 1) (n - lenI y m) else (m, n)
theorem ahd_ge {y : Int} (h : 1 ≤ y) : 365 * (y - 1) ≤ ahd y := by unfold ahd; omega
theorem ahd_le {y : Int} (h : 1 ≤ y) : ahd y ≤ 366 * (y - 1) := by unfold ahd; omega
def civY (n : Int) : Int := yr n 20000 (n / 366 + 1)
def civM (n : Int) : Int × Int := mo (civY n) 200000 1 (n - ahd (civY n))
def endB (n : Int) : Bool := (civM n).2 == lenI (civY n) (civM n).1
set_option maxHeartbeats 4000000 in
theorem civil_ok (n : Int) (h : 1 ≤ n ∧ n ≤ 3652059) (W : World) : Calls Tryz.prog 26 #[.int .i64 n] W fun e w' => e = .returned (.tuple #[.int .i64 (civY n), .int .i64 (civM n).1, .int .i64 (civM n).2]) ∧ w' = W ∧ 1 ≤ civY n ∧ civY n ≤ 20000 ∧ 1 ≤ (civM n).1 ∧ (civM n).1 ≤ 1000000 := by
  obtain ⟨h1, h2⟩ := h
  obtain ⟨Y, hY⟩ : ∃ Y, Y = civY n := ⟨_, rfl⟩
  obtain ⟨A, hA⟩ : ∃ A, A = ahd (civY n) := ⟨_, rfl⟩
  obtain ⟨M, hM⟩ : ∃ M, M = civM n := ⟨_, rfl⟩
  rw [← hY, ← hM]
  have HY : Hid (yr n 20000 (n / 366 + 1) = Y) := Lib.hid hY.symm
  have HM : Hid (mo Y 200000 1 (n - ahd Y) = M) := Lib.hid (by rw [hM, hY]; rfl)
  clear hY hA hM
  go_enter Tryz.func26, Tryz.ntmps26
  go_wp2_with fail
  go_loop [5] (fun y => ∃ (k : Nat) (z : Int), y = .int .i64 z ∧ 1 ≤ z ∧ Hid (z + k ≤ 31000 ∧ 10300 ≤ z + k) ∧ Hid (yr n k z = Y) ∧ Hid (365 * (z - 1) < n)) (fun y => (40000 - intOf y).toNat)
  case atStart =>
    exact ⟨20000, n / 366 + 1, rfl, by omega, Lib.hid (by omega), HY, Lib.hid (by omega)⟩
  case round =>
    clear HY
    obtain ⟨k, z, rfl, hz1, HK, HZ, HB⟩ := hrel
    have hb := HB.out
    have hz2 : z ≤ 10100 := by omega
    obtain ⟨k', rfl⟩ : ∃ k', k = k' + 1 := ⟨k - 1, by have := HK.out; omega⟩
    clear hb
    have CA := Lib.hid (fun W' => ahead_ok (z + 1) (by omega) W')
    go_wp2_with fail
    refine (CA.out _).mono ?_
    rintro e w1 ⟨rfl, rfl⟩
    by_cases hlt : ahd (z + 1) < n
    · have hs := HZ.out
      rw [yr, if_pos hlt] at hs
      have HS := Lib.hid hs
      have hg := ahd_ge (y := z + 1) (by omega)
      have HG : Hid (365 * (z + 1 - 1) < n) := Lib.hid (by omega)
      clear hs hg
      go_wp2_with fail
      go_round
      case rel => exact ⟨k', z + 1, rfl, by omega, Lib.hid (by have := HK.out; omega), HS, HG⟩
      case measure => simp [intOf]; omega
    · have hs := HZ.out
      rw [yr, if_neg hlt] at hs
      subst hs
      have hge : n ≤ ahd (z + 1) := by omega
      clear hlt
      have CB := Lib.hid (fun W' => ahead_ok z (by omega) W')
      have hal := ahd_le (y := z) hz1
      have hag := ahd_ge (y := z) hz1
      obtain ⟨A, hA⟩ : ∃ A, A = ahd z := ⟨_, rfl⟩
      rw [← hA] at CB HM hal hag
      have hA0 : 0 ≤ A := by omega
      have hA1 : A ≤ 4000000 := by omega
      clear hal hag hA
      go_wp2_with fail
      refine (CB.out _).mono ?_
      rintro e w1 ⟨rfl, rfl⟩
      clear hge
      have hy : 1 ≤ z ∧ z ≤ 20000 := by omega
      go_wp2_with fail
      go_loop [0, 6] (fun d mm => ∃ (k : Nat) (x m : Int), d = .int .i64 x ∧ mm = .int .i64 m ∧ 1 ≤ m ∧ Hid (m + k = 200001) ∧ Hid (mo z k m x = M) ∧ Hid (x + 28 * (m - 1) ≤ 4000000) ∧ -5000000 ≤ x ∧ x ≤ 4000000) (fun _ m => (300000 - intOf m).toNat)
      case atStart =>
        exact ⟨200000, n - A, 1, rfl, rfl, by omega, Lib.hid (by omega), HM, Lib.hid (by omega), by omega, by omega⟩
      case round =>
        clear HM
        obtain ⟨k, x, m, rfl, rfl, hm1, HK, HMM, HX, hx1, hx2⟩ := hrel
        have hm2 : m ≤ 200001 := by have := HK.out; omega
        have CL := Lib.hid (fun W' => length_ok z m (by omega) (by omega) W')
        have hl := lenI_in z m
        obtain ⟨L, hL⟩ : ∃ L, L = lenI z m := ⟨_, rfl⟩
        rw [← hL] at CL hl
        obtain ⟨hl1, hl2⟩ := hl
        have HL := Lib.hid hL
        clear hL
        by_cases hlt : L < x
        · obtain ⟨k', rfl⟩ : ∃ k', k = k' + 1 := ⟨k - 1, by have := HK.out; have := HX.out; omega⟩
          have hs := HMM.out
          rw [mo, ← HL.out, if_pos hlt] at hs
          have HS := Lib.hid hs
          clear hs
          go_wp2_with fail
          refine (CL.out _).mono ?_
          rintro e w1 ⟨rfl, rfl⟩
          go_wp2_with fail
          refine (CL.out _).mono ?_
          rintro e w1 ⟨rfl, rfl⟩
          go_wp2_with fail
          go_round
          case rel => exact ⟨k', x - L, m + 1, rfl, rfl, by omega, Lib.hid (by have := HK.out; omega), HS, Lib.hid (by have := HX.out; omega), by omega, by omega⟩
          case measure => simp [intOf]; omega
        · have hs : M = (m, x) := by
            have hs := HMM.out
            cases k with
            | zero => rw [mo] at hs; exact hs.symm
            | succ k => rw [mo, ← HL.out, if_neg hlt] at hs; exact hs.symm
          subst hs
          have hge : x ≤ L := by omega
          clear hlt HMM
          go_wp2_with fail
          refine (CL.out _).mono ?_
          rintro e w1 ⟨rfl, rfl⟩
          go_wp2_with fail
          exact bodyPost_ret (results_three rfl _ _ rfl rfl rfl) rfl ⟨rfl, rfl, by omega⟩
set_option maxHeartbeats 4000000 in
theorem monthEnd_ok (n : Int) (h : 1 ≤ n ∧ n ≤ 3652059) (W : World) : Calls Tryz.prog 11 #[.int .i64 n] W fun e w' => e = .returned (.tuple #[.bool (endB n), .int .i64 0]) ∧ w' = W := by
  have CI := Lib.hid (fun W' => is_ok n h W')
  have CC := Lib.hid (fun W' => civil_ok n h W')
  unfold endB
  obtain ⟨Y, hY⟩ : ∃ Y, Y = civY n := ⟨_, rfl⟩
  obtain ⟨M, hM⟩ : ∃ M, M = (civM n).1 := ⟨_, rfl⟩
  obtain ⟨D, hD⟩ : ∃ D, D = (civM n).2 := ⟨_, rfl⟩
  rw [← hY, ← hM, ← hD] at CC ⊢
  clear hY hM hD
  go_enter Tryz.func11, Tryz.ntmps11
  go_wp2_with fail
  refine (CI.out _).mono ?_
  rintro e w1 ⟨rfl, rfl⟩
  go_wp2_with fail
  refine (CC.out _).mono ?_
  rintro e w1 ⟨rfl, rfl, y1, y2, m1, m2⟩
  have CL := Lib.hid (fun W' => length_ok Y M (by omega) (by omega) W')
  go_wp2_with fail
  refine (CL.out _).mono ?_
  rintro e w1 ⟨rfl, rfl⟩
  go_wp2_with fail
  exact bodyPost_ret (results_two rfl _ _ rfl rfl) rfl ⟨rfl, rfl⟩
/-! money: the first currency -/
set_option maxHeartbeats 4000000 in
theorem name0_ok (W : World) : Calls Tryz.prog 81 #[.int .i64 0] W fun e w' => e = .returned (.string ⟨#[69, 85, 82]⟩) ∧ w' = W := by
  go_enter Tryz.func81, Tryz.ntmps81
  go_wp2_with fail
  exact bodyPost_ret (results_one rfl _ _ rfl) rfl ⟨rfl, rfl⟩
set_option maxHeartbeats 4000000 in
theorem figures0_ok (W : World) : Calls Tryz.prog 82 #[.int .i64 0] W fun e w' => e = .returned (.int .i64 2) ∧ w' = W := by
  go_enter Tryz.func82, Tryz.ntmps82
  go_wp2_with fail
  exact bodyPost_ret (results_one rfl _ _ rfl) rfl ⟨rfl, rfl⟩
set_option maxHeartbeats 4000000 in
theorem digits0_ok (W : World) : Calls Tryz.prog 48 #[.int .i64 0] W fun e w' => e = .returned (.tuple #[.int .i64 2, .int .i64 0]) ∧ w' = W := by
  go_enter Tryz.func48, Tryz.ntmps48
  go_wp2_with fail
  refine (name0_ok _).mono ?_
  rintro e w1 ⟨rfl, rfl⟩
  go_wp2_with fail
  refine (figures0_ok _).mono ?_
  rintro e w1 ⟨rfl, rfl⟩
  go_wp2_with fail
  exact bodyPost_ret (results_two rfl _ _ rfl rfl) rfl ⟨rfl, rfl⟩
end Go.Proofs.YtlfomhdphbchpaaGreatDoor.Cal

/-! whole numbers of 384 bits as six words: what a step of each reckoning does -/
namespace Go.Proofs.YtlfomhdphbchpaaGreatDoor.Wide
set_option linter.unusedVariables false
set_option linter.unusedSimpArgs false
def B : Nat := 18446744073709551616
def P (k : Nat) : Nat := B ^ k
/-- the word k of a number -/
def w (n k : Nat) : Nat := n / P k % B
theorem B_pos : 0 < B := by decide
theorem P_pos (k : Nat) : 0 < P k := Nat.pow_pos B_pos
theorem P_zero : P 0 = 1 := rfl
theorem P_succ (k : Nat) : P (k + 1) = P k * B := Nat.pow_succ ..
theorem P_add (i j : Nat) : P (i + j) = P i * P j := Nat.pow_add ..
theorem w_lt (n k : Nat) : w n k < B := Nat.mod_lt _ B_pos
/-- the carry of a sum ahead of the word i -/
def carry (a b i : Nat) : Nat := (a % P i + b % P i) / P i
theorem carry_zero (a b : Nat) : carry a b 0 = 0 := by simp [carry, P_zero, Nat.mod_one]
theorem mod_next (a i : Nat) : a % P (i + 1) = a % P i + P i * w a i := by
  rw [P_succ, Nat.mod_mul]; rfl
theorem carry_succ (a b i : Nat) : carry a b (i + 1) = (w a i + w b i + carry a b i) / B := by
  unfold carry
  rw [mod_next, mod_next, P_succ, ← Nat.div_div_eq_div_mul]
  have : a % P i + P i * w a i + (b % P i + P i * w b i) = a % P i + b % P i + P i * (w a i + w b i) := by rw [Nat.mul_add]; omega
  rw [this, Nat.add_mul_div_left _ _ (P_pos i)]
  congr 1; omega
theorem carry_le (a b i : Nat) : carry a b i ≤ 1 := by
  unfold carry
  have h1 := Nat.mod_lt a (P_pos i); have h2 := Nat.mod_lt b (P_pos i)
  have : (a % P i + b % P i) / P i < 2 := by rw [Nat.div_lt_iff_lt_mul (P_pos i)]; omega
  omega
theorem div_add (a b i : Nat) : (a + b) / P i = a / P i + b / P i + carry a b i := by
  have ha := Nat.div_add_mod a (P i); have hb := Nat.div_add_mod b (P i)
  have : a + b = a % P i + b % P i + P i * (a / P i + b / P i) := by rw [Nat.mul_add]; omega
  rw [this, Nat.add_mul_div_left _ _ (P_pos i), Nat.add_comm]; rfl
theorem w_add (a b i : Nat) : w (a + b) i = (w a i + w b i + carry a b i) % B := by
  unfold w
  rw [div_add]
  simp only [Nat.add_mod, Nat.mod_mod]
/-- Sub's borrow is the carry of the difference and what is taken away -/
theorem sub_step {a b i : Nat} (h : b ≤ a) :
    w (a - b) i + w b i + carry (a - b) b i = w a i + B * carry (a - b) b (i + 1) := by
  have h1 := w_add (a - b) b i
  rw [Nat.sub_add_cancel h] at h1
  rw [carry_succ, h1]
  exact (Nat.mod_add_div _ _).symm
/-- Mul's row: the carry ahead of the word i + j, of c + x * b * P i -/
def row (c x b i j : Nat) : Nat := (c / P i % P j + x * (b % P j)) / P j
theorem row_zero (c x b i : Nat) : row c x b i 0 = 0 := by simp [row, P_zero, Nat.mod_one]
theorem w_div (c i j : Nat) : w (c / P i) j = w c (i + j) := by
  unfold w; rw [Nat.div_div_eq_div_mul, ← P_add]
theorem row_succ (c x b i j : Nat) : row c x b i (j + 1) = (x * w b j + w c (i + j) + row c x b i j) / B := by
  unfold row
  rw [mod_next, mod_next, P_succ, ← Nat.div_div_eq_div_mul, w_div]
  have : c / P i % P j + P j * w c (i + j) + x * (b % P j + P j * w b j) = c / P i % P j + x * (b % P j) + P j * (x * w b j + w c (i + j)) := by
    rw [Nat.mul_add x, Nat.mul_add (P j), Nat.mul_left_comm x]; omega
  rw [this, Nat.add_mul_div_left _ _ (P_pos j)]
  congr 1; omega
theorem w_row (c x b i j : Nat) : w (c + x * b * P i) (i + j) = (x * w b j + w c (i + j) + row c x b i j) % B := by
  rw [← w_div, Nat.mul_comm (x * b), Nat.add_mul_div_left _ _ (P_pos i)]
  unfold w row
  have h1 := Nat.div_add_mod (c / P i) (P j); have h2 := Nat.div_add_mod b (P j)
  have h3 : c / P i + x * b = c / P i % P j + x * (b % P j) + P j * (c / P i / P j + x * (b / P j)) := by
    have h4 : x * b = P j * (x * (b / P j)) + x * (b % P j) := by rw [Nat.mul_left_comm, ← Nat.mul_add, h2]
    rw [Nat.mul_add (P j), h4]; omega
  rw [h3, Nat.add_mul_div_left _ _ (P_pos j), Nat.div_div_eq_div_mul, ← P_add]
  generalize (c / P i % P j + x * (b % P j)) / P j = q
  have h5 : x * (b / P j % B) % B = x * (b / P j) % B := by simp only [Nat.mul_mod, Nat.mod_mod]
  show (q + (c / P (i + j) + x * (b / P j))) % B = (x * (b / P j % B) + c / P (i + j) % B + q) % B
  have := B_pos
  simp only [Nat.add_mod _ _ B, h5, Nat.mod_mod]
  generalize x * (b / P j) % B = u
  generalize c / P (i + j) % B = v
  generalize q % B = r
  unfold B; omega
/-! Cmp -/
theorem div_split (a i : Nat) : a / P i = a / P (i + 1) * B + w a i := by
  unfold w; rw [P_succ, ← Nat.div_div_eq_div_mul, Nat.mul_comm]; exact (Nat.div_add_mod _ _).symm
theorem lt_of_div {a b i : Nat} (h : a / P i < b / P i) : a < b := by
  rcases Nat.lt_or_ge a b with h' | h'
  · exact h'
  · exact absurd (Nat.div_le_div_right (c := P i) h') (by omega)
theorem cmp_lt {a b i : Nat} (h : a / P (i + 1) = b / P (i + 1)) (hw : w a i < w b i) : a < b := by
  refine lt_of_div (i := i) ?_; rw [div_split a, div_split b, h]; omega
theorem cmp_eq {a b i : Nat} (h : a / P (i + 1) = b / P (i + 1)) (hw : w a i = w b i) : a / P i = b / P i := by
  rw [div_split a, div_split b, h, hw]
theorem eq_of_zero {a b : Nat} (h : a / P 0 = b / P 0) : a = b := by simpa [P_zero] using h
/-! Len -/
theorem P_two (k : Nat) : P k = 2 ^ (64 * k) := by
  unfold P B; rw [show (18446744073709551616 : Nat) = 2 ^ 64 by decide, ← Nat.pow_mul]
theorem top_zero {a : Nat} (h : a < P 6) : a / P 6 = 0 := Nat.div_eq_of_lt h
theorem len_hit {a i : Nat} (h : a / P (i + 1) = 0) (hw : w a i ≠ 0) : Go.bitLen a = 64 * i + Go.bitLen (w a i) := by
  have h1 : a / P i = w a i := by rw [div_split, h]; omega
  rw [← h1, P_two]; exact Go.bitLen_shift _ _ (by rw [← P_two, h1]; exact hw)
theorem len_miss {a i : Nat} (h : a / P (i + 1) = 0) (hw : w a i = 0) : a / P i = 0 := by rw [div_split, h, hw]; omega
/-! Left -/
theorem w_left_low {a n i : Nat} (h : i < n) (s : Nat) : w (a * (P n * s)) i = 0 := by
  obtain ⟨d, rfl⟩ : ∃ d, n = i + 1 + d := ⟨n - i - 1, by omega⟩
  unfold w
  rw [P_add (i + 1), P_succ]
  rw [show a * (P i * B * P d * s) = P i * (B * (P d * s * a)) by simp only [Nat.mul_comm, Nat.mul_left_comm, Nat.mul_assoc], Nat.mul_div_cancel_left _ (P_pos i), Nat.mul_mod_right]
theorem w_shift (a n i s : Nat) : w (a * (P n * s)) (n + i) = w (a * s) i := by
  unfold w
  rw [P_add, ← Nat.div_div_eq_div_mul, show a * (P n * s) = P n * (a * s) by simp only [Nat.mul_left_comm], Nat.mul_div_cancel_left _ (P_pos n)]
/-- a word of a number that is shifted by t bits, 0 < t < 64 -/
theorem w_bits {a i t : Nat} (ht : t ≤ 64) : w (a * 2 ^ t) (i + 1) = (w a (i + 1) * 2 ^ t) % B + w a i / 2 ^ (64 - t) := by
  have hB : B = 2 ^ t * 2 ^ (64 - t) := by rw [← Nat.pow_add]; unfold B; rw [show t + (64 - t) = 64 by omega]
  have h2 : 0 < 2 ^ t := Nat.pow_pos (by decide)
  have h3 : 0 < 2 ^ (64 - t) := Nat.pow_pos (by decide)
  have e : a * 2 ^ t / P (i + 1) = a / P i / 2 ^ (64 - t) := by
    rw [P_succ, hB, Nat.mul_left_comm (P i), Nat.mul_comm a, Nat.mul_div_mul_left _ _ h2, Nat.div_div_eq_div_mul]
  unfold w
  rw [e]
  have h4 := div_split a i
  generalize ha : a / P i = q at *
  have h5 : a / P (i + 1) = q / B := by rw [P_succ, ← Nat.div_div_eq_div_mul, ha]
  rw [h5]
  have e1 : q / B % B * 2 ^ t % B = q / B % 2 ^ (64 - t) * 2 ^ t := by
    rw [Nat.mod_mul_mod, hB, Nat.mul_comm _ (2 ^ t), Nat.mul_mod_mul_left, Nat.mul_comm]
  have e2 : q % B / 2 ^ (64 - t) = q / 2 ^ (64 - t) % 2 ^ t := by
    rw [hB, Nat.mul_comm (2 ^ t), Nat.mod_mul_right_div_self]
  have e3 : q / B = q / 2 ^ (64 - t) / 2 ^ t := by rw [Nat.div_div_eq_div_mul, hB, Nat.mul_comm]
  rw [e1, e2, e3, hB]
  rw [Nat.mod_mul]
  rw [Nat.add_comm, Nat.mul_comm]
/-! Quo -/
theorem bitLen_lt {n k : Nat} (h : n < 2 ^ k) : Go.bitLen n ≤ k := by
  have h1 := (Go.bitLen_spec n).2
  rcases Nat.eq_zero_or_pos n with h0 | h0
  · subst h0; simp [Go.bitLen]
  · rcases Nat.lt_or_ge k (Go.bitLen n) with h2 | h2
    · have h3 := h1 (by omega)
      have h4 : 2 ^ k ≤ 2 ^ (Go.bitLen n - 1) := Nat.pow_le_pow_right (by decide) (by omega)
      omega
    · exact h2
theorem bitLen_le6 {n : Nat} (h : n < P 6) : Go.bitLen n ≤ 384 := by
  have h1 : ∀ k, n < P k → Go.bitLen n ≤ 64 * k := fun k h => bitLen_lt (by rw [P_two] at h; exact h)
  exact h1 6 h
theorem bitLen_pos {n : Nat} (h : 0 < n) : 1 ≤ Go.bitLen n := by
  unfold Go.bitLen; rw [if_neg (by omega)]; omega
/-- what is shifted by the difference of the lengths is no longer than a -/
theorem left_fits {a b n : Nat} (ha : a < P 6) (hn : n + Go.bitLen b ≤ 384) : b * 2 ^ n < P 6 := by
  rw [P_two]
  have h1 := (Go.bitLen_spec b).1
  have h5 : Go.bitLen b + n ≤ 64 * 6 := by omega
  calc b * 2 ^ n < 2 ^ Go.bitLen b * 2 ^ n := (Nat.mul_lt_mul_right (Nat.pow_pos (by decide))).2 h1
    _ = 2 ^ (Go.bitLen b + n) := (Nat.pow_add ..).symm
    _ ≤ 2 ^ (64 * 6) := Nat.pow_le_pow_right (by decide) h5
/-- ahead of the first step, a lies below twice what is shifted -/
theorem quo_start {a b n : Nat} (hb : 0 < b) (hn : Go.bitLen a < n + Go.bitLen b) : a < b * 2 ^ n := by
  have h1 := (Go.bitLen_spec a).1
  have h2 := (Go.bitLen_spec b).2 (by omega)
  have h3 := bitLen_pos hb
  calc a < 2 ^ Go.bitLen a := h1
    _ ≤ 2 ^ (Go.bitLen b - 1 + n) := Nat.pow_le_pow_right (by decide) (by omega)
    _ = 2 ^ (Go.bitLen b - 1) * 2 ^ n := Nat.pow_add ..
    _ ≤ b * 2 ^ n := Nat.mul_le_mul_right _ h2
/-- one bit that isn't there yet is put -/
theorem bit_put {x t : Nat} (ht : t < 64) (hx : x % 2 ^ (t + 1) = 0) : x ||| 2 ^ t = x + 2 ^ t := by
  obtain ⟨y, rfl⟩ : ∃ y, x = 2 ^ (t + 1) * y := ⟨x / 2 ^ (t + 1), by have := Nat.div_add_mod x (2 ^ (t + 1)); omega⟩
  rw [← Nat.two_pow_add_eq_or_of_lt (i := t + 1) (Nat.pow_lt_pow_right (by decide) (by omega))]
theorem w_put {q n : Nat} (hq : q % 2 ^ (n + 1) = 0) (i : Nat) : w (q + 2 ^ n) i = if i = n / 64 then w q i + 2 ^ (n % 64) else w q i := by
  obtain ⟨y, rfl⟩ : ∃ y, q = 2 ^ (n + 1) * y := ⟨q / 2 ^ (n + 1), by have := Nat.div_add_mod q (2 ^ (n + 1)); omega⟩
  have e : 2 ^ n = P (n / 64) * 2 ^ (n % 64) := by rw [P_two, ← Nat.pow_add, Nat.div_add_mod]
  have hB : B = 2 ^ (n % 64 + 1) * 2 ^ (63 - n % 64) := by
    rw [← Nat.pow_add, show n % 64 + 1 + (63 - n % 64) = 64 by omega]; rfl
  have e' : 2 ^ (n + 1) * y = P (n / 64) * (2 ^ (n % 64 + 1) * y) := by
    rw [Nat.pow_succ, e, Nat.pow_succ]; simp only [Nat.mul_assoc]
  rw [e', e]
  rcases Nat.lt_trichotomy i (n / 64) with h | h | h
  · rw [if_neg (by omega), ← Nat.mul_add]
    obtain ⟨d, hd⟩ : ∃ d, n / 64 = i + 1 + d := ⟨n / 64 - i - 1, by omega⟩
    unfold w; rw [hd, P_add (i + 1), P_succ]
    have z : ∀ c, P i * B * P d * c / P i % B = 0 := fun c => by
      rw [show P i * B * P d * c = P i * (B * (P d * c)) by simp only [Nat.mul_assoc], Nat.mul_div_cancel_left _ (P_pos i), Nat.mul_mod_right]
    rw [z, z]
  · rw [if_pos h, h]; unfold w
    rw [← Nat.mul_add, Nat.mul_div_cancel_left _ (P_pos _), Nat.mul_div_cancel_left _ (P_pos _), hB, Nat.mul_mod_mul_left]
    have h2 : 2 ^ (n % 64) < 2 ^ (n % 64 + 1) := Nat.pow_lt_pow_right (by decide) (by omega)
    have h3 : 0 < 2 ^ (n % 64 + 1) := Nat.pow_pos (by decide)
    rw [Nat.mod_mul, Nat.mul_add_mod, Nat.mod_eq_of_lt h2, Nat.mul_add_div h3, Nat.div_eq_of_lt h2]; simp only [Nat.add_zero]; omega
  · rw [if_neg (by omega)]
    obtain ⟨d, rfl⟩ : ∃ d, i = n / 64 + 1 + d := ⟨i - n / 64 - 1, by omega⟩
    have z : ∀ c, w (P (n / 64) * c) (n / 64 + 1 + d) = c / B / P d % B := fun c => by
      unfold w; rw [P_add (n / 64 + 1), P_succ, ← Nat.div_div_eq_div_mul, ← Nat.div_div_eq_div_mul, Nat.mul_div_cancel_left _ (P_pos _)]
    rw [← Nat.mul_add, z, z]
    have h2 : 2 ^ (n % 64) < 2 ^ (n % 64 + 1) := Nat.pow_lt_pow_right (by decide) (by omega)
    have h3 : 0 < 2 ^ (n % 64 + 1) := Nat.pow_pos (by decide)
    rw [hB, ← Nat.div_div_eq_div_mul, ← Nat.div_div_eq_div_mul, Nat.mul_add_div h3, Nat.div_eq_of_lt h2, Nat.mul_div_cancel_left _ h3, Nat.add_zero]
/-- numbers whose six words are the same -/
theorem ext_w {a b : Nat} (n : Nat) (ha : a < P n) (hb : b < P n) (h : ∀ i, i < n → w a i = w b i) : a = b := by
  have : ∀ k, k ≤ n → a / P (n - k) = b / P (n - k) := by
    intro k
    induction k with
    | zero => intro _; rw [Nat.sub_zero, Nat.div_eq_of_lt ha, Nat.div_eq_of_lt hb]
    | succ k ih =>
      intro hk
      have h1 := ih (by omega)
      have h2 : n - k = n - (k + 1) + 1 := by omega
      rw [h2] at h1
      exact cmp_eq h1 (h _ (by omega))
  have := this n (Nat.le_refl _)
  rw [Nat.sub_self] at this
  exact eq_of_zero this
end Go.Proofs.YtlfomhdphbchpaaGreatDoor.Wide
