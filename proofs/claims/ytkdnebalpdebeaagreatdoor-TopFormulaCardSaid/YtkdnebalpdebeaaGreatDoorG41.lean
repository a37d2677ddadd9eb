/- Lemmas of a claim: ShaD, ShaE -/
import Derived.Test.YtkdnebalpdebeaaGreatDoorG40
import Derived.Laws.Tables
set_option linter.unusedVariables false
set_option linter.unusedSimpArgs false
set_option maxHeartbeats 16000000
set_option maxRecDepth 100000
namespace Go.Proofs.YtkdnebalpdebeaaGreatDoor
namespace Sha
open Go.RowKit Go.Deep Pack Crc
theorem wpList_put {P : Program} {ops : Array Oper} {rest : List Oper} {o : Oper} {a : Act} {w : World} {Q : Exit -> Act -> World -> Prop} (hgd : o.guard = none) (ty : TypeId) (x y : Operand) (ho : o.op = .store ty x y)
 (g : Nat) (cells : Array Value) (hx : a.eval x = .pointer (some ⟨g, 0, none⟩)) (hy : a.eval y = .agg cells) (t : TypeId) (old : Array Value) (hg : Blk w g t old) (hi : (P.info? ty).map (·.size) = some cells.size)
 (hold : old.size = cells.size) (h1 : cells.all (·.oneCell') = true)
 (h : ∀ W2, Blk W2 g t cells -> (∀ g' t' cs, g' ≠ g -> Blk w g' t' cs -> Blk W2 g' t' cs) -> (∀ B w0, B <= g -> Below B w0 w -> Below B w0 W2) -> W2.heap.size = w.heap.size -> (∀ p : Addr, p.block ≠ g -> W2.cell? p = w.cell? p) -> wpList P ops Q rest (a.put o.dst undef) W2) : wpList P ops Q (o :: rest) a w :=
 wpList_store_row hgd ty x y ho g cells hx hy t old hg hi hold h1 (h _ (setRow_heap w g old cells t (0, 0) hg) (fun g' t' cs hne hb => (setRow_other w g g' _ hne).trans hb) (fun B w0 hB hb => below_setRow hb hB _) (by simp) (fun p hp => cell_setRow_other w g cells p hp))
theorem wpList_built {P : Program} {ops : Array Oper} {rest : List Oper} {o : Oper} {a : Act} {w : World} {Q : Exit -> Act -> World -> Prop} (hg : o.guard = none) (t : TypeId) (parts : Array (Nat × Operand)) (ho : o.op = .build t parts) (v : Array Value)
 (hf : P.built t (parts.map fun (i, x) => (i, a.eval x)).toList = some v) (h : wpList P ops Q rest (a.put o.dst (.agg v)) w) : wpList P ops Q (o :: rest) a w :=
 wpList_build hg t parts ho (by rw [hf]; rfl) (by rw [hf]; exact h)
theorem RI.away {w w' : World} {B g : Nat} {k : IntKind} {A : Option Addr} {xs : List Int} (h : RI w B k A xs) (hA : ∀ ad, A = some ad -> ad.block ≠ g) (hc : ∀ p : Addr, p.block ≠ g -> w'.cell? p = w.cell? p) : RI w' B k A xs := by
 refine ⟨h.1, fun hn => ?_⟩
 obtain ⟨ad, rfl, hb, hcell⟩ := h.2 hn
 exact ⟨ad, rfl, hb, fun j u hu => (hc _ (by rw [block_of_add]; exact hA ad rfl)).trans (hcell j u hu)⟩
theorem own_above {w : World} {base n c : Nat} {e : TypeId} {size : Nat} {A : Option Addr} {xs : List Value} (h : w.ownsRow base e size (.slice A n c) n xs) : ∀ ad, A = some ad -> base <= ad.block := by
 intro ad hA
 rcases h.2 with ⟨h1, _⟩ | ⟨g, cap, cur, hv, hb, _⟩
 . injection h1 with h1; rw [hA] at h1; cases h1
 . injection hv with hv; rw [hA] at hv; injection hv with hv; rw [hv]; exact hb
theorem wpList_cut2 {P : Program} {ops : Array Oper} {rest : List Oper} {o : Oper} {a : Act} {w : World} {Q : Exit -> Act -> World -> Prop} (hgd : o.guard = none) (x lo : Operand) (T : TypeId) (ho : o.op = .slice T x (some lo) none none)
 (hu : P.underlying T = some (.slice (P.elem T))) (hs : ∀ w, (sizeOf (P.elem T)).run P w = .ok 1 w) (A : Option Addr) (n c k : Nat) (kk : IntKind) (hx : a.eval x = .slice A n c) (hl : a.eval lo = .int kk (k : Int)) (hk : k <= n) (hc : n <= c)
 (h : ∀ A' : Option Addr, (∀ W B K xs, xs.length = n -> RI W B K A xs -> RI W B K A' (xs.drop k)) -> (∀ ad, A' = some ad -> ∃ ad0, A = some ad0 /\ ad.block = ad0.block) -> wpList P ops Q rest (a.put o.dst (.slice A' (n - k) (c - k))) w) : wpList P ops Q (o :: rest) a w := by
 refine wpList_plain hgd fun K hK => ?_
 have hrun := run_cut (P := P) T hu hs A n c k kk hk w
 unfold Oper.wp
 simp only [execOp, ho, Option.map_some, Option.map_none, hx, hl, Sem.run_bind, run_sliceAt_slice (P := P) (w := w) T _ _ _ _ hu, hrun, Result.andThen, Sem.run_pure, Oper.upon]
 refine hK _ _ (h _ (fun W B k' xs hl' hr => hr.cutIf k c (by omega) (by omega)) (fun ad had => ?_))
 split at had
 . exact ⟨ad, had, rfl⟩
 . obtain ⟨ad0, h0, rfl⟩ := Option.map_eq_some_iff.1 had
   exact ⟨ad0, h0, block_of_add _ _⟩
theorem row_one (ws : List Nat) (n : Nat) : (row ws n).all (·.oneCell') = true := by
 rw [row, List.all_toArray, List.all_append, Bool.and_eq_true]
 constructor
 . rw [List.all_map, List.all_eq_true]; intro x _; rfl
 . rw [List.all_replicate]; split <;> simp [Value.oneCell']
theorem roots_ok (w : World) : Calls Tryz.prog 256 #[] w fun e w' => e = .returned (.agg (row K 64)) /\ Below w.heap.size w w' := by
 go_enter Tryz.func256, Tryz.ntmps256
 go_wp2_with (first
  | (refine wpList_built rfl 351 _ rfl (row K 64) (by kernel_rfl) ?_)
  | (refine wpList_put rfl 351 (.tmp 0) (.tmp 1) rfl w.heap.size (row K 64) rfl rfl 351 _ (Blk.new _ _ _) (by kernel_rfl) rfl (row_one _ _) ?_
     intro W2 hB hfar hbel hsz hcl))
 have hb2 := hbel w.heap.size w (Nat.le_refl _) ((Below.refl _ _).alloc (Nat.le_refl _) _)
 exact bodyPost_ret (results_cell_row rfl _ W2 w.heap.size 351 (row K 64) (0, 0) _ rfl hB Tryz.underlying351 rfl (by kernel_rfl)) rfl ⟨rfl, hb2⟩
end Sha
namespace Sha
open Go.RowKit Go.Deep Pack Crc
def rowB (ws : List Nat) (n : Nat) : Array Value := (ws.map (fun x : Nat => Value.int .u8 (x : Nat)) ++ List.replicate (n - ws.length) (Value.int .u8 0)).toArray
theorem rowB_set {ws : List Nat} {n : Nat} (x : Nat) (h : ws.length < n) : (rowB ws n).setIfInBounds ws.length (.int .u8 (x : Nat)) = rowB (ws ++ [x]) n := by
 unfold rowB
 rw [List.setIfInBounds_toArray]
 congr 1
 rw [show n - ws.length = (n - (ws ++ [x]).length) + 1 from by simp; omega, List.replicate_succ]
 simp
theorem rowB_size {ws : List Nat} {n : Nat} (h : ws.length <= n) : (rowB ws n).size = n := by
 simp [rowB]; omega
theorem rowB_one (ws : List Nat) (n : Nat) : (rowB ws n).all (·.oneCell') = true := by
 rw [rowB, List.all_toArray, List.all_append, Bool.and_eq_true]
 constructor
 . rw [List.all_map, List.all_eq_true]; intro x _; rfl
 . rw [List.all_replicate]; split <;> simp [Value.oneCell']
theorem agg_one (s : St) : (agg s).all (·.oneCell') = true := by simp [agg, Value.oneCell']
theorem compress_ok (s : St) (l : List Nat) : (compress s l).ok := by
 refine ⟨?_, ?_, ?_, ?_, ?_, ?_, ?_, ?_⟩ <;> exact Nat.mod_lt _ (by omega)
theorem H0_ok : H0.ok := by unfold St.ok H0; decide
theorem tail_byt (n : Nat) : ∀ b ∈ tail n, b < 256 := by
 intro b hb
 simp only [tail, be8, List.mem_append, List.mem_cons, List.not_mem_nil, or_false, List.mem_replicate] at hb
 omega
theorem byt_toI {l : List Nat} (h : ∀ b ∈ l, b < 256) : Byt (toI l) := by
 intro n hn
 obtain ⟨m, hm, rfl⟩ := List.mem_map.1 hn
 have := h m hm
 show (0 : Int) <= (m : Int) /\ (m : Int) <= 255
 omega
theorem pad_len (n : Nat) : (n + (9 + zeros n)) % 64 = 0 := by unfold zeros; omega
theorem out_length (s : St) : (out s).length = 32 := rfl
theorem out_take (s : St) (i j : Nat) (hi : i < 8) (hj : j < 4) : (out s).take (4 * i + j) ++ [(vals s).getD i 0 / 2 ^ (24 - 8 * j) % 256] = (out s).take (4 * i + (j + 1)) := by
 have h1 : i = 0 ∨ i = 1 ∨ i = 2 ∨ i = 3 ∨ i = 4 ∨ i = 5 ∨ i = 6 ∨ i = 7 := by omega
 have h2 : j = 0 ∨ j = 1 ∨ j = 2 ∨ j = 3 := by omega
 rcases h1 with rfl | rfl | rfl | rfl | rfl | rfl | rfl | rfl <;> rcases h2 with rfl | rfl | rfl | rfl <;> simp [out, be4, vals]
theorem index_agg (s : St) (i : Nat) (hi : i < 8) (w : World) : (Instr.index 350 (.agg (agg s)) (.int .i64 (i : Int))).run Tryz.prog w = .ok (.int .u32 ((vals s).getD i 0 : Nat)) w := by
 have h1 : i = 0 ∨ i = 1 ∨ i = 2 ∨ i = 3 ∨ i = 4 ∨ i = 5 ∨ i = 6 ∨ i = 7 := by omega
 rcases h1 with rfl | rfl | rfl | rfl | rfl | rfl | rfl | rfl <;> rfl
theorem sha_ok (P : Option Addr) (c : Nat) (xs : List Int) (w : World) (hx : RI w w.heap.size .u8 P xs) (hl : xs.length + 80 <= 140737488355328) (hb : Byt xs) :
 Calls Tryz.prog 236 #[.slice P xs.length c] w fun e w' => e = .returned (.agg (rowB (sha (nat xs)) 32)) /\ Below w.heap.size w w' := by
 have HX := Hd hx
 have HB := Hd hb
 clear hx hb
 go_enter Tryz.func236, Tryz.ntmps236
 go_wp2_with fail
 refine (roots_ok _).mono ?_
 rintro e w1 ⟨rfl, b1⟩
 have s1 := b1.size
 have d0 : Below w.heap.size w w1 := (((Below.refl _ _).alloc (Nat.le_refl _) _).alloc (by simp) _).trans (b1.mono (by simp; omega))
 have hR := (Blk.new' (w := w) (t := 190) (cs := rowB [] 32) rfl)
 have hR1 : Blk w1 w.heap.size 190 (rowB [] 32) := ((Blk.new w 190 (rowB [] 32)).alloc _).below b1 (by simp; omega)
 have hH1 : Blk w1 (w.heap.size + 1) 350 (agg H0) := (Blk.new' (by simp)).below b1 (by simp)
 have HR := Hd hR1
 have HH := Hd hH1
 clear hR hR1 hH1
 simp at s1
 go_wp2_with (refine wpList_put rfl 351 (.tmp 4) (.tmp 11) rfl w1.heap.size (row K 64) rfl rfl 351 _ (Blk.new _ _ _) (by kernel_rfl) rfl (row_one _ _) ?_; intro W2 hK hfar hbel hsz hcl)
 have e1 := hbel w.heap.size w (by omega) (d0.alloc d0.size _)
 have hR2 := Hd (hfar _ _ _ (by omega) (HR.o.alloc _))
 have hH2 := Hd (hfar _ _ _ (by omega) (HH.o.alloc _))
 have HK := Hd hK
 have hsz2 : W2.heap.size = w1.heap.size + 1 := by rw [hsz]; simp
 have hkb : w.heap.size + 1 < w1.heap.size := by omega
 obtain ⟨kb, hkb2⟩ : ∃ kb, kb = w1.heap.size := ⟨_, rfl⟩
 rw [<- hkb2] at HK hkb hsz2 ⊢
 have HX2 := Hd ((HX.o.below e1).more e1.size)
 clear hkb2 hfar hbel hsz hcl HR HH d0 b1 s1 hK HX
 refine (padded_ok P c xs _ HX2.o hl).mono ?_
 rintro e w3 ⟨v3, rfl, hf⟩
 have b3 := hf.2
 have s3 := b3.size
 obtain ⟨A3, c3, rfl⟩ := own_slice hf.1
 have hc3 := own_cap hf.1
 have ha3 := own_above hf.1
 have hr3 := Hd (RI.of_own hf.1).2
 have hR3 := Hd (hR2.o.below b3 (hR2.o.lt))
 have hH3 := Hd (hH2.o.below b3 (hH2.o.lt))
 have hK3 := Hd (HK.o.below b3 (HK.o.lt))
 have e3 := e1.trans (b3.mono e1.size)
 have hbyt : Byt (xs ++ toI (tail xs.length)) := fun x hx => by
  rcases List.mem_append.1 hx with h | h
  . exact HB.o x h
  . exact byt_toI (tail_byt _) x h
 have hlen : (xs ++ toI (tail xs.length)).length = xs.length + (9 + zeros xs.length) := by simp [toI_length, tail_length]
 obtain ⟨m, hm⟩ : ∃ m, (xs ++ toI (tail xs.length)).length = 64 * m := ⟨(xs ++ toI (tail xs.length)).length / 64, by have := pad_len xs.length; omega⟩
 have hml : 64 * m <= 140737488355328 := by have := zeros_lt xs.length; omega
 have hsha : sha (nat xs) = out (blocks m H0 (nat (xs ++ toI (tail xs.length)))) := by
  unfold sha
  rw [nat_app, nat_toI, pad_tail, nat_length]
  have : (nat xs ++ tail xs.length).length / 64 = m := by
   have : (nat xs ++ tail xs.length).length = 64 * m := by rw [<- hm]; simp [nat_length, toI_length]
   omega
  rw [this]
 obtain ⟨ys, hys⟩ : ∃ ys, ys = xs ++ toI (tail xs.length) := ⟨_, rfl⟩
 rw [<- hys] at hr3 hbyt hm hsha hc3 ⊢
 have HSH := Hd hsha
 have HBY := Hd hbyt
 have HAB := Hd (show ∀ ad, A3 = some ad -> kb < ad.block from fun ad had => by have := ha3 ad had; omega)
 clear ha3
 rw [hm] at hc3 ⊢
 have HM := Hd hm
 clear hf hys hlen hsha hbyt hm hR2 hH2 HK HX2 b3 e1 HB
 go_wp2_with fail
 go_loopw [5] (fun q wr => ∃ (n : Nat) (l : List Int) (A : Option Addr) (cc : Nat) (st : St), q = .slice A (64 * n) cc /\ 64 * n <= cc /\ 64 * n <= 140737488355328 /\ Hi (l.length = 64 * n) /\ Hi (RI wr wr.heap.size .u8 A l) /\ Hi (Byt l) /\ Hi (∀ ad, A = some ad -> kb < ad.block) /\ Hi st.ok /\ Hi (out (blocks n st (nat l)) = sha (nat xs)) /\
  Hi (Blk wr w.heap.size 190 (rowB [] 32)) /\ Hi (Blk wr (w.heap.size + 1) 350 (agg st)) /\ Hi (Blk wr kb 351 (row K 64)) /\ Below w.heap.size w wr) (fun q _ => slen q)
 case atStart => exact ⟨m, ys, A3, c3, H0, rfl, hc3, hml, HM, hr3, HBY, HAB, Hd H0_ok, Hd HSH.o.symm, hR3, hH3, hK3, e3⟩
 case round =>
  clear hc3 hml HM hr3 HBY HAB HSH hR3 hH3 hK3 e3 s3
  obtain ⟨n, l, A, cc, st, rfl, hcc, hnl, HL, HRI, HBY, HAB, HST, HSH, hR3, hH3, hK3, e3⟩ := hrel
  by_cases hn : 0 < n
  . have h0n : (0 : Int) < 64 * (n : Int) := by omega
    go_wp2_with (refine wpList_load_row rfl 350 (.tmp 3) rfl (w.heap.size + 1) rfl 350 (agg st) (0, 0) _ hH3.o Tryz.underlying350 rfl (by kernel_rfl) ?_)
    obtain ⟨kt, hkt⟩ : ∃ t, Blk wr kb t (row K 64) := ⟨_, hK3.o⟩
    refine (block_ok st A (64 * n) cc kb l wr HST.o HRI.o (by omega) (by omega) HBY.o (by have := HL.o; omega) hcc ⟨kt, hkt⟩).mono ?_
    rintro e w4 ⟨rfl, b4⟩
    have s4 := b4.size
    have hR4 := Hd (hR3.o.below b4 hR3.o.lt)
    have hH4 := hH3.o.below b4 hH3.o.lt
    have hK4 := Hd (hK3.o.below b4 hK3.o.lt)
    have e4 := e3.trans (b4.mono e3.size)
    have hkb3 := hK3.o.lt
    have HRI4 := Hd ((HRI.o.below b4).more s4)
    have hcok := Hd (compress_ok st (nat l))
    obtain ⟨st4, hst4⟩ : ∃ st4, st4 = compress st (nat l) := ⟨_, rfl⟩
    rw [<- hst4] at hcok ⊢
    have HST4 := Hd hst4
    clear hst4 hkt hR3 hH3 hK3 e3 HRI b4 HST
    go_wp2_with (first
     | (refine wpList_put rfl 350 (.tmp 3) (.tmp 21) rfl (w.heap.size + 1) (agg st4) rfl rfl 350 _ hH4 (by kernel_rfl) rfl (agg_one _) ?_
        intro W5 hB5 hfar5 hbel5 hsz5 hcl5)
     | (refine wpList_cut2 rfl (.tmp 17) (.const (.int .i64 64)) 134 rfl Tryz.underlying134 (fun _ => by kernel_rfl) A (64 * n) cc 64 .i64 rfl rfl (by omega) hcc ?_
        intro A6 hA6 hA7))
    have e5 := hbel5 w.heap.size w (by omega) e4
    have hR5 := Hd (hfar5 _ _ _ (by omega) hR4.o)
    have hK5 := Hd (hfar5 _ _ _ (by omega) hK4.o)
    have hI5 : RI W5 W5.heap.size .u8 A l := by
     rw [hsz5]
     exact RI.away HRI4.o (fun ad had => by have := HAB.o ad had; omega) hcl5
    have HAB6 := Hd (show ∀ ad, A6 = some ad -> kb < ad.block from fun ad had => by
     obtain ⟨ad0, h0, h1⟩ := hA7 ad had
     have := HAB.o ad0 h0
     omega)
    have hI6 := Hd (hA6 _ _ _ _ HL.o hI5)
    have HB5 := Hd hB5
    have hbl : blocks n st (nat l) = blocks (n - 1) st4 (nat (l.drop 64)) := by
     obtain ⟨n', rfl⟩ : ∃ n', n = n' + 1 := ⟨n - 1, by omega⟩
     rw [blocks, nat_dropn, <- HST4.o]; rfl
    have HBL := Hd hbl
    clear hbl hB5 hI5 hA6 hA7 hfar5 hbel5 hcl5
    go_roundw
    case rel =>
     exact ⟨n - 1, l.drop 64, A6, cc - 64, st4, by congr 1; omega, by omega, by omega, Hd (by have := HL.o; simp; omega), hI6, Hd (fun x hx => HBY.o x (List.mem_of_mem_drop hx)), HAB6, hcok, Hd (by rw [<- HBL.o]; exact HSH.o), hR5, HB5, hK5, e5⟩
    case measure => simp [slen]; omega
  . obtain rfl : n = 0 := by omega
    have HSH0 : Hi (out st = sha (nat xs)) := Hd HSH.o
    clear HSH HL HRI HBY HAB hcc hnl
    go_wp2_with (refine wpList_load_row rfl 350 (.tmp 3) rfl (w.heap.size + 1) rfl 350 (agg st) (0, 0) _ (hH3.o.alloc _) Tryz.underlying350 rfl (by kernel_rfl) ?_)
    have hob := hR3.o.lt
    obtain ⟨ob, hob2⟩ : ∃ ob, ob = wr.heap.size := ⟨_, rfl⟩
    have HOB := Hd hob2
    rw [<- hob2] at hob ⊢
    clear hob2
    go_loopw [23] (fun i wc => ∃ q : Nat, q <= 8 /\ i = .int .i64 q /\ Hi (Blk wc ob 190 (rowB ((out st).take (4 * q)) 32)) /\ Hi (Blk wc w.heap.size 190 (rowB [] 32)) /\ Below w.heap.size w wc) (fun i _ => 8 - (intOf i).toNat)
    case atStart => exact ⟨0, by omega, rfl, Hd (Blk.new' HOB.o), Hd (hR3.o.alloc _), e3.alloc (by have := HOB.o; omega) _⟩
    case round =>
     clear hR3 hH3 hK3 e3
     obtain ⟨q, hq, rfl, hO, hR3, e3⟩ := hrel
     by_cases hq8 : q < 8
     . have hix := index_agg st q hq8
       obtain ⟨x, hx⟩ : ∃ x, x = (vals st).getD q 0 := ⟨_, rfl⟩
       rw [<- hx] at hix
       have HXV := Hd hx
       clear hx
       go_wp2_with fail
       go_loopw [27] (fun i wc => ∃ j : Nat, j <= 4 /\ i = .int .i64 j /\ Hi (Blk wc ob 190 (rowB ((out st).take (4 * q + j)) 32)) /\ Hi (Blk wc w.heap.size 190 (rowB [] 32)) /\ Below w.heap.size w wc) (fun i _ => 4 - (intOf i).toNat)
       case atStart => exact ⟨0, by omega, rfl, hO, hR3, e3⟩
       case round =>
        clear hO hR3 e3
        obtain ⟨j, hj, rfl, hO, hR3, e3⟩ := hrel
        by_cases hj4 : j < 4
        . obtain ⟨s, hs⟩ : ∃ s : Nat, 8 * j + s = 24 := ⟨24 - 8 * j, by omega⟩
          have hlen : ((out st).take (4 * q + j)).length = 4 * q + j := by rw [List.length_take, out_length]; omega
          obtain ⟨x0, hx0⟩ : ∃ x0, (rowB ((out st).take (4 * q + j)) 32)[4 * q + j]? = some x0 := ⟨_, Array.getElem?_eq_getElem (by rw [rowB_size (by omega)]; omega)⟩
          have hcl := (hO.o.cell (4 * q + j)).trans hx0
          have hfr := hO.o.frozen (4 * q + j)
          have h1 : (4 * (q : Int) + (j : Int)) < 32 := by omega
          have h2 : (0 : Int) <= 24 - 8 * (j : Int) := by omega
          have h3 : (24 - 8 * (j : Int)).toNat = s := by omega
          have HS := Hd hs
          have HLN := Hd hlen
          clear hs hlen hx0
          go_wp2
          go_roundw
          case rel =>
           have e : (x : Int) / 2 ^ s % 256 = ((x / 2 ^ s % 256 : Nat) : Int) := by push_cast; rfl
           have hs24 : 24 - 8 * j = s := by have := HS.o; omega
           have et := out_take st q j hq8 hj4
           rw [<- HXV.o, hs24] at et
           have hset := rowB_set (ws := (out st).take (4 * q + j)) (n := 32) (x / 2 ^ s % 256) (by rw [HLN.o]; omega)
           rw [HLN.o, et] at hset
           rw [e]
           refine ⟨j + 1, by omega, by go_num, Hd ?_, Hd (hR3.o.far (by simp; omega) _), e3.setCell (by simp; omega) _⟩
           rw [<- hset]
           exact hO.o.set_ _ _
          case measure => simp [intOf]; omega
        . have hj' : j = 4 := by omega
          have hO4 := Hd (show Blk wr ob 190 (rowB ((out st).take (4 * (q + 1))) 32) by have := hO.o; rw [hj'] at this; exact this)
          clear hj' hO hix
          go_wp2
          go_roundw
          case rel => exact ⟨q + 1, by omega, by go_num, hO4, hR3, e3⟩
          case measure => simp [intOf]; omega
     . have hq' : q = 8 := by omega
       have hO8 : Blk wr ob 190 (rowB (out st) 32) := by have := hO.o; rw [hq'] at this; exact this
       have hR8 := hR3.o
       clear hq' hO hR3
       go_wp2_with (first
        | (refine wpList_load_row rfl 190 (.tmp 6) rfl ob rfl 190 (rowB (out st) 32) (0, 0) _ hO8 Tryz.underlying190 rfl (by rw [rowB_size (Nat.le_of_eq (out_length st))]; kernel_rfl) ?_)
        | (refine wpList_put rfl 190 (.tmp 2) (.tmp 43) rfl w.heap.size (rowB (out st) 32) rfl rfl 190 _ hR8 (by rw [rowB_size (Nat.le_of_eq (out_length st))]; kernel_rfl) rfl (rowB_one _ _) ?_
           intro W9 hB9 hfar9 hbel9 hsz9 hcl9))
       have e9 := hbel9 w.heap.size w (Nat.le_refl _) e3
       rw [<- HSH0.o]
       exact bodyPost_ret (results_cell_row rfl _ W9 w.heap.size 190 (rowB (out st) 32) (0, 0) _ rfl hB9 Tryz.underlying190 rfl (by rw [rowB_size (Nat.le_of_eq (out_length st))]; kernel_rfl)) rfl ⟨rfl, e9⟩
end Sha
end Go.Proofs.YtkdnebalpdebeaaGreatDoor
