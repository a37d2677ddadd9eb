import Derived.Test.YtipbnjcgololpaaRefB
/-! the document's SHA-256: the schedule -/
namespace Go.Proofs.Ytipbnjcgololpaa.Sha
open Go.RowKit Go.Deep Go.Proofs.Ytipbnjcgololpaa.Pack Go.Proofs.Ytipbnjcgololpaa.Crc
set_option linter.unusedVariables false
set_option linter.unusedSimpArgs false
theorem rowK_app {k : IntKind} {ws : List Nat} {n : Nat} (x : Nat) (h : ws.length < n) : (rowK k ws n).setIfInBounds ws.length (.int k (x : Nat)) = rowK k (ws ++ [x]) n := by
  unfold rowK
  rw [List.setIfInBounds_toArray]
  congr 1
  rw [show n - ws.length = (n - (ws ++ [x]).length) + 1 from by simp; omega, List.replicate_succ]
  simp
theorem right_quiet2 (x n : Nat) (hx : x < 4294967296) (h1 : 1 ≤ n) (h2 : n ≤ 31) (w : World) (nd q : Nat) :
    Calls Try.prog 24 #[.int .u64 (x : Int), .int .i64 (n : Int)] (w.drewN (nd + q)) fun e w'' => e = .returned (.int .u64 ((ror x n : Nat) : Int)) ∧ ∃ m, w'' = w.drewN (nd + m) :=
  (right_ok x n hx h1 h2 _).mono fun e w' h => ⟨h.1, by
    obtain ⟨m, hm⟩ := h.2.out
    exact ⟨q + m, by rw [hm, World.drewN_drewN, Nat.add_assoc]⟩⟩
theorem t_val64 (e f g h k x : Nat) (he : e < 4294967296) (hf : f < 4294967296) (hg : g < 4294967296) (hh : h < 4294967296) (hk : k < 4294967296) (hx : x < 4294967296) :
    (IntKind.u64.wrap (IntKind.u64.wrap (IntKind.u64.wrap (IntKind.u64.wrap ((h : Int) + bits .xor .u64 (bits .xor .u64 (ror e 6 : Nat) (ror e 11 : Nat)) (ror e 25 : Nat)) + bits .xor .u64 (bits .and .u64 (e : Int) (f : Int)) (bits .and .u64 (IntKind.u64.wrap (4294967295 - (e : Int))) (g : Int))) + IntKind.u64.wrap (k : Int)) + (x : Int))).tmod 4294967296 = (((h + Sg1 e + ch e f g + k + x) % 4294967296 : Nat) : Int) := by
  have a1 := ror_lt e 6 he (by omega)
  have a2 := ror_lt e 11 he (by omega)
  have a3 := ror_lt e 25 he (by omega)
  have q1 := xor_lt a1 a2
  have q2 := xor_lt q1 a3
  have q3 := and_lt (b := f) he
  have q4 := and_lt (a := 4294967295 - e) (b := g) (by omega)
  have q5 := xor_lt q3 q4
  rw [show IntKind.u64.wrap (4294967295 - (e : Int)) = ((4294967295 - e : Nat) : Int) from by rw [IntKind.wrap_u64]; omega]
  rw [u64_xor_nat _ _ (by omega) (by omega), u64_xor_nat _ _ (by omega) (by omega), u64_and_nat _ _ (by omega) (by omega), u64_and_nat _ _ (by omega) (by omega), u64_xor_nat _ _ (by omega) (by omega)]
  simp only [IntKind.wrap_u64]
  rw [Int.tmod_eq_emod_of_nonneg (by omega)]
  unfold Sg1 ch
  omega
theorem u_val64 (a b c : Nat) (ha : a < 4294967296) (hb : b < 4294967296) (hc : c < 4294967296) :
    (IntKind.u64.wrap (bits .xor .u64 (bits .xor .u64 (ror a 2 : Nat) (ror a 13 : Nat)) (ror a 22 : Nat) + bits .xor .u64 (bits .xor .u64 (bits .and .u64 (a : Int) (b : Int)) (bits .and .u64 (a : Int) (c : Int))) (bits .and .u64 (b : Int) (c : Int)))).tmod 4294967296 = (((Sg0 a + maj a b c) % 4294967296 : Nat) : Int) := by
  have a1 := ror_lt a 2 ha (by omega)
  have a2 := ror_lt a 13 ha (by omega)
  have a3 := ror_lt a 22 ha (by omega)
  have q1 := xor_lt a1 a2
  have q2 := xor_lt q1 a3
  have q3 := and_lt (b := b) ha
  have q4 := and_lt (b := c) ha
  have q5 := and_lt (b := c) hb
  have q6 := xor_lt q3 q4
  have q7 := xor_lt q6 q5
  rw [u64_xor_nat _ _ (by omega) (by omega), u64_xor_nat _ _ (by omega) (by omega), u64_and_nat _ _ (by omega) (by omega), u64_and_nat _ _ (by omega) (by omega), u64_and_nat _ _ (by omega) (by omega), u64_xor_nat _ _ (by omega) (by omega), u64_xor_nat _ _ (by omega) (by omega)]
  simp only [IntKind.wrap_u64]
  rw [Int.tmod_eq_emod_of_nonneg (by omega)]
  unfold Sg0 maj
  omega
theorem mixed_put (s t : St) {q : Nat} (h : q < 8) : (mixed s t q).set q (((vals s).getD q 0 + (vals t).getD q 0) % 4294967296) = mixed s t (q + 1) := by
  have : q = 0 ∨ q = 1 ∨ q = 2 ∨ q = 3 ∨ q = 4 ∨ q = 5 ∨ q = 6 ∨ q = 7 := by omega
  rcases this with rfl | rfl | rfl | rfl | rfl | rfl | rfl | rfl <;> rfl
theorem vals_lt {s : St} (h : s.ok) (q : Nat) : (vals s).getD q 0 < 4294967296 := by
  refine get_lt (fun x hx => ?_) (by omega) q
  obtain ⟨h1, h2, h3, h4, h5, h6, h7, h8⟩ := h
  simp only [vals, List.mem_cons, List.not_mem_nil, or_false] at hx
  rcases hx with rfl | rfl | rfl | rfl | rfl | rfl | rfl | rfl <;> assumption
theorem rowB_four {ws : List Nat} {n : Nat} (h : ws.length + 4 ≤ n) (X : Nat) : rowB (ws ++ fourK X 0) n = rowB ws n := by
  have e : ws ++ fourK X 0 = ws ++ [0] ++ [0] ++ [0] ++ [0] := by simp [fourK, be4]
  rw [e]
  show rowK .u8 _ n = rowK .u8 _ n
  rw [rowK_zero (by simp; omega), rowK_zero (by simp; omega), rowK_zero (by simp; omega), rowK_zero (by omega)]
theorem out_four (s : St) (q : Nat) (h : q < 8) : (out s).take (4 * q) ++ fourK ((vals s).getD q 0) 4 = (out s).take (4 * (q + 1)) := by
  have : q = 0 ∨ q = 1 ∨ q = 2 ∨ q = 3 ∨ q = 4 ∨ q = 5 ∨ q = 6 ∨ q = 7 := by omega
  rcases this with rfl | rfl | rfl | rfl | rfl | rfl | rfl | rfl <;> rfl
def loopsOf : Code → List Code
  | .loop c => .loop c :: loopsOf c
  | .seq a b => loopsOf a ++ loopsOf b
  | .block _ c => loopsOf c
  | .scope c => loopsOf c
  | .cond _ a b => loopsOf a ++ loopsOf b
  | _ => []
/-- the function's k-th loop, the outer ahead of the inner -/
noncomputable def shaLoop (k : Nat) : Code := (loopsOf (Try.f15.body.getD .skip)).getD k .skip
set_option maxHeartbeats 40000000 in
set_option maxRecDepth 1000000 in
theorem sched_loop (code : Code) (hcode : code = shaLoop 5) (Q : Exit → Act → World → Prop) (w w5 : World) (gh kb wb : Nat) (st : St) (lb : List Nat) (ys : List Int) (A5 : Option Addr) (HLBB : Hid (∀ x ∈ lb, x < 256))
    (sw : w.heap.size ≤ wb) (hsz5 : w5.heap.size ≤ wb) (hg1 : gh < wb) (hk1 : kb < wb) (hr1 : w.heap.size < wb) (z0 z1 z2 z3 z4 z5 z6 z7 z8 z9 z11 z12 z14 z15 z16 z17 z18 z19 z20 z21 z22 z23 z24 z25 z26 z27 z28 z29 z30 z31 z32 z33 z34 z35 z36 z37 z38 z39 z40 z41 z42 z43 z44 z45 z46 z47 z48 z49 z50 z51 z52 z53 z54 z55 z56 z57 z58 z59 z60 z61 z62 z63 z64 z65 z66 z67 z68 z69 z70 z71 z72 z73 z74 z75 z76 z77 z78 z79 z80 z81 z82 z83 z84 z85 z86 z87 z88 z89 z90 z91 z92 z93 z94 z95 z96 z97 z98 z99 z100 z101 z102 z103 z104 z105 z106 z107 z108 z109 z110 z111 z112 z113 z114 z115 z116 z117 z118 z119 z120 z121 z122 z123 z124 z125 z126 z127 z128 z129 z130 z131 z132 z133 z134 z135 z136 z137 z138 z139 z140 z141 z142 z143 z144 z145 z146 z147 z148 z149 z150 z151 z152 z153 z154 z155 z156 z157 z158 z159 z160 z161 z162 z163 z164 z165 z166 z167 z168 z169 z170 z171 z172 z173 z174 z175 z176 z177 z178 z179 z180 z181 z182 z183 z184 z185 z186 z187 z188 z189 z190 z191 z192 z193 z194 z195 z196 z197 z198 z199 z200 z201 z202 z203 z204 z205 z206 z207 z208 z209 z210 z211 z212 z213 z214 z215 z216 z217 z218 z219 z220 z221 z222 z223 z224 z225 z226 z227 z228 z229 z230 z231 z232 z233 z234 z235 z236 z237 z238 z239 z240 z241 z242 z243 z244 z245 z246 z247 z248 z249 z250 z251 z252 z253 z254 z255 z256 z257 z258 z259 z260 z261 z262 z263 z264 z265 z266 z267 z268 z269 z270 z271 z272 z273 z274 z275 z276 z277 z278 z279 z280 z281 z282 z283 z284 z285 z286 z287 z288 z289 z290 z291 z292 z293 : Value) (wr : World) (hW2 : Hid (Blk wr wb 40 (rowK .u64 (sch lb 16) 64)))
    (HH : Hid (Blk wr gh 40 (rowK .u64 (vals st) 8))) (HK : Hid (Blk wr kb 23 (row K 64))) (HR : Hid (Blk wr w.heap.size 33 (rowB [] 32))) (HY5 : Hid (RI wr w5.heap.size .u8 A5 ys)) (hszc : wb < wr.heap.size) (e5 : Below w.heap.size w wr)
    (hexit : ∀ (m13 m14 m15 m16 m17 m103 m104 m105 m106 m107 m108 m109 m110 m111 m112 m113 m114 m115 m116 m117 m118 m119 m120 m121 m122 m123 m124 m125 m126 m127 m128 m129 m130 m131 m132 m133 m134 m135 m136 m137 m138 m139 m140 m141 m142 m143 m144 m145 m146 m147 m148 m149 m150 m151 : Value) (WR : World), Hid (Blk WR wb 40 (rowK .u64 (sch lb 64) 64)) → Hid (Blk WR gh 40 (rowK .u64 (vals st) 8)) → Hid (Blk WR kb 23 (row K 64)) → Hid (Blk WR w.heap.size 33 (rowB [] 32)) → Hid (RI WR w5.heap.size .u8 A5 ys) → wb < WR.heap.size → Below w.heap.size w WR → Q (.exit 10) ⟨(List.toArray (z0 :: z1 :: z2 :: z3 :: z4 :: z5 :: z6 :: z7 :: z8 :: z9 :: (Value.slice (some ⟨wb, 0, none⟩) 64 64 : Value) :: z11 :: z12 :: m13 :: m14 :: m15 :: m16 :: m17 :: z18 :: z19 :: z20 :: z21 :: z22 :: z23 :: z24 :: z25 :: z26 :: z27 :: z28 :: z29 :: z30 :: z31 :: z32 :: z33 :: z34 :: z35 :: z36 :: z37 :: z38 :: z39 :: z40 :: z41 :: z42 :: z43 :: z44 :: z45 :: z46 :: z47 :: z48 :: z49 :: z50 :: z51 :: z52 :: z53 :: z54 :: z55 :: z56 :: z57 :: z58 :: z59 :: z60 :: z61 :: z62 :: z63 :: z64 :: z65 :: z66 :: z67 :: z68 :: z69 :: z70 :: z71 :: z72 :: z73 :: z74 :: z75 :: z76 :: z77 :: z78 :: z79 :: z80 :: z81 :: z82 :: z83 :: z84 :: z85 :: z86 :: z87 :: z88 :: z89 :: z90 :: z91 :: z92 :: z93 :: z94 :: z95 :: z96 :: z97 :: z98 :: z99 :: z100 :: z101 :: z102 :: m103 :: m104 :: m105 :: m106 :: m107 :: m108 :: m109 :: m110 :: m111 :: m112 :: m113 :: m114 :: m115 :: m116 :: m117 :: m118 :: m119 :: m120 :: m121 :: m122 :: m123 :: m124 :: m125 :: m126 :: m127 :: m128 :: m129 :: m130 :: m131 :: m132 :: m133 :: m134 :: m135 :: m136 :: m137 :: m138 :: m139 :: m140 :: m141 :: m142 :: m143 :: m144 :: m145 :: m146 :: m147 :: m148 :: m149 :: m150 :: m151 :: z152 :: z153 :: z154 :: z155 :: z156 :: z157 :: z158 :: z159 :: z160 :: z161 :: z162 :: z163 :: z164 :: z165 :: z166 :: z167 :: z168 :: z169 :: z170 :: z171 :: z172 :: z173 :: z174 :: z175 :: z176 :: z177 :: z178 :: z179 :: z180 :: z181 :: z182 :: z183 :: z184 :: z185 :: z186 :: z187 :: z188 :: z189 :: z190 :: z191 :: z192 :: z193 :: z194 :: z195 :: z196 :: z197 :: z198 :: z199 :: z200 :: z201 :: z202 :: z203 :: z204 :: z205 :: z206 :: z207 :: z208 :: z209 :: z210 :: z211 :: z212 :: z213 :: z214 :: z215 :: z216 :: z217 :: z218 :: z219 :: z220 :: z221 :: z222 :: z223 :: z224 :: z225 :: z226 :: z227 :: z228 :: z229 :: z230 :: z231 :: z232 :: z233 :: z234 :: z235 :: z236 :: z237 :: z238 :: z239 :: z240 :: z241 :: z242 :: z243 :: z244 :: z245 :: z246 :: z247 :: z248 :: z249 :: z250 :: z251 :: z252 :: z253 :: z254 :: z255 :: z256 :: z257 :: z258 :: z259 :: z260 :: z261 :: z262 :: z263 :: z264 :: z265 :: z266 :: z267 :: z268 :: z269 :: z270 :: z271 :: z272 :: z273 :: z274 :: z275 :: z276 :: z277 :: z278 :: z279 :: z280 :: z281 :: z282 :: z283 :: z284 :: z285 :: z286 :: z287 :: z288 :: z289 :: z290 :: z291 :: z292 :: z293 :: List.nil)), []⟩ WR) :
    Code.wp Try.prog code Q ⟨(List.toArray (z0 :: z1 :: z2 :: z3 :: z4 :: z5 :: z6 :: z7 :: z8 :: z9 :: (Value.slice (some ⟨wb, 0, none⟩) 64 64 : Value) :: z11 :: z12 :: (Value.int .i64 16 : Value) :: z14 :: z15 :: z16 :: z17 :: z18 :: z19 :: z20 :: z21 :: z22 :: z23 :: z24 :: z25 :: z26 :: z27 :: z28 :: z29 :: z30 :: z31 :: z32 :: z33 :: z34 :: z35 :: z36 :: z37 :: z38 :: z39 :: z40 :: z41 :: z42 :: z43 :: z44 :: z45 :: z46 :: z47 :: z48 :: z49 :: z50 :: z51 :: z52 :: z53 :: z54 :: z55 :: z56 :: z57 :: z58 :: z59 :: z60 :: z61 :: z62 :: z63 :: z64 :: z65 :: z66 :: z67 :: z68 :: z69 :: z70 :: z71 :: z72 :: z73 :: z74 :: z75 :: z76 :: z77 :: z78 :: z79 :: z80 :: z81 :: z82 :: z83 :: z84 :: z85 :: z86 :: z87 :: z88 :: z89 :: z90 :: z91 :: z92 :: z93 :: z94 :: z95 :: z96 :: z97 :: z98 :: z99 :: z100 :: z101 :: z102 :: z103 :: z104 :: z105 :: z106 :: z107 :: z108 :: z109 :: z110 :: z111 :: z112 :: z113 :: z114 :: z115 :: z116 :: z117 :: z118 :: z119 :: z120 :: z121 :: z122 :: z123 :: z124 :: z125 :: z126 :: z127 :: z128 :: z129 :: z130 :: z131 :: z132 :: z133 :: z134 :: z135 :: z136 :: z137 :: z138 :: z139 :: z140 :: z141 :: z142 :: z143 :: z144 :: z145 :: z146 :: z147 :: z148 :: z149 :: z150 :: z151 :: z152 :: z153 :: z154 :: z155 :: z156 :: z157 :: z158 :: z159 :: z160 :: z161 :: z162 :: z163 :: z164 :: z165 :: z166 :: z167 :: z168 :: z169 :: z170 :: z171 :: z172 :: z173 :: z174 :: z175 :: z176 :: z177 :: z178 :: z179 :: z180 :: z181 :: z182 :: z183 :: z184 :: z185 :: z186 :: z187 :: z188 :: z189 :: z190 :: z191 :: z192 :: z193 :: z194 :: z195 :: z196 :: z197 :: z198 :: z199 :: z200 :: z201 :: z202 :: z203 :: z204 :: z205 :: z206 :: z207 :: z208 :: z209 :: z210 :: z211 :: z212 :: z213 :: z214 :: z215 :: z216 :: z217 :: z218 :: z219 :: z220 :: z221 :: z222 :: z223 :: z224 :: z225 :: z226 :: z227 :: z228 :: z229 :: z230 :: z231 :: z232 :: z233 :: z234 :: z235 :: z236 :: z237 :: z238 :: z239 :: z240 :: z241 :: z242 :: z243 :: z244 :: z245 :: z246 :: z247 :: z248 :: z249 :: z250 :: z251 :: z252 :: z253 :: z254 :: z255 :: z256 :: z257 :: z258 :: z259 :: z260 :: z261 :: z262 :: z263 :: z264 :: z265 :: z266 :: z267 :: z268 :: z269 :: z270 :: z271 :: z272 :: z273 :: z274 :: z275 :: z276 :: z277 :: z278 :: z279 :: z280 :: z281 :: z282 :: z283 :: z284 :: z285 :: z286 :: z287 :: z288 :: z289 :: z290 :: z291 :: z292 :: z293 :: List.nil)), []⟩ wr := by
  have HEX := Lib.hid hexit
  clear hexit
  subst hcode
  conv => arg 2; whnf
  go_loopw [13] (fun v wc => ∃ r : Nat, 16 ≤ r ∧ r ≤ 64 ∧ v = .int .i64 r ∧ Hid (Blk wc wb 40 (rowK .u64 (sch lb r) 64)) ∧
      Hid (Blk wc gh 40 (rowK .u64 (vals st) 8)) ∧ Hid (Blk wc kb 23 (row K 64)) ∧ Hid (Blk wc w.heap.size 33 (rowB [] 32)) ∧ Hid (RI wc w5.heap.size .u8 A5 ys) ∧ wb < wc.heap.size ∧ Below w.heap.size w wc) (fun v _ => 64 - (intOf v).toNat)
  case atStart => exact ⟨16, by omega, by omega, rfl, hW2, HH, HK, HR, HY5, hszc, e5⟩
  case round =>
    clear hW2 HH HK HR HY5 hszc e5
    obtain ⟨r, hr1', hr2', rfl, HW, HH, HK, HR, HY5, hszc, e5⟩ := hrel
    by_cases hr : r < 64
    · have hdec3 : decide ((r : Int) < 64) = true := by simp; omega
      have hlen := sch_length lb r
      have c15 := (HW.out.cell (r - 15)).trans (rowK_get (by omega))
      have c2 := (HW.out.cell (r - 2)).trans (rowK_get (by omega))
      have c16 := (HW.out.cell (r - 16)).trans (rowK_get (by omega))
      have c7 := (HW.out.cell (r - 7)).trans (rowK_get (by omega))
      have i15 : (0 : Int) ≤ (r : Int) - 15 := by omega
      have i2 : (0 : Int) ≤ (r : Int) - 2 := by omega
      have i16 : (0 : Int) ≤ (r : Int) - 16 := by omega
      have i7 : (0 : Int) ≤ (r : Int) - 7 := by omega
      have u15 : (r : Int) - 15 < 64 := by omega
      have u2 : (r : Int) - 2 < 64 := by omega
      have u16 : (r : Int) - 16 < 64 := by omega
      have u7 : (r : Int) - 7 < 64 := by omega
      have hn : sch lb (r + 1) = sch lb r ++ [((sch lb r).getD (r - 16) 0 + sg0 ((sch lb r).getD (r - 15) 0) + (sch lb r).getD (r - 7) 0 + sg1 ((sch lb r).getD (r - 2) 0)) % 4294967296] := by simp only [sch, if_neg (show ¬ r < 16 by omega), next]
      have HN' := Lib.hid hn
      have q15 := get_lt (sch_lt HLBB.out r) (by omega) (r - 15)
      have q2 := get_lt (sch_lt HLBB.out r) (by omega) (r - 2)
      have q7 := get_lt (sch_lt HLBB.out r) (by omega) (r - 7)
      have q16 := get_lt (sch_lt HLBB.out r) (by omega) (r - 16)
      clear hn
      generalize (sch lb r).getD (r - 15) 0 = x15 at *
      generalize (sch lb r).getD (r - 2) 0 = x2 at *
      generalize (sch lb r).getD (r - 7) 0 = x7 at *
      generalize (sch lb r).getD (r - 16) 0 = x16 at *
      clear hlen
      go_wp2_with fail
      go_quiet (fail)
      clear i15 i2 u15 u2 c15 c2
      go_wp2_with fail
      refine (right_ok x15 7 q15 (by omega) (by omega) _).mono ?_
      rintro e w6 ⟨rfl, n6, rfl⟩
      go_wp2_with fail
      refine (right_ok x15 18 q15 (by omega) (by omega) _).mono ?_
      rintro e w6 ⟨rfl, n7, rfl⟩
      go_wp2_with fail
      have sv0 : bits .xor .u64 (bits .xor .u64 ((ror x15 7 : Nat) : Int) ((ror x15 18 : Nat) : Int)) ((x15 : Int) / 8) = ((sg0 x15 : Nat) : Int) := sg_val64 x15 7 18 0 q15 (ror_lt x15 7 q15 (by omega)) (ror_lt x15 18 q15 (by omega)) 8 (by omega)
      have sl0 : sg0 x15 < 4294967296 := xor_lt (xor_lt (ror_lt x15 7 q15 (by omega)) (ror_lt x15 18 q15 (by omega))) (by omega)
      rw [sv0]
      obtain ⟨z0, hz0⟩ : ∃ z0, z0 = sg0 x15 := ⟨_, rfl⟩
      rw [← hz0] at sl0 ⊢
      have HZ0 := Lib.hid hz0
      clear sv0 hz0
      refine (right_ok x2 17 q2 (by omega) (by omega) _).mono ?_
      rintro e w6 ⟨rfl, n8, rfl⟩
      go_wp2_with fail
      refine (right_ok x2 19 q2 (by omega) (by omega) _).mono ?_
      rintro e w6 ⟨rfl, n9, rfl⟩
      go_wp2_with fail
      have sv1 : bits .xor .u64 (bits .xor .u64 ((ror x2 17 : Nat) : Int) ((ror x2 19 : Nat) : Int)) ((x2 : Int) / 1024) = ((sg1 x2 : Nat) : Int) := sg_val64 x2 17 19 0 q2 (ror_lt x2 17 q2 (by omega)) (ror_lt x2 19 q2 (by omega)) 1024 (by omega)
      have sl1 : sg1 x2 < 4294967296 := xor_lt (xor_lt (ror_lt x2 17 q2 (by omega)) (ror_lt x2 19 q2 (by omega))) (by omega)
      rw [sv1]
      obtain ⟨z1, hz1⟩ : ∃ z1, z1 = sg1 x2 := ⟨_, rfl⟩
      rw [← hz1] at sl1 ⊢
      have HZ1 := Lib.hid hz1
      clear sv1 hz1
      have e16 : IntKind.i64.wrap ((r : Int) - 16) = (r : Int) - 16 := IntWalk.i64_in _ (by omega)
      have e7 : IntKind.i64.wrap ((r : Int) - 7) = (r : Int) - 7 := IntWalk.i64_in _ (by omega)
      have t16 : ((r : Int) - 16).toNat = r - 16 := by omega
      have t7 : ((r : Int) - 7).toNat = r - 7 := by omega
      have g16 : (16 : Int) ≤ r := by omega
      have g7 : (7 : Int) ≤ r := by omega
      obtain ⟨T, hT⟩ : ∃ T, T = x16 + z0 + x7 + z1 := ⟨_, rfl⟩
      have v1' : IntKind.u64.wrap ((x16 : Int) + z0) = (x16 : Int) + z0 := by rw [IntKind.wrap_u64]; omega
      have v2 : IntKind.u64.wrap ((x16 : Int) + z0 + x7) = (x16 : Int) + z0 + x7 := by rw [IntKind.wrap_u64]; omega
      have v3 : IntKind.u64.wrap ((x16 : Int) + z0 + x7 + z1) = (T : Int) := by rw [IntKind.wrap_u64]; omega
      have HT' := Lib.hid hT
      clear hT
      have r64 : (r : Int) < 64 := by omega
      refine wp_region_tail 19 (by kernel_rfl) (by kernel_rfl) ?_
      simp only [List.take_succ_cons, List.take_zero, List.drop_succ_cons, List.drop_zero]
      repeat still_step
      refine wpStill_nil ?_
      clear e16 e7 t16 t7 g16 g7 v1' v2 v3 c16 c7 u16 u7 i16 i7
      have hlen := sch_length lb r
      have hfr := HW.out.frozen r
      obtain ⟨x0, hx0⟩ : ∃ x0, (rowK .u64 (sch lb r) 64)[r]? = some x0 := ⟨_, Array.getElem?_eq_getElem (by rw [rowK_size (by omega)]; omega)⟩
      have hcl := (HW.out.cell r).trans hx0
      clear hx0 hlen
      go_wp2
      go_roundw
      case rel =>
        have e : (T : Int) % 4294967296 = ((((x16 + sg0 x15 + x7 + sg1 x2) % 4294967296 : Nat)) : Int) := by rw [HT'.out, HZ0.out, HZ1.out]; omega
        rw [e]
        refine ⟨r + 1, by omega, by omega, by go_num, Lib.hid ?_, Lib.hid ((HH.out.drewN _).far (by simp; omega) _), Lib.hid ((HK.out.drewN _).far (by simp; omega) _), Lib.hid ((HR.out.drewN _).far (by simp; omega) _), Lib.hid ((HY5.out.drewN _).setCell hsz5 _), by simpa using hszc, (below_drewN e5 _).setCell sw _⟩
        have hs := rowK_app (k := .u64) (ws := sch lb r) (n := 64) ((x16 + sg0 x15 + x7 + sg1 x2) % 4294967296) (by rw [sch_length]; omega)
        rw [sch_length, ← HN'.out] at hs
        rw [← hs]
        exact (HW.out.drewN _).set_ r _
      case measure => simp [intOf]; omega
    · have hr64 : r = 64 := by omega
      have hW64 := Lib.hid (show Blk wr wb 40 (rowK .u64 (sch lb 64) 64) by have := HW.out; rw [hr64] at this; exact this)
      have hdec3 : decide ((r : Int) < 64) = false := by simp; omega
      clear hr64 HW
      go_wp2_with fail
      exact HEX.out _ _ _ _ _ _ _ _ _ _ _ _ _ _ _ _ _ _ _ _ _ _ _ _ _ _ _ _ _ _ _ _ _ _ _ _ _ _ _ _ _ _ _ _ _ _ _ _ _ _ _ _ _ _ wr hW64 HH HK HR HY5 hszc e5
end Go.Proofs.Ytipbnjcgololpaa.Sha
