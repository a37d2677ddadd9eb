import Derived.Test.YtipbnjcgololpaaRefSched
/-! the document's SHA-256: the rounds -/
namespace Go.Proofs.Ytipbnjcgololpaa.Sha
open Go.RowKit Go.Deep Go.Proofs.Ytipbnjcgololpaa.Pack Go.Proofs.Ytipbnjcgololpaa.Crc
set_option linter.unusedVariables false
set_option linter.unusedSimpArgs false
set_option maxHeartbeats 40000000 in
set_option maxRecDepth 1000000 in
theorem rounds_loop (code : Code) (hcode : code = shaLoop 6) (Q : Exit → Act → World → Prop) (lb : List Nat) (HLBB : Hid (∀ x ∈ lb, x < 256)) (sa sb sc sd se sf sg sh : Nat) (HST : Hid (St.ok ⟨sa, sb, sc, sd, se, sf, sg, sh⟩)) (wb kb : Nat) (z0 z1 z2 z4 z5 z6 z7 z8 z9 z11 z12 z13 z14 z15 z16 z17 z26 z27 z28 z29 z30 z31 z32 z33 z34 z35 z36 z37 z38 z39 z40 z41 z42 z43 z44 z45 z46 z47 z48 z49 z50 z51 z52 z53 z54 z55 z56 z57 z58 z59 z60 z61 z62 z63 z64 z65 z66 z67 z68 z69 z70 z71 z72 z73 z74 z75 z76 z77 z78 z79 z80 z81 z82 z83 z84 z85 z86 z87 z88 z89 z90 z91 z92 z93 z94 z95 z96 z97 z98 z99 z100 z101 z102 z103 z104 z105 z106 z107 z108 z109 z110 z111 z112 z113 z114 z115 z116 z117 z118 z119 z120 z121 z122 z123 z124 z125 z126 z127 z128 z129 z130 z131 z132 z133 z134 z135 z136 z137 z138 z139 z140 z141 z142 z143 z144 z145 z146 z147 z148 z149 z150 z151 z152 z153 z154 z155 z156 z157 z158 z159 z160 z161 z162 z163 z164 z165 z166 z167 z168 z169 z170 z171 z172 z173 z174 z175 z177 z178 z179 z180 z181 z182 z183 z184 z185 z186 z187 z188 z189 z190 z191 z192 z193 z194 z195 z196 z197 z198 z199 z200 z201 z202 z203 z204 z205 z206 z207 z208 z209 z210 z211 z212 z213 z214 z215 z216 z217 z218 z219 z220 z221 z222 z223 z224 z225 z226 z227 z228 z229 z230 z231 z232 z233 z234 z235 z236 z237 z238 z239 z240 z241 z242 z243 z244 z245 z246 z247 z248 z249 z250 z251 z252 z253 z254 z255 z256 z257 z258 z259 z260 z261 z262 z263 z264 z265 z266 z267 z268 z269 z270 z271 z272 z273 z274 z275 z276 z277 z278 z279 z280 z281 z282 z283 z284 z285 z286 z287 z288 z289 z290 z291 z292 z293 : Value) (W7 : World)
    (HW7 : Hid (Blk W7 wb 40 (rowK .u64 (sch lb 64) 64))) (HK7 : Hid (Blk W7 kb 23 (row K 64)))
    (hexit : ∀ (m26 m27 m28 m176 m177 m178 m179 m180 m181 m182 m183 m184 m185 m186 m187 m188 m189 m190 m191 m192 m193 m194 m195 m196 m197 m198 m199 m200 m201 m202 m203 m204 m205 m206 m207 m208 m209 m210 m211 m212 m213 m214 m215 m216 m217 m218 m219 m220 m221 m222 m223 m224 m225 m226 m227 m228 m229 m230 m231 m232 m233 m234 m235 m236 m237 m238 m239 m240 m241 m242 m243 m244 : Value) (va vb vc vd ve vf vg vh nd : Nat), Hid ((⟨va, vb, vc, vd, ve, vf, vg, vh⟩ : St) = rn (sch lb 64) ⟨sa, sb, sc, sd, se, sf, sg, sh⟩ 64) → Q (.exit 12) ⟨(List.toArray (z0 :: z1 :: z2 :: (Value.pointer (some ⟨kb, 0, none⟩) : Value) :: z4 :: z5 :: z6 :: z7 :: z8 :: z9 :: (Value.slice (some ⟨wb, 0, none⟩) 64 64 : Value) :: z11 :: z12 :: z13 :: z14 :: z15 :: z16 :: z17 :: (Value.int .u64 (va : Nat) : Value) :: (Value.int .u64 (vb : Nat) : Value) :: (Value.int .u64 (vc : Nat) : Value) :: (Value.int .u64 (vd : Nat) : Value) :: (Value.int .u64 (ve : Nat) : Value) :: (Value.int .u64 (vf : Nat) : Value) :: (Value.int .u64 (vg : Nat) : Value) :: (Value.int .u64 (vh : Nat) : Value) :: m26 :: m27 :: m28 :: z29 :: z30 :: z31 :: z32 :: z33 :: z34 :: z35 :: z36 :: z37 :: z38 :: z39 :: z40 :: z41 :: z42 :: z43 :: z44 :: z45 :: z46 :: z47 :: z48 :: z49 :: z50 :: z51 :: z52 :: z53 :: z54 :: z55 :: z56 :: z57 :: z58 :: z59 :: z60 :: z61 :: z62 :: z63 :: z64 :: z65 :: z66 :: z67 :: z68 :: z69 :: z70 :: z71 :: z72 :: z73 :: z74 :: z75 :: z76 :: z77 :: z78 :: z79 :: z80 :: z81 :: z82 :: z83 :: z84 :: z85 :: z86 :: z87 :: z88 :: z89 :: z90 :: z91 :: z92 :: z93 :: z94 :: z95 :: z96 :: z97 :: z98 :: z99 :: z100 :: z101 :: z102 :: z103 :: z104 :: z105 :: z106 :: z107 :: z108 :: z109 :: z110 :: z111 :: z112 :: z113 :: z114 :: z115 :: z116 :: z117 :: z118 :: z119 :: z120 :: z121 :: z122 :: z123 :: z124 :: z125 :: z126 :: z127 :: z128 :: z129 :: z130 :: z131 :: z132 :: z133 :: z134 :: z135 :: z136 :: z137 :: z138 :: z139 :: z140 :: z141 :: z142 :: z143 :: z144 :: z145 :: z146 :: z147 :: z148 :: z149 :: z150 :: z151 :: z152 :: z153 :: z154 :: z155 :: z156 :: z157 :: z158 :: z159 :: z160 :: z161 :: z162 :: z163 :: z164 :: z165 :: z166 :: z167 :: z168 :: z169 :: z170 :: z171 :: z172 :: z173 :: z174 :: z175 :: m176 :: m177 :: m178 :: m179 :: m180 :: m181 :: m182 :: m183 :: m184 :: m185 :: m186 :: m187 :: m188 :: m189 :: m190 :: m191 :: m192 :: m193 :: m194 :: m195 :: m196 :: m197 :: m198 :: m199 :: m200 :: m201 :: m202 :: m203 :: m204 :: m205 :: m206 :: m207 :: m208 :: m209 :: m210 :: m211 :: m212 :: m213 :: m214 :: m215 :: m216 :: m217 :: m218 :: m219 :: m220 :: m221 :: m222 :: m223 :: m224 :: m225 :: m226 :: m227 :: m228 :: m229 :: m230 :: m231 :: m232 :: m233 :: m234 :: m235 :: m236 :: m237 :: m238 :: m239 :: m240 :: m241 :: m242 :: m243 :: m244 :: z245 :: z246 :: z247 :: z248 :: z249 :: z250 :: z251 :: z252 :: z253 :: z254 :: z255 :: z256 :: z257 :: z258 :: z259 :: z260 :: z261 :: z262 :: z263 :: z264 :: z265 :: z266 :: z267 :: z268 :: z269 :: z270 :: z271 :: z272 :: z273 :: z274 :: z275 :: z276 :: z277 :: z278 :: z279 :: z280 :: z281 :: z282 :: z283 :: z284 :: z285 :: z286 :: z287 :: z288 :: z289 :: z290 :: z291 :: z292 :: z293 :: List.nil)), []⟩ (W7.drewN nd)) :
    Code.wp Try.prog code Q ⟨(List.toArray (z0 :: z1 :: z2 :: (Value.pointer (some ⟨kb, 0, none⟩) : Value) :: z4 :: z5 :: z6 :: z7 :: z8 :: z9 :: (Value.slice (some ⟨wb, 0, none⟩) 64 64 : Value) :: z11 :: z12 :: z13 :: z14 :: z15 :: z16 :: z17 :: (Value.int .u64 (sa : Nat) : Value) :: (Value.int .u64 (sb : Nat) : Value) :: (Value.int .u64 (sc : Nat) : Value) :: (Value.int .u64 (sd : Nat) : Value) :: (Value.int .u64 (se : Nat) : Value) :: (Value.int .u64 (sf : Nat) : Value) :: (Value.int .u64 (sg : Nat) : Value) :: (Value.int .u64 (sh : Nat) : Value) :: z26 :: z27 :: z28 :: z29 :: z30 :: z31 :: z32 :: z33 :: z34 :: z35 :: z36 :: z37 :: z38 :: z39 :: z40 :: z41 :: z42 :: z43 :: z44 :: z45 :: z46 :: z47 :: z48 :: z49 :: z50 :: z51 :: z52 :: z53 :: z54 :: z55 :: z56 :: z57 :: z58 :: z59 :: z60 :: z61 :: z62 :: z63 :: z64 :: z65 :: z66 :: z67 :: z68 :: z69 :: z70 :: z71 :: z72 :: z73 :: z74 :: z75 :: z76 :: z77 :: z78 :: z79 :: z80 :: z81 :: z82 :: z83 :: z84 :: z85 :: z86 :: z87 :: z88 :: z89 :: z90 :: z91 :: z92 :: z93 :: z94 :: z95 :: z96 :: z97 :: z98 :: z99 :: z100 :: z101 :: z102 :: z103 :: z104 :: z105 :: z106 :: z107 :: z108 :: z109 :: z110 :: z111 :: z112 :: z113 :: z114 :: z115 :: z116 :: z117 :: z118 :: z119 :: z120 :: z121 :: z122 :: z123 :: z124 :: z125 :: z126 :: z127 :: z128 :: z129 :: z130 :: z131 :: z132 :: z133 :: z134 :: z135 :: z136 :: z137 :: z138 :: z139 :: z140 :: z141 :: z142 :: z143 :: z144 :: z145 :: z146 :: z147 :: z148 :: z149 :: z150 :: z151 :: z152 :: z153 :: z154 :: z155 :: z156 :: z157 :: z158 :: z159 :: z160 :: z161 :: z162 :: z163 :: z164 :: z165 :: z166 :: z167 :: z168 :: z169 :: z170 :: z171 :: z172 :: z173 :: z174 :: z175 :: (Value.int .i64 0 : Value) :: z177 :: z178 :: z179 :: z180 :: z181 :: z182 :: z183 :: z184 :: z185 :: z186 :: z187 :: z188 :: z189 :: z190 :: z191 :: z192 :: z193 :: z194 :: z195 :: z196 :: z197 :: z198 :: z199 :: z200 :: z201 :: z202 :: z203 :: z204 :: z205 :: z206 :: z207 :: z208 :: z209 :: z210 :: z211 :: z212 :: z213 :: z214 :: z215 :: z216 :: z217 :: z218 :: z219 :: z220 :: z221 :: z222 :: z223 :: z224 :: z225 :: z226 :: z227 :: z228 :: z229 :: z230 :: z231 :: z232 :: z233 :: z234 :: z235 :: z236 :: z237 :: z238 :: z239 :: z240 :: z241 :: z242 :: z243 :: z244 :: z245 :: z246 :: z247 :: z248 :: z249 :: z250 :: z251 :: z252 :: z253 :: z254 :: z255 :: z256 :: z257 :: z258 :: z259 :: z260 :: z261 :: z262 :: z263 :: z264 :: z265 :: z266 :: z267 :: z268 :: z269 :: z270 :: z271 :: z272 :: z273 :: z274 :: z275 :: z276 :: z277 :: z278 :: z279 :: z280 :: z281 :: z282 :: z283 :: z284 :: z285 :: z286 :: z287 :: z288 :: z289 :: z290 :: z291 :: z292 :: z293 :: List.nil)), []⟩ W7 := by
  have HEX := Lib.hid hexit
  clear hexit
  subst hcode
  conv => arg 2; whnf
  go_loopw [18, 19, 20, 21, 22, 23, 24, 25, 176] (fun va vb vc vd ve vf vg vh v wc => ∃ (r : Nat) (s : St), va = .int .u64 (s.a : Nat) ∧ vb = .int .u64 (s.b : Nat) ∧ vc = .int .u64 (s.c : Nat) ∧ vd = .int .u64 (s.d : Nat) ∧ ve = .int .u64 (s.e : Nat) ∧ vf = .int .u64 (s.f : Nat) ∧ vg = .int .u64 (s.g : Nat) ∧ vh = .int .u64 (s.h : Nat) ∧ r ≤ 64 ∧ v = .int .i64 r ∧ Hid (s = rn (sch lb 64) ⟨sa, sb, sc, sd, se, sf, sg, sh⟩ r) ∧ Drew W7 wc) (fun _ _ _ _ _ _ _ _ v _ => 64 - (intOf v).toNat)
  case atStart => exact ⟨0, ⟨sa, sb, sc, sd, se, sf, sg, sh⟩, rfl, rfl, rfl, rfl, rfl, rfl, rfl, rfl, by omega, rfl, Lib.hid rfl, Drew.refl _⟩
  case round =>
    obtain ⟨r, ⟨va, vb, vc, vd, ve, vf, vg, vh⟩, rfl, rfl, rfl, rfl, rfl, rfl, rfl, rfl, hr, rfl, HS', ⟨nd, rfl⟩⟩ := hrel
    by_cases hr64 : r < 64
    · have hdec4 : decide ((r : Int) < 64) = true := by simp; omega
      have hok := rn_ok (sch lb 64) ⟨sa, sb, sc, sd, se, sf, sg, sh⟩ HST.out r
      rw [← HS'.out] at hok
      obtain ⟨oa, ob, oc, od, oe, of, og, oh⟩ := hok
      simp only at oa ob oc od oe of og oh
      have cw := (HW7.out.cell r).trans (rowK_get (by rw [sch_length]; exact hr64))
      have ck := (HK7.out.cell r).trans (row_get (by exact hr64))
      have ow := get_lt (sch_lt HLBB.out 64) (by omega) r
      have ok := get_lt K_lt (by omega) r
      obtain ⟨xw, hxw⟩ : ∃ xw, xw = (sch lb 64).getD r 0 := ⟨_, rfl⟩
      obtain ⟨xk, hxk⟩ : ∃ xk, xk = K.getD r 0 := ⟨_, rfl⟩
      rw [← hxw] at cw ow
      rw [← hxk] at ck ok
      have HXW := Lib.hid hxw
      have HXK := Lib.hid hxk
      clear hxw hxk
      have r1 : (0 : Int) ≤ r := by omega
      have r2 : (r : Int) < 64 := by omega
      have oe' : (ve : Int) ≤ 4294967295 := by omega
      go_wp2_with fail
      refine wp_region_quiet_lit (by kernel_rfl) (by kernel_rfl) ?_
      repeat (quiet_step (fail))
      quiet_step (exact right_quiet2 ve 6 oe (by omega) (by omega) _ _ _)
      repeat (quiet_step (fail))
      quiet_step (exact right_quiet2 ve 11 oe (by omega) (by omega) _ _ _)
      repeat (quiet_step (fail))
      quiet_step (exact right_quiet2 ve 25 oe (by omega) (by omega) _ _ _)
      repeat (quiet_step (fail))
      refine wpQuiet_nil ?_
      intro _ hw'
      obtain ⟨nq', hw''⟩ := hw'
      subst hw''
      rw [t_val64 ve vf vg vh xk xw oe of og oh ok ow]
      obtain ⟨tt, htt⟩ : ∃ tt, tt = (vh + Sg1 ve + ch ve vf vg + xk + xw) % 4294967296 := ⟨_, rfl⟩
      rw [← htt]
      have ott : tt < 4294967296 := by rw [htt]; exact Nat.mod_lt _ (by omega)
      have HTT := Lib.hid htt
      clear htt cw ck
      go_wp2_with fail
      refine (right_ok va 2 oa (by omega) (by omega) _).mono ?_
      rintro e w6 ⟨rfl, n6, rfl⟩
      go_wp2_with fail
      refine (right_ok va 13 oa (by omega) (by omega) _).mono ?_
      rintro e w6 ⟨rfl, n7, rfl⟩
      go_wp2_with fail
      refine (right_ok va 22 oa (by omega) (by omega) _).mono ?_
      rintro e w6 ⟨rfl, n8, rfl⟩
      go_upto_region 40 with (fail)
      rw [u_val64 va vb vc oa ob oc]
      obtain ⟨uu, huu⟩ : ∃ uu, uu = (Sg0 va + maj va vb vc) % 4294967296 := ⟨_, rfl⟩
      rw [← huu]
      have ouu : uu < 4294967296 := by rw [huu]; exact Nat.mod_lt _ (by omega)
      have HUU := Lib.hid huu
      clear huu
      go_wp2_with fail
      go_roundw
      case rel =>
        refine ⟨r + 1, ⟨(tt + uu) % 4294967296, va, vb, vc, (vd + tt) % 4294967296, ve, vf, vg⟩, by go_num, rfl, rfl, rfl, by go_num, rfl, rfl, rfl, by omega, by go_num, Lib.hid ?_, by repeat (first | exact Drew.refl _ | apply Drew.step)⟩
        show _ = rnd _ _ _
        rw [← HS'.out]
        simp only [rnd]
        rw [← HXK.out, ← HXW.out, ← HTT.out, ← HUU.out]
      case measure => simp [intOf]; omega
    · have hr64' : r = 64 := by omega
      have hdec4 : decide ((r : Int) < 64) = false := by simp; omega
      have hs := Lib.hid (show (⟨va, vb, vc, vd, ve, vf, vg, vh⟩ : St) = rn (sch lb 64) ⟨sa, sb, sc, sd, se, sf, sg, sh⟩ 64 by have := HS'.out; rw [hr64'] at this; exact this)
      clear hr64'
      go_wp2_with fail
      exact HEX.out _ _ _ _ _ _ _ _ _ _ _ _ _ _ _ _ _ _ _ _ _ _ _ _ _ _ _ _ _ _ _ _ _ _ _ _ _ _ _ _ _ _ _ _ _ _ _ _ _ _ _ _ _ _ _ _ _ _ _ _ _ _ _ _ _ _ _ _ _ _ _ _ va vb vc vd ve vf vg vh nd hs
end Go.Proofs.Ytipbnjcgololpaa.Sha
