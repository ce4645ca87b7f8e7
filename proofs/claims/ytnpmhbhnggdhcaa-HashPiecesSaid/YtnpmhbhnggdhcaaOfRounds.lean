/-
  The reference's Of: the rounds' loop.
-/
import Derived.Test.YtnpmhbhnggdhcaaOfState
import Derived.Deep.QuietTactic
import Derived.BigQuiet
set_option linter.unusedVariables false
set_option linter.unusedSimpArgs false
namespace Go.Proofs.Ytnpmhbhnggdhcaa
open Go.RowKit Go.Proofs.YtnpmhbhnggdhcaaW.PrintWords
theorem not_uu (a : W32) : bits .xor .u32 (if IntKind.u32.signed = true then -1 else IntKind.u32.max) (u a) = u (~~~a) := by
  rw [← not_u a]
  show IntKind.u32.wrap (((BitVec.ofInt 32 4294967295) ^^^ (BitVec.ofInt 32 (u a))).toNat : Int) = IntKind.u32.wrap (((BitVec.ofInt 32 (-1)) ^^^ (BitVec.ofInt 32 (u a))).toNat : Int)
  rw [show BitVec.ofInt 32 4294967295 = BitVec.ofInt 32 (-1) by decide]
attribute [local go_sem] or_u and_u xor_u addw_u add_u not_uu
/-- And the eight working words. -/
structure VS (w0 wr : World) (hB : Nat) (v : Value) (l : List UInt8) (H : List W32) (x : Nat) (ws : List W32) (y : Nat) (vl : List W32) : Prop where
  qs : QS w0 wr hB v l H x ws
  hy : wr.heap[y]? = some (.cells (uc vl).toArray 36 (0, 0))
  fy : w0.heap.size + 2 ≤ y
  ny : hB ≠ y
section
variable {w0 wr : World} {hB : Nat} {v : Value} {l : List UInt8} {H : List W32} {x : Nat} {ws : List W32} {y : Nat} {vl : List W32}
theorem VS.drewN (h : VS w0 wr hB v l H x ws y vl) (m : Nat) : VS w0 (wr.drewN m) hB v l H x ws y vl := ⟨h.qs.drewN m, h.hy, h.fy, h.ny⟩
theorem VS.sety (h : VS w0 wr hB v l H x ws y vl) (i : Nat) (z : W32) : VS w0 (wr.setCell ⟨y, i, none⟩ (.int .u32 (u z))) hB v l H x ws y (vl.set i z) := by
  have e := At1.set wr y i (.int .u32 (u z))
  have nx : x ≠ y := blk_ne h.qs.hx h.hy (by decide)
  refine ⟨⟨h.qs.ps.at1 e h.fy (fun k => own_ne h.qs.ps.os.own h.hy (by decide) k.symm) h.ny, (e.block _ nx).trans h.qs.hx, h.qs.fx, h.qs.nx⟩, ?_, h.fy, h.ny⟩
  rw [blk_set h.hy i, uc_sets]
theorem VS.congr {vl' : List W32} (h : VS w0 wr hB v l H x ws y vl) (e : vl = vl') : VS w0 wr hB v l H x ws y vl' := e ▸ h
theorem VS.cells {v8 : V8} (h : VS w0 wr hB v l H x ws y v8.l) :
    wr.cell? ⟨y, 0, none⟩ = some (.int .u32 (u v8.a)) ∧ wr.cell? ⟨y, 1, none⟩ = some (.int .u32 (u v8.b)) ∧ wr.cell? ⟨y, 2, none⟩ = some (.int .u32 (u v8.c)) ∧ wr.cell? ⟨y, 3, none⟩ = some (.int .u32 (u v8.d)) ∧
    wr.cell? ⟨y, 4, none⟩ = some (.int .u32 (u v8.e)) ∧ wr.cell? ⟨y, 5, none⟩ = some (.int .u32 (u v8.f)) ∧ wr.cell? ⟨y, 6, none⟩ = some (.int .u32 (u v8.g)) ∧ wr.cell? ⟨y, 7, none⟩ = some (.int .u32 (u v8.h)) := by
  have f := fun i (hi : i < 8) => uc_cell h.hy i (by rw [V8.l_length]; exact hi)
  exact ⟨f 0 (by decide), f 1 (by decide), f 2 (by decide), f 3 (by decide), f 4 (by decide), f 5 (by decide), f 6 (by decide), f 7 (by decide)⟩
theorem OS.kc (h : OS w0 wr v l) (m : Nat) (hm : m < 64) : wr.cell? ⟨w0.heap.size, m, none⟩ = some (.int .u32 (u (Kc.getD m 0))) := by
  have e : rw72 = uc (Kc ++ Hc) := by unfold rw72 uc; rw [List.map_append]
  have h0 := h.h0
  rw [e] at h0
  have := uc_cell h0 m (by rw [List.length_append, Kc_length]; omega)
  rwa [List.getD_eq_getElem?_getD, List.getElem?_append_left (by rw [Kc_length]; omega), ← List.getD_eq_getElem?_getD] at this
end
/-- The working words, shifted down to k. -/
def SH (v : V8) (k : Nat) : List W32 := (List.range 8).map fun j => if j ≤ k then v.l.getD j 0 else v.l.getD (j - 1) 0
theorem SH_length (v : V8) (k : Nat) : (SH v k).length = 8 := by simp [SH]
theorem SH_start (v : V8) : SH v 7 = v.l := rfl
theorem SH_end (v : V8) : SH v 0 = [v.a, v.a, v.b, v.c, v.d, v.e, v.f, v.g] := rfl
theorem SH_set (v : V8) (k : Nat) (h : k < 7) : (SH v (k + 1)).set (k + 1) ((SH v (k + 1)).getD k 0) = SH v k := by
  have : k = 0 ∨ k = 1 ∨ k = 2 ∨ k = 3 ∨ k = 4 ∨ k = 5 ∨ k = 6 := by omega
  rcases this with rfl | rfl | rfl | rfl | rfl | rfl | rfl <;> rfl

set_option maxHeartbeats 4000000 in
set_option maxRecDepth 1000000 in
theorem rounds_loop {c0 c1 c3 c4 c5 c6 c7 c8 c10 c11 c12 c13 u16 u17 u18 c19 c20 c21 c22 c23 c24 c25 c26 c27 c28 c29 c30 c31 c32 c33 c34 c35 c36 c37 c38 c39 c40 c41 c42 c43 c44 c45 c46 c47 c48 c49 c50 c51 c52 c53 c54 c55 c56 c57 c58 c59 c60 c61 c62 c63 c64 c65 c66 c67 c68 c69 c70 c71 c72 c73 c74 c75 c76 c77 c78 c79 c80 c81 c82 c83 c84 c85 c86 c87 c88 c89 c90 c91 c92 c93 c94 c95 c96 c97 c98 c99 c100 c101 c102 c103 c104 c105 c106 c107 c108 c109 c110 c111 c112 c113 c114 c115 c116 c117 c118 c119 c120 c121 c122 c123 c124 c125 c126 c127 c128 c129 c130 c131 c132 c133 c134 c135 c136 c137 c138 c139 c140 c141 c142 c143 c144 c145 u146 u147 u148 u149 u150 u151 u152 u153 u154 u155 u156 u157 u158 u159 u160 u161 u162 u163 u164 u165 u166 u167 u168 u169 u170 u171 u172 u173 u174 u175 u176 u177 u178 u179 u180 u181 u182 u183 u184 u185 u186 u187 u188 u189 u190 u191 u192 u193 u194 u195 u196 u197 u198 u199 u200 u201 u202 u203 u204 u205 u206 u207 u208 u209 u210 u211 u212 u213 u214 u215 u216 u217 u218 u219 u220 u221 u222 u223 u224 u225 u226 u227 u228 u229 u230 u231 u232 u233 u234 c235 c236 c237 c238 c239 c240 c241 c242 c243 c244 c245 c246 c247 c248 c249 c250 c251 c252 c253 c254 c255 c256 c257 c258 c259 c260 c261 c262 c263 c264 c265 c266 c267 c268 : Value} {Q0 : Exit → Act → World → Prop} {w0 w : World} {hB x y : Nat} {sv : Value} {P : List UInt8} {H S : List W32} {v : V8} (hS : S.length = 64) (hV : VS w0 w hB sv P H x S y v.l)
    (hexit : ∀ (v15 v16 v17 v18 v146 v147 v148 v149 v150 v151 v152 v153 v154 v155 v156 v157 v158 v159 v160 v161 v162 v163 v164 v165 v166 v167 v168 v169 v170 v171 v172 v173 v174 v175 v176 v177 v178 v179 v180 v181 v182 v183 v184 v185 v186 v187 v188 v189 v190 v191 v192 v193 v194 v195 v196 v197 v198 v199 v200 v201 v202 v203 v204 v205 v206 v207 v208 v209 v210 v211 v212 v213 v214 v215 v216 v217 v218 v219 v220 v221 v222 v223 v224 v225 v226 v227 v228 v229 v230 v231 v232 v233 v234 : Value) (w' : World), VS w0 w' hB sv P H x S y (rnd Kc S v 64).l → Q0 (.exit 8) ⟨(c0 :: c1 :: Value.pointer (some ⟨w0.heap.size, 0, none⟩) :: c3 :: c4 :: c5 :: c6 :: c7 :: c8 :: Value.slice (some ⟨x, 0, none⟩) 64 64 :: c10 :: c11 :: c12 :: c13 :: Value.pointer (some ⟨y, 0, none⟩) :: v15 :: v16 :: v17 :: v18 :: c19 :: c20 :: c21 :: c22 :: c23 :: c24 :: c25 :: c26 :: c27 :: c28 :: c29 :: c30 :: c31 :: c32 :: c33 :: c34 :: c35 :: c36 :: c37 :: c38 :: c39 :: c40 :: c41 :: c42 :: c43 :: c44 :: c45 :: c46 :: c47 :: c48 :: c49 :: c50 :: c51 :: c52 :: c53 :: c54 :: c55 :: c56 :: c57 :: c58 :: c59 :: c60 :: c61 :: c62 :: c63 :: c64 :: c65 :: c66 :: c67 :: c68 :: c69 :: c70 :: c71 :: c72 :: c73 :: c74 :: c75 :: c76 :: c77 :: c78 :: c79 :: c80 :: c81 :: c82 :: c83 :: c84 :: c85 :: c86 :: c87 :: c88 :: c89 :: c90 :: c91 :: c92 :: c93 :: c94 :: c95 :: c96 :: c97 :: c98 :: c99 :: c100 :: c101 :: c102 :: c103 :: c104 :: c105 :: c106 :: c107 :: c108 :: c109 :: c110 :: c111 :: c112 :: c113 :: c114 :: c115 :: c116 :: c117 :: c118 :: c119 :: c120 :: c121 :: c122 :: c123 :: c124 :: c125 :: c126 :: c127 :: c128 :: c129 :: c130 :: c131 :: c132 :: c133 :: c134 :: c135 :: c136 :: c137 :: c138 :: c139 :: c140 :: c141 :: c142 :: c143 :: c144 :: c145 :: v146 :: v147 :: v148 :: v149 :: v150 :: v151 :: v152 :: v153 :: v154 :: v155 :: v156 :: v157 :: v158 :: v159 :: v160 :: v161 :: v162 :: v163 :: v164 :: v165 :: v166 :: v167 :: v168 :: v169 :: v170 :: v171 :: v172 :: v173 :: v174 :: v175 :: v176 :: v177 :: v178 :: v179 :: v180 :: v181 :: v182 :: v183 :: v184 :: v185 :: v186 :: v187 :: v188 :: v189 :: v190 :: v191 :: v192 :: v193 :: v194 :: v195 :: v196 :: v197 :: v198 :: v199 :: v200 :: v201 :: v202 :: v203 :: v204 :: v205 :: v206 :: v207 :: v208 :: v209 :: v210 :: v211 :: v212 :: v213 :: v214 :: v215 :: v216 :: v217 :: v218 :: v219 :: v220 :: v221 :: v222 :: v223 :: v224 :: v225 :: v226 :: v227 :: v228 :: v229 :: v230 :: v231 :: v232 :: v233 :: v234 :: c235 :: c236 :: c237 :: c238 :: c239 :: c240 :: c241 :: c242 :: c243 :: c244 :: c245 :: c246 :: c247 :: c248 :: c249 :: c250 :: c251 :: c252 :: c253 :: c254 :: c255 :: c256 :: c257 :: c258 :: c259 :: c260 :: c261 :: c262 :: c263 :: c264 :: c265 :: c266 :: c267 :: c268 :: []).toArray, []⟩ w') :
    Code.wp Try.prog (.loop (loop15 4)) Q0 ⟨(c0 :: c1 :: Value.pointer (some ⟨w0.heap.size, 0, none⟩) :: c3 :: c4 :: c5 :: c6 :: c7 :: c8 :: Value.slice (some ⟨x, 0, none⟩) 64 64 :: c10 :: c11 :: c12 :: c13 :: Value.pointer (some ⟨y, 0, none⟩) :: Value.int .i64 0 :: u16 :: u17 :: u18 :: c19 :: c20 :: c21 :: c22 :: c23 :: c24 :: c25 :: c26 :: c27 :: c28 :: c29 :: c30 :: c31 :: c32 :: c33 :: c34 :: c35 :: c36 :: c37 :: c38 :: c39 :: c40 :: c41 :: c42 :: c43 :: c44 :: c45 :: c46 :: c47 :: c48 :: c49 :: c50 :: c51 :: c52 :: c53 :: c54 :: c55 :: c56 :: c57 :: c58 :: c59 :: c60 :: c61 :: c62 :: c63 :: c64 :: c65 :: c66 :: c67 :: c68 :: c69 :: c70 :: c71 :: c72 :: c73 :: c74 :: c75 :: c76 :: c77 :: c78 :: c79 :: c80 :: c81 :: c82 :: c83 :: c84 :: c85 :: c86 :: c87 :: c88 :: c89 :: c90 :: c91 :: c92 :: c93 :: c94 :: c95 :: c96 :: c97 :: c98 :: c99 :: c100 :: c101 :: c102 :: c103 :: c104 :: c105 :: c106 :: c107 :: c108 :: c109 :: c110 :: c111 :: c112 :: c113 :: c114 :: c115 :: c116 :: c117 :: c118 :: c119 :: c120 :: c121 :: c122 :: c123 :: c124 :: c125 :: c126 :: c127 :: c128 :: c129 :: c130 :: c131 :: c132 :: c133 :: c134 :: c135 :: c136 :: c137 :: c138 :: c139 :: c140 :: c141 :: c142 :: c143 :: c144 :: c145 :: u146 :: u147 :: u148 :: u149 :: u150 :: u151 :: u152 :: u153 :: u154 :: u155 :: u156 :: u157 :: u158 :: u159 :: u160 :: u161 :: u162 :: u163 :: u164 :: u165 :: u166 :: u167 :: u168 :: u169 :: u170 :: u171 :: u172 :: u173 :: u174 :: u175 :: u176 :: u177 :: u178 :: u179 :: u180 :: u181 :: u182 :: u183 :: u184 :: u185 :: u186 :: u187 :: u188 :: u189 :: u190 :: u191 :: u192 :: u193 :: u194 :: u195 :: u196 :: u197 :: u198 :: u199 :: u200 :: u201 :: u202 :: u203 :: u204 :: u205 :: u206 :: u207 :: u208 :: u209 :: u210 :: u211 :: u212 :: u213 :: u214 :: u215 :: u216 :: u217 :: u218 :: u219 :: u220 :: u221 :: u222 :: u223 :: u224 :: u225 :: u226 :: u227 :: u228 :: u229 :: u230 :: u231 :: u232 :: u233 :: u234 :: c235 :: c236 :: c237 :: c238 :: c239 :: c240 :: c241 :: c242 :: c243 :: c244 :: c245 :: c246 :: c247 :: c248 :: c249 :: c250 :: c251 :: c252 :: c253 :: c254 :: c255 :: c256 :: c257 :: c258 :: c259 :: c260 :: c261 :: c262 :: c263 :: c264 :: c265 :: c266 :: c267 :: c268 :: []).toArray, []⟩ w := by
  have HSL := Lib.hid hS
  have V1 : Hid (VS w0 w hB sv P H x S y (rnd Kc S v 0).l) := Lib.hid hV
  have HX := Lib.hid hexit
  clear hS hV hexit
  conv => arg 2; arg 1; whnf
  go_loopw [15] (fun s15 wr => ∃ m : Nat, m ≤ 64 ∧ s15 = .int .i64 m ∧ Hid (VS w0 wr hB sv P H x S y (rnd Kc S v m).l)) (fun s15 _ => 64 - (intOf s15).toNat)
  case atStart => exact ⟨0, by omega, rfl, V1⟩
  case round =>
    clear V1
    obtain ⟨m, hm, rfl, hR⟩ := hrel
    by_cases hlt : m < 64
    · have hd : decide ((m : Int) < 64) = true := by rw [decide_eq_true_eq]; omega
      have cS := uc_cell hR.out.qs.hx m (by rw [HSL.out]; exact hlt)
      have cK := hR.out.qs.ps.os.kc m hlt
      have hrn : Hid (rnd Kc S v (m + 1) = round (Kc.getD m 0) (S.getD m 0) (rnd Kc S v m)) := Lib.hid rfl
      generalize rnd Kc S v m = v8 at *
      generalize Kc.getD m 0 = kk at *
      generalize S.getD m 0 = sw at *
      obtain ⟨q0, q1, q2, q3, q4, q5, q6, q7⟩ := hR.out.cells
      have b1 : (m : Int) < 64 := by omega
      have b2 : ¬ (m : Int) < 0 := by omega
      go_upto_region 28 with (fail)
      go_quiet ((first | (go_at_call_of 22 (Value.int IntKind.i64 6); exact Calls.quiet_of (right6 _ _)) | (go_at_call_of 22 (Value.int IntKind.i64 11); exact Calls.quiet_of (right11 _ _)) | (go_at_call_of 22 (Value.int IntKind.i64 25); exact Calls.quiet_of (right25 _ _))))
      have hR1 := Lib.hid (hR.out.drewN nq)
      clear hR cS cK q0 q1 q2 q3 q4 q5 q6 q7
      generalize wr.drewN nq = wq1 at *
      obtain ⟨q0, q1, q2, q3, q4, q5, q6, q7⟩ := hR1.out.cells
      go_upto_region 29 with (fail)
      go_quiet ((first | (go_at_call_of 22 (Value.int IntKind.i64 2); exact Calls.quiet_of (right2 _ _)) | (go_at_call_of 22 (Value.int IntKind.i64 13); exact Calls.quiet_of (right13 _ _)) | (go_at_call_of 22 (Value.int IntKind.i64 22); exact Calls.quiet_of (right22 _ _))))
      have hR2 := Lib.hid (hR1.out.drewN nq)
      clear hR1 q0 q1 q2 q3 q4 q5 q6 q7
      generalize wq1.drewN nq = wq2 at *
      have V0 : Hid (VS w0 wq2 hB sv P H x S y (SH v8 7)) := Lib.hid hR2.out
      have z7 : Hid (u (v8.h + kk + sw + (v8.e.rotateLeft 26 ^^^ v8.e.rotateLeft 21 ^^^ v8.e.rotateLeft 7) + (v8.e &&& v8.f ||| ~~~v8.e &&& v8.g)) = u (rone kk sw v8)) := Lib.hid rfl
      have z8 : Hid (u ((v8.a.rotateLeft 30 ^^^ v8.a.rotateLeft 19 ^^^ v8.a.rotateLeft 10) + (v8.a &&& v8.b ||| v8.a &&& v8.c ||| v8.b &&& v8.c)) = u (rtwo v8)) := Lib.hid rfl
      have hfin : Hid (((SH v8 0).set 4 (v8.d + rone kk sw v8)).set 0 (rone kk sw v8 + rtwo v8) = (rnd Kc S v (m + 1)).l) := Lib.hid (by rw [hrn.out, rone_eq, rtwo_eq]; rfl)
      clear hR2
      rw [z7.out, z8.out]
      generalize rone kk sw v8 = X at *
      generalize rtwo v8 = Y at *
      clear z7 z8 b1 b2 hd
      go_upto_region 31 with (fail)
      go_loopw [18] (fun s18 wr => ∃ k : Nat, k ≤ 7 ∧ s18 = .int .i64 k ∧ Hid (VS w0 wr hB sv P H x S y (SH v8 k))) (fun s18 _ => (intOf s18).toNat)
      case atStart => exact ⟨7, by omega, rfl, V0⟩
      case round =>
        clear V0
        obtain ⟨k, hk, rfl, hV⟩ := hrel
        by_cases hk0 : 0 < k
        · obtain ⟨k', rfl⟩ : ∃ k', k = k' + 1 := ⟨k - 1, by omega⟩
          have hst := Lib.hid (SH_set v8 k' (by omega))
          have c1' := uc_cell hV.out.hy k' (by rw [SH_length]; omega)
          have c2' := uc_cell hV.out.hy (k' + 1) (by rw [SH_length]; omega)
          have z1 := blk_frozen hV.out.hy (k' + 1)
          generalize (SH v8 (k' + 1)).getD k' 0 = va at *
          generalize (SH v8 (k' + 1)).getD (k' + 1) 0 = vb at *
          obtain ⟨kk', hkk⟩ : ∃ q, k' + 1 = q := ⟨_, rfl⟩
          rw [hkk] at hst c2' z1 hV hk hk0 ⊢
          have e1 : IntKind.i64.wrap ((kk' : Int) - 1) = (k' : Int) := by rw [IntWalk.i64_in _ (by omega)]; omega
          have hd : decide ((kk' : Int) > 0) = true := by rw [decide_eq_true_eq]; omega
          have b1 : ¬ (k' : Int) < 0 ∧ (k' : Int) < 8 ∧ ¬ (kk' : Int) < 0 ∧ (kk' : Int) < 8 := by omega
          obtain ⟨b1, b2, b3, b4⟩ := b1
          have HK := Lib.hid hkk
          clear hkk
          go_wp2_with fail
          have hT := Lib.hid ((hV.out.sety kk' va).congr hst.out)
          clear hV hst
          go_roundw
          case rel => exact ⟨k', by have := HK.out; omega, by go_num, hT⟩
          case measure => have := HK.out; simp [intOf]; omega
        · have e : k = 0 := by omega
          have hT : Hid (VS w0 wr hB sv P H x S y (SH v8 0)) := Lib.hid (by rw [e] at hV; exact hV.out)
          have hd : decide ((k : Int) > 0) = false := by rw [decide_eq_false_iff_not]; omega
          clear hV e
          have c0' := uc_cell hT.out.hy 0 (by rw [SH_length]; omega)
          have c4' := uc_cell hT.out.hy 4 (by rw [SH_length]; omega)
          have z4 := blk_frozen hT.out.hy 4
          have hT4 := Lib.hid (hT.out.sety 4 (v8.d + X))
          have c0w := uc_cell hT4.out.hy 0 (by rw [List.length_set, SH_length]; omega)
          have z0 := blk_frozen hT4.out.hy 0
          have hT0 := Lib.hid (hT4.out.sety 0 (X + Y))
          change wr.cell? ⟨y, 4, none⟩ = some (.int .u32 (u v8.d)) at c4'
          have hT1 := Lib.hid (hT0.out.congr hfin.out)
          clear hT hT0 hT4 hfin
          go_wp2_with fail
          go_roundw
          case rel => exact ⟨m + 1, by omega, by go_num, hT1⟩
          case measure => simp [intOf]; omega
    · have e : m = 64 := by omega
      have hT : Hid (VS w0 wr hB sv P H x S y (rnd Kc S v 64).l) := Lib.hid (by rw [e] at hR; exact hR.out)
      have hdm : decide ((m : Int) < 64) = false := by rw [decide_eq_false_iff_not]; omega
      clear hR e
      go_wp2_with fail
      exact HX.out _ _ _ _ _ _ _ _ _ _ _ _ _ _ _ _ _ _ _ _ _ _ _ _ _ _ _ _ _ _ _ _ _ _ _ _ _ _ _ _ _ _ _ _ _ _ _ _ _ _ _ _ _ _ _ _ _ _ _ _ _ _ _ _ _ _ _ _ _ _ _ _ _ _ _ _ _ _ _ _ _ _ _ _ _ _ _ _ _ _ _ _ _ _ hT.out
end Go.Proofs.Ytnpmhbhnggdhcaa
