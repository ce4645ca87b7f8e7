/-
  The reference's Of: the blocks' loop.
-/
import Derived.Test.YtnpmhbhnggdhcaaOfOut
import Derived.Test.YtnpmhbhnggdhcaaOfSched
set_option linter.unusedVariables false
set_option linter.unusedSimpArgs false
namespace Go.Proofs.Ytnpmhbhnggdhcaa
open Go.RowKit Go.Proofs.YtnpmhbhnggdhcaaW.PrintWords
set_option maxHeartbeats 8000000 in
set_option maxRecDepth 1000000 in
theorem main_loop {c0 c1 c3 c4 c6 u9 u10 u11 u12 u13 u14 u15 u16 u17 u18 u19 c20 c21 c22 c23 c24 c25 c26 c27 c28 c29 c30 c31 c32 c33 c34 c35 c36 c37 c38 c39 c40 c41 c42 c43 c44 c45 c46 c47 c48 c49 c50 c51 c52 c53 u54 u55 u56 u57 u58 u59 u60 u61 u62 u63 u64 u65 u66 u67 u68 u69 u70 u71 u72 u73 u74 u75 u76 u77 u78 u79 u80 u81 u82 u83 u84 u85 u86 u87 u88 u89 u90 u91 u92 u93 u94 u95 u96 u97 u98 u99 u100 u101 u102 u103 u104 u105 u106 u107 u108 u109 u110 u111 u112 u113 u114 u115 u116 u117 u118 u119 u120 u121 u122 u123 u124 u125 u126 u127 u128 u129 u130 u131 u132 u133 u134 u135 u136 u137 u138 u139 u140 u141 u142 u143 u144 u145 u146 u147 u148 u149 u150 u151 u152 u153 u154 u155 u156 u157 u158 u159 u160 u161 u162 u163 u164 u165 u166 u167 u168 u169 u170 u171 u172 u173 u174 u175 u176 u177 u178 u179 u180 u181 u182 u183 u184 u185 u186 u187 u188 u189 u190 u191 u192 u193 u194 u195 u196 u197 u198 u199 u200 u201 u202 u203 u204 u205 u206 u207 u208 u209 u210 u211 u212 u213 u214 u215 u216 u217 u218 u219 u220 u221 u222 u223 u224 u225 u226 u227 u228 u229 u230 u231 u232 u233 u234 u235 u236 u237 u238 u239 u240 u241 u242 u243 u244 u245 u246 c247 c248 c249 c250 c251 c252 c253 c254 c255 c256 c257 c258 c259 c260 c261 c262 c263 c264 c265 c266 c267 c268 : Value} {Q0 : Exit → Act → World → Prop} {w0 w : World} {hB g2 NN N cq : Nat} {P : List UInt8} (hN : NN = 64 * N) (hle : NN ≤ 3000000000) (hpn : P.length = NN)
    (hP : PS w0 w hB (.slice (some ⟨g2, 0, none⟩) NN cq) P (blocksH 0 P).l)
    (hexit : ∀ (v8 v9 v10 v11 v12 v13 v14 v15 v16 v17 v18 v19 v54 v55 v56 v57 v58 v59 v60 v61 v62 v63 v64 v65 v66 v67 v68 v69 v70 v71 v72 v73 v74 v75 v76 v77 v78 v79 v80 v81 v82 v83 v84 v85 v86 v87 v88 v89 v90 v91 v92 v93 v94 v95 v96 v97 v98 v99 v100 v101 v102 v103 v104 v105 v106 v107 v108 v109 v110 v111 v112 v113 v114 v115 v116 v117 v118 v119 v120 v121 v122 v123 v124 v125 v126 v127 v128 v129 v130 v131 v132 v133 v134 v135 v136 v137 v138 v139 v140 v141 v142 v143 v144 v145 v146 v147 v148 v149 v150 v151 v152 v153 v154 v155 v156 v157 v158 v159 v160 v161 v162 v163 v164 v165 v166 v167 v168 v169 v170 v171 v172 v173 v174 v175 v176 v177 v178 v179 v180 v181 v182 v183 v184 v185 v186 v187 v188 v189 v190 v191 v192 v193 v194 v195 v196 v197 v198 v199 v200 v201 v202 v203 v204 v205 v206 v207 v208 v209 v210 v211 v212 v213 v214 v215 v216 v217 v218 v219 v220 v221 v222 v223 v224 v225 v226 v227 v228 v229 v230 v231 v232 v233 v234 v235 v236 v237 v238 v239 v240 v241 v242 v243 v244 v245 v246 : Value) (w' : World), PS w0 w' hB (.slice (some ⟨g2, 0, none⟩) NN cq) P (blocksH N P).l → Q0 (.exit 4) ⟨(c0 :: c1 :: Value.pointer (some ⟨w0.heap.size, 0, none⟩) :: c3 :: c4 :: Value.slice (some ⟨g2, 0, none⟩) NN cq :: c6 :: Value.pointer (some ⟨hB, 0, none⟩) :: v8 :: v9 :: v10 :: v11 :: v12 :: v13 :: v14 :: v15 :: v16 :: v17 :: v18 :: v19 :: c20 :: c21 :: c22 :: c23 :: c24 :: c25 :: c26 :: c27 :: c28 :: c29 :: c30 :: c31 :: c32 :: c33 :: c34 :: c35 :: c36 :: c37 :: c38 :: c39 :: c40 :: c41 :: c42 :: c43 :: c44 :: c45 :: c46 :: c47 :: c48 :: c49 :: c50 :: c51 :: c52 :: c53 :: v54 :: v55 :: v56 :: v57 :: v58 :: v59 :: v60 :: v61 :: v62 :: v63 :: v64 :: v65 :: v66 :: v67 :: v68 :: v69 :: v70 :: v71 :: v72 :: v73 :: v74 :: v75 :: v76 :: v77 :: v78 :: v79 :: v80 :: v81 :: v82 :: v83 :: v84 :: v85 :: v86 :: v87 :: v88 :: v89 :: v90 :: v91 :: v92 :: v93 :: v94 :: v95 :: v96 :: v97 :: v98 :: v99 :: v100 :: v101 :: v102 :: v103 :: v104 :: v105 :: v106 :: v107 :: v108 :: v109 :: v110 :: v111 :: v112 :: v113 :: v114 :: v115 :: v116 :: v117 :: v118 :: v119 :: v120 :: v121 :: v122 :: v123 :: v124 :: v125 :: v126 :: v127 :: v128 :: v129 :: v130 :: v131 :: v132 :: v133 :: v134 :: v135 :: v136 :: v137 :: v138 :: v139 :: v140 :: v141 :: v142 :: v143 :: v144 :: v145 :: v146 :: v147 :: v148 :: v149 :: v150 :: v151 :: v152 :: v153 :: v154 :: v155 :: v156 :: v157 :: v158 :: v159 :: v160 :: v161 :: v162 :: v163 :: v164 :: v165 :: v166 :: v167 :: v168 :: v169 :: v170 :: v171 :: v172 :: v173 :: v174 :: v175 :: v176 :: v177 :: v178 :: v179 :: v180 :: v181 :: v182 :: v183 :: v184 :: v185 :: v186 :: v187 :: v188 :: v189 :: v190 :: v191 :: v192 :: v193 :: v194 :: v195 :: v196 :: v197 :: v198 :: v199 :: v200 :: v201 :: v202 :: v203 :: v204 :: v205 :: v206 :: v207 :: v208 :: v209 :: v210 :: v211 :: v212 :: v213 :: v214 :: v215 :: v216 :: v217 :: v218 :: v219 :: v220 :: v221 :: v222 :: v223 :: v224 :: v225 :: v226 :: v227 :: v228 :: v229 :: v230 :: v231 :: v232 :: v233 :: v234 :: v235 :: v236 :: v237 :: v238 :: v239 :: v240 :: v241 :: v242 :: v243 :: v244 :: v245 :: v246 :: c247 :: c248 :: c249 :: c250 :: c251 :: c252 :: c253 :: c254 :: c255 :: c256 :: c257 :: c258 :: c259 :: c260 :: c261 :: c262 :: c263 :: c264 :: c265 :: c266 :: c267 :: c268 :: []).toArray, []⟩ w') :
    Code.wp Try.prog (.loop (loop15 2)) Q0 ⟨(c0 :: c1 :: Value.pointer (some ⟨w0.heap.size, 0, none⟩) :: c3 :: c4 :: Value.slice (some ⟨g2, 0, none⟩) NN cq :: c6 :: Value.pointer (some ⟨hB, 0, none⟩) :: Value.int .i64 0 :: u9 :: u10 :: u11 :: u12 :: u13 :: u14 :: u15 :: u16 :: u17 :: u18 :: u19 :: c20 :: c21 :: c22 :: c23 :: c24 :: c25 :: c26 :: c27 :: c28 :: c29 :: c30 :: c31 :: c32 :: c33 :: c34 :: c35 :: c36 :: c37 :: c38 :: c39 :: c40 :: c41 :: c42 :: c43 :: c44 :: c45 :: c46 :: c47 :: c48 :: c49 :: c50 :: c51 :: c52 :: c53 :: u54 :: u55 :: u56 :: u57 :: u58 :: u59 :: u60 :: u61 :: u62 :: u63 :: u64 :: u65 :: u66 :: u67 :: u68 :: u69 :: u70 :: u71 :: u72 :: u73 :: u74 :: u75 :: u76 :: u77 :: u78 :: u79 :: u80 :: u81 :: u82 :: u83 :: u84 :: u85 :: u86 :: u87 :: u88 :: u89 :: u90 :: u91 :: u92 :: u93 :: u94 :: u95 :: u96 :: u97 :: u98 :: u99 :: u100 :: u101 :: u102 :: u103 :: u104 :: u105 :: u106 :: u107 :: u108 :: u109 :: u110 :: u111 :: u112 :: u113 :: u114 :: u115 :: u116 :: u117 :: u118 :: u119 :: u120 :: u121 :: u122 :: u123 :: u124 :: u125 :: u126 :: u127 :: u128 :: u129 :: u130 :: u131 :: u132 :: u133 :: u134 :: u135 :: u136 :: u137 :: u138 :: u139 :: u140 :: u141 :: u142 :: u143 :: u144 :: u145 :: u146 :: u147 :: u148 :: u149 :: u150 :: u151 :: u152 :: u153 :: u154 :: u155 :: u156 :: u157 :: u158 :: u159 :: u160 :: u161 :: u162 :: u163 :: u164 :: u165 :: u166 :: u167 :: u168 :: u169 :: u170 :: u171 :: u172 :: u173 :: u174 :: u175 :: u176 :: u177 :: u178 :: u179 :: u180 :: u181 :: u182 :: u183 :: u184 :: u185 :: u186 :: u187 :: u188 :: u189 :: u190 :: u191 :: u192 :: u193 :: u194 :: u195 :: u196 :: u197 :: u198 :: u199 :: u200 :: u201 :: u202 :: u203 :: u204 :: u205 :: u206 :: u207 :: u208 :: u209 :: u210 :: u211 :: u212 :: u213 :: u214 :: u215 :: u216 :: u217 :: u218 :: u219 :: u220 :: u221 :: u222 :: u223 :: u224 :: u225 :: u226 :: u227 :: u228 :: u229 :: u230 :: u231 :: u232 :: u233 :: u234 :: u235 :: u236 :: u237 :: u238 :: u239 :: u240 :: u241 :: u242 :: u243 :: u244 :: u245 :: u246 :: c247 :: c248 :: c249 :: c250 :: c251 :: c252 :: c253 :: c254 :: c255 :: c256 :: c257 :: c258 :: c259 :: c260 :: c261 :: c262 :: c263 :: c264 :: c265 :: c266 :: c267 :: c268 :: []).toArray, []⟩ w := by
  have P9 := Lib.hid hP
  have HX := Lib.hid hexit
  have HPN := Lib.hid hpn
  have HNN := Lib.hid hN
  clear hP hexit hpn hN
  conv => arg 2; arg 1; whnf
  go_loopw [8] (fun s8 wr => ∃ i : Nat, i ≤ N ∧ s8 = .int .i64 ((64 * i : Nat) : Int) ∧ Hid (PS w0 wr hB (.slice (some ⟨g2, 0, none⟩) NN cq) P (blocksH i P).l)) (fun s8 _ => (NN - (intOf s8).toNat))
  case atStart => exact ⟨0, by omega, rfl, P9⟩
  case round =>
    clear P9
    obtain ⟨i, hi, rfl, hP⟩ := hrel
    obtain ⟨k, hk⟩ : ∃ k, 64 * i = k := ⟨_, rfl⟩
    rw [hk]
    have HK := Lib.hid hk
    have hkle : k ≤ NN := by have := HNN.out; omega
    clear hk
    by_cases hlt3 : k < NN
    · have hmk : ∀ W : World, (Instr.makeSlice 66 (.int .i64 64) (.int .i64 64)).run Try.prog W = .ok (.slice (some ⟨W.heap.size, 0, none⟩) 64 64) (W.alloc (.cells (uc z64).toArray 34)) := fun W => make_x W
      have hkd : decide ((k : Int) < (NN : Int)) = true := by rw [decide_eq_true_eq]; omega
      go_upto_region 16 with (fail)
      have Q0' : Hid (PS w0 (wr.alloc (.cells (uc z64).toArray 34)) hB (.slice (some ⟨g2, 0, none⟩) NN cq) P (blocksH i P).l) := Lib.hid (hP.out.alloc _)
      have hxa := Lib.hid (alloc_at wr (.cells (uc z64).toArray 34))
      have hfar : w0.heap.size + 2 ≤ wr.heap.size ∧ hB < wr.heap.size ∧ g2 < wr.heap.size := by
        have h1 := blk_lt hP.out.hh
        have h2 := hP.out.far
        have h3 := own_lt hP.out.os.own g2 rfl
        omega
      obtain ⟨f1, f2, f3⟩ := hfar
      clear hP hmk hkd
      generalize wr.alloc (.cells (uc z64).toArray 34) = wr2 at *
      generalize wr.heap.size = x at *
      obtain ⟨part, hpart⟩ : ∃ part, part = (P.drop k).take 64 := ⟨_, rfl⟩
      have hkn : k + 64 ≤ NN := by have := HNN.out; have := HK.out; omega
      have hpg : ∀ q, q < 64 → P.getD (k + q) 0 = part.getD q 0 := fun q hq => by
        rw [hpart]
        simp [List.getD_eq_getElem?_getD, List.getElem?_take, hq]
      have HBL : Hid ((blocksH (i + 1) P) = (blocksH i P).add (rnd Kc (schedL part 48) (blocksH i P) 64)) := Lib.hid (by
        have := HK.out
        subst this
        rw [hpart]
        rfl)
      have Q1 : QS w0 wr2 hB (.slice (some ⟨g2, 0, none⟩) NN cq) P (blocksH i P).l x (WX part 0) := ⟨Q0'.out, hxa.out, by omega, by omega⟩
      clear hpart Q0' hxa
      refine sched_loop HPN.out hle hkn hpg Q1 ?_
      clear Q1
      intros
      rename_i w3 hQ3
      have hQ := Lib.hid hQ3
      clear hQ3 hpg
      have hsl : (schedL part 48).length = 64 := schedL_length part 48
      generalize schedL part 48 = S at *
      generalize blocksH i P = Hv at *
      have z36 := zero36
      have hrl := blk_lt hQ.out.ps.hh
      have hrx := blk_lt hQ.out.hx
      have hrf := hQ.out.fx
      go_upto_region 26 with (first
        | (refine wpList_load_part rfl 36 _ rfl hB 0 _ (uc Hv.l) 36 _ rfl hQ.out.ps.hh (by rw [List.drop_zero, List.take_length]) Try.underlying36 rfl info36 ?_)
        | (refine wpList_store_whole rfl 36 _ _ rfl w3.heap.size (uc Hv.l).toArray (uc z8).toArray 36 rfl rfl (alloc_at w3 _) rfl info36 (one_uc _) ?_; intro w5 h5 h6; have V5 : VS w0 w5 hB (.slice (some ⟨g2, 0, none⟩) NN cq) P Hv.l x S w3.heap.size Hv.l := ⟨⟨(hQ.out.ps.alloc _).at1 h6 (by omega) (fun e => by have := own_lt hQ.out.ps.os.own _ e; omega) (by omega), (h6.block x (by omega)).trans (alloc_far hQ.out.hx _), hQ.out.fx, hQ.out.nx⟩, h5, by omega, by omega⟩; clear h5 h6))
      clear hQ hrl hrx hrf z36
      generalize w3.heap.size = y at *
      refine rounds_loop hsl V5 ?_
      clear V5
      intros
      rename_i w6 hV6
      have HV6 := Lib.hid hV6
      clear hV6
      go_upto_region 37 with (fail)
      refine adds_loop HV6.out ?_
      clear HV6
      intros
      rename_i w7 hV7
      have hT : Hid (PS w0 w7 hB (.slice (some ⟨g2, 0, none⟩) NN cq) P (blocksH (i + 1) P).l) := Lib.hid (by rw [HBL.out]; exact hV7.qs.ps)
      clear hV7
      go_wp2_with fail
      go_roundw
      case rel => exact ⟨i + 1, by have := HNN.out; have := HK.out; omega, by have := HK.out; refine congrArg _ ?_; omega, hT⟩
      case measure => simp [intOf]; omega
    · have e : k = NN := by omega
      have hT : Hid (PS w0 wr hB (.slice (some ⟨g2, 0, none⟩) NN cq) P (blocksH N P).l) := Lib.hid (by
        have h1 := HNN.out
        have h2 := HK.out
        have h3 : i = N := by omega
        subst h3
        exact hP.out)
      have hkd : decide ((k : Int) < (NN : Int)) = false := by rw [decide_eq_false_iff_not]; omega
      clear hP e
      go_wp2_with fail
      exact HX.out _ _ _ _ _ _ _ _ _ _ _ _ _ _ _ _ _ _ _ _ _ _ _ _ _ _ _ _ _ _ _ _ _ _ _ _ _ _ _ _ _ _ _ _ _ _ _ _ _ _ _ _ _ _ _ _ _ _ _ _ _ _ _ _ _ _ _ _ _ _ _ _ _ _ _ _ _ _ _ _ _ _ _ _ _ _ _ _ _ _ _ _ _ _ _ _ _ _ _ _ _ _ _ _ _ _ _ _ _ _ _ _ _ _ _ _ _ _ _ _ _ _ _ _ _ _ _ _ _ _ _ _ _ _ _ _ _ _ _ _ _ _ _ _ _ _ _ _ _ _ _ _ _ _ _ _ _ _ _ _ _ _ _ _ _ _ _ _ _ _ _ _ _ _ _ _ _ _ _ _ _ _ _ _ _ _ _ _ _ _ _ _ _ _ _ _ _ _ _ _ _ _ _ _ _ _ hT.out
end Go.Proofs.Ytnpmhbhnggdhcaa
