/-
  The reference's Of: the schedule's loop.
-/
import Derived.Test.YtnpmhbhnggdhcaaOfState
import Derived.Test.YtnpmhbhnggdhcaaQuietTail
set_option linter.unusedVariables false
set_option linter.unusedSimpArgs false
namespace Go.Proofs.Ytnpmhbhnggdhcaa
open Go.RowKit Go.Proofs.YtnpmhbhnggdhcaaW.PrintWords
attribute [local go_sem] shl8w_u shl16w_u shl24w_u wrapb_u or_u and_u xor_u addw_u add_u shr3_u shr10_u not_u

set_option maxHeartbeats 4000000 in
set_option maxRecDepth 1000000 in
theorem sched_loop {c0 c1 c2 c3 c4 c6 c7 u11 u12 u13 c14 c15 c16 c17 c18 c19 c20 c21 c22 c23 c24 c25 c26 c27 c28 c29 c30 c31 c32 c33 c34 c35 c36 c37 c38 c39 c40 c41 c42 c43 c44 c45 c46 c47 c48 c49 c50 c51 c52 c53 c54 c55 c56 c57 c58 c59 c60 u61 u62 u63 u64 u65 u66 u67 u68 u69 u70 u71 u72 u73 u74 u75 u76 u77 u78 u79 u80 u81 u82 u83 u84 u85 u86 u87 u88 u89 u90 u91 u92 u93 u94 u95 u96 u97 u98 u99 u100 u101 u102 u103 u104 u105 u106 u107 u108 u109 u110 u111 u112 u113 u114 u115 u116 u117 u118 u119 u120 u121 u122 u123 u124 u125 u126 u127 u128 u129 u130 u131 u132 u133 u134 u135 u136 u137 u138 u139 u140 u141 u142 u143 u144 c145 c146 c147 c148 c149 c150 c151 c152 c153 c154 c155 c156 c157 c158 c159 c160 c161 c162 c163 c164 c165 c166 c167 c168 c169 c170 c171 c172 c173 c174 c175 c176 c177 c178 c179 c180 c181 c182 c183 c184 c185 c186 c187 c188 c189 c190 c191 c192 c193 c194 c195 c196 c197 c198 c199 c200 c201 c202 c203 c204 c205 c206 c207 c208 c209 c210 c211 c212 c213 c214 c215 c216 c217 c218 c219 c220 c221 c222 c223 c224 c225 c226 c227 c228 c229 c230 c231 c232 c233 c234 c235 c236 c237 c238 c239 c240 c241 c242 c243 c244 c245 c246 c247 c248 c249 c250 c251 c252 c253 c254 c255 c256 c257 c258 c259 c260 c261 c262 c263 c264 c265 c266 c267 c268 : Value} {Q0 : Exit → Act → World → Prop} {w0 w : World} {hB g2 cq NN k x : Nat} {P part : List UInt8} {H : List W32} (hpn : P.length = NN) (hN : NN ≤ 3000000000) (hkn : k + 64 ≤ NN)
    (HPG : ∀ q, q < 64 → P.getD (k + q) 0 = part.getD q 0) (hQ : QS w0 w hB (.slice (some ⟨g2, 0, none⟩) NN cq) P H x (WX part 0))
    (hexit : ∀ (v10 v11 v12 v13 v61 v62 v63 v64 v65 v66 v67 v68 v69 v70 v71 v72 v73 v74 v75 v76 v77 v78 v79 v80 v81 v82 v83 v84 v85 v86 v87 v88 v89 v90 v91 v92 v93 v94 v95 v96 v97 v98 v99 v100 v101 v102 v103 v104 v105 v106 v107 v108 v109 v110 v111 v112 v113 v114 v115 v116 v117 v118 v119 v120 v121 v122 v123 v124 v125 v126 v127 v128 v129 v130 v131 v132 v133 v134 v135 v136 v137 v138 v139 v140 v141 v142 v143 v144 : Value) (w' : World), QS w0 w' hB (.slice (some ⟨g2, 0, none⟩) NN cq) P H x (schedL part 48) → Q0 (.exit 6) ⟨(c0 :: c1 :: c2 :: c3 :: c4 :: Value.slice (some ⟨g2, 0, none⟩) NN cq :: c6 :: c7 :: Value.int .i64 (k : Int) :: Value.slice (some ⟨x, 0, none⟩) 64 64 :: v10 :: v11 :: v12 :: v13 :: c14 :: c15 :: c16 :: c17 :: c18 :: c19 :: c20 :: c21 :: c22 :: c23 :: c24 :: c25 :: c26 :: c27 :: c28 :: c29 :: c30 :: c31 :: c32 :: c33 :: c34 :: c35 :: c36 :: c37 :: c38 :: c39 :: c40 :: c41 :: c42 :: c43 :: c44 :: c45 :: c46 :: c47 :: c48 :: c49 :: c50 :: c51 :: c52 :: c53 :: c54 :: c55 :: c56 :: c57 :: c58 :: c59 :: c60 :: v61 :: v62 :: v63 :: v64 :: v65 :: v66 :: v67 :: v68 :: v69 :: v70 :: v71 :: v72 :: v73 :: v74 :: v75 :: v76 :: v77 :: v78 :: v79 :: v80 :: v81 :: v82 :: v83 :: v84 :: v85 :: v86 :: v87 :: v88 :: v89 :: v90 :: v91 :: v92 :: v93 :: v94 :: v95 :: v96 :: v97 :: v98 :: v99 :: v100 :: v101 :: v102 :: v103 :: v104 :: v105 :: v106 :: v107 :: v108 :: v109 :: v110 :: v111 :: v112 :: v113 :: v114 :: v115 :: v116 :: v117 :: v118 :: v119 :: v120 :: v121 :: v122 :: v123 :: v124 :: v125 :: v126 :: v127 :: v128 :: v129 :: v130 :: v131 :: v132 :: v133 :: v134 :: v135 :: v136 :: v137 :: v138 :: v139 :: v140 :: v141 :: v142 :: v143 :: v144 :: c145 :: c146 :: c147 :: c148 :: c149 :: c150 :: c151 :: c152 :: c153 :: c154 :: c155 :: c156 :: c157 :: c158 :: c159 :: c160 :: c161 :: c162 :: c163 :: c164 :: c165 :: c166 :: c167 :: c168 :: c169 :: c170 :: c171 :: c172 :: c173 :: c174 :: c175 :: c176 :: c177 :: c178 :: c179 :: c180 :: c181 :: c182 :: c183 :: c184 :: c185 :: c186 :: c187 :: c188 :: c189 :: c190 :: c191 :: c192 :: c193 :: c194 :: c195 :: c196 :: c197 :: c198 :: c199 :: c200 :: c201 :: c202 :: c203 :: c204 :: c205 :: c206 :: c207 :: c208 :: c209 :: c210 :: c211 :: c212 :: c213 :: c214 :: c215 :: c216 :: c217 :: c218 :: c219 :: c220 :: c221 :: c222 :: c223 :: c224 :: c225 :: c226 :: c227 :: c228 :: c229 :: c230 :: c231 :: c232 :: c233 :: c234 :: c235 :: c236 :: c237 :: c238 :: c239 :: c240 :: c241 :: c242 :: c243 :: c244 :: c245 :: c246 :: c247 :: c248 :: c249 :: c250 :: c251 :: c252 :: c253 :: c254 :: c255 :: c256 :: c257 :: c258 :: c259 :: c260 :: c261 :: c262 :: c263 :: c264 :: c265 :: c266 :: c267 :: c268 :: []).toArray, []⟩ w') :
    Code.wp Try.prog (.loop (loop15 3)) Q0 ⟨(c0 :: c1 :: c2 :: c3 :: c4 :: Value.slice (some ⟨g2, 0, none⟩) NN cq :: c6 :: c7 :: Value.int .i64 (k : Int) :: Value.slice (some ⟨x, 0, none⟩) 64 64 :: Value.int .i64 0 :: u11 :: u12 :: u13 :: c14 :: c15 :: c16 :: c17 :: c18 :: c19 :: c20 :: c21 :: c22 :: c23 :: c24 :: c25 :: c26 :: c27 :: c28 :: c29 :: c30 :: c31 :: c32 :: c33 :: c34 :: c35 :: c36 :: c37 :: c38 :: c39 :: c40 :: c41 :: c42 :: c43 :: c44 :: c45 :: c46 :: c47 :: c48 :: c49 :: c50 :: c51 :: c52 :: c53 :: c54 :: c55 :: c56 :: c57 :: c58 :: c59 :: c60 :: u61 :: u62 :: u63 :: u64 :: u65 :: u66 :: u67 :: u68 :: u69 :: u70 :: u71 :: u72 :: u73 :: u74 :: u75 :: u76 :: u77 :: u78 :: u79 :: u80 :: u81 :: u82 :: u83 :: u84 :: u85 :: u86 :: u87 :: u88 :: u89 :: u90 :: u91 :: u92 :: u93 :: u94 :: u95 :: u96 :: u97 :: u98 :: u99 :: u100 :: u101 :: u102 :: u103 :: u104 :: u105 :: u106 :: u107 :: u108 :: u109 :: u110 :: u111 :: u112 :: u113 :: u114 :: u115 :: u116 :: u117 :: u118 :: u119 :: u120 :: u121 :: u122 :: u123 :: u124 :: u125 :: u126 :: u127 :: u128 :: u129 :: u130 :: u131 :: u132 :: u133 :: u134 :: u135 :: u136 :: u137 :: u138 :: u139 :: u140 :: u141 :: u142 :: u143 :: u144 :: c145 :: c146 :: c147 :: c148 :: c149 :: c150 :: c151 :: c152 :: c153 :: c154 :: c155 :: c156 :: c157 :: c158 :: c159 :: c160 :: c161 :: c162 :: c163 :: c164 :: c165 :: c166 :: c167 :: c168 :: c169 :: c170 :: c171 :: c172 :: c173 :: c174 :: c175 :: c176 :: c177 :: c178 :: c179 :: c180 :: c181 :: c182 :: c183 :: c184 :: c185 :: c186 :: c187 :: c188 :: c189 :: c190 :: c191 :: c192 :: c193 :: c194 :: c195 :: c196 :: c197 :: c198 :: c199 :: c200 :: c201 :: c202 :: c203 :: c204 :: c205 :: c206 :: c207 :: c208 :: c209 :: c210 :: c211 :: c212 :: c213 :: c214 :: c215 :: c216 :: c217 :: c218 :: c219 :: c220 :: c221 :: c222 :: c223 :: c224 :: c225 :: c226 :: c227 :: c228 :: c229 :: c230 :: c231 :: c232 :: c233 :: c234 :: c235 :: c236 :: c237 :: c238 :: c239 :: c240 :: c241 :: c242 :: c243 :: c244 :: c245 :: c246 :: c247 :: c248 :: c249 :: c250 :: c251 :: c252 :: c253 :: c254 :: c255 :: c256 :: c257 :: c258 :: c259 :: c260 :: c261 :: c262 :: c263 :: c264 :: c265 :: c266 :: c267 :: c268 :: []).toArray, []⟩ w := by
  have HPN := Lib.hid hpn
  have HPG := Lib.hid HPG
  have Q1 := Lib.hid hQ
  have HX := Lib.hid hexit
  clear hpn hQ hexit
  conv => arg 2; arg 1; whnf
  go_loopw [10] (fun s10 wr => ∃ j : Nat, j ≤ 64 ∧ s10 = .int .i64 j ∧ Hid (QS w0 wr hB (.slice (some ⟨g2, 0, none⟩) NN cq) P H x (WX part j))) (fun s10 _ => 64 - (intOf s10).toNat)
  case atStart => exact ⟨0, by omega, rfl, Q1⟩
  case round =>
    clear Q1
    obtain ⟨j, hj, rfl, hQ⟩ := hrel
    by_cases hjl : j < 64
    · have hjd : decide ((j : Int) < 64) = true := by rw [decide_eq_true_eq]; omega
      by_cases h16 : j < 16
      · obtain ⟨kk, hkk⟩ : ∃ kk, k + 4 * j = kk := ⟨_, rfl⟩
        have hki : (k : Int) + 4 * (j : Int) = (kk : Int) := by omega
        have hx := hQ.out.ps.os.own
        have hll := HPN.out
        have m0 := hx.cell kk (by omega)
        have m1 := hx.cell (kk + 1) (by omega)
        have m2 := hx.cell (kk + 2) (by omega)
        have m3 := hx.cell (kk + 3) (by omega)
        rw [show kk = k + (4 * j) by omega, HPG.out _ (by omega), show k + (4 * j) = kk by omega] at m0
        rw [show kk + 1 = k + (4 * j + 1) by omega, HPG.out _ (by omega), show k + (4 * j + 1) = kk + 1 by omega] at m1
        rw [show kk + 2 = k + (4 * j + 2) by omega, HPG.out _ (by omega), show k + (4 * j + 2) = kk + 2 by omega] at m2
        rw [show kk + 3 = k + (4 * j + 3) by omega, HPG.out _ (by omega), show k + (4 * j + 3) = kk + 3 by omega] at m3
        have hw := rword_eq part j
        generalize part.getD (4 * j) 0 = b0 at *
        generalize part.getD (4 * j + 1) 0 = b1 at *
        generalize part.getD (4 * j + 2) 0 = b2 at *
        generalize part.getD (4 * j + 3) 0 = b3 at *
        have cx := uc_cell hQ.out.hx j (by rw [WX_length _ _ hj]; exact hjl)
        have zx := blk_frozen hQ.out.hx j
        generalize (WX part j).getD j 0 = xo at cx
        have hst : Hid ((WX part j).set j (rword b0 b1 b2 b3) = WX part (j + 1)) := Lib.hid (by rw [hw]; exact WX_low part j h16)
        obtain ⟨k1, hk1⟩ : ∃ q, kk + 1 = q := ⟨_, rfl⟩
        obtain ⟨k2, hk2⟩ : ∃ q, kk + 2 = q := ⟨_, rfl⟩
        obtain ⟨k3, hk3⟩ : ∃ q, kk + 3 = q := ⟨_, rfl⟩
        rw [hk1] at m1
        rw [hk2] at m2
        rw [hk3] at m3
        have e1 : IntKind.i64.wrap ((kk : Int) + 1) = (k1 : Int) := by rw [IntWalk.i64_in _ (by omega)]; omega
        have e2 : IntKind.i64.wrap ((kk : Int) + 2) = (k2 : Int) := by rw [IntWalk.i64_in _ (by omega)]; omega
        have e3 : IntKind.i64.wrap ((kk : Int) + 3) = (k3 : Int) := by rw [IntWalk.i64_in _ (by omega)]; omega
        have bb : ¬ (kk : Int) < 0 ∧ (kk : Int) < (NN : Int) ∧ ¬ (k1 : Int) < 0 ∧ (k1 : Int) < (NN : Int) ∧ ¬ (k2 : Int) < 0 ∧ (k2 : Int) < (NN : Int) ∧ ¬ (k3 : Int) < 0 ∧ (k3 : Int) < (NN : Int) ∧ ¬ (j : Int) < 0 ∧ (j : Int) < 64 := by omega
        obtain ⟨d1, d2, d3, d4, d5, d6, d7, d8, d9, d10⟩ := bb
        clear hw hkk hx hll hk1 hk2 hk3
        have hki' := Lib.hid hki
        clear hki
        go_upto_region 20 with (fail)
        try rw [hki'.out]
        go_still_tail 32, (by kernel_rfl)
        change wpList _ _ _ _ _ (World.drew wr)
        go_wp2_with fail
        have hT := Lib.hid (((hQ.out.setx j (rword b0 b1 b2 b3)).congr hst.out).drewN 1)
        clear hQ hst
        go_roundw
        case rel => exact ⟨j + 1, by omega, by go_num, hT⟩
        case measure => simp [intOf]; omega
      · have hm := h16
        obtain ⟨m, hjm⟩ : ∃ m, j = 16 + m := ⟨j - 16, by omega⟩
        have hX := WX_high part j m hjm hjl
        have hl := WX_length part j hj
        have hx := hQ.out.hx
        have c15 := uc_cell hx (m + 1) (by omega)
        have c2 := uc_cell hx (m + 14) (by omega)
        have c16 := uc_cell hx m (by omega)
        have c7 := uc_cell hx (m + 9) (by omega)
        have cw := uc_cell hx j (by omega)
        rw [hX.2 _ (by omega)] at c15 c2 c16 c7
        have zw := blk_frozen hx j
        have hnx : nextW (schedL part m) m = (schedL part m).getD m 0 + s0 ((schedL part m).getD (m + 1) 0) + (schedL part m).getD (m + 9) 0 + s1 ((schedL part m).getD (m + 14) 0) := rfl
        have hst := hX.1
        rw [hnx] at hst
        clear hnx hX
        generalize (schedL part m).getD (m + 1) 0 = x15 at *
        generalize (schedL part m).getD (m + 14) 0 = x2 at *
        generalize (schedL part m).getD m 0 = x16 at *
        generalize (schedL part m).getD (m + 9) 0 = x7 at *
        rw [← rnext_eq] at hst
        unfold s0 s1 at hst
        generalize (WX part j).getD j 0 = xi at cw
        have hst := Lib.hid hst
        obtain ⟨a15, h15⟩ : ∃ a, m + 1 = a := ⟨_, rfl⟩
        obtain ⟨a2, h2⟩ : ∃ a, m + 14 = a := ⟨_, rfl⟩
        obtain ⟨a7, h7⟩ : ∃ a, m + 9 = a := ⟨_, rfl⟩
        rw [h15] at c15
        rw [h2] at c2
        rw [h7] at c7
        have hjd16 : decide ((j : Int) < 16) = false := by rw [decide_eq_false_iff_not]; omega
        have e15 : IntKind.i64.wrap ((j : Int) - 15) = (a15 : Int) := by rw [IntWalk.i64_in _ (by omega)]; omega
        have e2 : IntKind.i64.wrap ((j : Int) - 2) = (a2 : Int) := by rw [IntWalk.i64_in _ (by omega)]; omega
        have e16 : IntKind.i64.wrap ((j : Int) - 16) = (m : Int) := by rw [IntWalk.i64_in _ (by omega)]; omega
        have e7 : IntKind.i64.wrap ((j : Int) - 7) = (a7 : Int) := by rw [IntWalk.i64_in _ (by omega)]; omega
        have b1 : ¬ (a15 : Int) < 0 ∧ (a15 : Int) < 64 ∧ ¬ (a2 : Int) < 0 ∧ (a2 : Int) < 64 ∧ ¬ (a7 : Int) < 0 ∧ (a7 : Int) < 64 ∧ ¬ (m : Int) < 0 ∧ (m : Int) < 64 ∧ ¬ (j : Int) < 0 ∧ (j : Int) < 64 := by omega
        obtain ⟨b1, b2, b3, b4, b5, b6, b7, b8, b9, b10⟩ := b1
        clear hjm h15 h2 h7 hl hx h16
        go_upto_region 23 with (fail)
        clear e15 e2
        refine wp_region_quiet_tail 32 (by kernel_rfl) (by kernel_rfl) ?_
        simp only [List.take_succ_cons, List.take_zero, List.drop_succ_cons, List.drop_zero]
        repeat (go_big_quiet_step ((first | (go_at_call_of 22 (Value.int IntKind.i64 7); exact Calls.quiet_of (right7 _ _)) | (go_at_call_of 22 (Value.int IntKind.i64 18); exact Calls.quiet_of (right18 _ _)) | (go_at_call_of 22 (Value.int IntKind.i64 17); exact Calls.quiet_of (right17 _ _)) | (go_at_call_of 22 (Value.int IntKind.i64 19); exact Calls.quiet_of (right19 _ _)))))
        refine wpQuiet_nil ?_
        intro _ hw'
        obtain ⟨nq, hw''⟩ := hw'
        subst hw''
        have hS' := Lib.hid (hQ.out.drewN nq)
        have cw' : (wr.drewN nq).cell? ⟨x, j, none⟩ = some (.int .u32 (u xi)) := cw
        have zw' : (wr.drewN nq).frozen? ⟨x, j, none⟩ = false := zw
        clear c15 c2 c16 c7 cw zw hQ
        generalize wr.drewN nq = wq at *
        go_wp2_with fail
        have hT := Lib.hid (((hS'.out.setx j _).congr hst.out))
        clear hS' hst
        go_roundw
        case rel => exact ⟨j + 1, by omega, by go_num, hT⟩
        case measure => simp [intOf]; omega
    · have hje : j = 64 := by omega
      have hT : Hid (QS w0 wr hB (.slice (some ⟨g2, 0, none⟩) NN cq) P H x (schedL part 48)) := Lib.hid (hQ.out.congr (by rw [hje]; exact WX_end part))
      have hjd : decide ((j : Int) < 64) = false := by rw [decide_eq_false_iff_not]; omega
      clear hQ hje
      go_wp2_with fail
      exact HX.out _ _ _ _ _ _ _ _ _ _ _ _ _ _ _ _ _ _ _ _ _ _ _ _ _ _ _ _ _ _ _ _ _ _ _ _ _ _ _ _ _ _ _ _ _ _ _ _ _ _ _ _ _ _ _ _ _ _ _ _ _ _ _ _ _ _ _ _ _ _ _ _ _ _ _ _ _ _ _ _ _ _ _ _ _ _ _ _ _ hT.out
end Go.Proofs.Ytnpmhbhnggdhcaa
