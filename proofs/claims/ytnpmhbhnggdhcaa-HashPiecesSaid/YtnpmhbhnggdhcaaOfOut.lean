/-
  The reference's Of: the digest's bytes.
-/
import Derived.Test.YtnpmhbhnggdhcaaOfAdds
import Derived.Test.YtnpmhbhnggdhcaaSum
set_option linter.unusedVariables false
set_option linter.unusedSimpArgs false
namespace Go.Proofs.Ytnpmhbhnggdhcaa
open Go.RowKit Go.Proofs.YtnpmhbhnggdhcaaW.PrintWords
/-- The words, and the digest while it is laid. -/
structure US (w0 wr : World) (hB : Nat) (H : List W32) (o : Nat) (D : List UInt8) : Prop where
  h1 : wr.heap[w0.heap.size + 1]? = some (.cells (Lib.byteCells (zrs 32)).toArray 24 (0, 0))
  hh : wr.heap[hB]? = some (.cells (uc H).toArray 36 (0, 0))
  ho : wr.heap[o]? = some (.cells (Lib.byteCells D).toArray 24 (0, 0))
  below : Below w0.heap.size w0 wr
  fo : w0.heap.size + 2 ≤ o
section
variable {w0 wr : World} {hB : Nat} {H : List W32} {o : Nat} {D : List UInt8}
theorem US.set (h : US w0 wr hB H o D) (i : Nat) (v : UInt8) : US w0 (wr.setCell ⟨o, i, none⟩ (.int .u8 (v.toNat : Int))) hB H o (D.set i v) := by
  have e := At1.set wr o i (.int .u8 (v.toNat : Int))
  have := h.fo
  refine ⟨(e.block _ (by omega)).trans h.h1, (e.block _ (blk_ne h.hh h.ho (by decide))).trans h.hh, ?_, At1.below h.below e (by omega), h.fo⟩
  rw [blk_set h.ho, List.setIfInBounds_toArray]
  simp [Lib.byteCells, List.map_set]
theorem US.congr {D' : List UInt8} (h : US w0 wr hB H o D) (e : D = D') : US w0 wr hB H o D' := e ▸ h
theorem US.cell (h : US w0 wr hB H o D) (i : Nat) (hi : i < D.length) : wr.cell? ⟨o, i, none⟩ = some (.int .u8 ((D.getD i 0).toNat : Int)) := by
  rw [blk_cell h.ho]
  simp [Lib.byteCells, hi]
end
set_option maxHeartbeats 4000000 in
set_option maxRecDepth 1000000 in
theorem out_loop {c0 c1 c2 c3 c4 c5 c6 c8 c9 c10 c11 c12 c13 c14 c15 c16 c17 c18 c19 u22 c23 c24 c25 c26 c27 c28 c29 c30 c31 c32 c33 c34 c35 c36 c37 c38 c39 c40 c41 c42 c43 c44 c45 c46 c47 c48 c49 c50 c51 c52 c53 c54 c55 c56 c57 c58 c59 c60 c61 c62 c63 c64 c65 c66 c67 c68 c69 c70 c71 c72 c73 c74 c75 c76 c77 c78 c79 c80 c81 c82 c83 c84 c85 c86 c87 c88 c89 c90 c91 c92 c93 c94 c95 c96 c97 c98 c99 c100 c101 c102 c103 c104 c105 c106 c107 c108 c109 c110 c111 c112 c113 c114 c115 c116 c117 c118 c119 c120 c121 c122 c123 c124 c125 c126 c127 c128 c129 c130 c131 c132 c133 c134 c135 c136 c137 c138 c139 c140 c141 c142 c143 c144 c145 c146 c147 c148 c149 c150 c151 c152 c153 c154 c155 c156 c157 c158 c159 c160 c161 c162 c163 c164 c165 c166 c167 c168 c169 c170 c171 c172 c173 c174 c175 c176 c177 c178 c179 c180 c181 c182 c183 c184 c185 c186 c187 c188 c189 c190 c191 c192 c193 c194 c195 c196 c197 c198 c199 c200 c201 c202 c203 c204 c205 c206 c207 c208 c209 c210 c211 c212 c213 c214 c215 c216 c217 c218 c219 c220 c221 c222 c223 c224 c225 c226 c227 c228 c229 c230 c231 c232 c233 c234 c235 c236 c237 c238 c239 c240 c241 c242 c243 c244 c245 c246 u247 u248 u249 u250 u251 u252 u253 u254 u255 u256 u257 u258 u259 u260 u261 u262 u263 u264 u265 u266 u267 c268 : Value} {Q0 : Exit → Act → World → Prop} {w0 w : World} {hB o : Nat} {H : List W32} (hl : H.length = 8) (hU : US w0 w hB H o (digP H 0))
    (hexit : ∀ (v21 v22 v247 v248 v249 v250 v251 v252 v253 v254 v255 v256 v257 v258 v259 v260 v261 v262 v263 v264 v265 v266 v267 : Value) (w' : World), US w0 w' hB H o (digP H 32) → Q0 (.exit 14) ⟨(c0 :: c1 :: c2 :: c3 :: c4 :: c5 :: c6 :: Value.pointer (some ⟨hB, 0, none⟩) :: c8 :: c9 :: c10 :: c11 :: c12 :: c13 :: c14 :: c15 :: c16 :: c17 :: c18 :: c19 :: Value.pointer (some ⟨o, 0, none⟩) :: v21 :: v22 :: c23 :: c24 :: c25 :: c26 :: c27 :: c28 :: c29 :: c30 :: c31 :: c32 :: c33 :: c34 :: c35 :: c36 :: c37 :: c38 :: c39 :: c40 :: c41 :: c42 :: c43 :: c44 :: c45 :: c46 :: c47 :: c48 :: c49 :: c50 :: c51 :: c52 :: c53 :: c54 :: c55 :: c56 :: c57 :: c58 :: c59 :: c60 :: c61 :: c62 :: c63 :: c64 :: c65 :: c66 :: c67 :: c68 :: c69 :: c70 :: c71 :: c72 :: c73 :: c74 :: c75 :: c76 :: c77 :: c78 :: c79 :: c80 :: c81 :: c82 :: c83 :: c84 :: c85 :: c86 :: c87 :: c88 :: c89 :: c90 :: c91 :: c92 :: c93 :: c94 :: c95 :: c96 :: c97 :: c98 :: c99 :: c100 :: c101 :: c102 :: c103 :: c104 :: c105 :: c106 :: c107 :: c108 :: c109 :: c110 :: c111 :: c112 :: c113 :: c114 :: c115 :: c116 :: c117 :: c118 :: c119 :: c120 :: c121 :: c122 :: c123 :: c124 :: c125 :: c126 :: c127 :: c128 :: c129 :: c130 :: c131 :: c132 :: c133 :: c134 :: c135 :: c136 :: c137 :: c138 :: c139 :: c140 :: c141 :: c142 :: c143 :: c144 :: c145 :: c146 :: c147 :: c148 :: c149 :: c150 :: c151 :: c152 :: c153 :: c154 :: c155 :: c156 :: c157 :: c158 :: c159 :: c160 :: c161 :: c162 :: c163 :: c164 :: c165 :: c166 :: c167 :: c168 :: c169 :: c170 :: c171 :: c172 :: c173 :: c174 :: c175 :: c176 :: c177 :: c178 :: c179 :: c180 :: c181 :: c182 :: c183 :: c184 :: c185 :: c186 :: c187 :: c188 :: c189 :: c190 :: c191 :: c192 :: c193 :: c194 :: c195 :: c196 :: c197 :: c198 :: c199 :: c200 :: c201 :: c202 :: c203 :: c204 :: c205 :: c206 :: c207 :: c208 :: c209 :: c210 :: c211 :: c212 :: c213 :: c214 :: c215 :: c216 :: c217 :: c218 :: c219 :: c220 :: c221 :: c222 :: c223 :: c224 :: c225 :: c226 :: c227 :: c228 :: c229 :: c230 :: c231 :: c232 :: c233 :: c234 :: c235 :: c236 :: c237 :: c238 :: c239 :: c240 :: c241 :: c242 :: c243 :: c244 :: c245 :: c246 :: v247 :: v248 :: v249 :: v250 :: v251 :: v252 :: v253 :: v254 :: v255 :: v256 :: v257 :: v258 :: v259 :: v260 :: v261 :: v262 :: v263 :: v264 :: v265 :: v266 :: v267 :: c268 :: []).toArray, []⟩ w') :
    Code.wp Try.prog (.loop (loop15 7)) Q0 ⟨(c0 :: c1 :: c2 :: c3 :: c4 :: c5 :: c6 :: Value.pointer (some ⟨hB, 0, none⟩) :: c8 :: c9 :: c10 :: c11 :: c12 :: c13 :: c14 :: c15 :: c16 :: c17 :: c18 :: c19 :: Value.pointer (some ⟨o, 0, none⟩) :: Value.int .i64 0 :: u22 :: c23 :: c24 :: c25 :: c26 :: c27 :: c28 :: c29 :: c30 :: c31 :: c32 :: c33 :: c34 :: c35 :: c36 :: c37 :: c38 :: c39 :: c40 :: c41 :: c42 :: c43 :: c44 :: c45 :: c46 :: c47 :: c48 :: c49 :: c50 :: c51 :: c52 :: c53 :: c54 :: c55 :: c56 :: c57 :: c58 :: c59 :: c60 :: c61 :: c62 :: c63 :: c64 :: c65 :: c66 :: c67 :: c68 :: c69 :: c70 :: c71 :: c72 :: c73 :: c74 :: c75 :: c76 :: c77 :: c78 :: c79 :: c80 :: c81 :: c82 :: c83 :: c84 :: c85 :: c86 :: c87 :: c88 :: c89 :: c90 :: c91 :: c92 :: c93 :: c94 :: c95 :: c96 :: c97 :: c98 :: c99 :: c100 :: c101 :: c102 :: c103 :: c104 :: c105 :: c106 :: c107 :: c108 :: c109 :: c110 :: c111 :: c112 :: c113 :: c114 :: c115 :: c116 :: c117 :: c118 :: c119 :: c120 :: c121 :: c122 :: c123 :: c124 :: c125 :: c126 :: c127 :: c128 :: c129 :: c130 :: c131 :: c132 :: c133 :: c134 :: c135 :: c136 :: c137 :: c138 :: c139 :: c140 :: c141 :: c142 :: c143 :: c144 :: c145 :: c146 :: c147 :: c148 :: c149 :: c150 :: c151 :: c152 :: c153 :: c154 :: c155 :: c156 :: c157 :: c158 :: c159 :: c160 :: c161 :: c162 :: c163 :: c164 :: c165 :: c166 :: c167 :: c168 :: c169 :: c170 :: c171 :: c172 :: c173 :: c174 :: c175 :: c176 :: c177 :: c178 :: c179 :: c180 :: c181 :: c182 :: c183 :: c184 :: c185 :: c186 :: c187 :: c188 :: c189 :: c190 :: c191 :: c192 :: c193 :: c194 :: c195 :: c196 :: c197 :: c198 :: c199 :: c200 :: c201 :: c202 :: c203 :: c204 :: c205 :: c206 :: c207 :: c208 :: c209 :: c210 :: c211 :: c212 :: c213 :: c214 :: c215 :: c216 :: c217 :: c218 :: c219 :: c220 :: c221 :: c222 :: c223 :: c224 :: c225 :: c226 :: c227 :: c228 :: c229 :: c230 :: c231 :: c232 :: c233 :: c234 :: c235 :: c236 :: c237 :: c238 :: c239 :: c240 :: c241 :: c242 :: c243 :: c244 :: c245 :: c246 :: u247 :: u248 :: u249 :: u250 :: u251 :: u252 :: u253 :: u254 :: u255 :: u256 :: u257 :: u258 :: u259 :: u260 :: u261 :: u262 :: u263 :: u264 :: u265 :: u266 :: u267 :: c268 :: []).toArray, []⟩ w := by
  have T0 : Hid (US w0 w hB H o (digP H (4 * 0))) := Lib.hid hU
  have HX := Lib.hid hexit
  have HL8 := Lib.hid hl
  clear hU hexit hl
  conv => arg 2; arg 1; whnf
  go_loopw [21] (fun i wr => ∃ m : Nat, m ≤ 8 ∧ i = .int .i64 m ∧ Hid (US w0 wr hB H o (digP H (4 * m)))) (fun i _ => 8 - (intOf i).toNat)
  case atStart => exact ⟨0, by omega, rfl, T0⟩
  case round =>
    clear T0
    obtain ⟨m, hm, rfl, hT⟩ := hrel
    by_cases hmlt : m < 8
    · have hd : decide ((m : Int) < 8) = true := by rw [decide_eq_true_eq]; omega
      obtain ⟨xw, hxw⟩ : ∃ xw, H.getD m 0 = xw := ⟨_, rfl⟩
      have HXW := Lib.hid hxw
      clear hxw
      go_upto_region 45 with (fail)
      obtain ⟨wo, rfl⟩ : ∃ wo : World, wo = wr := ⟨_, rfl⟩
      go_loopw [22] (fun i wr => ∃ j : Nat, j ≤ 4 ∧ i = .int .i64 j ∧ Hid (US w0 wr hB H o (digP H (4 * m + j)))) (fun i _ => 4 - (intOf i).toNat)
      case atStart => exact ⟨0, by omega, rfl, hT⟩
      case round =>
        clear hT
        obtain ⟨j, hj, rfl, hU⟩ := hrel
        by_cases hjlt : j < 4
        · obtain ⟨sh, hsh⟩ : ∃ sh : Nat, sh = 24 - 8 * j := ⟨_, rfl⟩
          have hdj : decide ((j : Int) < 4) = true := by rw [decide_eq_true_eq]; omega
          have hsi : 24 - 8 * (j : Int) = (sh : Int) := by omega
          have hs24 : sh ≤ 24 := by omega
          have hx0 := u_nonneg xw
          have hst : Hid ((digP H (4 * m + j)).set (4 * m + j) (byteAt xw.toNat sh) = digP H (4 * m + (j + 1))) := Lib.hid (by
            have := digP_set H (4 * m + j) (by omega)
            rw [show (4 * m + j) / 4 = m by omega, show (4 * m + j) % 4 = j by omega, HXW.out, ← hsh] at this
            exact this)
          have cH := uc_cell hU.out.hh m (by rw [HL8.out]; exact hmlt)
          rw [HXW.out] at cH
          have ct := hU.out.cell (4 * m + j) (by rw [digP_length _ _ (by omega)]; omega)
          have zt := blk_frozen hU.out.ho (4 * m + j)
          generalize (digP H (4 * m + j)).getD (4 * m + j) 0 = od at ct
          have b1 : (m : Int) < 8 := by omega
          have b2 : ¬ (m : Int) < 0 := by omega
          clear hsh
          go_wp2_with fail
          refine ⟨⟨j + 1, by omega, by go_num, Lib.hid ?_⟩, by simp [intOf]; omega⟩
          rw [u_byte]
          exact (hU.out.set _ _).congr hst.out
        · have he : j = 4 := by omega
          have hU2 : Hid (US w0 wr hB H o (digP H (4 * (m + 1)))) := Lib.hid (hU.out.congr (by rw [he, show 4 * (m + 1) = 4 * m + 4 by omega]))
          have hdj : decide ((j : Int) < 4) = false := by rw [decide_eq_false_iff_not]; omega
          clear hU he
          go_wp2_with fail
          exact ⟨⟨m + 1, by omega, by go_num, hU2⟩, by simp [intOf]; omega⟩
    · have he : m = 8 := by omega
      have hT2 : Hid (US w0 wr hB H o (digP H 32)) := Lib.hid (hT.out.congr (by rw [he]))
      have hdm : decide ((m : Int) < 8) = false := by rw [decide_eq_false_iff_not]; omega
      clear hT he
      go_wp2_with fail
      exact HX.out _ _ _ _ _ _ _ _ _ _ _ _ _ _ _ _ _ _ _ _ _ _ _ _ hT2.out
end Go.Proofs.Ytnpmhbhnggdhcaa
