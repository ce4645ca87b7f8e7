/-
  The reference's Of: the sums' loop.
-/
import Derived.Test.YtnpmhbhnggdhcaaOfRounds
import Derived.Test.YtnpmhbhnggdhcaaBlock
import Derived.StillTailTactics
set_option linter.unusedVariables false
set_option linter.unusedSimpArgs false
namespace Go.Proofs.Ytnpmhbhnggdhcaa
open Go.RowKit Go.Proofs.YtnpmhbhnggdhcaaW.PrintWords
attribute [local go_sem] or_u and_u xor_u addw_u add_u
section
variable {w0 wr : World} {hB : Nat} {v : Value} {l : List UInt8} {H : List W32} {x : Nat} {ws : List W32} {y : Nat} {vl : List W32}
theorem VS.seth (h : VS w0 wr hB v l H x ws y vl) (i : Nat) (z : W32) : VS w0 (wr.setCell ⟨hB, i, none⟩ (.int .u32 (u z))) hB v l (H.set i z) x ws y vl := by
  have e := At1.set wr hB i (.int .u32 (u z))
  refine ⟨⟨⟨h.qs.ps.os.at1 e h.qs.ps.far (fun k => own_ne h.qs.ps.os.own h.qs.ps.hh (by decide) k.symm), ?_, h.qs.ps.far⟩, (e.block _ (fun k => h.qs.nx k.symm)).trans h.qs.hx, h.qs.fx, h.qs.nx⟩, (e.block _ (fun k => h.ny k.symm)).trans h.hy, h.fy, h.ny⟩
  rw [blk_set h.qs.ps.hh i, uc_sets]
theorem VS.congrH {H' : List W32} (h : VS w0 wr hB v l H x ws y vl) (e : H = H') : VS w0 wr hB v l H' x ws y vl := e ▸ h
end
set_option maxHeartbeats 4000000 in
set_option maxRecDepth 1000000 in
theorem adds_loop {c0 c1 c2 c3 c4 c5 c6 c8 c9 c10 c11 c12 c13 c15 c16 c17 c18 c20 c21 c22 c23 c24 c25 c26 c27 c28 c29 c30 c31 c32 c33 c34 c35 c36 c37 c38 c39 c40 c41 c42 c43 c44 c45 c46 c47 c48 c49 c50 c51 c52 c53 c54 c55 c56 c57 c58 c59 c60 c61 c62 c63 c64 c65 c66 c67 c68 c69 c70 c71 c72 c73 c74 c75 c76 c77 c78 c79 c80 c81 c82 c83 c84 c85 c86 c87 c88 c89 c90 c91 c92 c93 c94 c95 c96 c97 c98 c99 c100 c101 c102 c103 c104 c105 c106 c107 c108 c109 c110 c111 c112 c113 c114 c115 c116 c117 c118 c119 c120 c121 c122 c123 c124 c125 c126 c127 c128 c129 c130 c131 c132 c133 c134 c135 c136 c137 c138 c139 c140 c141 c142 c143 c144 c145 c146 c147 c148 c149 c150 c151 c152 c153 c154 c155 c156 c157 c158 c159 c160 c161 c162 c163 c164 c165 c166 c167 c168 c169 c170 c171 c172 c173 c174 c175 c176 c177 c178 c179 c180 c181 c182 c183 c184 c185 c186 c187 c188 c189 c190 c191 c192 c193 c194 c195 c196 c197 c198 c199 c200 c201 c202 c203 c204 c205 c206 c207 c208 c209 c210 c211 c212 c213 c214 c215 c216 c217 c218 c219 c220 c221 c222 c223 c224 c225 c226 c227 c228 c229 c230 c231 c232 c233 c234 u235 u236 u237 u238 u239 u240 u241 u242 u243 u244 u245 u246 c247 c248 c249 c250 c251 c252 c253 c254 c255 c256 c257 c258 c259 c260 c261 c262 c263 c264 c265 c266 c267 c268 : Value} {Q0 : Exit → Act → World → Prop} {w0 w : World} {hB x y : Nat} {sv : Value} {P : List UInt8} {S : List W32} {H v : V8} (hV : VS w0 w hB sv P H.l x S y v.l)
    (hexit : ∀ (v19 v235 v236 v237 v238 v239 v240 v241 v242 v243 v244 v245 v246 : Value) (w' : World), VS w0 w' hB sv P (H.add v).l x S y v.l → Q0 (.exit 12) ⟨(c0 :: c1 :: c2 :: c3 :: c4 :: c5 :: c6 :: Value.pointer (some ⟨hB, 0, none⟩) :: c8 :: c9 :: c10 :: c11 :: c12 :: c13 :: Value.pointer (some ⟨y, 0, none⟩) :: c15 :: c16 :: c17 :: c18 :: v19 :: c20 :: c21 :: c22 :: c23 :: c24 :: c25 :: c26 :: c27 :: c28 :: c29 :: c30 :: c31 :: c32 :: c33 :: c34 :: c35 :: c36 :: c37 :: c38 :: c39 :: c40 :: c41 :: c42 :: c43 :: c44 :: c45 :: c46 :: c47 :: c48 :: c49 :: c50 :: c51 :: c52 :: c53 :: c54 :: c55 :: c56 :: c57 :: c58 :: c59 :: c60 :: c61 :: c62 :: c63 :: c64 :: c65 :: c66 :: c67 :: c68 :: c69 :: c70 :: c71 :: c72 :: c73 :: c74 :: c75 :: c76 :: c77 :: c78 :: c79 :: c80 :: c81 :: c82 :: c83 :: c84 :: c85 :: c86 :: c87 :: c88 :: c89 :: c90 :: c91 :: c92 :: c93 :: c94 :: c95 :: c96 :: c97 :: c98 :: c99 :: c100 :: c101 :: c102 :: c103 :: c104 :: c105 :: c106 :: c107 :: c108 :: c109 :: c110 :: c111 :: c112 :: c113 :: c114 :: c115 :: c116 :: c117 :: c118 :: c119 :: c120 :: c121 :: c122 :: c123 :: c124 :: c125 :: c126 :: c127 :: c128 :: c129 :: c130 :: c131 :: c132 :: c133 :: c134 :: c135 :: c136 :: c137 :: c138 :: c139 :: c140 :: c141 :: c142 :: c143 :: c144 :: c145 :: c146 :: c147 :: c148 :: c149 :: c150 :: c151 :: c152 :: c153 :: c154 :: c155 :: c156 :: c157 :: c158 :: c159 :: c160 :: c161 :: c162 :: c163 :: c164 :: c165 :: c166 :: c167 :: c168 :: c169 :: c170 :: c171 :: c172 :: c173 :: c174 :: c175 :: c176 :: c177 :: c178 :: c179 :: c180 :: c181 :: c182 :: c183 :: c184 :: c185 :: c186 :: c187 :: c188 :: c189 :: c190 :: c191 :: c192 :: c193 :: c194 :: c195 :: c196 :: c197 :: c198 :: c199 :: c200 :: c201 :: c202 :: c203 :: c204 :: c205 :: c206 :: c207 :: c208 :: c209 :: c210 :: c211 :: c212 :: c213 :: c214 :: c215 :: c216 :: c217 :: c218 :: c219 :: c220 :: c221 :: c222 :: c223 :: c224 :: c225 :: c226 :: c227 :: c228 :: c229 :: c230 :: c231 :: c232 :: c233 :: c234 :: v235 :: v236 :: v237 :: v238 :: v239 :: v240 :: v241 :: v242 :: v243 :: v244 :: v245 :: v246 :: c247 :: c248 :: c249 :: c250 :: c251 :: c252 :: c253 :: c254 :: c255 :: c256 :: c257 :: c258 :: c259 :: c260 :: c261 :: c262 :: c263 :: c264 :: c265 :: c266 :: c267 :: c268 :: []).toArray, []⟩ w') :
    Code.wp Try.prog (.loop (loop15 6)) Q0 ⟨(c0 :: c1 :: c2 :: c3 :: c4 :: c5 :: c6 :: Value.pointer (some ⟨hB, 0, none⟩) :: c8 :: c9 :: c10 :: c11 :: c12 :: c13 :: Value.pointer (some ⟨y, 0, none⟩) :: c15 :: c16 :: c17 :: c18 :: Value.int .i64 0 :: c20 :: c21 :: c22 :: c23 :: c24 :: c25 :: c26 :: c27 :: c28 :: c29 :: c30 :: c31 :: c32 :: c33 :: c34 :: c35 :: c36 :: c37 :: c38 :: c39 :: c40 :: c41 :: c42 :: c43 :: c44 :: c45 :: c46 :: c47 :: c48 :: c49 :: c50 :: c51 :: c52 :: c53 :: c54 :: c55 :: c56 :: c57 :: c58 :: c59 :: c60 :: c61 :: c62 :: c63 :: c64 :: c65 :: c66 :: c67 :: c68 :: c69 :: c70 :: c71 :: c72 :: c73 :: c74 :: c75 :: c76 :: c77 :: c78 :: c79 :: c80 :: c81 :: c82 :: c83 :: c84 :: c85 :: c86 :: c87 :: c88 :: c89 :: c90 :: c91 :: c92 :: c93 :: c94 :: c95 :: c96 :: c97 :: c98 :: c99 :: c100 :: c101 :: c102 :: c103 :: c104 :: c105 :: c106 :: c107 :: c108 :: c109 :: c110 :: c111 :: c112 :: c113 :: c114 :: c115 :: c116 :: c117 :: c118 :: c119 :: c120 :: c121 :: c122 :: c123 :: c124 :: c125 :: c126 :: c127 :: c128 :: c129 :: c130 :: c131 :: c132 :: c133 :: c134 :: c135 :: c136 :: c137 :: c138 :: c139 :: c140 :: c141 :: c142 :: c143 :: c144 :: c145 :: c146 :: c147 :: c148 :: c149 :: c150 :: c151 :: c152 :: c153 :: c154 :: c155 :: c156 :: c157 :: c158 :: c159 :: c160 :: c161 :: c162 :: c163 :: c164 :: c165 :: c166 :: c167 :: c168 :: c169 :: c170 :: c171 :: c172 :: c173 :: c174 :: c175 :: c176 :: c177 :: c178 :: c179 :: c180 :: c181 :: c182 :: c183 :: c184 :: c185 :: c186 :: c187 :: c188 :: c189 :: c190 :: c191 :: c192 :: c193 :: c194 :: c195 :: c196 :: c197 :: c198 :: c199 :: c200 :: c201 :: c202 :: c203 :: c204 :: c205 :: c206 :: c207 :: c208 :: c209 :: c210 :: c211 :: c212 :: c213 :: c214 :: c215 :: c216 :: c217 :: c218 :: c219 :: c220 :: c221 :: c222 :: c223 :: c224 :: c225 :: c226 :: c227 :: c228 :: c229 :: c230 :: c231 :: c232 :: c233 :: c234 :: u235 :: u236 :: u237 :: u238 :: u239 :: u240 :: u241 :: u242 :: u243 :: u244 :: u245 :: u246 :: c247 :: c248 :: c249 :: c250 :: c251 :: c252 :: c253 :: c254 :: c255 :: c256 :: c257 :: c258 :: c259 :: c260 :: c261 :: c262 :: c263 :: c264 :: c265 :: c266 :: c267 :: c268 :: []).toArray, []⟩ w := by
  have V1 : Hid (VS w0 w hB sv P (HI H v 0) x S y v.l) := Lib.hid hV
  have HX := Lib.hid hexit
  clear hV hexit
  conv => arg 2; arg 1; whnf
  go_loopw [19] (fun s19 wr => ∃ m : Nat, m ≤ 8 ∧ s19 = .int .i64 m ∧ Hid (VS w0 wr hB sv P (HI H v m) x S y v.l)) (fun s19 _ => 8 - (intOf s19).toNat)
  case atStart => exact ⟨0, by omega, rfl, V1⟩
  case round =>
    clear V1
    obtain ⟨m, hm, rfl, hR⟩ := hrel
    by_cases hlt : m < 8
    · have hd : decide ((m : Int) < 8) = true := by rw [decide_eq_true_eq]; omega
      have ch := uc_cell hR.out.qs.ps.hh m (by rw [HI_length H v m hm]; exact hlt)
      have cv := uc_cell hR.out.hy m (by rw [V8.l_length]; exact hlt)
      have zb := blk_frozen hR.out.qs.ps.hh m
      rw [HI_get H v m hlt] at ch
      have hset := Lib.hid (HI_set H v m hlt)
      generalize H.l.getD m 0 = xh at *
      generalize v.l.getD m 0 = xv at *
      have b1 : (m : Int) < 8 := by omega
      have b2 : ¬ (m : Int) < 0 := by omega
      go_upto_region 39 with (fail)
      go_still_tail 8, (by kernel_rfl)
      change wpList _ _ _ _ _ (World.drew wr)
      go_wp2_with fail
      have hT := Lib.hid (((hR.out.seth m (xh + xv)).congrH hset.out).drewN 1)
      clear hR hset
      go_roundw
      case rel => exact ⟨m + 1, by omega, by go_num, hT⟩
      case measure => simp [intOf]; omega
    · have e : m = 8 := by omega
      have hT : Hid (VS w0 wr hB sv P (H.add v).l x S y v.l) := Lib.hid (by rw [e] at hR; exact hR.out)
      have hdm : decide ((m : Int) < 8) = false := by rw [decide_eq_false_iff_not]; omega
      clear hR e
      go_wp2_with fail
      exact HX.out _ _ _ _ _ _ _ _ _ _ _ _ _ _ hT.out
end Go.Proofs.Ytnpmhbhnggdhcaa
