/-
  NamingParses: for any text the law answers true.
-/
import Derived.Test.YtigeljeoodhcoaaAwake
import Derived.Test.YtigeljeoodhcoaaArrEq
set_option linter.unusedVariables false
set_option linter.unusedSimpArgs false
namespace Go.Proofs.Ytigeljeoodhcoaa
open Go.RowKit Go.Proofs.YtigeljeoodhcoaaW.PrintWords Go.Proofs.YtigeljeoodhcoaaW.PrintLast Go.Proofs.YtigeljeoodhcoaaW.PrintMore

set_option maxHeartbeats 400000 in
set_option maxRecDepth 100000 in
theorem parses_bad (s : ByteArray) (w : World) (hs : s.size ≤ 140737488351232) (hp : pathB s = false) : Calls Try.prog 5 #[.string s] w fun e w' => e = .returned (.bool true) ∧ Below w.heap.size w w' := by
  go_enter Try.func5, Try.ntmps5
  go_wp2_with fail
  refine (awake_any _).mono ?_
  rintro e w1 ⟨rfl, hb1⟩
  go_wp2_with fail
  refine (parse_bad s w1 hs hp).mono ?_
  rintro e w2 ⟨rfl, hb2⟩
  have HB2 := hb1.trans (hb2.mono hb1.size)
  go_wp2_with (refine wpList_store_whole rfl 24 _ _ rfl w2.heap.size zc zc 24 rfl rfl (alloc_at w2 (.cells zc 24)) rfl info24z zc_one ?_)
  intro W3 hW3 hA3
  have HB3 := hA3.below (HB2.alloc HB2.size _) HB2.size
  clear hA3 HB2 hb1 hb2
  go_wp2_with fail
  refine (refParse_bad s W3 hs hp).mono ?_
  rintro e w4 ⟨rfl, hb4⟩
  have HB4 := HB3.trans (hb4.mono HB3.size)
  have hD4 := blk_below hW3 hb4
  clear HB3 hb4 hW3
  go_wp2_with (refine wpList_store_whole rfl 24 _ _ rfl w4.heap.size zc zc 24 rfl rfl (alloc_at w4 (.cells zc 24)) rfl info24z zc_one ?_)
  intro W5 hW5 hA5
  have HB5 := hA5.below (HB4.alloc HB4.size _) HB4.size
  have hD5 : W5.heap[w2.heap.size]? = some (.cells zc 24) := by
    rw [hA5.block _ (by have := blk_lt hD4; omega)]
    exact alloc_far hD4 _
  clear hA5 HB4 hD4
  go_wp2_with fail
  have h6 := is_any s W5 hs
  rw [hp] at h6
  refine h6.mono ?_
  rintro e w6 ⟨rfl, hb6⟩
  have HB6 := HB5.trans (hb6.mono HB5.size)
  have hD6 := blk_below hD5 hb6
  have hF6 := blk_below hW5 hb6
  clear h6 HB5 hb6 hD5 hW5
  have heq : ∀ W, (binOp .eql 24 (.agg (Lib.byteCells zeros).toArray) (.agg #[.int .u8 0, .int .u8 0, .int .u8 0, .int .u8 0, .int .u8 0, .int .u8 0, .int .u8 0, .int .u8 0, .int .u8 0, .int .u8 0, .int .u8 0, .int .u8 0, .int .u8 0, .int .u8 0, .int .u8 0, .int .u8 0, .int .u8 0, .int .u8 0, .int .u8 0, .int .u8 0])).run Try.prog W = .ok (.bool true) W := fun W => eql20 zeros rfl W
  have hgd := guard20
  go_wp2_with (refine wpList_load_w 24 _ rfl w2.heap.size rfl (Lib.byteCells zeros) _ (range_arr (d := zeros) hD6) Try.underlying24 rfl info24l rfl ?_)
  go_ret
  exact ⟨rfl, HB6⟩

set_option maxHeartbeats 400000 in
set_option maxRecDepth 100000 in
theorem parses_good (s : ByteArray) (w : World) (hs : s.size ≤ 140737488351232) (hp : pathB s = true) : Calls Try.prog 5 #[.string s] w fun e w' => e = .returned (.bool true) ∧ Below w.heap.size w w' := by
  have hl := pathB_len hp
  have pg := fun W => parse_good s W hs hp
  have rg := fun W => refParse_good s W hs hp
  generalize decL (s.extract 0 32) = L at hl pg rg
  have hi : (Try.prog.info? 24).map (·.size) = some (Lib.byteCells L).toArray.size := by rw [info24, arr_size, hl]
  have hiL : (Try.prog.info? 24).map (·.size) = some (Lib.byteCells L).length := by rw [info24, Lib.byteCells_length, hl]
  have hz : zc.size = (Lib.byteCells L).toArray.size := by rw [arr_size, hl]; rfl
  have hone := one_arr L
  have heq := eql20 L hl
  have HI := Aside0.mk hi
  have HIL := Aside0.mk hiL
  have HZ := Aside0.mk hz
  have HONE := Aside0.mk hone
  have PG := Aside0.mk pg
  have RG := Aside0.mk rg
  clear hi hiL hz hone pg rg
  go_enter Try.func5, Try.ntmps5
  go_wp2_with fail
  refine (awake_any _).mono ?_
  rintro e w1 ⟨rfl, hb1⟩
  go_wp2_with fail
  refine (PG.out w1).mono ?_
  rintro e w2 ⟨rfl, hb2⟩
  have HB2 := hb1.trans (hb2.mono hb1.size)
  go_wp2_with (refine wpList_store_whole rfl 24 _ _ rfl w2.heap.size (Lib.byteCells L).toArray zc 24 rfl rfl (alloc_at w2 (.cells zc 24)) HZ.out HI.out HONE.out ?_)
  intro W3 hW3 hA3
  have HB3 := hA3.below (HB2.alloc HB2.size _) HB2.size
  clear hA3 HB2 hb1 hb2
  go_wp2_with fail
  refine (RG.out W3).mono ?_
  rintro e w4 ⟨rfl, hb4⟩
  have HB4 := HB3.trans (hb4.mono HB3.size)
  have hD4 := blk_below hW3 hb4
  clear HB3 hb4 hW3
  go_wp2_with (refine wpList_store_whole rfl 24 _ _ rfl w4.heap.size (Lib.byteCells L).toArray zc 24 rfl rfl (alloc_at w4 (.cells zc 24)) HZ.out HI.out HONE.out ?_)
  intro W5 hW5 hA5
  have HB5 := hA5.below (HB4.alloc HB4.size _) HB4.size
  have hD5 : W5.heap[w2.heap.size]? = some (.cells (Lib.byteCells L).toArray 24) := by
    rw [hA5.block _ (by have := blk_lt hD4; omega)]
    exact alloc_far hD4 _
  clear hA5 HB4 hD4
  go_wp2_with fail
  have h6 := is_any s W5 hs
  rw [hp] at h6
  refine h6.mono ?_
  rintro e w6 ⟨rfl, hb6⟩
  have HB6 := HB5.trans (hb6.mono HB5.size)
  have hD6 := range_arr (blk_below hD5 hb6)
  have hF6 := range_arr (blk_below hW5 hb6)
  clear h6 HB5 hb6 hD5 hW5
  have hgd := guard20
  go_wp2_with (first
    | (refine wpList_load_w 24 (.tmp 3) rfl w2.heap.size rfl (Lib.byteCells L) _ hD6 Try.underlying24 rfl HIL.out rfl ?_)
    | (refine wpList_load_w 24 (.tmp 6) rfl w4.heap.size rfl (Lib.byteCells L) _ hF6 Try.underlying24 rfl HIL.out rfl ?_))
  go_ret
  exact ⟨by first | rfl | (go_simp; done), HB6⟩

theorem walk_NamingParses (s : ByteArray) (w : World) (hs : s.size ≤ 140737488351232) : Calls Try.prog 5 #[.string s] w fun e w' => e = .returned (.bool true) ∧ Below w.heap.size w w' := by
  cases hp : pathB s
  · exact parses_bad s w hs hp
  · exact parses_good s w hs hp
end Go.Proofs.Ytigeljeoodhcoaa
