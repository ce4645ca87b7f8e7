/-
  NamingPaths: for any digest and name the law answers true.
-/
import Derived.Test.YtigeljeoodhcoaaAwake
import Derived.Test.YtigeljeoodhcoaaArrEq
set_option linter.unusedVariables false
set_option linter.unusedSimpArgs false
namespace Go.Proofs.Ytigeljeoodhcoaa
open Go.RowKit Go.Proofs.YtigeljeoodhcoaaW.PrintWords Go.Proofs.YtigeljeoodhcoaaW.PrintLast Go.Proofs.YtigeljeoodhcoaaW.PrintMore

set_option maxHeartbeats 400000 in
set_option maxRecDepth 100000 in
theorem paths_no (d : List UInt8) (s : ByteArray) (w : World) (hd : d.length = 20) (hs : s.size ≤ 140737488351232) (hn : nameB s = false) :
    Calls Try.prog 4 #[.agg (Lib.byteCells d).toArray, .string s] w fun e w' => e = .returned (.bool true) ∧ Below w.heap.size w w' := by
  have hi : (Try.prog.info? 24).map (·.size) = some (Lib.byteCells d).length := by rw [info24, Lib.byteCells_length, hd]
  go_enter Try.func4, Try.ntmps4
  have hA := alloc_at w (.cells (Lib.byteCells d).toArray 24)
  have HBx := (Below.refl _ w).alloc (Nat.le_refl _) (.cells (Lib.byteCells d).toArray 24)
  go_wp2_with fail
  refine (awake_any _).mono ?_
  rintro e w1 ⟨rfl, hb1⟩
  have HB1 := HBx.trans (hb1.mono HBx.size)
  have hA1 := blk_below hA hb1
  clear HBx hA hb1
  go_wp2_with (refine wpList_load_w 24 _ rfl w.heap.size rfl (Lib.byteCells d) _ (range_arr hA1) Try.underlying24 rfl hi rfl ?_)
  refine (path_no d s w1 hd hs hn).mono ?_
  rintro e w2 ⟨rfl, hb2⟩
  have HB2 := HB1.trans (hb2.mono HB1.size)
  go_wp2_with fail
  have h3 := refName_any s w2 hs
  rw [hn] at h3
  refine h3.mono ?_
  rintro e w3 ⟨rfl, hd3⟩
  have HB3 := below_drawn HB2 hd3
  clear h3
  go_wp2
  go_ret
  exact ⟨by first | rfl | (go_simp; done), HB3⟩

set_option maxHeartbeats 400000 in
set_option maxRecDepth 100000 in
theorem paths_yes (d : List UInt8) (s : ByteArray) (w : World) (hd : d.length = 20) (hn : nameB s = true) :
    Calls Try.prog 4 #[.agg (Lib.byteCells d).toArray, .string s] w fun e w' => e = .returned (.bool true) ∧ Below w.heap.size w w' := by
  obtain ⟨hs1, hs2⟩ := nameB_size hn
  have hs : s.size ≤ 140737488351232 := by omega
  have hi : (Try.prog.info? 24).map (·.size) = some (Lib.byteCells d).length := by rw [info24, Lib.byteCells_length, hd]
  have HI := Aside0.mk hi
  have HI2 : Aside0 ((Try.prog.info? 24).map (·.size) = some (Lib.byteCells d).toArray.size) := ⟨by rw [info24, arr_size, hd]⟩
  have HZ : Aside0 (zc.size = (Lib.byteCells d).toArray.size) := ⟨by rw [arr_size, hd]; rfl⟩
  have HONE := Aside0.mk (one_arr d)
  have heq := eql20 d hd
  have p1 := fun W => path_yes d s W hd hn
  have p2 := fun W => refPath_any d s W hd hn
  have hpb := pathB_path d s hd hn
  have p3 : ∀ W : World, _ := fun W => parse_good ⟨(pathL d s).toArray⟩ W (by rw [path_size d s hd]; omega) hpb
  have p4 : ∀ W : World, _ := fun W => is_any ⟨(pathL d s).toArray⟩ W (by rw [path_size d s hd]; omega)
  simp only [decL_path d s hd, path_tail d s hd] at p3
  simp only [hpb] at p4
  generalize (⟨(pathL d s).toArray⟩ : ByteArray) = q at p1 p2 p3 p4
  have P1 := Aside0.mk p1
  have P2 := Aside0.mk p2
  have P3 := Aside0.mk p3
  have P4 := Aside0.mk p4
  clear p1 p2 p3 p4 hi hpb
  go_enter Try.func4, Try.ntmps4
  have hA := alloc_at w (.cells (Lib.byteCells d).toArray 24)
  have HBx := (Below.refl _ w).alloc (Nat.le_refl _) (.cells (Lib.byteCells d).toArray 24)
  go_wp2_with fail
  refine (awake_any _).mono ?_
  rintro e w1 ⟨rfl, hb1⟩
  have HB1 := HBx.trans (hb1.mono HBx.size)
  have hA1 := blk_below hA hb1
  clear HBx hA hb1
  go_wp2_with (refine wpList_load_w 24 _ rfl w.heap.size rfl (Lib.byteCells d) _ (range_arr hA1) Try.underlying24 rfl HI.out rfl ?_)
  refine (P1.out w1).mono ?_
  rintro e w2 ⟨rfl, hb2⟩
  have HB2 := HB1.trans (hb2.mono HB1.size)
  have hA2 := blk_below hA1 hb2
  clear HB1 hb2 hA1
  go_wp2_with fail
  have h3 := refName_any s w2 hs
  rw [hn] at h3
  refine h3.mono ?_
  rintro e w3 ⟨rfl, hd3⟩
  have HB3 := below_drawn HB2 hd3
  have hA3 := blk_drawn hA2 hd3
  clear h3 hd3 hA2 HB2
  go_wp2_with fail
  refine (P3.out w3).mono ?_
  rintro e w4 ⟨rfl, hb4⟩
  have HB4 := HB3.trans (hb4.mono HB3.size)
  have hA4 := blk_below hA3 hb4
  clear HB3 hb4 hA3
  go_wp2_with (refine wpList_store_whole rfl 24 _ _ rfl w4.heap.size (Lib.byteCells d).toArray zc 24 rfl rfl (alloc_at w4 (.cells zc 24)) HZ.out HI2.out HONE.out ?_)
  intro W5 hW5 hA5
  have HB5 := hA5.below (HB4.alloc HB4.size _) HB4.size
  have hA6 : W5.heap[w.heap.size]? = some (.cells (Lib.byteCells d).toArray 24) := by
    rw [hA5.block _ (by have := blk_lt hA4; omega)]
    exact alloc_far hA4 _
  clear hA5 HB4 hA4
  have hgd := guard20
  go_wp2_with (first
    | (refine wpList_load_w 24 (.tmp 2) rfl w.heap.size rfl (Lib.byteCells d) _ (range_arr hA6) Try.underlying24 rfl HI.out rfl ?_)
    | (refine wpList_load_w 24 _ rfl w4.heap.size rfl (Lib.byteCells d) _ (range_arr hW5) Try.underlying24 rfl HI.out rfl ?_))
  refine (P2.out W5).mono ?_
  rintro e w6 ⟨rfl, hb6⟩
  have HB6 := HB5.trans (hb6.mono HB5.size)
  have hA7 := blk_below hA6 hb6
  have hF7 := blk_below hW5 hb6
  clear HB5 hb6 hA6 hW5
  go_wp2_with (first
    | (refine wpList_load_w 24 (.tmp 2) rfl w.heap.size rfl (Lib.byteCells d) _ (range_arr hA7) Try.underlying24 rfl HI.out rfl ?_)
    | (refine wpList_load_w 24 _ rfl w4.heap.size rfl (Lib.byteCells d) _ (range_arr hF7) Try.underlying24 rfl HI.out rfl ?_))
  refine (P4.out w6).mono ?_
  rintro e w7 ⟨rfl, hb7⟩
  have HB7 := HB6.trans (hb7.mono HB6.size)
  go_wp2
  go_ret
  exact ⟨by first | rfl | (go_simp; done), HB7⟩

theorem walk_NamingPaths (d : List UInt8) (s : ByteArray) (w : World) (hd : d.length = 20) (hs : s.size ≤ 140737488351232) :
    Calls Try.prog 4 #[.agg (Lib.byteCells d).toArray, .string s] w fun e w' => e = .returned (.bool true) ∧ Below w.heap.size w w' := by
  cases hn : nameB s
  · exact paths_no d s w hd hs hn
  · exact paths_yes d s w hd hn
end Go.Proofs.Ytigeljeoodhcoaa
