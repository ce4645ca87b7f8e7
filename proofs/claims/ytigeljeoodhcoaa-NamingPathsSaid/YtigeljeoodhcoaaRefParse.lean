/-
  RefParse: the reference's Parse: the digest and the name of a path.
-/
import Derived.Test.YtigeljeoodhcoaaPathPlain
import Derived.Deep.RegionHeld
set_option linter.unusedVariables false
set_option linter.unusedSimpArgs false
namespace Go.Proofs.Ytigeljeoodhcoaa
open Go.RowKit Go.Proofs.YtigeljeoodhcoaaW.PrintWords Go.Proofs.YtigeljeoodhcoaaW.PrintLast Go.Proofs.YtigeljeoodhcoaaW.PrintMore

theorem info24l : (Try.prog.info? 24).map (·.size) = some (Lib.byteCells zeros).length := by kernel_rfl
def two (w : World) : World := (w.alloc (.cells zc 24)).alloc (.cells zc 24)
theorem two_a (w : World) : (two w).heap[w.heap.size]? = some (.cells zc 24) := alloc_far (alloc_at w _) _
theorem two_d (w : World) : (two w).heap[w.heap.size + 1]? = some (.cells zc 24) := by
  have := alloc_at (w.alloc (.cells zc 24)) (.cells zc 24)
  rwa [show (w.alloc (.cells zc 24)).heap.size = w.heap.size + 1 by simp] at this
theorem two_below (w : World) : Below w.heap.size w (two w) := ((Below.refl _ w).alloc (Nat.le_refl _) _).alloc (by simp) _

set_option maxHeartbeats 400000 in
set_option maxRecDepth 100000 in
theorem refParse_short (s : ByteArray) (w : World) (h : s.size < 34) :
    Calls Try.prog 15 #[.string s] w fun e w' => e = .returned (.tuple #[.agg zc, .string ⟨#[]⟩, .bool false]) ∧ Below w.heap.size w w' := by
  have hA := two_a w
  have hD := two_d w
  have hB := two_below w
  unfold two at hA hD hB
  go_enter Try.func15, Try.ntmps15
  go_wp2_with (first
    | (refine wpList_load_mid rfl 24 (.tmp 5) rfl (w.heap.size + 1) 0 rfl (Lib.byteCells zeros) _ (range_arr hD) Try.underlying24 rfl info24l ?_)
    | (refine wpList_store_whole rfl 24 (.tmp 2) _ rfl w.heap.size zc zc 24 rfl rfl hA rfl info24z zc_one ?_))
  intro W hb4 hA
  have hB3 := hA.below hB (Nat.le_refl _)
  go_wp2
  have hl := load_arr (d := zeros) hb4 rfl
  exact bodyPost_ret (results_cell2 rfl _ rfl hl) rfl ⟨rfl, hB3⟩

set_option maxHeartbeats 400000 in
set_option maxRecDepth 100000 in
theorem refParse_dash (s : ByteArray) (w : World) (h : ¬ s.size < 34) (hd : bt s 32 ≠ 45) :
    Calls Try.prog 15 #[.string s] w fun e w' => e = .returned (.tuple #[.agg zc, .string ⟨#[]⟩, .bool false]) ∧ Below w.heap.size w w' := by
  have h32 : 32 < s.size := by omega
  obtain ⟨c, hc⟩ : ∃ c : Int, bt s 32 = c := ⟨_, rfl⟩
  rw [hc] at hd
  have hbt : ((s[32].toNat : Nat) : Int) = bt s 32 := bt_at s 32 h32
  rw [hc] at hbt
  have hA := two_a w
  have hD := two_d w
  have hB := two_below w
  unfold two at hA hD hB
  go_enter Try.func15, Try.ntmps15
  go_wp2_with (first
    | (refine wpList_load_mid rfl 24 (.tmp 5) rfl (w.heap.size + 1) 0 rfl (Lib.byteCells zeros) _ (range_arr hD) Try.underlying24 rfl info24l ?_)
    | (refine wpList_store_whole rfl 24 (.tmp 2) _ rfl w.heap.size zc zc 24 rfl rfl hA rfl info24z zc_one ?_))
  intro W hb4 hA
  have hB3 := hA.below hB (Nat.le_refl _)
  go_wp2
  have hl := load_arr (d := zeros) hb4 rfl
  exact bodyPost_ret (results_cell2 rfl _ rfl hl) rfl ⟨rfl, hB3⟩

set_option maxHeartbeats 400000 in
set_option maxRecDepth 100000 in
theorem refParse_name (s : ByteArray) (w : World) (h : ¬ s.size < 34) (hs : s.size ≤ 140737488351232) (hd : bt s 32 = 45) (hn : nameB (s.extract 33 s.size) = false) :
    Calls Try.prog 15 #[.string s] w fun e w' => e = .returned (.tuple #[.agg zc, .string ⟨#[]⟩, .bool false]) ∧ Below w.heap.size w w' := by
  have h32 : 32 < s.size := by omega
  have hbt : ((s[32].toNat : Nat) : Int) = bt s 32 := bt_at s 32 h32
  rw [hd] at hbt
  have hA := two_a w
  have hD := two_d w
  have hB := two_below w
  unfold two at hA hD hB
  go_enter Try.func15, Try.ntmps15
  go_wp2_with fail
  have hx := refName_any (s.extract 33 s.size) ((w.alloc (.cells zc 24)).alloc (.cells zc 24)) (by simp; omega)
  rw [hn] at hx
  refine hx.mono ?_
  rintro e w1 ⟨rfl, hd1⟩
  have hB1 := below_drawn hB hd1
  have hA1 := blk_drawn hA hd1
  have hD1 := blk_drawn hD hd1
  clear hx hd1 hA hD hB
  go_wp2_with (first
    | (refine wpList_load_mid rfl 24 (.tmp 5) rfl (w.heap.size + 1) 0 rfl (Lib.byteCells zeros) _ (range_arr hD1) Try.underlying24 rfl info24l ?_)
    | (refine wpList_store_whole rfl 24 (.tmp 2) _ rfl w.heap.size zc zc 24 rfl rfl hA1 rfl info24z zc_one ?_))
  intro W hb4 hA
  have hB3 := hA.below hB1 (Nat.le_refl _)
  go_wp2
  have hl := load_arr (d := zeros) hb4 rfl
  exact bodyPost_ret (results_cell2 rfl _ rfl hl) rfl ⟨rfl, hB3⟩

set_option maxHeartbeats 400000 in
set_option maxRecDepth 100000 in
theorem refParse_none (s : ByteArray) (w : World) (h : ¬ s.size < 34) (hs : s.size ≤ 140737488351232) (hd : bt s 32 = 45) (hn : nameB (s.extract 33 s.size) = true) (hdc : decE (s.extract 0 32) = 3) :
    Calls Try.prog 15 #[.string s] w fun e w' => e = .returned (.tuple #[.agg zc, .string ⟨#[]⟩, .bool false]) ∧ Below w.heap.size w w' := by
  have h32 : 32 < s.size := by omega
  have hbt : ((s[32].toNat : Nat) : Int) = bt s 32 := bt_at s 32 h32
  rw [hd] at hbt
  have hA := two_a w
  have hD := two_d w
  have hB := two_below w
  unfold two at hA hD hB
  go_enter Try.func15, Try.ntmps15
  go_wp2_with fail
  have hx := refName_any (s.extract 33 s.size) ((w.alloc (.cells zc 24)).alloc (.cells zc 24)) (by simp; omega)
  rw [hn] at hx
  refine hx.mono ?_
  rintro e w1 ⟨rfl, hd1⟩
  have hB1 := below_drawn hB hd1
  have hA1 := blk_drawn hA hd1
  have hD1 := blk_drawn hD hd1
  clear hx hd1 hA hD hB
  go_wp2_with fail
  have hx := refDec_any (s.extract 0 32) w1 (by rw [head_size s h]; omega)
  obtain ⟨L, hL⟩ : ∃ L, decL (s.extract 0 32) = L := ⟨_, rfl⟩
  rw [hdc, hL] at hx
  refine hx.mono ?_
  rintro e w2 ⟨A, c, rfl, ho, hb2⟩
  have hB2 := hB1.trans (hb2.mono hB1.size)
  have hA2 := blk_below hA1 hb2
  have hD2 := blk_below hD1 hb2
  clear hx hb2 hA1 hD1 hB1
  go_wp2_with (first
    | (refine wpList_load_mid rfl 24 (.tmp 5) rfl (w.heap.size + 1) 0 rfl (Lib.byteCells zeros) _ (range_arr hD2) Try.underlying24 rfl info24l ?_)
    | (refine wpList_store_whole rfl 24 (.tmp 2) _ rfl w.heap.size zc zc 24 rfl rfl hA2 rfl info24z zc_one ?_))
  intro W hb4 hA
  have hB3 := hA.below hB2 (Nat.le_refl _)
  go_wp2
  have hl := load_arr (d := zeros) hb4 rfl
  exact bodyPost_ret (results_cell2 rfl _ rfl hl) rfl ⟨rfl, hB3⟩
end Go.Proofs.Ytigeljeoodhcoaa
