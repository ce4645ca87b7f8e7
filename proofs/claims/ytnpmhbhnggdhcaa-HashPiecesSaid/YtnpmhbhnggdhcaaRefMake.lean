/-
  The reference's words, as a block.
-/
import Derived.Test.YtnpmhbhnggdhcaaOf
set_option linter.unusedVariables false
set_option linter.unusedSimpArgs false
namespace Go.Proofs.Ytnpmhbhnggdhcaa
open Go.RowKit Go.Proofs.YtnpmhbhnggdhcaaW.PrintWords

def rw72 : List Value := uc Kc ++ uc Hc
theorem zero38 (W : World) : (zeroValue 38).run Try.prog W = .ok (.agg (uc z64 ++ uc z8).toArray) W := zero_of (by kernel_rfl) W
theorem zero38L (W : World) : (zeroValue 38).run Try.prog W = .ok (.agg #[.int .u32 0, .int .u32 0, .int .u32 0, .int .u32 0, .int .u32 0, .int .u32 0, .int .u32 0, .int .u32 0, .int .u32 0, .int .u32 0, .int .u32 0, .int .u32 0, .int .u32 0, .int .u32 0, .int .u32 0, .int .u32 0, .int .u32 0, .int .u32 0, .int .u32 0, .int .u32 0, .int .u32 0, .int .u32 0, .int .u32 0, .int .u32 0, .int .u32 0, .int .u32 0, .int .u32 0, .int .u32 0, .int .u32 0, .int .u32 0, .int .u32 0, .int .u32 0, .int .u32 0, .int .u32 0, .int .u32 0, .int .u32 0, .int .u32 0, .int .u32 0, .int .u32 0, .int .u32 0, .int .u32 0, .int .u32 0, .int .u32 0, .int .u32 0, .int .u32 0, .int .u32 0, .int .u32 0, .int .u32 0, .int .u32 0, .int .u32 0, .int .u32 0, .int .u32 0, .int .u32 0, .int .u32 0, .int .u32 0, .int .u32 0, .int .u32 0, .int .u32 0, .int .u32 0, .int .u32 0, .int .u32 0, .int .u32 0, .int .u32 0, .int .u32 0, .int .u32 0, .int .u32 0, .int .u32 0, .int .u32 0, .int .u32 0, .int .u32 0, .int .u32 0, .int .u32 0]) W := zero_of (by kernel_rfl) W
theorem info38 : (Try.prog.info? 38).map (·.size) = some 72 := by kernel_rfl
theorem one72 : rw72.toArray.all (·.oneCell') = true := all_oneCell_toArray (by
  intro v hv
  rcases List.mem_append.1 hv with h | h <;> (simp [uc] at h; obtain ⟨_, _, rfl⟩ := h; rfl))

set_option maxHeartbeats 1000000 in
set_option maxRecDepth 100000 in
theorem rmake_any (w : World) : Calls Try.prog 14 #[] w fun e w' => e = .returned (.agg rw72.toArray) ∧ Below w.heap.size w w' := by
  have z38 := zero38L
  go_enter Try.func14, Try.ntmps14
  go_wp2_with (refine wpList_store_whole rfl 38 _ _ rfl w.heap.size rw72.toArray (uc z64 ++ uc z8).toArray 38 rfl rfl (alloc_at w _) rfl info38 one72 ?_; intro w5 h5 h6; have H5 := Lib.hid h5; have H6 := Lib.hid (At1.below ((Below.refl w.heap.size w).alloc (Nat.le_refl _) _) h6 (Nat.le_refl _)); clear h5 h6)
  have hl := run_loadVar_mid w5 w.heap.size 0 38 rw72 _ (range_part (o := 0) H5.out (by rw [List.drop_zero, List.take_length])) Try.underlying38 rfl info38
  exact bodyPost_ret (results_cell1 rfl _ rfl hl) rfl ⟨rfl, H6.out⟩
end Go.Proofs.Ytnpmhbhnggdhcaa
