/-
  New: a hasher that has taken nothing.
-/
import Derived.Test.YtnpmhbhnggdhcaaDo
import Derived.Test.YtnpmhbhnggdhcaaPart
set_option linter.unusedVariables false
set_option linter.unusedSimpArgs false
namespace Go.Proofs.Ytnpmhbhnggdhcaa
open Go.RowKit Go.Proofs.YtnpmhbhnggdhcaaW.PrintWords

/-- The block of a hasher. -/
def hblk (k : Nat) (H : List W32) (part : List UInt8) (n : Nat) : List Value := .pointer (some ⟨k, 0, none⟩) :: (uc H ++ (Lib.byteCells part ++ [.int .u64 (n : Int)]))
def zb (k : Nat) : List UInt8 := List.replicate k 0
theorem info36 : (Try.prog.info? 36).map (·.size) = some 8 := by kernel_rfl
theorem zero_of {t : TypeId} {z : Value} (h : (Try.prog.info? t).map (·.zero) = some (some z)) (W : World) : (zeroValue t).run Try.prog W = .ok z W := by
  cases hi : Try.prog.info? t with
  | none => rw [hi] at h; cases h
  | some it =>
    rw [hi] at h
    simp only [Option.map_some, Option.some.injEq] at h
    simp [zeroValue, typeInfo, Sem.run_bind, hi, h, Result.andThen]
theorem zero61 (W : World) : (zeroValue 61).run Try.prog W = .ok (.agg (wblk (.int .u32 0) (.int .i32 0) (.int .u32 0) z64 z8).toArray) W := zero_of (by kernel_rfl) W
def hz : List Value := .pointer none :: (uc z8 ++ (Lib.byteCells (zb 64) ++ [.int .u64 0]))
theorem zero64 (W : World) : (zeroValue 64).run Try.prog W = .ok (.agg hz.toArray) W := zero_of (by kernel_rfl) W
theorem hz_set (k : Nat) : hz.toArray.setIfInBounds 0 (.pointer (some ⟨k, 0, none⟩)) = (hblk k z8 (zb 64) 0).toArray := by
  rw [List.setIfInBounds_toArray]
  rfl

theorem one_uc (l : List W32) : (uc l).toArray.all (·.oneCell') = true := all_oneCell_toArray (by simp [uc, Value.oneCell'])
theorem wblk_partH (c0 c1 c2 : Value) (K H : List W32) (hK : K.length = 64) : ((wblk c0 c1 c2 K H).drop 67).take (uc H).length = uc H := by
  have e : (wblk c0 c1 c2 K H).drop 67 = uc H := by
    show (uc K ++ uc H).drop 64 = uc H
    rw [List.drop_append_of_le_length (by rw [uc_length]; omega), List.drop_of_length_le (by rw [uc_length]; omega), List.nil_append]
  rw [e, List.take_length]
theorem wblk_partK (c0 c1 c2 : Value) (K H : List W32) : ((wblk c0 c1 c2 K H).drop 3).take (uc K).length = uc K := by
  show (uc K ++ uc H).take _ = _
  simp
theorem hblk_spliceH (k : Nat) (H H' : List W32) (part : List UInt8) (n : Nat) (h : H'.length = H.length) : splice (hblk k H part n) 1 (uc H') = hblk k H' part n := by
  unfold splice hblk
  have e : (Lib.byteCells part ++ [Value.int .u64 (n : Int)]) = ((uc H ++ (Lib.byteCells part ++ [Value.int .u64 (n : Int)])).drop H.length) := by
    rw [List.drop_append_of_le_length (by rw [uc_length]; omega), List.drop_of_length_le (by rw [uc_length]; omega), List.nil_append]
  rw [uc_length, h, show 1 + H.length = H.length + 1 by omega, List.drop_succ_cons, ← e]
  rfl
theorem Hc_length : Hc.length = 8 := rfl
theorem Kc_length : Kc.length = 64 := rfl
theorem hblk_length (k : Nat) (H : List W32) (part : List UInt8) (n : Nat) (h : H.length = 8) (hp : part.length = 64) : (hblk k H part n).length = 74 := by simp [hblk, uc_length, Lib.byteCells_length, h, hp]
theorem below_at1 {w u v : World} {b B : Nat} (h : Below B w u) (k : At1 b u v) (hb : B ≤ b) : Below B w v := k.below h hb

set_option maxHeartbeats 1000000 in
set_option maxRecDepth 100000 in
theorem new_any (w : World) : Calls Try.prog 11 #[] w fun e w' => ∃ b k, e = .returned (.pointer (some ⟨b, 0, none⟩)) ∧ w'.heap[b]? = some (.cells (hblk k Hc (zb 64) 0).toArray 64 (0, 0)) ∧ w'.heap[k]? = some (.cells (wblk (.int .u32 1) (.int .i32 0) (.int .u32 0) Kc Hc).toArray 61 (0, 0)) ∧ k ≠ b ∧ w.heap.size ≤ b ∧ w.heap.size ≤ k ∧ Below w.heap.size w w' := by
  have hmf : ∀ (fn : Fn) (first cap : Array Value) (w : World), (Instr.makeFunc fn first cap).run Try.prog w = .ok (.func fn first cap) w := fun _ _ _ _ => rfl
  have hb61 := zero61
  have hb64 := zero64
  have hs := hz_set
  have hz1 : ¬ hz.toArray = #[] := by simp [hz]
  go_enter Try.func11, Try.ntmps11
  go_wp2_with fail
  have W0k : ((w.alloc (.cells (wblk (.int .u32 0) (.int .i32 0) (.int .u32 0) z64 z8).toArray 61)).alloc (.cells (hblk w.heap.size z8 (zb 64) 0).toArray 64)).heap[w.heap.size]? = some (.cells (wblk (.int .u32 0) (.int .i32 0) (.int .u32 0) z64 z8).toArray 61 (0, 0)) := alloc_far (alloc_at w _) _
  have W0b : ((w.alloc (.cells (wblk (.int .u32 0) (.int .i32 0) (.int .u32 0) z64 z8).toArray 61)).alloc (.cells (hblk w.heap.size z8 (zb 64) 0).toArray 64)).heap[w.heap.size + 1]? = some (.cells (hblk w.heap.size z8 (zb 64) 0).toArray 64 (0, 0)) := by
    have := alloc_at (w.alloc (.cells (wblk (.int .u32 0) (.int .i32 0) (.int .u32 0) z64 z8).toArray 61)) (.cells (hblk w.heap.size z8 (zb 64) 0).toArray 64)
    rwa [show (w.alloc (.cells (wblk (.int .u32 0) (.int .i32 0) (.int .u32 0) z64 z8).toArray 61)).heap.size = w.heap.size + 1 by simp] at this
  have W0l := ((Below.refl w.heap.size w).alloc (Nat.le_refl _) (.cells (wblk (.int .u32 0) (.int .i32 0) (.int .u32 0) z64 z8).toArray 61)).alloc (by simp) (.cells (hblk w.heap.size z8 (zb 64) 0).toArray 64)
  clear hb61 hb64 hs hz1
  generalize ((w.alloc (.cells (wblk (.int .u32 0) (.int .i32 0) (.int .u32 0) z64 z8).toArray 61)).alloc (.cells (hblk w.heap.size z8 (zb 64) 0).toArray 64)) = W0 at *
  obtain ⟨k, hk⟩ : ∃ k, w.heap.size = k := ⟨_, rfl⟩
  rw [hk] at W0k W0b ⊢
  have HK := Lib.hid hk
  have HL := Lib.hid W0l
  have HD := Lib.hid (do_any k (.int .u32 0) W0.drew W0k)
  have WB := Lib.hid W0b
  clear W0l hk
  have c1 : W0.cell? ⟨k + 1, 0, none⟩ = some (.pointer (some ⟨k, 0, none⟩)) := by rw [blk_cell W0b]; rfl
  clear W0k W0b
  generalize wblk (.int .u32 0) (.int .i32 0) (.int .u32 0) z64 z8 = l1
  go_region_with ((go_at_call 19; refine HD.out.mono ?_; rintro e w1 ⟨rfl, h1, h2⟩; have H1 := Lib.hid h1; have H2 := Lib.hid h2; clear h1 h2))
  all_goals
    have WB1 := (H2.out.block (k + 1) (by omega)).trans WB.out
    have d1 : w1.cell? ⟨k + 1, 0, none⟩ = some (.pointer (some ⟨k, 0, none⟩)) := by rw [blk_cell WB1]; rfl
    have HW := Lib.hid WB1
    clear WB1 c1
    go_wp2_with (first
      | (refine wpList_load_part rfl 36 _ rfl k 67 _ (uc Hc) 61 _ rfl H1.out (wblk_partH _ _ _ _ _ Kc_length) Try.underlying36 rfl info36 ?_)
      | (refine wpList_store_part rfl 36 _ _ rfl (k + 1) 1 (uc Hc) _ 64 rfl rfl HW.out (by rw [hblk_length k z8 (zb 64) 0 z8_length List.length_replicate]; decide) info36 (one_uc _) ?_; intro w2 h3 h4; rw [hblk_spliceH k z8 Hc (zb 64) 0 (by rw [Hc_length, z8_length])] at h3; have H3 := Lib.hid h3; have H4 := Lib.hid h4; clear h3 h4))
    go_ret
    exact ⟨k + 1, k, rfl, H3.out, (H4.out.block k (by omega)).trans H1.out, by omega, by have := HK.out; omega, by have := HK.out; omega, ((HL.out.drew.trans ⟨H2.out.os, H2.out.tape, H2.out.output, Nat.le_of_eq H2.out.size.symm, fun i hi => H2.out.block i (by have := HK.out; omega)⟩).trans ⟨H4.out.os, H4.out.tape, H4.out.output, Nat.le_of_eq H4.out.size.symm, fun i hi => H4.out.block i (by have := HK.out; omega)⟩)⟩
end Go.Proofs.Ytnpmhbhnggdhcaa
