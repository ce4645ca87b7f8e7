/-
  What a block's walk holds at each place.
-/
import Derived.Test.YtnpmhbhnggdhcaaBits
set_option linter.unusedVariables false
set_option linter.unusedSimpArgs false
namespace Go.Proofs.Ytnpmhbhnggdhcaa
open Go.RowKit Go.Proofs.YtnpmhbhnggdhcaaW.PrintWords

/-- All is as it was but for some blocks, and what is new. -/
structure Kept (w w' : World) (ks : Nat → Prop) : Prop where
  os : w'.os = w.os
  tape : w'.tape = w.tape
  output : w'.output = w.output
  size : w.heap.size ≤ w'.heap.size
  block : ∀ k, k < w.heap.size → ¬ ks k → w'.heap[k]? = w.heap[k]?
theorem Kept.refl (w : World) (ks : Nat → Prop) : Kept w w ks := ⟨rfl, rfl, rfl, Nat.le_refl _, fun _ _ _ => rfl⟩
theorem Kept.drew {u w : World} {ks : Nat → Prop} (h : Kept u w ks) : Kept u w.drew ks := ⟨h.os, h.tape, h.output, h.size, h.block⟩
theorem Kept.drewN {u w : World} {ks : Nat → Prop} (h : Kept u w ks) (n : Nat) : Kept u (w.drewN n) ks := ⟨h.os, h.tape, h.output, h.size, h.block⟩
theorem Kept.alloc {u w : World} {ks : Nat → Prop} (h : Kept u w ks) (o : Obj) : Kept u (w.alloc o) ks :=
  ⟨h.os, h.tape, h.output, by have := h.size; simp; omega, fun k hk hn => by rw [Below.heap_alloc w o k (by have := h.size; omega)]; exact h.block k hk hn⟩
theorem Kept.at1 {u v w : World} {ks : Nat → Prop} {b : Nat} (h : Kept u v ks) (k : At1 b v w) (hb : ks b ∨ u.heap.size ≤ b) : Kept u w ks :=
  ⟨k.os.trans h.os, k.tape.trans h.tape, k.output.trans h.output, by rw [k.size]; exact h.size, fun j hj hn => (k.block j (fun e => by
    subst e
    rcases hb with hb | hb
    · exact hn hb
    · omega)).trans (h.block j hj hn)⟩
theorem Kept.trans {u v w : World} {ks : Nat → Prop} (h : Kept u v ks) (k : Kept v w ks) : Kept u w ks :=
  ⟨k.os.trans h.os, k.tape.trans h.tape, k.output.trans h.output, Nat.le_trans h.size k.size, fun j hj hn => (k.block j (by have := h.size; omega) hn).trans (h.block j hj hn)⟩
theorem Kept.below {w w' : World} {ks : Nat → Prop} (h : Kept w w' ks) {B : Nat} {v : World} (hb : Below B v w) (hk : ∀ k, ks k → B ≤ k) (hB : B ≤ w.heap.size) : Below B v w' :=
  hb.trans ⟨h.os, h.tape, h.output, h.size, fun k hk' => h.block k (by omega) (fun hs => by have := hk k hs; omega)⟩
theorem Kept.of_below {w w' : World} (h : Below w.heap.size w w') (ks : Nat → Prop) : Kept w w' ks := ⟨h.os, h.tape, h.output, h.size, fun k hk _ => h.block k hk⟩
theorem Kept.at_ {w w' : World} {ks : Nat → Prop} (h : Kept w w' ks) {k : Nat} {o : Obj} (hk : w.heap[k]? = some o) (hn : ¬ ks k) : w'.heap[k]? = some o := (h.block k (blk_lt hk) hn).trans hk

/-- The words' block, made. -/
def wmade : List Value := wblk (.int .u32 1) (.int .i32 0) (.int .u32 0) Kc Hc
structure BS (w0 : World) (b k x : Nat) (H : List W32) (part : List UInt8) (n : Nat) (ws : List W32) (w : World) : Prop where
  hb : w.heap[b]? = some (.cells (hblk k H part n).toArray 64 (0, 0))
  hk : w.heap[k]? = some (.cells wmade.toArray 61 (0, 0))
  hx : w.heap[x]? = some (.cells (uc ws).toArray 35 (0, 0))
  kept : Kept w0 w (fun j => j = b)
  nb : b ≠ x
  nk : k ≠ x
  bk : b ≠ k
  ox : w0.heap.size ≤ x
section
variable {w0 w : World} {b k x n : Nat} {H ws : List W32} {part : List UInt8}
theorem BS.drew (h : BS w0 b k x H part n ws w) : BS w0 b k x H part n ws w.drew := ⟨h.hb, h.hk, h.hx, h.kept.drew, h.nb, h.nk, h.bk, h.ox⟩
theorem BS.drewN (h : BS w0 b k x H part n ws w) (m : Nat) : BS w0 b k x H part n ws (w.drewN m) := ⟨h.hb, h.hk, h.hx, h.kept.drewN m, h.nb, h.nk, h.bk, h.ox⟩
theorem uc_sets (l : List W32) (i : Nat) (v : W32) : (uc l).toArray.setIfInBounds i (.int .u32 (u v)) = (uc (l.set i v)).toArray := by
  rw [List.setIfInBounds_toArray, uc_set]
theorem BS.setx (h : BS w0 b k x H part n ws w) (i : Nat) (v : W32) : BS w0 b k x H part n (ws.set i v) (w.setCell ⟨x, i, none⟩ (.int .u32 (u v))) := by
  have e := At1.set w x i (.int .u32 (u v))
  refine ⟨(e.block b h.nb).trans h.hb, (e.block k h.nk).trans h.hk, ?_, h.kept.at1 e (.inr h.ox), h.nb, h.nk, h.bk, h.ox⟩
  rw [blk_set h.hx i, uc_sets]
theorem BS.congr {ws' : List W32} (h : BS w0 b k x H part n ws w) (e : ws = ws') : BS w0 b k x H part n ws' w := e ▸ h
theorem uc_cell {w : World} {x : Nat} {t : TypeId} {ws : List W32} (h : w.heap[x]? = some (.cells (uc ws).toArray t (0, 0))) (i : Nat) (hi : i < ws.length) : w.cell? ⟨x, i, none⟩ = some (.int .u32 (u (ws.getD i 0))) := by
  rw [blk_cell h]
  simp [uc_get, hi]
theorem hblk_part (k : Nat) (H : List W32) (hH : H.length = 8) (part : List UInt8) (n i : Nat) (hi : i < part.length) : (hblk k H part n)[9 + i]? = some (.int .u8 ((part.getD i 0).toNat : Int)) := by
  show (Value.pointer _ :: (uc H ++ (Lib.byteCells part ++ [Value.int .u64 (n : Int)])))[9 + i]? = _
  rw [show 9 + i = (8 + i) + 1 by omega, List.getElem?_cons_succ, List.getElem?_append_right (by rw [uc_length]; omega), uc_length, hH, show 8 + i - 8 = i by omega, List.getElem?_append_left (by rw [Lib.byteCells_length]; exact hi)]
  simp [Lib.byteCells, hi]
theorem part_cell {w : World} {b k n : Nat} {H : List W32} {part : List UInt8} (h : w.heap[b]? = some (.cells (hblk k H part n).toArray 64 (0, 0))) (hH : H.length = 8) (i : Nat) (hi : i < part.length) : w.cell? ⟨b, 9 + i, none⟩ = some (.int .u8 ((part.getD i 0).toNat : Int)) := by
  rw [blk_cell h]
  simp [hblk_part k H hH part n i hi]
theorem word_cell {w : World} {b k n : Nat} {H : List W32} {part : List UInt8} (h : w.heap[b]? = some (.cells (hblk k H part n).toArray 64 (0, 0))) (i : Nat) (hi : i < H.length) : w.cell? ⟨b, 1 + i, none⟩ = some (.int .u32 (u (H.getD i 0))) := by
  rw [blk_cell h]
  have : (hblk k H part n)[1 + i]? = some (.int .u32 (u (H.getD i 0))) := by
    show (Value.pointer _ :: (uc H ++ (Lib.byteCells part ++ [Value.int .u64 (n : Int)])))[1 + i]? = _
    rw [show 1 + i = i + 1 by omega, List.getElem?_cons_succ, List.getElem?_append_left (by rw [uc_length]; exact hi), uc_get _ _ hi]
  simp [this]
theorem ptr_cell {w : World} {b k n : Nat} {H : List W32} {part : List UInt8} (h : w.heap[b]? = some (.cells (hblk k H part n).toArray 64 (0, 0))) : w.cell? ⟨b, 0, none⟩ = some (.pointer (some ⟨k, 0, none⟩)) := by
  rw [blk_cell h]
  rfl
theorem num_cell {w : World} {b k n : Nat} {H : List W32} {part : List UInt8} (h : w.heap[b]? = some (.cells (hblk k H part n).toArray 64 (0, 0))) (hH : H.length = 8) (hp : part.length = 64) : w.cell? ⟨b, 73, none⟩ = some (.int .u64 (n : Int)) := by
  rw [blk_cell h]
  have : (hblk k H part n)[73]? = some (.int .u64 (n : Int)) := by
    show (Value.pointer _ :: (uc H ++ (Lib.byteCells part ++ [Value.int .u64 (n : Int)])))[73]? = _
    rw [List.getElem?_cons_succ, List.getElem?_append_right (by rw [uc_length]; omega), uc_length, hH, List.getElem?_append_right (by rw [Lib.byteCells_length]; omega), Lib.byteCells_length, hp]
    rfl
  simp [this]
end

/-- The words while the part is taken. -/
def W1 (part : List UInt8) (i k : Nat) : List W32 := (List.range i).map (word part) ++ (wk part i k :: List.replicate (63 - i) 0)
def W2 (part : List UInt8) (n : Nat) : List W32 := schedL part n ++ List.replicate (48 - n) 0
theorem W1_zero (part : List UInt8) : W1 part 0 0 = z64 := rfl
theorem W1_length (part : List UInt8) (i k : Nat) (h : i < 64) : (W1 part i k).length = 64 := by simp [W1]; omega
theorem W2_length (part : List UInt8) (n : Nat) (h : n ≤ 48) : (W2 part n).length = 64 := by simp [W2, schedL_length]; omega
theorem W1_get (part : List UInt8) (i k : Nat) : (W1 part i k).getD i 0 = wk part i k := by
  simp [W1, List.getD_eq_getElem?_getD]
theorem W1_set (part : List UInt8) (i k : Nat) : (W1 part i k).set i (wk part i (k + 1)) = W1 part i (k + 1) := by
  unfold W1
  rw [List.set_append, if_neg (by simp)]
  simp
theorem W1_next (part : List UInt8) (i : Nat) (h : i < 63) : W1 part i 4 = W1 part (i + 1) 0 := by
  unfold W1
  rw [List.range_succ, List.map_append, List.append_assoc, show 63 - i = (63 - (i + 1)) + 1 by omega, List.replicate_succ]
  rfl
theorem W1_end (part : List UInt8) : W1 part 16 0 = W2 part 0 := rfl
theorem W2_get (part : List UInt8) (n j : Nat) (h : j < 16 + n) : (W2 part n).getD j 0 = (schedL part n).getD j 0 := by
  unfold W2
  rw [List.getD_eq_getElem?_getD, List.getD_eq_getElem?_getD, List.getElem?_append_left (by rw [schedL_length]; exact h)]
theorem W2_set (part : List UInt8) (n : Nat) (h : n < 48) : (W2 part n).set (16 + n) (nextW (schedL part n) n) = W2 part (n + 1) := by
  unfold W2
  rw [show 48 - n = (48 - (n + 1)) + 1 by omega, List.replicate_succ, List.set_append, if_neg (by rw [schedL_length]; omega), schedL_length]
  simp [schedL]
theorem W2_end (part : List UInt8) : W2 part 48 = schedL part 48 := by simp [W2]
end Go.Proofs.Ytnpmhbhnggdhcaa
