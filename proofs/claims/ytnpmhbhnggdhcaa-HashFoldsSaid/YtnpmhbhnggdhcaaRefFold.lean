/-
  The reference's Fold.
-/
import Derived.Test.YtnpmhbhnggdhcaaFold
set_option linter.unusedVariables false
set_option linter.unusedSimpArgs false
namespace Go.Proofs.Ytnpmhbhnggdhcaa
open Go.RowKit Go.Proofs.YtnpmhbhnggdhcaaW.PrintWords
attribute [local go_sem] xor8

/-- Three blocks of bytes, and nothing old has turned. -/
structure RFS (w0 wr : World) (d F : List UInt8) : Prop where
  hd : wr.heap[w0.heap.size]? = some (.cells (Lib.byteCells d).toArray 24 (0, 0))
  h0 : wr.heap[w0.heap.size + 1]? = some (.cells (Lib.byteCells (zrs 20)).toArray 45 (0, 0))
  h1 : wr.heap[w0.heap.size + 2]? = some (.cells (Lib.byteCells F).toArray 45 (0, 0))
  below : Below w0.heap.size w0 wr
theorem RFS.set {w0 wr : World} {d F : List UInt8} (h : RFS w0 wr d F) (i : Nat) (v : UInt8) : RFS w0 (wr.setCell ⟨w0.heap.size + 2, i, none⟩ (.int .u8 (v.toNat : Int))) d (F.set i v) := by
  have e := At1.set wr (w0.heap.size + 2) i (.int .u8 (v.toNat : Int))
  exact ⟨(e.block _ (by omega)).trans h.hd, (e.block _ (by omega)).trans h.h0, b_set h.h1 i v, At1.below h.below e (by omega)⟩
theorem RFS.congr {w0 wr : World} {d F F' : List UInt8} (h : RFS w0 wr d F) (e : F = F') : RFS w0 wr d F' := e ▸ h
theorem RFS.drew {w0 wr : World} {d F : List UInt8} (h : RFS w0 wr d F) : RFS w0 wr.drew d F := ⟨h.hd, h.h0, h.h1, h.below.drew⟩

set_option maxHeartbeats 1000000 in
set_option maxRecDepth 100000 in
theorem rfold_any (d : List UInt8) (hd : d.length = 32) (w : World) : Calls Try.prog 18 #[.agg (Lib.byteCells d).toArray] w fun e w' => e = .returned (.agg (Lib.byteCells (foldL d)).toArray) ∧ Below w.heap.size w w' := by
  have z45 := zero45
  have a0 := alloc_at w (.cells (Lib.byteCells d).toArray 24)
  have s1 : (w.alloc (.cells (Lib.byteCells d).toArray 24)).heap.size = w.heap.size + 1 := by simp
  have a1 := alloc_at (w.alloc (.cells (Lib.byteCells d).toArray 24)) (.cells (Lib.byteCells (zrs 20)).toArray 45)
  rw [s1] at a1
  have s2 : ((w.alloc (.cells (Lib.byteCells d).toArray 24)).alloc (.cells (Lib.byteCells (zrs 20)).toArray 45)).heap.size = w.heap.size + 2 := by simp
  have a2 := alloc_at ((w.alloc (.cells (Lib.byteCells d).toArray 24)).alloc (.cells (Lib.byteCells (zrs 20)).toArray 45)) (.cells (Lib.byteCells (zrs 20)).toArray 45)
  rw [s2] at a2
  have b3 := (((Below.refl w.heap.size w).alloc (Nat.le_refl _) (.cells (Lib.byteCells d).toArray 24)).alloc (by simp) (.cells (Lib.byteCells (zrs 20)).toArray 45)).alloc (by rw [s2]; omega) (.cells (Lib.byteCells (zrs 20)).toArray 45)
  have S0 : Hid (RFS w _ d (refK d 0)) := Lib.hid ⟨alloc_far (alloc_far a0 (.cells (Lib.byteCells (zrs 20)).toArray 45)) (.cells (Lib.byteCells (zrs 20)).toArray 45), alloc_far a1 _, a2, b3⟩
  have HD := Lib.hid hd
  clear a0 s1 a1 s2 a2 b3 hd
  go_enter Try.func18, Try.ntmps18
  go_upto_region 2 with (fail)
  generalize ((w.alloc (.cells (Lib.byteCells d).toArray 24)).alloc (.cells (Lib.byteCells (zrs 20)).toArray 45)).alloc (.cells (Lib.byteCells (zrs 20)).toArray 45) = w1 at *
  clear z45
  go_wp2_with fail
  go_loopw [4] (fun i wr => ∃ m : Nat, m ≤ 32 ∧ i = .int .i64 m ∧ Hid (RFS w wr d (refK d m))) (fun i _ => 32 - (intOf i).toNat)
  case atStart => exact ⟨0, by omega, rfl, S0⟩
  case round =>
    clear S0
    obtain ⟨m, hm, rfl, hS⟩ := hrel
    by_cases hlt : m < 32
    · have hdc : decide ((m : Int) < 32) = true := by rw [decide_eq_true_eq]; omega
      have cd := b_cell hS.out.hd m (by rw [HD.out]; exact hlt)
      have hlen := refK_length d m
      obtain ⟨x1, hx1⟩ : ∃ x1, d.getD m 0 = x1 := ⟨_, rfl⟩
      rw [hx1] at cd
      by_cases h20 : m < 20
      · have c1 := b_cell hS.out.h1 m (by omega)
        have z1 := blk_frozen hS.out.h1 m
        have hst : Hid ((refK d m).set m x1 = refK d (m + 1)) := Lib.hid (by rw [← hx1, refK, if_pos h20])
        generalize (refK d m).getD m 0 = x0 at *
        clear hlen hx1
        go_wp2_with fail
        go_roundw
        case rel => exact ⟨m + 1, by omega, by go_num, Lib.hid ((hS.out.set m x1).congr hst.out)⟩
        case measure => simp [intOf]; omega
      · obtain ⟨q, hq⟩ : ∃ q, q = m - 20 := ⟨_, rfl⟩
        have c1 := b_cell hS.out.h1 q (by omega)
        have z1 := blk_frozen hS.out.h1 q
        have e1 : IntKind.i64.wrap ((m : Int) - 20) = (q : Int) := by rw [IntWalk.i64_in _ (by omega)]; omega
        have hst : Hid ((refK d m).set q ((refK d m).getD q 0 ^^^ x1) = refK d (m + 1)) := Lib.hid (by rw [hq, ← hx1]; conv => rhs; rw [refK]; rw [if_neg h20])
        have b1 : ¬ (q : Int) < 0 ∧ (q : Int) < 20 ∧ ¬ (m : Int) < 0 ∧ (m : Int) < 32 := by omega
        obtain ⟨b1, b2, b3, b4⟩ := b1
        generalize (refK d m).getD q 0 = x0 at *
        clear hlen hx1 hq
        go_wp2_with fail
        go_still_tail 11, (by kernel_rfl)
        change wpList _ _ _ _ _ (World.drew wr)
        go_wp2
        go_roundw
        case rel => exact ⟨m + 1, by omega, by go_num, Lib.hid (((hS.out.set q (x0 ^^^ x1)).congr hst.out)).drew⟩
        case measure => simp [intOf]; omega
    · have he : m = 32 := by omega
      obtain ⟨F, hF⟩ : ∃ F, F = foldL d := ⟨_, rfl⟩
      have hS2 : Hid (RFS w wr d F) := Lib.hid (by rw [he, ref_fold] at hS; rw [hF]; exact hS.out)
      have hl : F.length = 20 := by rw [hF]; exact foldL_length d
      have HL := Lib.hid hl
      have HF := Lib.hid hF
      clear hS he hl hF
      go_wp2_with (first
        | (refine wpList_load_part rfl 45 _ rfl (w.heap.size + 2) 0 _ (Lib.byteCells F) 45 _ rfl hS2.out.h1 (by rw [List.drop_zero, List.take_length]) Try.underlying45 rfl (by rw [Lib.byteCells_length, HL.out]; exact info45) ?_)
        | (refine wpList_store_whole rfl 45 _ _ rfl (w.heap.size + 1) (Lib.byteCells F).toArray (Lib.byteCells (zrs 20)).toArray 45 rfl rfl hS2.out.h0 (sz_eq (by rw [HL.out]; rfl)) (by rw [List.size_toArray, Lib.byteCells_length, HL.out]; exact info45) (one_bytes _) ?_; intro w9 h5 h6; have H5 := Lib.hid h5; have H6 := Lib.hid (At1.below hS2.out.below h6 (by omega)); clear h5 h6))
      exact bodyPost_ret (results_cell1 rfl _ rfl (arr_back H5.out Try.underlying45 rfl (by rw [HL.out]; exact info45))) rfl ⟨by rw [HF.out], H6.out⟩
end Go.Proofs.Ytnpmhbhnggdhcaa
