/-
  Fold: a digest as 20 bytes.
-/
import Derived.Test.YtnpmhbhnggdhcaaFoldPlain
import Derived.Test.YtnpmhbhnggdhcaaAwake
set_option linter.unusedVariables false
set_option linter.unusedSimpArgs false
namespace Go.Proofs.Ytnpmhbhnggdhcaa
open Go.RowKit Go.Proofs.YtnpmhbhnggdhcaaW.PrintWords

theorem zero45 (W : World) : (zeroValue 45).run Try.prog W = .ok (.agg (Lib.byteCells (zrs 20)).toArray) W := zero_of (by kernel_rfl) W
theorem info45 : (Try.prog.info? 45).map (·.size) = some 20 := by kernel_rfl
theorem ofInt_b (x : UInt8) : BitVec.ofInt 8 (x.toNat : Int) = x.toBitVec := by
  rw [BitVec.ofInt_natCast]
  apply BitVec.eq_of_toNat_eq
  simp
theorem xor8 (a b : UInt8) : bits .xor .u8 (a.toNat : Int) (b.toNat : Int) = ((a ^^^ b).toNat : Int) := by
  show IntKind.u8.wrap (((BitVec.ofInt 8 (a.toNat : Int)) ^^^ (BitVec.ofInt 8 (b.toNat : Int))).toNat : Int) = _
  rw [ofInt_b, ofInt_b]
  have : (a.toBitVec ^^^ b.toBitVec).toNat = (a ^^^ b).toNat := rfl
  rw [this]
  show ((a ^^^ b).toNat : Int) % 256 = _
  have := (a ^^^ b).toNat_lt
  omega
theorem index_b {P : Program} (t e : TypeId) (n : Nat) (l : List UInt8) (i : Nat) (h : P.underlying t = some (.array n e)) (hn : i < n) (hs : ∀ W, (sizeOf e).run P W = .ok 1 W) (ha : ∀ W, (isAgg e).run P W = .ok false W) (hl : i < l.length) (W : World) :
    (Instr.index t (.agg (Lib.byteCells l).toArray) (.int .i64 i)).run P W = .ok (.int .u8 ((l.getD i 0).toNat : Int)) W :=
  index_arr t e n (Lib.byteCells l) _ i h hn hs ha (by simp [Lib.byteCells, hl]) W
theorem b_cell {w : World} {r : Nat} {t : TypeId} {d : List UInt8} (h : w.heap[r]? = some (.cells (Lib.byteCells d).toArray t (0, 0))) (i : Nat) (hi : i < d.length) : w.cell? ⟨r, i, none⟩ = some (.int .u8 ((d.getD i 0).toNat : Int)) := dig_cells h i hi _ rfl
theorem b_set {w : World} {r : Nat} {t : TypeId} {d : List UInt8} (h : w.heap[r]? = some (.cells (Lib.byteCells d).toArray t (0, 0))) (i : Nat) (v : UInt8) : (w.setCell ⟨r, i, none⟩ (.int .u8 (v.toNat : Int))).heap[r]? = some (.cells (Lib.byteCells (d.set i v)).toArray t (0, 0)) := by
  rw [blk_set h, List.setIfInBounds_toArray]
  simp [Lib.byteCells, List.map_set]
/-- Two blocks of bytes, and nothing old has turned. -/
structure FS (w0 wr : World) (r0 r1 : Nat) (t0 t1 : TypeId) (d0 d1 : List UInt8) : Prop where
  h0 : wr.heap[r0]? = some (.cells (Lib.byteCells d0).toArray t0 (0, 0))
  h1 : wr.heap[r1]? = some (.cells (Lib.byteCells d1).toArray t1 (0, 0))
  below : Below w0.heap.size w0 wr
  ne : r0 ≠ r1
  far : w0.heap.size ≤ r1
theorem FS.set {w0 wr : World} {r0 r1 : Nat} {t0 t1 : TypeId} {d0 d1 : List UInt8} (h : FS w0 wr r0 r1 t0 t1 d0 d1) (i : Nat) (v : UInt8) : FS w0 (wr.setCell ⟨r1, i, none⟩ (.int .u8 (v.toNat : Int))) r0 r1 t0 t1 d0 (d1.set i v) := by
  have e := At1.set wr r1 i (.int .u8 (v.toNat : Int))
  exact ⟨(e.block _ h.ne).trans h.h0, b_set h.h1 i v, At1.below h.below e h.far, h.ne, h.far⟩
theorem FS.congr {w0 wr : World} {r0 r1 : Nat} {t0 t1 : TypeId} {d0 d1 d1' : List UInt8} (h : FS w0 wr r0 r1 t0 t1 d0 d1) (e : d1 = d1') : FS w0 wr r0 r1 t0 t1 d0 d1' := e ▸ h
theorem FS.drew {w0 wr : World} {r0 r1 : Nat} {t0 t1 : TypeId} {d0 d1 : List UInt8} (h : FS w0 wr r0 r1 t0 t1 d0 d1) : FS w0 wr.drew r0 r1 t0 t1 d0 d1 := ⟨h.h0, h.h1, h.below.drew, h.ne, h.far⟩
attribute [local go_sem] xor8

set_option maxHeartbeats 1000000 in
set_option maxRecDepth 100000 in
theorem fold_any (d : List UInt8) (hd : d.length = 32) (w : World) : Calls Try.prog 17 #[.agg (Lib.byteCells d).toArray] w fun e w' => e = .returned (.agg (Lib.byteCells (foldL d)).toArray) ∧ Below w.heap.size w w' := by
  have z45 := zero45
  have a0 := alloc_at w (.cells (Lib.byteCells d).toArray 24)
  have s1 : (w.alloc (.cells (Lib.byteCells d).toArray 24)).heap.size = w.heap.size + 1 := by simp
  have a1 := alloc_at (w.alloc (.cells (Lib.byteCells d).toArray 24)) (.cells (Lib.byteCells (zrs 20)).toArray 45)
  rw [s1] at a1
  have s2 : ((w.alloc (.cells (Lib.byteCells d).toArray 24)).alloc (.cells (Lib.byteCells (zrs 20)).toArray 45)).heap.size = w.heap.size + 2 := by simp
  have a2 := alloc_at ((w.alloc (.cells (Lib.byteCells d).toArray 24)).alloc (.cells (Lib.byteCells (zrs 20)).toArray 45)) (.cells (Lib.byteCells (zrs 20)).toArray 45)
  rw [s2] at a2
  have b3 := (((Below.refl w.heap.size w).alloc (Nat.le_refl _) (.cells (Lib.byteCells d).toArray 24)).alloc (by simp) (.cells (Lib.byteCells (zrs 20)).toArray 45)).alloc (by rw [s2]; omega) (.cells (Lib.byteCells (zrs 20)).toArray 45)
  have A0 := Lib.hid (alloc_far (alloc_far a0 (.cells (Lib.byteCells (zrs 20)).toArray 45)) (.cells (Lib.byteCells (zrs 20)).toArray 45))
  have S0 : Hid (FS w _ (w.heap.size + 1) (w.heap.size + 2) 45 45 (zrs 20) (foldK d 0)) := Lib.hid ⟨alloc_far a1 _, a2, b3, by omega, by omega⟩
  have HD := Lib.hid hd
  clear a0 s1 a1 s2 a2 b3 hd
  go_enter Try.func17, Try.ntmps17
  go_upto_region 2 with (fail)
  generalize ((w.alloc (.cells (Lib.byteCells d).toArray 24)).alloc (.cells (Lib.byteCells (zrs 20)).toArray 45)).alloc (.cells (Lib.byteCells (zrs 20)).toArray 45) = w1 at *
  clear z45
  go_wp2_with (refine wpList_load_part rfl 24 _ rfl w.heap.size 0 _ (Lib.byteCells d) 24 _ rfl A0.out (by rw [List.drop_zero, List.take_length]) Try.underlying24 rfl (by rw [Lib.byteCells_length, HD.out]; exact info24) ?_)
  go_loopw [7] (fun i wr => ∃ m : Nat, m ≤ 32 ∧ i = .int .i64 m ∧ Hid (FS w wr (w.heap.size + 1) (w.heap.size + 2) 45 45 (zrs 20) (foldK d m))) (fun i _ => 32 - (intOf i).toNat)
  case atStart => exact ⟨0, by omega, rfl, S0⟩
  case round =>
    clear S0 A0
    obtain ⟨m, hm, rfl, hS⟩ := hrel
    by_cases hlt : m < 32
    · have hix := fun W => index_b (P := Try.prog) 24 5 32 d m Try.underlying24 hlt Try.sizeOf5 Try.isAgg5 (by rw [HD.out]; exact hlt) W
      obtain ⟨r, hr⟩ : ∃ r, m % 20 = r := ⟨_, rfl⟩
      have em : (m : Int) % 20 = (r : Int) := by omega
      have c1 := b_cell hS.out.h1 r (by rw [foldK_length]; omega)
      have z1 := blk_frozen hS.out.h1 r
      have r1 : (r : Int) < 20 := by omega
      have r2 : ¬ (r : Int) < 0 := by omega
      have hst : Hid ((foldK d m).set r ((foldK d m).getD r 0 ^^^ d.getD m 0) = foldK d (m + 1)) := Lib.hid (by rw [← hr]; rfl)
      clear hr
      generalize (foldK d m).getD r 0 = x0 at *
      generalize d.getD m 0 = x1 at *
      go_wp2
      go_roundw
      case rel => exact ⟨m + 1, by omega, by go_num, Lib.hid ((hS.out.set r (x0 ^^^ x1)).congr hst.out)⟩
      case measure => simp [intOf]; omega
    · have he : m = 32 := by omega
      obtain ⟨F, hF⟩ : ∃ F, F = foldL d := ⟨_, rfl⟩
      have hS2 : Hid (FS w wr (w.heap.size + 1) (w.heap.size + 2) 45 45 (zrs 20) F) := Lib.hid (by rw [he] at hS; rw [hF]; exact hS.out)
      have hl : F.length = 20 := by rw [hF]; exact foldL_length d
      have HL := Lib.hid hl
      have HF := Lib.hid hF
      clear hS he hl hF
      go_wp2_with (first
        | (refine wpList_load_part rfl 45 _ rfl (w.heap.size + 2) 0 _ (Lib.byteCells F) 45 _ rfl hS2.out.h1 (by rw [List.drop_zero, List.take_length]) Try.underlying45 rfl (by rw [Lib.byteCells_length, HL.out]; exact info45) ?_)
        | (refine wpList_store_whole rfl 45 _ _ rfl (w.heap.size + 1) (Lib.byteCells F).toArray (Lib.byteCells (zrs 20)).toArray 45 rfl rfl hS2.out.h0 (sz_eq (by rw [HL.out]; rfl)) (by rw [List.size_toArray, Lib.byteCells_length, HL.out]; exact info45) (one_bytes _) ?_; intro w9 h5 h6; have H5 := Lib.hid h5; have H6 := Lib.hid (At1.below hS2.out.below h6 (by omega)); clear h5 h6))
      exact bodyPost_ret (results_cell1 rfl _ rfl (arr_back H5.out Try.underlying45 rfl (by rw [HL.out]; exact info45))) rfl ⟨by rw [HF.out], H6.out⟩
end Go.Proofs.Ytnpmhbhnggdhcaa
