/-
  The document's examples: awake answers true.
-/
import Derived.Test.YtgbknccnigfniaaHex
set_option linter.unusedVariables false
set_option linter.unusedSimpArgs false
namespace Go.Proofs.Ytgbknccnigfniaa
open Go.RowKit Go.Proofs.YtgbknccnigfniaaW.PrintWords Go.Proofs.YtgbknccnigfniaaW.PrintLast Go.Proofs.YtgbknccnigfniaaW.PrintMore

theorem c_lit (W : World) (l : List UInt8) (hl : l.length ≤ 1000) : Kd.C (Kd.int .u8) (W.alloc (.cells (Lib.byteCells l).toArray 5)) (some ⟨W.heap.size, 0, none⟩) l.length (ints l) := by
  refine Kd.C_of_reads (d := 0) ⟨ints_length l, by omega, fun _ => ⟨_, rfl, fun j hj => ?_⟩⟩
  have e : (⟨W.heap.size, 0, none⟩ : Addr).add j = ⟨W.heap.size, j, none⟩ := add_plain _ _
  rw [e]
  have hh : (W.alloc (.cells (Lib.byteCells l).toArray 5)).heap[W.heap.size]? = some (.cells (Lib.byteCells l).toArray 5 (0, 0)) := by
    show (W.heap.push _)[W.heap.size]? = _
    simp
  rw [Lib.cell_of_heap hh]
  simp [Lib.byteCells, ints, hj, List.getD_eq_getElem?_getD]

set_option maxHeartbeats 400000 in
set_option maxRecDepth 100000 in
theorem awake_any (w : World) : Calls Try.prog 9 #[] w fun e w' => e = .returned (.bool true) ∧ Below w.heap.size w w' := by
  go_enter Try.func9, Try.ntmps9
  go_wp2_with fail
  have e1 := encode_any (some ⟨w.heap.size, 0, none⟩) 1 [255] _ (c_lit w [255] (by decide)) (by decide) (by decide)
  rw [show enc [255] = [55, 122] by decide] at e1
  refine e1.mono ?_
  rintro e w1 ⟨rfl, hb1⟩
  have HB1 := ((Below.refl _ w).alloc (Nat.le_refl _) _).trans (hb1.mono (by simp))
  clear e1 hb1
  go_wp2_with fail
  have e2 := encode_any (some ⟨w1.heap.size, 0, none⟩) 2 [0, 1] _ (c_lit w1 [0, 1] (by decide)) (by decide) (by decide)
  rw [show enc [0, 1] = [48, 48, 56, 48] by decide] at e2
  refine e2.mono ?_
  rintro e w2 ⟨rfl, hb2⟩
  have HB2 := (HB1.alloc HB1.size _).trans (hb2.mono (by have := HB1.size; simp; omega))
  clear e2 hb2
  go_wp2_with fail
  have e3 := hex_any (some ⟨w2.heap.size, 0, none⟩) 2 [0, 255] _ (c_lit w2 [0, 255] (by decide)) (by decide) (by decide)
  rw [show hexs [0, 255] = [48, 48, 102, 102] by decide] at e3
  refine e3.mono ?_
  rintro e w3 ⟨rfl, hb3⟩
  have HB3 := (HB2.alloc HB2.size _).trans (hb3.mono (by have := HB2.size; simp; omega))
  clear e3 hb3
  go_wp2
  go_ret
  exact ⟨rfl, HB3⟩
/-- A slice of bytes that came in. -/
theorem row_bytes {w : World} {a : Option Addr} {len cap : Nat} {zs : List Int} (h : (a = none ∧ len = 0 ∧ cap = 0 ∧ zs = []) ∨ ∃ x, a = some x ∧ len ≤ cap ∧ cap ≤ maxLen ∧ zs.length = cap ∧ (∀ i, i < zs.length → w.cell? (x.add i) = some (.int .u8 (zs.getD i 0))) ∧ ∀ n ∈ zs, (Lit.int .u8 n).wf = true) :
    ∃ l : List UInt8, len = l.length ∧ Kd.C (Kd.int .u8) w a l.length (ints l) ∧ l.length ≤ cap ∧ l.length ≤ maxLen := by
  obtain ⟨xs, e, h1, h2, h3, h4⟩ := ReadsInt.ofRowC h
  have hx : ints (xs.map fun x => x.toNat.toUInt8) = xs := by
    unfold ints
    rw [List.map_map]
    conv => rhs; rw [← List.map_id xs]
    refine List.map_congr_left fun x hx => ?_
    have h5 := h3 x hx
    have : 0 ≤ x ∧ x ≤ 255 := by simp [Lit.wf, IntKind.min, IntKind.max, IntKind.bits, IntKind.signed] at h5; omega
    simp only [Function.comp_apply, id_eq]
    have e : x.toNat.toUInt8.toNat = x.toNat := by
      show (UInt8.ofNat x.toNat).toNat = x.toNat
      rw [UInt8.toNat_ofNat']; omega
    rw [e]; omega
  refine ⟨xs.map fun x => x.toNat.toUInt8, by simpa using e, ?_, by simpa using h4, by simpa using h2⟩
  rw [hx, List.length_map]
  exact Kd.C_of_reads (d := 0) h1
theorem c_drawn {w w1 : World} {A : Option Addr} {n : Nat} {xs : List Int} (h : Kd.C (Kd.int .u8) w A n xs) (hd : Drawn0 w w1) : Kd.C (Kd.int .u8) w1 A n xs := Kd.C_below h hd.below

end Go.Proofs.Ytgbknccnigfniaa
