/-
  Path: the path of a digest and a name.
-/
import Derived.Test.YtigeljeoodhcoaaNamePlain
import Derived.Test.YtigeljeoodhcoaaRefDec
set_option linter.unusedVariables false
set_option linter.unusedSimpArgs false
namespace Go.Proofs.Ytigeljeoodhcoaa
open Go.RowKit Go.Proofs.YtigeljeoodhcoaaW.PrintWords Go.Proofs.YtigeljeoodhcoaaW.PrintLast Go.Proofs.YtigeljeoodhcoaaW.PrintMore

/-- Bytes as the array's value. -/
def arr (d : List UInt8) : Value := .agg (Lib.byteCells d).toArray

set_option maxHeartbeats 400000 in
set_option maxRecDepth 100000 in
theorem path_no (d : List UInt8) (s : ByteArray) (w : World) (hd : d.length = 20) (hs : s.size ≤ 140737488351232) (hn : nameB s = false) :
    Calls Try.prog 11 #[.agg (Lib.byteCells d).toArray, .string s] w fun e w' => e = .returned (.tuple #[.string ⟨#[]⟩, .int .i64 4]) ∧ Below w.heap.size w w' := by
  go_enter Try.func11, Try.ntmps11
  go_wp2_with fail
  have hx := name_any s (w.alloc (.cells (Lib.byteCells d).toArray 24)) hs
  rw [hn] at hx
  refine hx.mono ?_
  rintro e w1 ⟨rfl, hd1⟩
  have hB := below_drawn ((Below.refl _ w).alloc (Nat.le_refl _) _) hd1
  clear hx
  go_wp2
  go_ret2
  exact ⟨rfl, hB⟩

def pathL (d : List UInt8) (s : ByteArray) : List UInt8 := enc d ++ [45] ++ s.data.toList

theorem join_path (d : List UInt8) (s : ByteArray) : ((⟨(enc d).toArray⟩ : ByteArray) ++ ⟨#[45]⟩) ++ s = ⟨(pathL d s).toArray⟩ := by
  have e1 : s = ⟨s.data.toList.toArray⟩ := (Lib.mk_data s).symm
  have e2 : (⟨#[45]⟩ : ByteArray) = ⟨([45] : List UInt8).toArray⟩ := rfl
  conv => lhs; rw [e1, e2, ByteArray.mk_append_mk, ByteArray.mk_append_mk]
  rfl

/-- An array's cells in a block. -/
theorem c_arr {W : World} {b : Nat} {d : List UInt8} {t : TypeId} (hb : W.heap[b]? = some (.cells (Lib.byteCells d).toArray t (0, 0))) (hl : d.length ≤ 1000) : Kd.C (Kd.int .u8) W (some ⟨b, 0, none⟩) d.length (ints d) := by
  refine Kd.C_of_reads (d := 0) ⟨ints_length d, by omega, fun _ => ⟨_, rfl, fun j hj => ?_⟩⟩
  have e : (⟨b, 0, none⟩ : Addr).add j = ⟨b, j, none⟩ := add_plain _ _
  rw [e, Lib.cell_of_heap hb]
  simp [Lib.byteCells, ints, hj, List.getD_eq_getElem?_getD]

theorem nameB_size {s : ByteArray} (h : nameB s = true) : 1 ≤ s.size ∧ s.size ≤ 40 := by
  unfold nameB at h
  simp at h
  omega

set_option maxHeartbeats 400000 in
set_option maxRecDepth 100000 in
theorem path_yes (d : List UInt8) (s : ByteArray) (w : World) (hd : d.length = 20) (hn : nameB s = true) :
    Calls Try.prog 11 #[.agg (Lib.byteCells d).toArray, .string s] w fun e w' => e = .returned (.tuple #[.string ⟨(pathL d s).toArray⟩, .int .i64 0]) ∧ Below w.heap.size w w' := by
  obtain ⟨hs1, hs⟩ := nameB_size hn
  go_enter Try.func11, Try.ntmps11
  go_wp2_with fail
  have hx := name_any s (w.alloc (.cells (Lib.byteCells d).toArray 24)) (by omega)
  rw [hn] at hx
  refine hx.mono ?_
  rintro e w1 ⟨rfl, hd1⟩
  have hB := below_drawn ((Below.refl _ w).alloc (Nat.le_refl _) (.cells (Lib.byteCells d).toArray 24)) hd1
  have hb : w1.heap[w.heap.size]? = some (.cells (Lib.byteCells d).toArray 24 (0, 0)) := by
    obtain ⟨n, rfl⟩ := hd1
    show (w.heap.push _)[w.heap.size]? = _
    simp
  clear hx hd1
  go_wp2_with fail
  have hel : (enc d).length ≤ 32 := by rw [enc_length, hd]; decide
  have he := encode_any (some ⟨w.heap.size, 0, none⟩) 20 d w1 (c_arr hb (by omega)) (by omega) (by omega)
  rw [hd] at he
  refine he.mono ?_
  rintro e w2 ⟨rfl, hb2⟩
  have hB2 := hB.trans (hb2.mono hB.size)
  clear he hb
  have hs1 : (enc d).length + 1 ≤ 9223372036854775807 := by omega
  have hs2 : (enc d).length + 1 + s.size ≤ 9223372036854775807 := by omega
  go_wp2
  go_ret2
  exact ⟨by simp only [join_path]; rfl, hB2⟩

set_option maxHeartbeats 400000 in
set_option maxRecDepth 100000 in
theorem refPath_any (d : List UInt8) (s : ByteArray) (w : World) (hd : d.length = 20) (hn : nameB s = true) :
    Calls Try.prog 13 #[.agg (Lib.byteCells d).toArray, .string s] w fun e w' => e = .returned (.string ⟨(pathL d s).toArray⟩) ∧ Below w.heap.size w w' := by
  obtain ⟨hs1, hs⟩ := nameB_size hn
  go_enter Try.func13, Try.ntmps13
  go_wp2_with fail
  have hB := (Below.refl _ w).alloc (Nat.le_refl _) (.cells (Lib.byteCells d).toArray 24)
  have hb : (w.alloc (.cells (Lib.byteCells d).toArray 24)).heap[w.heap.size]? = some (.cells (Lib.byteCells d).toArray 24 (0, 0)) := by
    show (w.heap.push _)[w.heap.size]? = _
    simp
  have hel : (enc d).length ≤ 32 := by rw [enc_length, hd]; decide
  have he := refEnc_any (some ⟨w.heap.size, 0, none⟩) 20 d _ (c_arr hb (by omega)) (by omega) (by omega)
  rw [hd] at he
  refine he.mono ?_
  rintro e w2 ⟨rfl, hb2⟩
  have hB2 := hB.trans (hb2.mono hB.size)
  clear he hb
  have hs1 : (enc d).length + 1 ≤ 9223372036854775807 := by omega
  have hs2 : (enc d).length + 1 + s.size ≤ 9223372036854775807 := by omega
  go_wp2
  go_ret
  exact ⟨by simp only [join_path]; rfl, hB2⟩

end Go.Proofs.Ytigeljeoodhcoaa
