/-
  The document's example: awake answers true.
-/
import Derived.Test.YtnpmhbhnggdhcaaOf
import Derived.Lib.SlBytesConst
set_option linter.unusedVariables false
set_option linter.unusedSimpArgs false
namespace Go.Proofs.Ytnpmhbhnggdhcaa
open Go.RowKit Go.Proofs.YtnpmhbhnggdhcaaW.PrintWords

def abc : List UInt8 := [97, 98, 99]
theorem abc_dig : (digest abc).take 4 = [186, 120, 22, 191] ∧ (digest abc).getD 31 0 = 173 := by decide +kernel
theorem dig_cells {w : World} {r : Nat} {t : TypeId} {d : List UInt8} (h : w.heap[r]? = some (.cells (Lib.byteCells d).toArray t (0, 0))) (i : Nat) (hi : i < d.length) (v : UInt8) (hv : d.getD i 0 = v) : w.cell? ⟨r, i, none⟩ = some (.int .u8 (v.toNat : Int)) := by
  rw [blk_cell h]
  subst hv
  simp [Lib.byteCells, hi]
theorem take4 {d : List UInt8} {a b c e : UInt8} (h : d.take 4 = [a, b, c, e]) : d.getD 0 0 = a ∧ d.getD 1 0 = b ∧ d.getD 2 0 = c ∧ d.getD 3 0 = e := by
  match d, h with
  | x0 :: x1 :: x2 :: x3 :: r, h =>
    simp at h
    obtain ⟨rfl, rfl, rfl, rfl⟩ := h
    exact ⟨rfl, rfl, rfl, rfl⟩
  | [], h => simp at h
  | [_], h => simp at h
  | [_, _], h => simp at h
  | [_, _, _], h => simp at h

set_option maxHeartbeats 1000000 in
set_option maxRecDepth 100000 in
theorem awake_any (w : World) : Calls Try.prog 8 #[] w fun e w' => e = .returned (.bool true) ∧ Below w.heap.size w w' := by
  have kc := fun (W : World) (C : Array Value) (n c : Nat) => Lib.run_convert_bytes_const (P := Try.prog) W 22 5 C n c Try.underlying22 Try.underlying5
  have z24 := zero24
  go_enter Try.func8, Try.ntmps8
  go_wp2_with fail
  have hb1 := (Below.refl w.heap.size w).alloc (Nat.le_refl _) (.cells #[.int .u8 97, .int .u8 98, .int .u8 99] 5 (3, 4))
  have hz1 : (w.alloc (.cells #[.int .u8 97, .int .u8 98, .int .u8 99] 5 (3, 4))).heap.size = w.heap.size + 1 := by simp
  have hr : Rd (w.alloc (.cells #[.int .u8 97, .int .u8 98, .int .u8 99] 5 (3, 4))) (some ⟨w.heap.size, 0, none⟩) abc := fun _ => ⟨_, rfl, by rw [hz1]; show w.heap.size < w.heap.size + 1; omega, fun j hj => by
    rw [add_plain, cell_of_row _ _ _ _ 5 (3, 4) (alloc_at w _)]
    match j, hj with
    | 0, _ => rfl
    | 1, _ => rfl
    | 2, _ => rfl⟩
  generalize w.alloc (.cells #[.int .u8 97, .int .u8 98, .int .u8 99] 5 (3, 4)) = w1 at *
  have X := Lib.hid (of_any _ 3 abc w1 hr (by decide))
  have B1 := Lib.hid hb1
  clear hr hb1 hz1
  refine X.out.mono ?_
  rintro e w2 ⟨rfl, b2⟩
  obtain ⟨e4, e31⟩ := abc_dig
  obtain ⟨g0, g1, g2, g3⟩ := take4 e4
  have hl := digest_length abc
  generalize digest abc = dg at *
  have B2 := Lib.hid (B1.out.trans (b2.mono B1.out.size))
  have HL := Lib.hid hl
  have G := Lib.hid (And.intro g0 (And.intro g1 (And.intro g2 (And.intro g3 e31))))
  clear b2 X hl g0 g1 g2 g3 e31 e4
  go_wp2_with (refine wpList_store_whole rfl 24 _ _ rfl w2.heap.size (Lib.byteCells dg).toArray (Lib.byteCells (zrs 32)).toArray 24 rfl rfl (alloc_at w2 _) (sz_eq (by rw [HL.out]; rfl)) (by rw [List.size_toArray, Lib.byteCells_length, HL.out]; exact info24) (one_bytes _) ?_; intro w5 h5 h6; have c0 := dig_cells h5 0 (by rw [HL.out]; decide) _ G.out.1; have c1 := dig_cells h5 1 (by rw [HL.out]; decide) _ G.out.2.1; have c2 := dig_cells h5 2 (by rw [HL.out]; decide) _ G.out.2.2.1; have c3 := dig_cells h5 3 (by rw [HL.out]; decide) _ G.out.2.2.2.1; have c31 := dig_cells h5 31 (by rw [HL.out]; decide) _ G.out.2.2.2.2; have H6 := Lib.hid (At1.below (B2.out.alloc B2.out.size _) h6 B2.out.size); clear h5 h6)
  go_ret
  exact ⟨by first | rfl | (go_simp; done), H6.out⟩
end Go.Proofs.Ytnpmhbhnggdhcaa
