/-
  Parse: the digest and the name of a path.
-/
import Derived.Test.YtigeljeoodhcoaaParse
import Derived.Test.YtigeljeoodhcoaaMem
import Derived.WalkLawsBesides
import Derived.Deep.RegionHeld
set_option linter.unusedVariables false
set_option linter.unusedSimpArgs false
namespace Go.Proofs.Ytigeljeoodhcoaa
open Go.RowKit Go.Proofs.YtigeljeoodhcoaaW.PrintWords Go.Proofs.YtigeljeoodhcoaaW.PrintLast Go.Proofs.YtigeljeoodhcoaaW.PrintMore

set_option maxHeartbeats 400000 in
set_option maxRecDepth 100000 in
theorem parse_some (s : ByteArray) (w : World) (h : ¬ s.size < 34) (hs : s.size ≤ 140737488351232) (hd : bt s 32 = 45) (hn : nameB (s.extract 33 s.size) = true) (hdc : decE (s.extract 0 32) = 0) (L : List UInt8) (hL : decL (s.extract 0 32) = L) (hl20 : L.length = 20) :
    Calls Try.prog 12 #[.string s] w fun e w' => e = .returned (.tuple #[.agg (Lib.byteCells L).toArray, .string (s.extract 33 s.size), .int .i64 0]) ∧ Below w.heap.size w w' := by
  have h32 : 32 < s.size := by omega
  have hbt : ((s[32].toNat : Nat) : Int) = bt s 32 := bt_at s 32 h32
  rw [hd] at hbt
  go_enter Try.func12, Try.ntmps12
  go_wp2_with fail
  have hx := name_any (s.extract 33 s.size) (w.alloc (.cells zc 24)) (by simp; omega)
  rw [hn] at hx
  refine hx.mono ?_
  rintro e w1 ⟨rfl, hd1⟩
  have hB := below_drawn ((Below.refl _ w).alloc (Nat.le_refl _) (.cells zc 24)) hd1
  have hb1 := blk_drawn (alloc_at w (.cells zc 24)) hd1
  clear hx hd1
  go_wp2_with fail
  have hx := dec_any (s.extract 0 32) w1 (by rw [head_size s h]; omega)
  rw [hdc, hL, hl20] at hx
  refine hx.mono ?_
  rintro e w2 ⟨A, c, rfl, ho, hb2⟩
  have hB2 := hB.trans (hb2.mono hB.size)
  have hb3 := blk_below hb1 hb2
  clear hx hb2
  go_wp2_with fail
  obtain ⟨b, rfl, hbk, hbn, hrg⟩ := own_blk20 ho hl20 (by decide)
  have hat : ∀ W, (Instr.arrayAt 24 (.slice (some ⟨b, 0, none⟩) 20 c)).run Try.prog W = .ok (.pointer (some ⟨b, 0, none⟩)) W := fun W => run_arrayAt W 24 _ 20 _ 20 c Try.underlying24 (Nat.le_refl _)
  have hu := Try.underlying24
  have hi : (Try.prog.info? 24).map (·.size) = some (Lib.byteCells L).length := by rw [info24, Lib.byteCells_length, hl20]
  have hlen : (Lib.byteCells L).length = 20 := by rw [Lib.byteCells_length, hl20]
  have hone : ∀ v ∈ Lib.byteCells L, v.oneCell' = true := by simp [Lib.byteCells, Value.oneCell']
  have hth : w2.there w.heap.size 0 20 := there_all hb3 20 (Nat.le_refl _)
  have hsz := hB.size
  have hne : b ≠ w.heap.size := by
    have : w.heap.size < w1.heap.size := (Array.getElem?_eq_some_iff.1 hb1).1
    omega
  have hst := setCells_all (w := w2.drew) (cells := (Lib.byteCells L).toArray) hb3 (by simp [hl20, Lib.byteCells_length]; rfl)
  have hat' : At1 w.heap.size w2.drew (w2.drew.setCells w.heap.size 0 (Lib.byteCells L)) := At1.sets w2.drew w.heap.size 0 (Lib.byteCells L)
  have hB3 := hat'.below hB2.drew (Nat.le_refl _)
  clear hB hB2 hb1 hsz hn hdc hL hd
  go_region_held (fun W => W.rangeAt b 0 (Lib.byteCells L) ∧ W.there w.heap.size 0 20) (go_keep_ranges) (fail)
  go_wp2
  have hl := load_arr hst hl20
  exact bodyPost_ret (results_cell2 rfl _ rfl hl) rfl ⟨rfl, hB3⟩
end Go.Proofs.Ytigeljeoodhcoaa
