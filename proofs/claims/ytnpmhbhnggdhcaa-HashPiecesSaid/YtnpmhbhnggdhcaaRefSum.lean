/-
  The reference's Sum.
-/
import Derived.Test.YtnpmhbhnggdhcaaRefOf
set_option linter.unusedVariables false
set_option linter.unusedSimpArgs false
namespace Go.Proofs.Ytnpmhbhnggdhcaa
open Go.RowKit Go.Proofs.YtnpmhbhnggdhcaaW.PrintWords
set_option maxHeartbeats 1000000 in
set_option maxRecDepth 100000 in
theorem rsum_any (A : Option Addr) (cap : Nat) (p : List UInt8) (w : World) (hr : Rd w A p) (hc : A = none → p.length = 0 ∧ cap = 0) (hl : p.length ≤ 1000000000) :
    Calls Try.prog 10 #[.slice A p.length cap] w fun e w' => e = .returned (.agg (Lib.byteCells (digest p)).toArray) ∧ Below w.heap.size w w' := by
  have z24 := zero24
  have a0 := Lib.hid (alloc_at w (.cells (Lib.byteCells (zrs 32)).toArray 24))
  have b0 := Lib.hid ((Below.refl w.heap.size w).alloc (Nat.le_refl _) (.cells (Lib.byteCells (zrs 32)).toArray 24))
  have HR := Lib.hid hr
  have HC := Lib.hid hc
  clear hr hc
  go_enter Try.func10, Try.ntmps10
  go_wp2_with fail
  generalize w.alloc (.cells (Lib.byteCells (zrs 32)).toArray 24) = w1 at *
  have hlt := blk_lt a0.out
  refine (rmake_any _).mono ?_
  rintro e w2 ⟨rfl, h2⟩
  have b2 := Lib.hid (b0.out.trans (h2.mono b0.out.size))
  have a2 := Lib.hid ((h2.block w.heap.size hlt).trans a0.out)
  have hs2 := h2.size
  clear h2
  go_wp2_with fail
  refine (rof_any A cap p w2 (HR.out.below b2.out) HC.out hl).mono ?_
  rintro e w3 ⟨rfl, h3⟩
  have b3 := Lib.hid (b2.out.trans (h3.mono b2.out.size))
  have a3 := Lib.hid ((h3.block w.heap.size (by omega)).trans a2.out)
  clear h3
  have HDL : Hid ((Lib.byteCells (digest p)).length = 32) := Lib.hid (by rw [Lib.byteCells_length, digest_length])
  go_wp2_with (refine wpList_store_whole rfl 24 _ _ rfl w.heap.size (Lib.byteCells (digest p)).toArray (Lib.byteCells (zrs 32)).toArray 24 rfl rfl a3.out (by rw [List.size_toArray, List.size_toArray, HDL.out]; rfl) (by rw [List.size_toArray, HDL.out]; exact info24) (one_bytes _) ?_; intro w9 h5 h6; have H5 := Lib.hid h5; have H6 := Lib.hid (At1.below b3.out h6 (Nat.le_refl _)); clear h5 h6)
  have hl9 := run_loadVar_mid w9 w.heap.size 0 24 (Lib.byteCells (digest p)) _ (range_part (o := 0) H5.out (by rw [List.drop_zero, List.take_length])) Try.underlying24 rfl (by rw [HDL.out]; exact info24)
  exact bodyPost_ret (results_cell1 rfl _ rfl hl9) rfl ⟨rfl, H6.out⟩
end Go.Proofs.Ytnpmhbhnggdhcaa
