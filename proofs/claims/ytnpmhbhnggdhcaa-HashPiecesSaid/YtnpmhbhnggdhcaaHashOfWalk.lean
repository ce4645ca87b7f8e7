/-
  HashOf: the digest is the reference's: the walk.
-/
import Derived.Test.YtnpmhbhnggdhcaaRefSum
import Derived.Test.YtnpmhbhnggdhcaaArrEq
import Derived.Test.YtnpmhbhnggdhcaaRowBytes
set_option linter.unusedVariables false
set_option linter.unusedSimpArgs false
namespace Go.Proofs.Ytnpmhbhnggdhcaa
open Go.RowKit Go.Proofs.YtnpmhbhnggdhcaaW.PrintWords

set_option maxHeartbeats 1000000 in
set_option maxRecDepth 100000 in
theorem of_long (A : Option Addr) (cap : Nat) (n : Nat) (w : World) (hl : 100000 < n) (hm : n ≤ 140737488351232) :
    Calls Try.prog 3 #[.slice A n cap] w fun e w' => e = .returned (.bool true) ∧ Below w.heap.size w w' := by
  have hl' : (100000 : Int) < n := by omega
  go_enter Try.func3, Try.ntmps3
  go_wp2_with fail
  refine (awake_any _).mono ?_
  rintro e w1 ⟨rfl, hb1⟩
  have HB := Lib.hid hb1
  clear hb1
  go_wp2_with fail
  refine (awake_any _).mono ?_
  rintro e w2 ⟨rfl, hb2⟩
  have HB2 := Lib.hid (HB.out.trans (hb2.mono HB.out.size))
  clear hb2
  go_wp2
  go_ret
  exact ⟨rfl, HB2.out⟩

set_option maxHeartbeats 1000000 in
set_option maxRecDepth 100000 in
theorem of_short (A : Option Addr) (cap : Nat) (p : List UInt8) (w : World) (hr : Rd w A p) (hc : A = none → p.length = 0 ∧ cap = 0) (hl : p.length ≤ 100000) :
    Calls Try.prog 3 #[.slice A p.length cap] w fun e w' => e = .returned (.bool true) ∧ Below w.heap.size w w' := by
  have hl' : ¬ (100000 : Int) < p.length := by omega
  have HR := Lib.hid hr
  have HC := Lib.hid hc
  clear hr hc
  go_enter Try.func3, Try.ntmps3
  go_wp2_with fail
  refine (awake_any _).mono ?_
  rintro e w1 ⟨rfl, hb1⟩
  have HB := Lib.hid hb1
  clear hb1
  go_wp2_with fail
  refine (of_any A cap p w1 (HR.out.below HB.out) (by omega)).mono ?_
  rintro e w7 ⟨rfl, b7⟩
  have BB7 := Lib.hid (HB.out.trans (b7.mono HB.out.size))
  clear b7
  go_wp2_with fail
  refine (rsum_any A cap p w7 (HR.out.below BB7.out) HC.out (by omega)).mono ?_
  rintro e w8 ⟨rfl, b8⟩
  have BB8 := Lib.hid (BB7.out.trans (b8.mono BB7.out.size))
  clear b8
  have q1 := eql32 (digest p) (digest_length p)
  have q2 := fun x y W => guard32 x y (Lib.byteCells (digest p)).toArray (Lib.byteCells (digest p)).toArray W
  generalize (Lib.byteCells (digest p)).toArray = dg at *
  go_wp2
  go_ret
  exact ⟨rfl, BB8.out⟩

theorem walk_HashOf (a0 : Option Addr) (len0 cap0 : Nat) (z0 : List Int) (w : World)
    (w0 : (a0 = none ∧ len0 = 0 ∧ cap0 = 0 ∧ z0 = []) ∨ ∃ x, a0 = some x ∧ len0 ≤ cap0 ∧ cap0 ≤ maxLen ∧ z0.length = cap0 ∧ (∀ i, i < z0.length → w.cell? (x.add i) = some (.int .u8 (z0.getD i 0))) ∧ ∀ n ∈ z0, (Lit.int .u8 n).wf = true)
    (y0 : len0 * 1 ≤ 140737488351232) :
    Calls Try.prog 3 #[.slice a0 len0 cap0] w fun e w' => e = .returned (.bool true) ∧ Below w.heap.size w w' := by
  obtain ⟨p, rfl, hp, hpc, hm, hnil⟩ := row_rd w0
  by_cases hl : 100000 < p.length
  · exact of_long a0 cap0 p.length w hl (by omega)
  · exact of_short a0 cap0 p w hp hnil (by omega)
end Go.Proofs.Ytnpmhbhnggdhcaa
