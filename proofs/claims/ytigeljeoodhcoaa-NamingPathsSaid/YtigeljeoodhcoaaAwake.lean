/-
  The document's example: awake answers true.
-/
import Derived.Test.YtigeljeoodhcoaaPathPlain
set_option linter.unusedVariables false
set_option linter.unusedSimpArgs false
namespace Go.Proofs.Ytigeljeoodhcoaa
open Go.RowKit Go.Proofs.YtigeljeoodhcoaaW.PrintWords Go.Proofs.YtigeljeoodhcoaaW.PrintLast Go.Proofs.YtigeljeoodhcoaaW.PrintMore

def pathA : ByteArray := ⟨#[48,48,48,48,48,48,48,48,48,48,48,48,48,48,48,48,48,48,48,48,48,48,48,48,48,48,48,48,48,48,48,48,45,97]⟩
theorem pathA_eq : (⟨(pathL zeros ⟨#[97]⟩).toArray⟩ : ByteArray) = pathA := by
  have : pathL zeros ⟨#[97]⟩ = [48,48,48,48,48,48,48,48,48,48,48,48,48,48,48,48,48,48,48,48,48,48,48,48,48,48,48,48,48,48,48,48,45,97] := by decide +kernel
  rw [this]
  rfl
theorem nameA : nameB ⟨#[97]⟩ = true := by decide +kernel
theorem pathB_A : pathB pathA = true := by
  rw [← pathA_eq]
  exact pathB_path zeros _ rfl nameA

set_option maxHeartbeats 400000 in
set_option maxRecDepth 100000 in
theorem awake_any (w : World) : Calls Try.prog 8 #[] w fun e w' => e = .returned (.bool true) ∧ Below w.heap.size w w' := by
  have hpl : pathA.toList = [48,48,48,48,48,48,48,48,48,48,48,48,48,48,48,48,48,48,48,48,48,48,48,48,48,48,48,48,48,48,48,48,45,97] := by rw [ByteArray.toList_eq]; rfl
  go_enter Try.func8, Try.ntmps8
  go_wp2_with fail
  have h1 := path_yes zeros ⟨#[97]⟩ w rfl nameA
  rw [pathA_eq] at h1
  refine h1.mono ?_
  rintro e w1 ⟨rfl, hb1⟩
  clear h1
  go_wp2_with fail
  have h2 := is_any pathA w1 (by decide)
  rw [pathB_A] at h2
  refine h2.mono ?_
  rintro e w2 ⟨rfl, hb2⟩
  have HB := hb1.trans (hb2.mono hb1.size)
  clear h2
  go_wp2
  go_ret
  exact ⟨by first | rfl | (go_simp; done), HB⟩
end Go.Proofs.Ytigeljeoodhcoaa
