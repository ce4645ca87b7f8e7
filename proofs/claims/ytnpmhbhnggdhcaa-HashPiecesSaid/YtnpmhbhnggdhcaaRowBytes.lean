/-
  Bytes that came in, as the walks read them.
-/
import Derived.Test.YtnpmhbhnggdhcaaOf
set_option linter.unusedVariables false
set_option linter.unusedSimpArgs false
namespace Go.Proofs.Ytnpmhbhnggdhcaa
open Go.RowKit Go.Proofs.YtnpmhbhnggdhcaaW.PrintWords

theorem row_rd {w : World} {a : Option Addr} {len cap : Nat} {zs : List Int} (h : (a = none ∧ len = 0 ∧ cap = 0 ∧ zs = []) ∨ ∃ x, a = some x ∧ len ≤ cap ∧ cap ≤ maxLen ∧ zs.length = cap ∧ (∀ i, i < zs.length → w.cell? (x.add i) = some (.int .u8 (zs.getD i 0))) ∧ ∀ n ∈ zs, (Lit.int .u8 n).wf = true) :
    ∃ p : List UInt8, p.length = len ∧ Rd w a p ∧ len ≤ cap ∧ cap ≤ maxLen ∧ (a = none → len = 0 ∧ cap = 0) := by
  rcases h with ⟨rfl, rfl, rfl, rfl⟩ | ⟨x, rfl, h1, h2, h3, h4, h5⟩
  · exact ⟨[], rfl, fun h => absurd h (by simp), Nat.le_refl _, by unfold maxLen; omega, fun _ => ⟨rfl, rfl⟩⟩
  · refine ⟨(zs.take len).map fun n => UInt8.ofNat n.toNat, by simp; omega, fun h0 => ⟨x, rfl, ?_, fun j hj => ?_⟩, h1, h2, fun e => by cases e⟩
    · have hz : 0 < zs.length := by simp at h0; omega
      have := h4 0 hz
      rw [show x.add 0 = x by simp [Addr.add]] at this
      unfold World.cell? at this
      by_cases hb : x.block < w.heap.size
      · exact hb
      · rw [Array.getElem?_eq_none (by omega)] at this
        simp at this
    · simp at hj
      have hjz : j < zs.length := by omega
      rw [h4 j hjz]
      congr 2
      have hw := h5 (zs.getD j 0) (by rw [List.getD_eq_getElem?_getD, List.getElem?_eq_getElem hjz]; exact List.getElem_mem hjz)
      generalize hz : zs.getD j 0 = z at *
      have hr : 0 ≤ z ∧ z < 256 := by
        simp [Lit.wf, IntKind.min, IntKind.max, IntKind.signed, IntKind.bits] at hw
        omega
      have e : ((zs.take len).map fun n => UInt8.ofNat n.toNat).getD j 0 = UInt8.ofNat z.toNat := by
        rw [← hz]
        simp [List.getD_eq_getElem?_getD, List.getElem?_take, show j < len by omega, hjz]
      rw [e, UInt8.toNat_ofNat']
      omega
end Go.Proofs.Ytnpmhbhnggdhcaa
