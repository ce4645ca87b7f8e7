/-
  SectorErrs: for any numbers and bytes the law answers true.
-/
import Derived.Test.YtaakknnfebmkcaaSectorErrsWalk
import Derived.OpenShut
set_option linter.unusedVariables false
set_option linter.unusedSimpArgs false
namespace Go.Proofs.Ytaakknnfebmkcaa
open Go.RowKit Go.Proofs.YtaakknnfebmkcaaW.PrintWords

/-- A slice of bytes that came in. -/
theorem row_bytes {w : World} {a : Option Addr} {len cap : Nat} {zs : List Int} (h : (a = none ∧ len = 0 ∧ cap = 0 ∧ zs = []) ∨ ∃ x, a = some x ∧ len ≤ cap ∧ cap ≤ maxLen ∧ zs.length = cap ∧ (∀ i, i < zs.length → w.cell? (x.add i) = some (.int .u8 (zs.getD i 0))) ∧ ∀ n ∈ zs, (Lit.int .u8 n).wf = true) :
    ∃ l : List UInt8, len = l.length ∧ Kd.C (Kd.int .u8) w a l.length (ints l) ∧ l.length ≤ cap ∧ l.length ≤ maxLen ∧ ReadsInt w .u8 a l.length (ints l) := by
  obtain ⟨xs, e, h1, h2, h3, h4⟩ := ReadsInt.ofRowC h
  have hx : ints (xs.map fun x => x.toNat.toUInt8) = xs := by
    unfold ints
    rw [List.map_map]
    conv => rhs; rw [← List.map_id xs]
    refine List.map_congr_left fun x hx => ?_
    have h5 := h3 x hx
    have : 0 ≤ x ∧ x ≤ 255 := by simp [Lit.wf, IntKind.min, IntKind.max, IntKind.bits, IntKind.signed] at h5; omega
    simp only [Function.comp_apply, id_eq]
    have e : x.toNat.toUInt8.toNat = x.toNat := by
      show (UInt8.ofNat x.toNat).toNat = x.toNat
      rw [UInt8.toNat_ofNat']; omega
    rw [e]; omega
  refine ⟨xs.map fun x => x.toNat.toUInt8, by simpa using e, ?_, by simpa using h4, by simpa using h2, ?_⟩
  · rw [hx, List.length_map]
    exact Kd.C_of_reads (d := 0) h1
  · rw [hx, List.length_map]
    exact h1
/-- .. as a range of plain cells. -/
theorem bytes_range {w : World} {a : Option Addr} {l : List UInt8} (h : ReadsInt w .u8 a l.length (ints l)) (h0 : 0 < l.length) : ∃ b o, a = some ⟨b, o, none⟩ ∧ b < w.heap.size ∧ w.rangeAt b o (Lib.byteCells l) := by
  obtain ⟨ad, rfl, hc⟩ := h.2.2 h0
  obtain ⟨b, o, rfl, hc'⟩ := ints_at (k := .u8) (zs := ints l) (fun i hi => hc i (by rwa [ints_length] at hi)) (by rwa [ints_length])
  refine ⟨b, o, rfl, ?_, fun j v hv => ?_⟩
  · have := hc' 0 (by rwa [ints_length])
    exact World.block_lt_of_cell? w _ this
  · have hj : j < l.length := by
      have := (List.getElem?_eq_some_iff.1 hv).1
      rwa [Lib.byteCells_length] at this
    rw [hc' j (by rwa [ints_length]), ← hv]
    simp [Lib.byteCells, ints, hj, List.getD_eq_getElem?_getD]

theorem walk_SectorErrs (n i : Int) (a2 : Option Addr) (len2 cap2 : Nat) (z2 : List Int) (w : World) (w0 : (Lit.int .i64 n).wf = true) (w1 : (Lit.int .i64 i).wf = true)
    (w2 : (a2 = none ∧ len2 = 0 ∧ cap2 = 0 ∧ z2 = []) ∨ ∃ x, a2 = some x ∧ len2 ≤ cap2 ∧ cap2 ≤ maxLen ∧ z2.length = cap2 ∧ (∀ i, i < z2.length → w.cell? (x.add i) = some (.int .u8 (z2.getD i 0))) ∧ ∀ n ∈ z2, (Lit.int .u8 n).wf = true)
    (y2 : len2 * 1 ≤ 140737488351232) :
    Calls Try.prog 6 #[.int .i64 n, .int .i64 i, .slice a2 len2 cap2] w fun e w' => e = .returned (.bool true) ∧ Below w.heap.size w w' := by
  by_cases hl : 1000 < len2
  · exact errs_long n i a2 len2 cap2 w hl (by omega)
  by_cases hn : n < 1 ∨ 8192 < n
  · exact errs_none n i a2 len2 cap2 w (by omega) hn
  obtain ⟨m, rfl⟩ : ∃ m : Nat, n = (m : Int) := ⟨n.toNat, by omega⟩
  by_cases hi : 0 ≤ i ∧ i < m
  · obtain ⟨k, rfl⟩ : ∃ k : Nat, i = (k : Int) := ⟨i.toNat, by omega⟩
    by_cases h256 : len2 = 256
    · obtain ⟨p, rfl, _, _, _, hr⟩ := row_bytes w2
      obtain ⟨pb, po, rfl, hlt, hrg⟩ := bytes_range hr (by omega)
      rw [h256]
      exact errs_full m k pb po cap2 p w (by omega) (by omega) (by omega) h256 hrg hlt
    · exact errs_form m k a2 len2 cap2 w (by omega) (by omega) (by omega) (by omega) h256
  · exact errs_out m i a2 len2 cap2 w (by omega) (by omega) (by omega) hi
end Go.Proofs.Ytaakknnfebmkcaa
