/-
  ArrOpen: an array of bytes that comes in by value.
-/
import Derived.WalkKit
import Derived.ProofKit
import Derived.OpenShut
import Derived.Lib.UnsafeStr
namespace Go.Proofs.Ytnpmhbhnggdhcaa
open Go.ChangeShapes Go.WideShapes Go.ChangeAt Go.RowKit
set_option linter.unusedVariables false
set_option linter.unusedSimpArgs false

theorem open_arr {P : Program} {H : Type} {enc : TypeId × Value → H} {W : World} {base b0 : Nat} {sp : Nat → Bool} {held : Bool} {r : Reach} {t e : TypeId} {n : Nat} {v : Value} {d : DataW H} {p : List MemPlace}
    (ht : P.underlying t = some (.array n e)) (he : P.underlying e = some (.int .u8)) (hce : P.cellsOf e = 1) (hct : P.cellsOf t = n)
    (hok : Value.okWide P W r b0 t v) (h : DataW.Trod enc P W base sp held t v d p) : ∃ l : List UInt8, l.length = n ∧ v = .agg (Lib.byteCells l).toArray := by
  obtain ⟨cs, rfl, hsz, _⟩ : ∃ cs, v = .agg cs ∧ cs.size = P.cellsOf t ∧ Row.okWide P W r b0 t cs := by
    simpa [Value.okWide, ht] using hok
  rw [hct] at hsz
  obtain ⟨fuel, hf⟩ := h
  obtain ⟨xs, m, _, _, _, hl, hel⟩ := DataW.trod_array ht hf
  have key : ∀ i (hi : i < cs.size), ∃ x : UInt8, cs[i] = .int .u8 (x.toNat : Int) := by
    intro i hi
    have h1 := hel i (by omega)
    rw [hce, Nat.mul_one, List.getElem?_eq_getElem (show i < xs.length by omega)] at h1
    have e1 : ((Value.agg cs).cells.toList.drop i).take 1 = [cs[i]] := by
      simp [Value.cells, List.drop_eq_getElem_cons (show i < cs.toList.length by simpa using hi)]
    rw [e1] at h1
    obtain ⟨x, e2, _, w⟩ := DataW.trod_int he h1
    have hx : 0 ≤ x ∧ x ≤ 255 := by simp [Lit.wf, IntKind.min, IntKind.max, IntKind.bits, IntKind.signed] at w; omega
    refine ⟨x.toNat.toUInt8, ?_⟩
    have e3 : ((x.toNat.toUInt8.toNat : Nat) : Int) = x := by
      have : x.toNat.toUInt8.toNat = x.toNat := by
        show (UInt8.ofNat x.toNat).toNat = _
        rw [UInt8.toNat_ofNat']
        omega
      omega
    rw [e3]
    simpa using e2
  refine ⟨cs.toList.map fun v => match v with | .int _ x => x.toNat.toUInt8 | _ => 0, by simp [hsz], ?_⟩
  congr 1
  apply Array.ext
  · simp [Lib.byteCells]
  · intro i h1 h2
    obtain ⟨x, hx⟩ := key i h1
    simp [Lib.byteCells, hx]
end Go.Proofs.Ytnpmhbhnggdhcaa
