/-
  Plain: a digest as 20 bytes.
-/
import Derived.Test.YtnpmhbhnggdhcaaPad
namespace Go.Proofs.Ytnpmhbhnggdhcaa

def foldK (d : List UInt8) : Nat → List UInt8
  | 0 => zrs 20
  | n + 1 => (foldK d n).set (n % 20) ((foldK d n).getD (n % 20) 0 ^^^ d.getD n 0)
def refK (d : List UInt8) : Nat → List UInt8
  | 0 => zrs 20
  | n + 1 => if n < 20 then (refK d n).set n (d.getD n 0) else (refK d n).set (n - 20) ((refK d n).getD (n - 20) 0 ^^^ d.getD n 0)
def foldL (d : List UInt8) : List UInt8 := foldK d 32
theorem foldK_length (d : List UInt8) (n : Nat) : (foldK d n).length = 20 := by
  induction n with
  | zero => exact List.length_replicate
  | succ n ih => rw [foldK, List.length_set]; exact ih
theorem refK_length (d : List UInt8) (n : Nat) : (refK d n).length = 20 := by
  induction n with
  | zero => exact List.length_replicate
  | succ n ih => rw [refK]; split <;> (rw [List.length_set]; exact ih)
theorem zrs_get (n j : Nat) : (zrs n).getD j 0 = 0 := by
  unfold zrs
  rw [List.getD_eq_getElem?_getD, List.getElem?_replicate]
  split <;> rfl
theorem foldK_get (d : List UInt8) (n : Nat) (hn : n ≤ 32) : ∀ j, j < 20 → (foldK d n).getD j 0 = (if j < n then d.getD j 0 else 0) ^^^ (if j + 20 < n then d.getD (j + 20) 0 else 0) := by
  induction n with
  | zero => intro j hj; rw [foldK, zrs_get]; simp
  | succ n ih =>
    intro j hj
    have ih := ih (by omega)
    rw [foldK, getD_set _ _ _ _ (by rw [foldK_length]; omega)]
    by_cases h : j = n % 20
    · rw [if_pos h, ih _ (by omega), ← h]
      by_cases h20 : n < 20
      · have : j = n := by omega
        subst this
        have e1 : ¬ j + 20 < j := by omega
        have e2 : ¬ j + 20 < j + 1 := by omega
        simp [e1, e2]
      · have : n = j + 20 := by omega
        subst this
        simp [show j < j + 20 by omega, show j < j + 20 + 1 by omega]
    · rw [if_neg h, ih j hj]
      have e1 : (j < n + 1) = (j < n) := by rw [eq_iff_iff]; omega
      have e2 : (j + 20 < n + 1) = (j + 20 < n) := by rw [eq_iff_iff]; omega
      simp only [e1, e2]
theorem refK_get (d : List UInt8) (n : Nat) (hn : n ≤ 32) : ∀ j, j < 20 → (refK d n).getD j 0 = (if j < n then d.getD j 0 else 0) ^^^ (if j + 20 < n then d.getD (j + 20) 0 else 0) := by
  induction n with
  | zero => intro j hj; rw [refK, zrs_get]; simp
  | succ n ih =>
    intro j hj
    have ih := ih (by omega)
    rw [refK]
    by_cases h20 : n < 20
    · rw [if_pos h20, getD_set _ _ _ _ (by rw [refK_length]; omega)]
      by_cases h : j = n
      · subst h
        have e2 : ¬ j + 20 < j + 1 := by omega
        simp [e2]
      · rw [if_neg h, ih j hj]
        have e1 : (j < n + 1) = (j < n) := by rw [eq_iff_iff]; omega
        have e2 : (j + 20 < n + 1) = (j + 20 < n) := by rw [eq_iff_iff]; omega
        simp only [e1, e2]
    · rw [if_neg h20, getD_set _ _ _ _ (by rw [refK_length]; omega)]
      by_cases h : j = n - 20
      · rw [if_pos h, ih _ (by omega), ← h]
        have : n = j + 20 := by omega
        subst this
        simp [show j < j + 20 by omega, show j < j + 20 + 1 by omega]
      · rw [if_neg h, ih j hj]
        have e1 : (j < n + 1) = (j < n) := by rw [eq_iff_iff]; omega
        have e2 : (j + 20 < n + 1) = (j + 20 < n) := by rw [eq_iff_iff]; omega
        simp only [e1, e2]
theorem list_ext20 {a b : List UInt8} (ha : a.length = 20) (hb : b.length = 20) (h : ∀ j, j < 20 → a.getD j 0 = b.getD j 0) : a = b := by
  apply List.ext_getElem (by omega)
  intro i h1 h2
  have := h i (by omega)
  simpa [List.getD_eq_getElem?_getD, h1, h2] using this
theorem ref_fold (d : List UInt8) : refK d 32 = foldL d := list_ext20 (refK_length _ _) (foldK_length _ _) fun j hj => by
  unfold foldL
  rw [refK_get d 32 (Nat.le_refl _) j hj, foldK_get d 32 (Nat.le_refl _) j hj]
theorem foldL_length (d : List UInt8) : (foldL d).length = 20 := foldK_length d 32
/-- Two digests, one over the other. -/
def xorL (d e : List UInt8) : List UInt8 := (List.range 32).map fun i => d.getD i 0 ^^^ e.getD i 0
theorem xorL_length (d e : List UInt8) : (xorL d e).length = 32 := by simp [xorL]
theorem xorL_get (d e : List UInt8) (i : Nat) (h : i < 32) : (xorL d e).getD i 0 = d.getD i 0 ^^^ e.getD i 0 := by
  simp [xorL, List.getD_eq_getElem?_getD, h]
theorem xor_four (a b c d : UInt8) : (a ^^^ b) ^^^ (c ^^^ d) = (a ^^^ c) ^^^ (b ^^^ d) := by
  rw [UInt8.xor_assoc, UInt8.xor_assoc, ← UInt8.xor_assoc b, ← UInt8.xor_assoc c, UInt8.xor_comm b c]
theorem foldL_xor (d e : List UInt8) (j : Nat) (hj : j < 20) : (foldL (xorL d e)).getD j 0 = (foldL d).getD j 0 ^^^ (foldL e).getD j 0 := by
  unfold foldL
  rw [foldK_get _ 32 (Nat.le_refl _) j hj, foldK_get _ 32 (Nat.le_refl _) j hj, foldK_get _ 32 (Nat.le_refl _) j hj, xorL_get _ _ _ (show j < 32 by omega)]
  simp only [show j < 32 by omega, if_true]
  by_cases h : j + 20 < 32
  · simp only [h, if_true]
    rw [xorL_get _ _ _ h, xor_four]
  · simp only [h, if_false]
    simp
def xorP (d e : List UInt8) (i : Nat) : List UInt8 := (xorL d e).take i ++ zrs (32 - i)
theorem xorP_zero (d e : List UInt8) : xorP d e 0 = zrs 32 := by simp [xorP]
theorem xorP_end (d e : List UInt8) : xorP d e 32 = xorL d e := by
  unfold xorP
  rw [List.take_of_length_le (by rw [xorL_length]; exact Nat.le_refl _)]
  simp [zrs]
theorem xorP_length (d e : List UInt8) (i : Nat) (h : i ≤ 32) : (xorP d e i).length = 32 := by
  unfold xorP zrs
  rw [List.length_append, List.length_take, xorL_length, List.length_replicate]
  omega
theorem xorP_set (d e : List UInt8) (i : Nat) (h : i < 32) : (xorP d e i).set i (d.getD i 0 ^^^ e.getD i 0) = xorP d e (i + 1) := by
  unfold xorP zrs
  rw [List.set_append, if_neg (by rw [List.length_take, xorL_length]; omega), List.length_take, xorL_length, show 32 - i = (32 - (i + 1)) + 1 by omega, List.replicate_succ, show i - min i 32 = 0 by omega, List.set_cons_zero, List.take_succ_eq_append_getElem (by rw [xorL_length]; exact h)]
  simp [xorL]
end Go.Proofs.Ytnpmhbhnggdhcaa
