/-
  Plain: bytes behind a number of fives stand ahead of them.
-/
import Derived.Test.YtgbknccnigfniaaOrderPlain
set_option linter.unusedVariables false
set_option linter.unusedSimpArgs false
namespace Go.Proofs.Ytgbknccnigfniaa
open Go.RowKit Go.Proofs.YtgbknccnigfniaaW.PrintWords

theorem val_append (a b : List UInt8) : val (a ++ b) = val a + 256 ^ a.length * val b := by
  induction a with
  | nil => simp [val]
  | cons x a ih => simp only [List.cons_append, val, ih, List.length_cons, Nat.pow_succ, Nat.mul_add]; rw [Nat.mul_comm (256 ^ a.length) 256, Nat.mul_assoc]; omega

theorem down_split (v m j : Nat) : down v (m + j) = down (v / 32 ^ j) m ++ down v j := by
  induction m with
  | zero => simp [down]
  | succ m ih =>
    rw [show m + 1 + j = (m + j) + 1 by omega, down, ih, down, List.cons_append, Nat.div_div_eq_div_mul, ← Nat.pow_add, Nat.add_comm j m]

theorem down_mod (v k : Nat) : ∀ j, j ≤ k → down (v % 32 ^ k) j = down v j := by
  intro j
  induction j with
  | zero => intro _; rfl
  | succ j ih =>
    intro hj
    rw [down, down, ih (by omega)]
    congr 1
    rw [← sgn_mod, ← sgn_mod (v / 32 ^ j)]
    congr 1
    obtain ⟨d, rfl⟩ : ∃ d, k = j + 1 + d := ⟨k - (j + 1), by omega⟩
    have e : 32 ^ (j + 1 + d) = 32 ^ j * (32 * 32 ^ d) := by rw [Nat.pow_add, Nat.pow_succ, Nat.mul_assoc]
    rw [e, Nat.mod_mul_right_div_self, Nat.mod_mul_right_mod]

theorem enc_parts (a b : List UInt8) (h : a.length % 5 = 0) : enc (a ++ b) = enc b ++ enc a := by
  obtain ⟨m, hm⟩ : ∃ m, a.length = 5 * m := ⟨a.length / 5, by omega⟩
  have e1 : lens (a ++ b).length = lens b.length + lens a.length := by rw [List.length_append]; unfold lens; omega
  have e2 : 256 ^ a.length = 32 ^ lens a.length := by
    rw [show (256 : Nat) = 2 ^ 8 from rfl, show (32 : Nat) = 2 ^ 5 from rfl, ← Nat.pow_mul, ← Nat.pow_mul]
    congr 1; unfold lens; omega
  unfold enc
  rw [e1, down_split, val_append, e2]
  have hlt := val_lt_lens a
  have hp := Nat.pow_pos (n := lens a.length) (show 0 < 32 by decide)
  rw [Nat.add_mul_div_left _ _ hp, Nat.div_eq_of_lt hlt, Nat.zero_add]
  congr 1
  rw [← down_mod (val a + _) (lens a.length) _ (Nat.le_refl _), Nat.add_mul_mod_self_left, Nat.mod_eq_of_lt hlt]

end Go.Proofs.Ytgbknccnigfniaa
