/-
  Plain: of as many bytes the signs stand as the numbers do.
-/
import Derived.Test.YtgbknccnigfniaaPlain
set_option linter.unusedVariables false
set_option linter.unusedSimpArgs false
namespace Go.Proofs.Ytgbknccnigfniaa
open Go.RowKit Go.Proofs.YtgbknccnigfniaaW.PrintWords

theorem val_snoc (l : List UInt8) (b : UInt8) : val (l ++ [b]) = val l + 256 ^ l.length * b.toNat := by
  induction l with
  | nil => simp [val]
  | cons a l ih => simp only [List.cons_append, val, ih, List.length_cons, Nat.pow_succ, Nat.mul_add]; rw [Nat.mul_comm (256 ^ l.length) 256, Nat.mul_assoc]; omega

/-- one byte more. -/
theorem val_lt_snoc (p q : List UInt8) (a b : UInt8) (h : p.length = q.length) :
    decide (val (p ++ [a]) < val (q ++ [b])) = if a = b then decide (val p < val q) else decide (a.toNat < b.toNat) := by
  rw [val_snoc, val_snoc, ← h]
  have hp := val_lt p
  have hq := val_lt q
  rw [← h] at hq
  by_cases e : a = b
  · subst e; rw [if_pos rfl]; congr 1; simp
  · rw [if_neg e]
    have hab : a.toNat ≠ b.toNat := fun h => e (UInt8.toNat_inj.1 h)
    obtain ⟨m, hm⟩ : ∃ m, 256 ^ p.length = m := ⟨_, rfl⟩
    rw [hm] at hp hq ⊢
    rcases Nat.lt_or_ge a.toNat b.toNat with h1 | h1
    · have : m * (a.toNat + 1) ≤ m * b.toNat := Nat.mul_le_mul (Nat.le_refl _) h1
      rw [Nat.mul_add] at this
      rw [decide_eq_true (by omega), decide_eq_true h1]
    · have h2 : b.toNat + 1 ≤ a.toNat := by omega
      have : m * (b.toNat + 1) ≤ m * a.toNat := Nat.mul_le_mul (Nat.le_refl _) h2
      rw [Nat.mul_add] at this
      rw [decide_eq_false (by omega), decide_eq_false (by omega)]

theorem sgn_lt (a b : Nat) (ha : a < 32) (hb : b < 32) : (sgn a < sgn b ↔ a < b) ∧ (sgn a = sgn b ↔ a = b) := by
  have h : ∀ a : Fin 32, ∀ b : Fin 32, (sgn a.1 < sgn b.1 ↔ a.1 < b.1) ∧ (sgn a.1 = sgn b.1 ↔ a.1 = b.1) := by decide +kernel
  exact h ⟨a, ha⟩ ⟨b, hb⟩

theorem down_less (v w k : Nat) : Op.bytesLess (down v k) (down w k) = decide (v % 32 ^ k < w % 32 ^ k) := by
  induction k with
  | zero => simp [down, Op.bytesLess, Nat.mod_one]
  | succ k ih =>
    simp only [down, Op.bytesLess, ih]
    rw [← sgn_mod (v / 32 ^ k), ← sgn_mod (w / 32 ^ k)]
    obtain ⟨h1, h2⟩ := sgn_lt (v / 32 ^ k % 32) (w / 32 ^ k % 32) (Nat.mod_lt _ (by decide)) (Nat.mod_lt _ (by decide))
    rw [Bool.eq_iff_iff]
    simp only [Bool.or_eq_true, Bool.and_eq_true, decide_eq_true_eq, beq_iff_eq, h1, h2]
    rw [Nat.pow_succ, Nat.mod_mul, Nat.mod_mul]
    have hv := Nat.mod_lt v (Nat.pow_pos (n := k) (show 0 < 32 by decide))
    have hw := Nat.mod_lt w (Nat.pow_pos (n := k) (show 0 < 32 by decide))
    obtain ⟨m, hm⟩ : ∃ m, 32 ^ k = m := ⟨_, rfl⟩
    rw [hm] at hv hw ⊢
    obtain ⟨x, hx⟩ : ∃ x, v / m % 32 = x := ⟨_, rfl⟩
    obtain ⟨y, hy⟩ : ∃ y, w / m % 32 = y := ⟨_, rfl⟩
    rw [hx, hy]
    constructor
    · rintro (h | ⟨h, h'⟩)
      · have : m * (x + 1) ≤ m * y := Nat.mul_le_mul (Nat.le_refl _) h
        rw [Nat.mul_add] at this; omega
      · subst h; omega
    · intro h
      rcases Nat.lt_trichotomy x y with h3 | h3 | h3
      · exact .inl h3
      · subst h3; exact .inr ⟨rfl, by omega⟩
      · have : m * (y + 1) ≤ m * x := Nat.mul_le_mul (Nat.le_refl _) h3
        rw [Nat.mul_add] at this; omega

theorem val_lt_lens (l : List UInt8) : val l < 32 ^ lens l.length := by
  refine Nat.lt_of_lt_of_le (val_lt l) ?_
  rw [show (256 : Nat) = 2 ^ 8 from rfl, show (32 : Nat) = 2 ^ 5 from rfl, ← Nat.pow_mul, ← Nat.pow_mul]
  exact Nat.pow_le_pow_right (by decide) (by unfold lens; omega)

theorem enc_less (p q : List UInt8) (h : p.length = q.length) : Op.bytesLess (enc p) (enc q) = decide (val p < val q) := by
  unfold enc
  rw [← h, down_less, Nat.mod_eq_of_lt (val_lt_lens p), Nat.mod_eq_of_lt (by rw [h]; exact val_lt_lens q)]

end Go.Proofs.Ytgbknccnigfniaa
