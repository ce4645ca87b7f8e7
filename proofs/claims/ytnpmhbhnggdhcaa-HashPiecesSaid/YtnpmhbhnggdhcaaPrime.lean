/-
  prime: what it answers.
-/
import Derived.Test.YtnpmhbhnggdhcaaRoot
set_option linter.unusedVariables false
set_option linter.unusedSimpArgs false
namespace Go.Proofs.Ytnpmhbhnggdhcaa
open Go.RowKit

set_option maxHeartbeats 400000 in
theorem prime_any (p : Nat) (hp : p ≤ 400) (w : World) :
    Calls Try.prog 25 #[.int .i64 p] w fun e w' => e = .returned (.bool (primeN p)) ∧ w' = w := by
  obtain ⟨R, hR⟩ : ∃ R, primeN p = R := ⟨_, rfl⟩
  rw [hR]
  have HR := Lib.hid hR
  clear hR
  go_enter Try.func25, Try.ntmps25
  go_wp2_with fail
  go_loop [3] (fun x => ∃ d k : Nat, d + k = 22 ∧ 2 ≤ d ∧ Hid (primeL p k d = R) ∧ x = .int .i64 d) (fun x => 30 - (intOf x).toNat)
  case atStart => exact ⟨2, 20, by omega, by omega, HR, rfl⟩
  case round =>
    obtain ⟨d, k, h1, h2, h3, rfl⟩ := hrel
    have h22 : d ≤ 22 := by omega
    obtain ⟨q, hq⟩ : ∃ q, d * d = q := ⟨_, rfl⟩
    have hqI : (d : Int) * (d : Int) = (q : Int) := by rw [← hq]; exact (Int.natCast_mul d d).symm
    have hq1 : q ≤ 484 := by rw [← hq]; exact Nat.mul_le_mul h22 h22
    by_cases hc : q ≤ p
    · cases k with
      | zero =>
        have : d = 22 := by omega
        subst this
        omega
      | succ k =>
        obtain ⟨r, hr⟩ : ∃ r, p % d = r := ⟨_, rfl⟩
        have hrI : (p : Int) % (d : Int) = (r : Int) := by rw [← hr]; exact (Int.natCast_emod p d).symm
        have h3 := h3.out
        unfold primeL at h3
        rw [hq, if_pos hc, hr] at h3
        have H3 := Lib.hid h3
        have H1 := Lib.hid h1
        clear h3 h1 hr hq
        by_cases hz : r = 0
        · subst hz
          have e := H3.out
          rw [if_pos rfl] at e
          subst e
          clear H3
          go_wp2
          go_ret
          exact ⟨rfl, rfl⟩
        · have e := H3.out
          rw [if_neg hz] at e
          have H4 := Lib.hid e
          clear e H3
          have hz' : ((r : Int) == 0) = false := by rw [beq_eq_false_iff_ne]; omega
          go_wp2
          go_round
          case rel => exact ⟨d + 1, k, by have := H1.out; omega, by omega, H4, by go_num⟩
          case measure => simp [intOf]; omega
    · have h3 := h3.out
      have e : true = R := by
        rw [← h3]
        cases k with
        | zero => rfl
        | succ k => unfold primeL; rw [hq, if_neg hc]
      subst e
      clear h3 hq h1
      go_wp2
      go_ret
      exact ⟨rfl, rfl⟩
end Go.Proofs.Ytnpmhbhnggdhcaa
