/-
  root and prime: what they answer.
-/
import Derived.Test.YtnpmhbhnggdhcaaAbove
set_option linter.unusedVariables false
set_option linter.unusedSimpArgs false
namespace Go.Proofs.Ytnpmhbhnggdhcaa
open Go.RowKit

theorem rootL_le (p pow : Nat) : ∀ k lo hi, lo ≤ hi → rootL p pow k lo hi ≤ hi
  | 0, lo, hi, h => h
  | k + 1, lo, hi, h => by
    unfold rootL
    split
    · split
      · have := rootL_le p pow k lo (lo + (hi - lo) / 2) (by omega); omega
      · exact rootL_le p pow k _ hi (by omega)
    · exact h
theorem u_rt (pow p : Nat) : u (rt pow p) = ((rootN p pow % 4294967296 : Nat) : Int) := by
  unfold u rt
  rw [BitVec.toNat_ofNat]

set_option maxHeartbeats 400000 in
theorem root_any (p pow : Nat) (hp : pow = 2 ∨ pow = 3) (w : World) :
    Calls Try.prog 26 #[.int .u64 p, .int .i64 pow] w fun e w' => e = .returned (.int .u32 (u (rt pow p))) ∧ w' = w := by
  have HU := Lib.hid (u_rt pow p)
  have hA := fun m hm W => above_any m p pow hm hp W
  have HA := Lib.hid hA
  clear hA
  obtain ⟨R, hR⟩ : ∃ R, rootN p pow = R := ⟨_, rfl⟩
  have HR := Lib.hid hR
  generalize u (rt pow p) = U at *
  clear hR hp
  go_enter Try.func26, Try.ntmps26
  go_wp2_with fail
  go_loop [5, 6] (fun l h => ∃ lo hi k : Nat, lo ≤ hi ∧ hi ≤ 137438953472 ∧ hi - lo ≤ 2 ^ k ∧ Hid (rootL p pow k lo hi = R) ∧ l = .int .u64 lo ∧ h = .int .u64 hi) (fun l h => ((intOf h) - (intOf l)).toNat)
  case atStart => exact ⟨0, 137438953472, 37, by omega, by omega, by decide, HR, rfl, rfl⟩
  case round =>
    obtain ⟨lo, hi, k, h1, h2, h3, h4, rfl, rfl⟩ := hrel
    by_cases hc : 1 < hi - lo
    · obtain ⟨j, rfl, hs, hd1, hd2⟩ := rootL_step p pow k lo hi hc h3
      have hc' : 1 < (hi : Int) - lo := by omega
      have e0 : lo + (hi - lo) / 2 = (lo + hi) / 2 := by omega
      rw [e0] at hs hd1 hd2
      obtain ⟨m, hm⟩ : ∃ m, (lo + hi) / 2 = m := ⟨_, rfl⟩
      rw [hm] at hs hd1 hd2
      have hmm : lo < m ∧ m < hi := by omega
      have e1 : (lo : Int) + ((hi : Int) - lo) / 2 = (m : Int) := by omega
      have hx := HA.out m (by omega)
      have HS := Lib.hid (hs.symm.trans h4.out)
      have HE := Lib.hid e1
      obtain ⟨hm1, hm2⟩ := hmm
      clear hs e1 hm e0 h4 h3
      have HX := Lib.hid hx
      clear hx
      go_wp2_with fail
      try rw [HE.out]
      refine (HX.out _).mono ?_
      rintro e w1 ⟨rfl, rfl⟩
      by_cases ha : aboveN m p pow = true
      · have HS' := HS.out
        rw [if_pos ha] at HS'
        have HS2 := Lib.hid HS'
        clear HS HS'
        go_wp2
        go_round
        case rel => exact ⟨lo, m, j, by omega, by omega, hd1, HS2, rfl, rfl⟩
        case measure => simp [intOf]; omega
      · have ha : aboveN m p pow = false := by simpa using ha
        have HS' := HS.out
        rw [if_neg (by simp [ha])] at HS'
        have HS2 := Lib.hid HS'
        clear HS HS'
        go_wp2
        go_round
        case rel => exact ⟨m, hi, j, by omega, by omega, hd2, HS2, rfl, rfl⟩
        case measure => simp [intOf]; omega
    · have hc' : ¬ 1 < (hi : Int) - lo := by omega
      have e := h4.out
      rw [rootL_done p pow k lo hi hc] at e
      subst e
      have hz : IntKind.u32.wrap (lo : Int) = U := by
        rw [HU.out, HR.out]
        show (lo : Int) % 4294967296 = _
        omega
      go_wp2
      go_ret
      exact ⟨by first | rfl | rw [hz], rfl⟩
end Go.Proofs.Ytnpmhbhnggdhcaa
