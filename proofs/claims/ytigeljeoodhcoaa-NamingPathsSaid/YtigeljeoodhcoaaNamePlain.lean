/-
  Plain: which names there are: both functions answer by one plain function.
-/
import Derived.Test.YtigeljeoodhcoaaPNamingPathsx1
import Derived.Test.YtigeljeoodhcoaaPNamingPathsx2
import Derived.Test.YtigeljeoodhcoaaPlain
set_option linter.unusedVariables false
set_option linter.unusedSimpArgs false
namespace Go.Proofs.Ytigeljeoodhcoaa
open Go.RowKit Go.Proofs.YtigeljeoodhcoaaW.PrintWords Go.Proofs.YtigeljeoodhcoaaW.PrintLast Go.Proofs.YtigeljeoodhcoaaW.PrintMore

/-- May this sign stand there? -/
def okc (c : Int) (i : Nat) : Bool := decide (97 ≤ c ∧ c ≤ 122) || decide (65 ≤ c ∧ c ≤ 90) || decide (48 ≤ c ∧ c ≤ 57) || decide (c = 43) || decide (c = 45) || decide (c = 95) || decide (c = 63) || decide (c = 61) || (decide (c = 46) && decide (0 < i))
/-- May all signs from one on stand there? -/
def okFrom (s : ByteArray) : Nat → Nat → Bool
  | 0, _ => true
  | d + 1, i => okc (bt s (i : Int)) i && okFrom s d (i + 1)
def nameB (s : ByteArray) : Bool := okFrom s s.size 0 && decide (1 ≤ s.size) && decide (s.size ≤ 40)

theorem cls (c : Int) : c < 43 ∨ c = 43 ∨ c = 44 ∨ c = 45 ∨ c = 46 ∨ c = 47 ∨ (48 ≤ c ∧ c ≤ 57) ∨ (58 ≤ c ∧ c ≤ 60) ∨ c = 61 ∨ c = 62 ∨ c = 63 ∨ c = 64 ∨ (65 ≤ c ∧ c ≤ 90) ∨ (91 ≤ c ∧ c ≤ 94) ∨ c = 95 ∨ c = 96 ∨ (97 ≤ c ∧ c ≤ 122) ∨ 123 ≤ c := by omega
theorem okc_eq (c : Int) (i : Nat) : okc c i = decide ((97 ≤ c ∧ c ≤ 122) ∨ (65 ≤ c ∧ c ≤ 90) ∨ (48 ≤ c ∧ c ≤ 57) ∨ c = 43 ∨ c = 45 ∨ c = 95 ∨ c = 63 ∨ c = 61 ∨ (c = 46 ∧ 0 < i)) := by
  unfold okc; simp only [Bool.decide_or, Bool.decide_and, Bool.or_assoc]

set_option maxHeartbeats 4000000 in
theorem name_loop (s : ByteArray) (hs : s.size ≤ 140737488351232) (d : Nat) : ∀ (k i : Nat), s.size = i + d → 5 * d + 1 ≤ k →
    PNamingPaths.naming_Name.l0 k s (s.size : Int) (i : Int) = some (okFrom s d i && decide (1 ≤ s.size) && decide (s.size ≤ 40)) := by
  induction d with
  | zero =>
    intro k i h0 h1
    obtain ⟨k, rfl⟩ : ∃ m, k = m + 1 := ⟨k - 1, by omega⟩
    simp only [PNamingPaths.naming_Name.l0]
    rw [if_neg (by omega)]
    have hd : s.toList = s.data.toList := ByteArray.toList_eq s
    have hsl : s.data.toList.length = s.size := by rw [Array.length_toList]; rfl
    by_cases h : s.toList = []
    · rw [if_pos h]
      rw [hd] at h
      rw [h] at hsl
      simp at hsl
      simp [okFrom, ← hsl]
    · rw [if_neg h]
      have : 1 ≤ s.size := by
        rcases Nat.eq_zero_or_pos s.size with h2 | h2
        · rw [hd] at h
          exact absurd (List.eq_nil_of_length_eq_zero (by omega)) h
        · exact h2
      simp only [okFrom, Bool.true_and, decide_eq_true this]
      congr 2
      simp only [eq_iff_iff]
      omega
  | succ d ih =>
    intro k i h0 h1
    obtain ⟨k, rfl⟩ : ∃ m, k = m + 5 := ⟨k - 5, by omega⟩
    have e1 : wrap64 ((i : Int) + 1) = ((i + 1 : Nat) : Int) := by rw [wrap64_id _ (by omega) (by omega)]; omega
    have I0 := ih k (i + 1) (by omega) (by omega)
    have I1 := ih (k + 1) (i + 1) (by omega) (by omega)
    have I2 := ih (k + 2) (i + 1) (by omega) (by omega)
    have I3 := ih (k + 3) (i + 1) (by omega) (by omega)
    obtain ⟨c, hc⟩ : ∃ c, bt s (i : Int) = c := ⟨_, rfl⟩
    rw [show k + 5 = (k + 4) + 1 from rfl, PNamingPaths.naming_Name.l0]
    rw [if_pos (by omega), if_pos (by omega), if_pos (by omega), hc, okFrom, hc, okc_eq]
    simp only [PNamingPaths.naming_Name.j1, PNamingPaths.naming_Name.j2, PNamingPaths.naming_Name.j3, PNamingPaths.naming_Name.j4, e1]
    rcases Nat.eq_zero_or_pos i with hi0 | hi0 <;> rcases cls c with h | h | h | h | h | h | h | h | h | h | h | h | h | h | h | h | h | h
    all_goals simp (disch := omega) only [if_pos, if_neg, decide_eq_true_eq, beq_iff_eq, decide_eq_true, decide_eq_false, Bool.true_and, Bool.false_and, Bool.false_eq_true, if_false, if_true, I0, I1, I2, I3]

theorem name_f (s : ByteArray) (hs : s.size ≤ 140737488351232) : ∃ k, PNamingPaths.naming_Name.f k s = some (nameB s) :=
  ⟨5 * s.size + 1, name_loop s hs s.size _ 0 (by omega) (by omega)⟩

set_option maxHeartbeats 16000000 in
set_option maxRecDepth 100000 in
theorem refName_loop (s : ByteArray) (hs : s.size ≤ 140737488351232) (d : Nat) : ∀ (k i : Nat), s.size = i + d → d + 1 ≤ k →
    PNamingPaths.staddleref06_Name.l0 k s (i : Int) = some (okFrom s d i && decide (1 ≤ s.size) && decide (s.size ≤ 40)) := by
  induction d with
  | zero =>
    intro k i h0 h1
    obtain ⟨k, rfl⟩ : ∃ m, k = m + 1 := ⟨k - 1, by omega⟩
    rw [PNamingPaths.staddleref06_Name.l0, if_neg (by omega), okFrom]
    by_cases h : 1 ≤ s.size
    · by_cases h2 : s.size ≤ 40
      · simp (disch := omega) only [if_pos, if_neg, decide_eq_true, decide_eq_false, Bool.true_and]
      · simp (disch := omega) only [if_pos, if_neg, decide_eq_true, decide_eq_false, Bool.true_and]
    · simp (disch := omega) only [if_pos, if_neg, decide_eq_true, decide_eq_false, Bool.true_and, Bool.false_and]
  | succ d ih =>
    intro k i h0 h1
    obtain ⟨k, rfl⟩ : ∃ m, k = m + 1 := ⟨k - 1, by omega⟩
    have e1 : wrap64 ((i : Int) + 1) = ((i + 1 : Nat) : Int) := by rw [wrap64_id _ (by omega) (by omega)]; omega
    have I0 := ih k (i + 1) (by omega) (by omega)
    obtain ⟨c, hc⟩ : ∃ c, bt s (i : Int) = c := ⟨_, rfl⟩
    rw [PNamingPaths.staddleref06_Name.l0, if_pos (by omega), if_pos (by omega), hc, okFrom, hc, okc_eq, e1, I0]
    clear ih I0 e1 hc
    rcases Nat.eq_zero_or_pos i with hi0 | hi0 <;> rcases cls c with h | h | h | h | h | h | h | h | h | h | h | h | h | h | h | h | h | h
    all_goals simp (disch := omega) only [if_pos, if_neg, decide_eq_true_eq, beq_iff_eq, decide_eq_true, decide_eq_false, Bool.true_and, Bool.false_and, Bool.false_eq_true, if_false, if_true]
theorem refName_f (s : ByteArray) (hs : s.size ≤ 140737488351232) : ∃ k, PNamingPaths.staddleref06_Name.f k s = some (nameB s) :=
  ⟨s.size + 1, refName_loop s hs s.size _ 0 (by omega) (by omega)⟩

theorem name_any (s : ByteArray) (w : World) (hs : s.size ≤ 140737488351232) : Calls Try.prog 9 #[.string s] w fun e w' => e = .returned (.bool (nameB s)) ∧ Drawn0 w w' := by
  obtain ⟨k, hk⟩ := name_f s hs
  exact PNamingPaths.naming_Name.calls k s _ w hk
theorem refName_any (s : ByteArray) (w : World) (hs : s.size ≤ 140737488351232) : Calls Try.prog 10 #[.string s] w fun e w' => e = .returned (.bool (nameB s)) ∧ Drawn0 w w' := by
  obtain ⟨k, hk⟩ := refName_f s hs
  exact PNamingPaths.staddleref06_Name.calls k s _ w hk
end Go.Proofs.Ytigeljeoodhcoaa
