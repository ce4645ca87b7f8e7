/-
  BaseLens: how many signs bytes have: for every whole number the law answers true.
-/
import Derived.Test.YtgbknccnigfniaaAwake
set_option linter.unusedVariables false
set_option linter.unusedSimpArgs false
namespace Go.Proofs.Ytgbknccnigfniaa
open Go.RowKit Go.Proofs.YtgbknccnigfniaaW.PrintWords Go.Proofs.YtgbknccnigfniaaW.PrintLast Go.Proofs.YtgbknccnigfniaaW.PrintMore

theorem refLen_loop (n : Nat) (hn : n ≤ 1000000000) (d : Nat) : ∀ (k j : Nat), j ≤ lens n → lens n = j + d → d < k → 0 < n → PBaseEncodes.staddleref02_Len.l0 k (n : Int) (j : Int) = some ((lens n : Nat) : Int) := by
  induction d with
  | zero =>
    intro k j h0 h1 h2 h3
    obtain ⟨k, rfl⟩ : ∃ m, k = m + 1 := ⟨k - 1, by omega⟩
    simp only [PBaseEncodes.staddleref02_Len.l0]
    unfold lens at h1
    rw [if_pos (by omega), wrap64_id ((j : Int) * 5) (by omega) (by omega), wrap64_id ((n : Int) * 8) (by omega) (by omega), if_neg (by omega)]
    unfold lens; congr 2; omega
  | succ d ih =>
    intro k j h0 h1 h2 h3
    obtain ⟨k, rfl⟩ : ∃ m, k = m + 1 := ⟨k - 1, by omega⟩
    simp only [PBaseEncodes.staddleref02_Len.l0]
    have h4 := h1
    unfold lens at h4
    rw [if_pos (by omega), wrap64_id ((j : Int) * 5) (by omega) (by omega), wrap64_id ((n : Int) * 8) (by omega) (by omega), if_pos (by omega), wrap64_id ((j : Int) + 1) (by omega) (by omega)]
    exact ih k (j + 1) (by omega) (by omega) (by omega) h3

theorem refLen_f (n : Nat) (hn : n ≤ 1000000000) : ∃ k, PBaseEncodes.staddleref02_Len.f k (n : Int) = some ((lens n : Nat) : Int) := by
  by_cases h : n = 0
  · subst h; exact ⟨1, rfl⟩
  · exact ⟨lens n + 1, refLen_loop n hn (lens n) _ 0 (by omega) (by omega) (by omega) (by omega)⟩

theorem refLen_any (n : Nat) (w : World) (hn : n ≤ 1000000000) :
    Calls Try.prog 11 #[.int .i64 (n : Int)] w fun e w' => e = .returned (.int .i64 ((lens n : Nat) : Int)) ∧ Drawn0 w w' := by
  obtain ⟨k, hk⟩ := refLen_f n hn
  exact PBaseEncodes.staddleref02_Len.calls k _ _ w hk
theorem refLen_neg (a : Int) (w : World) (ha : a ≤ 0) : Calls Try.prog 11 #[.int .i64 a] w fun e w' => e = .returned (.int .i64 0) ∧ Drawn0 w w' := by
  refine PBaseEncodes.staddleref02_Len.calls 1 _ _ w ?_
  show (if a > 0 then _ else _) = _
  rw [if_neg (by omega)]
theorem len_neg (a : Int) (w : World) (ha : a ≤ 0) : Calls Try.prog 10 #[.int .i64 a] w fun e w' => e = .returned (.int .i64 0) ∧ Drawn0 w w' := by
  refine PBaseEncodes.base_Len.calls _ _ w ?_
  unfold PBaseEncodes.base_Len.f
  rw [if_pos ha]

theorem size_le {B : Nat} {w w' : World} (h : Below B w w') : w.heap.size ≤ w'.heap.size := h.size

set_option maxHeartbeats 400000 in
set_option maxRecDepth 100000 in
theorem walk_BaseLens (a0 : Int) (w0 : (Lit.int .i64 a0).wf = true) (w : World) :
    Calls Try.prog 3 #[.int .i64 a0] w fun e w' => e = .returned (.bool true) ∧ Below w.heap.size w w' := by
  by_cases hg : a0 > 100000
  · go_enter Try.func3, Try.ntmps3
    go_wp2_with fail
    refine (awake_any _).mono ?_
    rintro e w1 ⟨rfl, hb1⟩
    go_wp2_with fail
    refine (awake_any _).mono ?_
    rintro e w2 ⟨rfl, hb2⟩
    go_wp2
    go_ret
    exact ⟨rfl, hb1.trans (hb2.mono hb1.size)⟩
  · have hl : ∃ m : Nat, (∀ w, Calls Try.prog 10 #[.int .i64 a0] w fun e w' => e = .returned (.int .i64 ((m : Nat) : Int)) ∧ Drawn0 w w') ∧ (∀ w, Calls Try.prog 11 #[.int .i64 a0] w fun e w' => e = .returned (.int .i64 ((m : Nat) : Int)) ∧ Drawn0 w w') := by
      by_cases h0 : a0 ≤ 0
      · exact ⟨0, fun w => len_neg a0 w h0, fun w => refLen_neg a0 w h0⟩
      · obtain ⟨n, rfl⟩ : ∃ n : Nat, a0 = (n : Int) := ⟨a0.toNat, by omega⟩
        exact ⟨lens n, fun w => len_any n w (by omega), fun w => refLen_any n w (by omega)⟩
    obtain ⟨m, hm1, hm2⟩ := hl
    have HM1 := Lib.hid hm1
    have HM2 := Lib.hid hm2
    clear hm1 hm2
    go_enter Try.func3, Try.ntmps3
    go_wp2_with fail
    refine (awake_any _).mono ?_
    rintro e w1 ⟨rfl, hb1⟩
    go_wp2_with fail
    refine (HM1.out _).mono ?_
    rintro e w2 ⟨rfl, hd2⟩
    have hb2 := below_drawn hb1 hd2
    clear hd2
    go_wp2_with fail
    refine (HM2.out _).mono ?_
    rintro e w3 ⟨rfl, hd3⟩
    have hb3 := below_drawn hb2 hd3
    clear hd3
    go_wp2
    go_ret
    exact ⟨rfl, hb3⟩
end Go.Proofs.Ytgbknccnigfniaa
