-- PRINTED BY print.sh 35421559b90ae4d0a3588c463048766b98c2df88dd9212a6774a882060cdf62d: not written by this session
import Derived.Test.YtigeljeoodhcoaaPNamingPathsx0
namespace Go.Proofs.Ytigeljeoodhcoaa.PNamingPaths
open Go.RowKit Go.Proofs.YtigeljeoodhcoaaW.PrintWords Go.Proofs.YtigeljeoodhcoaaW.PrintLast Go.Proofs.YtigeljeoodhcoaaW.PrintMore
attribute [local go_sem] max2_int min2_int max_two min_two max_three min_three max_four min_four   -- for this text's walks alone
set_option linter.unusedVariables false
set_option linter.unusedSimpArgs false

/-! ### staddleref06_Name: function 10 -/
def staddleref06_Name.l0 : Nat → ByteArray → Int → Option (Bool)
  | 0, _, _ => none
  | k + 1, x0, x3 => if x3 < (x0.size : Int) then (if 0 ≤ x3 then (if (bt x0 x3) ≥ 97 then (if (bt x0 x3) ≥ 65 then (if (bt x0 x3) ≥ 48 then (if (bt x0 x3) ≤ 57 then (if ((bt x0 x3) ≤ 122) then (staddleref06_Name.l0 k x0 (wrap64 (x3 + 1))) else (if ((bt x0 x3) ≤ 90) then (staddleref06_Name.l0 k x0 (wrap64 (x3 + 1))) else (staddleref06_Name.l0 k x0 (wrap64 (x3 + 1))))) else (if (bt x0 x3) = 43 then (if ((bt x0 x3) ≤ 122) then (staddleref06_Name.l0 k x0 (wrap64 (x3 + 1))) else (if ((bt x0 x3) ≤ 90) then (staddleref06_Name.l0 k x0 (wrap64 (x3 + 1))) else (staddleref06_Name.l0 k x0 (wrap64 (x3 + 1))))) else (if (bt x0 x3) = 45 then (if ((bt x0 x3) ≤ 122) then (staddleref06_Name.l0 k x0 (wrap64 (x3 + 1))) else (if ((bt x0 x3) ≤ 90) then (staddleref06_Name.l0 k x0 (wrap64 (x3 + 1))) else (staddleref06_Name.l0 k x0 (wrap64 (x3 + 1))))) else (if (bt x0 x3) = 95 then (if ((bt x0 x3) ≤ 122) then (staddleref06_Name.l0 k x0 (wrap64 (x3 + 1))) else (if ((bt x0 x3) ≤ 90) then (staddleref06_Name.l0 k x0 (wrap64 (x3 + 1))) else (staddleref06_Name.l0 k x0 (wrap64 (x3 + 1))))) else (if (bt x0 x3) = 63 then (if ((bt x0 x3) ≤ 122) then (staddleref06_Name.l0 k x0 (wrap64 (x3 + 1))) else (if ((bt x0 x3) ≤ 90) then (staddleref06_Name.l0 k x0 (wrap64 (x3 + 1))) else (staddleref06_Name.l0 k x0 (wrap64 (x3 + 1))))) else (if ((bt x0 x3) ≤ 122) then (staddleref06_Name.l0 k x0 (wrap64 (x3 + 1))) else (if ((bt x0 x3) ≤ 90) then (staddleref06_Name.l0 k x0 (wrap64 (x3 + 1))) else (if ((bt x0 x3) = 61) then (staddleref06_Name.l0 k x0 (wrap64 (x3 + 1))) else (if (bt x0 x3) = 46 then (if x3 = 0 then (some false) else (staddleref06_Name.l0 k x0 (wrap64 (x3 + 1)))) else (some false)))))))))) else (if (bt x0 x3) = 43 then (if ((bt x0 x3) ≤ 122) then (staddleref06_Name.l0 k x0 (wrap64 (x3 + 1))) else (if ((bt x0 x3) ≤ 90) then (staddleref06_Name.l0 k x0 (wrap64 (x3 + 1))) else (staddleref06_Name.l0 k x0 (wrap64 (x3 + 1))))) else (if (bt x0 x3) = 45 then (if ((bt x0 x3) ≤ 122) then (staddleref06_Name.l0 k x0 (wrap64 (x3 + 1))) else (if ((bt x0 x3) ≤ 90) then (staddleref06_Name.l0 k x0 (wrap64 (x3 + 1))) else (staddleref06_Name.l0 k x0 (wrap64 (x3 + 1))))) else (if (bt x0 x3) = 95 then (if ((bt x0 x3) ≤ 122) then (staddleref06_Name.l0 k x0 (wrap64 (x3 + 1))) else (if ((bt x0 x3) ≤ 90) then (staddleref06_Name.l0 k x0 (wrap64 (x3 + 1))) else (staddleref06_Name.l0 k x0 (wrap64 (x3 + 1))))) else (if (bt x0 x3) = 63 then (if ((bt x0 x3) ≤ 122) then (staddleref06_Name.l0 k x0 (wrap64 (x3 + 1))) else (if ((bt x0 x3) ≤ 90) then (staddleref06_Name.l0 k x0 (wrap64 (x3 + 1))) else (staddleref06_Name.l0 k x0 (wrap64 (x3 + 1))))) else (if ((bt x0 x3) ≤ 122) then (staddleref06_Name.l0 k x0 (wrap64 (x3 + 1))) else (if ((bt x0 x3) ≤ 90) then (staddleref06_Name.l0 k x0 (wrap64 (x3 + 1))) else (if ((bt x0 x3) = 61) then (staddleref06_Name.l0 k x0 (wrap64 (x3 + 1))) else (if (bt x0 x3) = 46 then (if x3 = 0 then (some false) else (staddleref06_Name.l0 k x0 (wrap64 (x3 + 1)))) else (some false)))))))))) else (if (bt x0 x3) ≥ 48 then (if (bt x0 x3) ≤ 57 then (if ((bt x0 x3) ≤ 122) then (staddleref06_Name.l0 k x0 (wrap64 (x3 + 1))) else (staddleref06_Name.l0 k x0 (wrap64 (x3 + 1)))) else (if (bt x0 x3) = 43 then (if ((bt x0 x3) ≤ 122) then (staddleref06_Name.l0 k x0 (wrap64 (x3 + 1))) else (staddleref06_Name.l0 k x0 (wrap64 (x3 + 1)))) else (if (bt x0 x3) = 45 then (if ((bt x0 x3) ≤ 122) then (staddleref06_Name.l0 k x0 (wrap64 (x3 + 1))) else (staddleref06_Name.l0 k x0 (wrap64 (x3 + 1)))) else (if (bt x0 x3) = 95 then (if ((bt x0 x3) ≤ 122) then (staddleref06_Name.l0 k x0 (wrap64 (x3 + 1))) else (staddleref06_Name.l0 k x0 (wrap64 (x3 + 1)))) else (if (bt x0 x3) = 63 then (if ((bt x0 x3) ≤ 122) then (staddleref06_Name.l0 k x0 (wrap64 (x3 + 1))) else (staddleref06_Name.l0 k x0 (wrap64 (x3 + 1)))) else (if ((bt x0 x3) ≤ 122) then (staddleref06_Name.l0 k x0 (wrap64 (x3 + 1))) else (if ((bt x0 x3) = 61) then (staddleref06_Name.l0 k x0 (wrap64 (x3 + 1))) else (if (bt x0 x3) = 46 then (if x3 = 0 then (some false) else (staddleref06_Name.l0 k x0 (wrap64 (x3 + 1)))) else (some false))))))))) else (if (bt x0 x3) = 43 then (if ((bt x0 x3) ≤ 122) then (staddleref06_Name.l0 k x0 (wrap64 (x3 + 1))) else (staddleref06_Name.l0 k x0 (wrap64 (x3 + 1)))) else (if (bt x0 x3) = 45 then (if ((bt x0 x3) ≤ 122) then (staddleref06_Name.l0 k x0 (wrap64 (x3 + 1))) else (staddleref06_Name.l0 k x0 (wrap64 (x3 + 1)))) else (if (bt x0 x3) = 95 then (if ((bt x0 x3) ≤ 122) then (staddleref06_Name.l0 k x0 (wrap64 (x3 + 1))) else (staddleref06_Name.l0 k x0 (wrap64 (x3 + 1)))) else (if (bt x0 x3) = 63 then (if ((bt x0 x3) ≤ 122) then (staddleref06_Name.l0 k x0 (wrap64 (x3 + 1))) else (staddleref06_Name.l0 k x0 (wrap64 (x3 + 1)))) else (if ((bt x0 x3) ≤ 122) then (staddleref06_Name.l0 k x0 (wrap64 (x3 + 1))) else (if ((bt x0 x3) = 61) then (staddleref06_Name.l0 k x0 (wrap64 (x3 + 1))) else (if (bt x0 x3) = 46 then (if x3 = 0 then (some false) else (staddleref06_Name.l0 k x0 (wrap64 (x3 + 1)))) else (some false)))))))))) else (if (bt x0 x3) ≥ 65 then (if (bt x0 x3) ≥ 48 then (if (bt x0 x3) ≤ 57 then (if ((bt x0 x3) ≤ 90) then (staddleref06_Name.l0 k x0 (wrap64 (x3 + 1))) else (staddleref06_Name.l0 k x0 (wrap64 (x3 + 1)))) else (if (bt x0 x3) = 43 then (if ((bt x0 x3) ≤ 90) then (staddleref06_Name.l0 k x0 (wrap64 (x3 + 1))) else (staddleref06_Name.l0 k x0 (wrap64 (x3 + 1)))) else (if (bt x0 x3) = 45 then (if ((bt x0 x3) ≤ 90) then (staddleref06_Name.l0 k x0 (wrap64 (x3 + 1))) else (staddleref06_Name.l0 k x0 (wrap64 (x3 + 1)))) else (if (bt x0 x3) = 95 then (if ((bt x0 x3) ≤ 90) then (staddleref06_Name.l0 k x0 (wrap64 (x3 + 1))) else (staddleref06_Name.l0 k x0 (wrap64 (x3 + 1)))) else (if (bt x0 x3) = 63 then (if ((bt x0 x3) ≤ 90) then (staddleref06_Name.l0 k x0 (wrap64 (x3 + 1))) else (staddleref06_Name.l0 k x0 (wrap64 (x3 + 1)))) else (if ((bt x0 x3) ≤ 90) then (staddleref06_Name.l0 k x0 (wrap64 (x3 + 1))) else (if ((bt x0 x3) = 61) then (staddleref06_Name.l0 k x0 (wrap64 (x3 + 1))) else (if (bt x0 x3) = 46 then (if x3 = 0 then (some false) else (staddleref06_Name.l0 k x0 (wrap64 (x3 + 1)))) else (some false))))))))) else (if (bt x0 x3) = 43 then (if ((bt x0 x3) ≤ 90) then (staddleref06_Name.l0 k x0 (wrap64 (x3 + 1))) else (staddleref06_Name.l0 k x0 (wrap64 (x3 + 1)))) else (if (bt x0 x3) = 45 then (if ((bt x0 x3) ≤ 90) then (staddleref06_Name.l0 k x0 (wrap64 (x3 + 1))) else (staddleref06_Name.l0 k x0 (wrap64 (x3 + 1)))) else (if (bt x0 x3) = 95 then (if ((bt x0 x3) ≤ 90) then (staddleref06_Name.l0 k x0 (wrap64 (x3 + 1))) else (staddleref06_Name.l0 k x0 (wrap64 (x3 + 1)))) else (if (bt x0 x3) = 63 then (if ((bt x0 x3) ≤ 90) then (staddleref06_Name.l0 k x0 (wrap64 (x3 + 1))) else (staddleref06_Name.l0 k x0 (wrap64 (x3 + 1)))) else (if ((bt x0 x3) ≤ 90) then (staddleref06_Name.l0 k x0 (wrap64 (x3 + 1))) else (if ((bt x0 x3) = 61) then (staddleref06_Name.l0 k x0 (wrap64 (x3 + 1))) else (if (bt x0 x3) = 46 then (if x3 = 0 then (some false) else (staddleref06_Name.l0 k x0 (wrap64 (x3 + 1)))) else (some false))))))))) else (if (bt x0 x3) ≥ 48 then (if (bt x0 x3) ≤ 57 then (staddleref06_Name.l0 k x0 (wrap64 (x3 + 1))) else (if (bt x0 x3) = 43 then (staddleref06_Name.l0 k x0 (wrap64 (x3 + 1))) else (if (bt x0 x3) = 45 then (staddleref06_Name.l0 k x0 (wrap64 (x3 + 1))) else (if (bt x0 x3) = 95 then (staddleref06_Name.l0 k x0 (wrap64 (x3 + 1))) else (if (bt x0 x3) = 63 then (staddleref06_Name.l0 k x0 (wrap64 (x3 + 1))) else (if ((bt x0 x3) = 61) then (staddleref06_Name.l0 k x0 (wrap64 (x3 + 1))) else (if (bt x0 x3) = 46 then (if x3 = 0 then (some false) else (staddleref06_Name.l0 k x0 (wrap64 (x3 + 1)))) else (some false)))))))) else (if (bt x0 x3) = 43 then (staddleref06_Name.l0 k x0 (wrap64 (x3 + 1))) else (if (bt x0 x3) = 45 then (staddleref06_Name.l0 k x0 (wrap64 (x3 + 1))) else (if (bt x0 x3) = 95 then (staddleref06_Name.l0 k x0 (wrap64 (x3 + 1))) else (if (bt x0 x3) = 63 then (staddleref06_Name.l0 k x0 (wrap64 (x3 + 1))) else (if ((bt x0 x3) = 61) then (staddleref06_Name.l0 k x0 (wrap64 (x3 + 1))) else (if (bt x0 x3) = 46 then (if x3 = 0 then (some false) else (staddleref06_Name.l0 k x0 (wrap64 (x3 + 1)))) else (some false)))))))))) else (none)) else (if (x0.size : Int) ≥ 1 then (some (decide ((x0.size : Int) ≤ 40))) else (some false))
def staddleref06_Name.f (k : Nat) (a0 : ByteArray) : Option (Bool) := staddleref06_Name.l0 k a0 0
theorem staddleref06_Name.mono_l : ∀ k, (∀ y0 y1, LeO (staddleref06_Name.l0 k y0 y1) (staddleref06_Name.l0 (k + 1) y0 y1))
  | 0 => fun _ _ r h => by simp [staddleref06_Name.l0] at h
  | k + 1 => by
    have ih0 := staddleref06_Name.mono_l k
    · intro y0 y1
      unfold staddleref06_Name.l0
      repeat' first
      | (with_reducible exact ih0 _ _)
      | (with_reducible exact LeO.refl _)
      | (with_reducible exact LeO.none _)
      | (with_reducible refine LeO.ite ?_ ?_)
      | (with_reducible refine LeO.bind ?_ (fun _ => ?_))
      | exact ih0 _ _
      | exact LeO.none _
      | refine LeO.ite ?_ ?_
      | refine LeO.bind ?_ (fun _ => ?_)
theorem staddleref06_Name.mono : ∀ a0 k, LeO (staddleref06_Name.f k a0) (staddleref06_Name.f (k + 1) a0) := by
  intro a0 k
  have ih0 := staddleref06_Name.mono_l k
  unfold staddleref06_Name.f
  repeat' first
      | (with_reducible exact ih0 _ _)
      | (with_reducible exact LeO.refl _)
      | (with_reducible exact LeO.none _)
      | (with_reducible refine LeO.ite ?_ ?_)
      | (with_reducible refine LeO.bind ?_ (fun _ => ?_))
      | exact ih0 _ _
      | exact LeO.none _
      | refine LeO.ite ?_ ?_
      | refine LeO.bind ?_ (fun _ => ?_)
set_option maxHeartbeats 8000000 in
set_option maxRecDepth 100000 in
theorem staddleref06_Name.calls (k : Nat) (a0 : ByteArray) (r : Bool) (w : World) (h : staddleref06_Name.f k a0 = some r) :
    Calls Try.prog 10 #[.string a0] w fun e w' => e = .returned (.bool r) ∧ Drawn0 w w' := by
  have H : (staddleref06_Name.l0 k a0 0) = some r := h
  clear h
  have H' := Aside0.mk H
  clear H
  go_enter Try.func10, Try.ntmps10
  go_wp2
  go_loopg [3] k (fun kq v3 w' => ∃ (x3_1 : Int), v3 = .int .i64 x3_1 ∧ Aside0 (staddleref06_Name.l0 kq a0 x3_1 = some r) ∧ Aside0 (kq ≤ k) ∧ Drawn0 w w')
  case atStart => exact ⟨(0), (by first | rfl | (simp; done) | (simp [*]; done)), H', ⟨Nat.le_refl _⟩, by repeat (first | exact Drawn0.refl _ | apply Drawn0.step)⟩
  case round =>
    clear H'
    try clear c1
    obtain ⟨x3_1, rfl, HA, HK1, ⟨m1, rfl⟩⟩ := hrel
    cases gk with
    | zero => exact absurd HA.out (by simp [staddleref06_Name.l0])
    | succ k1 =>
      have H := HA.out
      clear HA
      simp only [staddleref06_Name.l0] at H
      by_cases c2 : x3_1 < (a0.size : Int)
      · rw [if_pos c2] at H
        have c2b0 : decide (x3_1 < (a0.size : Int)) = true := decide_eq_true c2
        clear c2
        by_cases c3 : 0 ≤ x3_1
        · rw [if_pos c3] at H
          have c3b0 : decide (0 ≤ x3_1) = true := decide_eq_true c3
          clear c3
          by_cases c5 : (bt a0 x3_1) ≥ 97
          · rw [if_pos c5] at H
            have c5b0 : decide (97 ≤ (bt a0 x3_1)) = true := decide_eq_true c5
            clear c5
            by_cases c6 : (bt a0 x3_1) ≥ 65
            · rw [if_pos c6] at H
              have c6b0 : decide (65 ≤ (bt a0 x3_1)) = true := decide_eq_true c6
              clear c6
              by_cases c7 : (bt a0 x3_1) ≥ 48
              · rw [if_pos c7] at H
                have c7b0 : decide (48 ≤ (bt a0 x3_1)) = true := decide_eq_true c7
                clear c7
                by_cases c8 : (bt a0 x3_1) ≤ 57
                · rw [if_pos c8] at H
                  have c8b0 : decide ((bt a0 x3_1) ≤ 57) = true := decide_eq_true c8
                  clear c8
                  by_cases c9 : ((bt a0 x3_1) ≤ 122)
                  · rw [if_pos c9] at H
                    have c9b0 : decide ((bt a0 x3_1) ≤ 122) = true := decide_eq_true c9
                    clear c9
                    have H' := Aside0.mk H
                    clear H
                    have p4 : 0 ≤ (x3_1 : Int) := of_decide_eq_true (by first | (with_reducible assumption) | assumption)
                    have q4 : x3_1 < (a0.size : Int) := of_decide_eq_true (by first | (with_reducible assumption) | assumption)
                    have hx4 := bt_at a0 x3_1
                    replace p4 := eq_true p4
                    replace q4 := eq_true q4
                    go_wp2
                    go_roundg k1
                    case measure => have := HK1.out; omega
                    case rel => exact ⟨(wrap64 (x3_1 + 1)), (by first | rfl | (simp; done) | (simp [*]; done)), H', ⟨by have := HK1.out; omega⟩, by repeat (first | exact Drawn0.refl _ | apply Drawn0.step)⟩
                  · rw [if_neg c9] at H
                    have c9b0 : decide ((bt a0 x3_1) ≤ 122) = false := decide_eq_false c9
                    clear c9
                    by_cases c10 : ((bt a0 x3_1) ≤ 90)
                    · rw [if_pos c10] at H
                      have c10b0 : decide ((bt a0 x3_1) ≤ 90) = true := decide_eq_true c10
                      clear c10
                      have H' := Aside0.mk H
                      clear H
                      have p4 : 0 ≤ (x3_1 : Int) := of_decide_eq_true (by first | (with_reducible assumption) | assumption)
                      have q4 : x3_1 < (a0.size : Int) := of_decide_eq_true (by first | (with_reducible assumption) | assumption)
                      have hx4 := bt_at a0 x3_1
                      replace p4 := eq_true p4
                      replace q4 := eq_true q4
                      go_wp2
                      go_roundg k1
                      case measure => have := HK1.out; omega
                      case rel => exact ⟨(wrap64 (x3_1 + 1)), (by first | rfl | (simp; done) | (simp [*]; done)), H', ⟨by have := HK1.out; omega⟩, by repeat (first | exact Drawn0.refl _ | apply Drawn0.step)⟩
                    · rw [if_neg c10] at H
                      have c10b0 : decide ((bt a0 x3_1) ≤ 90) = false := decide_eq_false c10
                      clear c10
                      have H' := Aside0.mk H
                      clear H
                      have p4 : 0 ≤ (x3_1 : Int) := of_decide_eq_true (by first | (with_reducible assumption) | assumption)
                      have q4 : x3_1 < (a0.size : Int) := of_decide_eq_true (by first | (with_reducible assumption) | assumption)
                      have hx4 := bt_at a0 x3_1
                      replace p4 := eq_true p4
                      replace q4 := eq_true q4
                      go_wp2
                      go_roundg k1
                      case measure => have := HK1.out; omega
                      case rel => exact ⟨(wrap64 (x3_1 + 1)), (by first | rfl | (simp; done) | (simp [*]; done)), H', ⟨by have := HK1.out; omega⟩, by repeat (first | exact Drawn0.refl _ | apply Drawn0.step)⟩
                · rw [if_neg c8] at H
                  have c8b0 : decide ((bt a0 x3_1) ≤ 57) = false := decide_eq_false c8
                  clear c8
                  by_cases c11 : (bt a0 x3_1) = 43
                  · rw [if_pos c11] at H
                    have c11b0 : ((bt a0 x3_1) == 43) = true := beq_iff_eq.mpr c11
                    have c11b1 : ((bt a0 x3_1) != 43) = false := bne_eq_false_iff_eq.mpr c11
                    clear c11
                    by_cases c12 : ((bt a0 x3_1) ≤ 122)
                    · rw [if_pos c12] at H
                      have c12b0 : decide ((bt a0 x3_1) ≤ 122) = true := decide_eq_true c12
                      clear c12
                      have H' := Aside0.mk H
                      clear H
                      have p4 : 0 ≤ (x3_1 : Int) := of_decide_eq_true (by first | (with_reducible assumption) | assumption)
                      have q4 : x3_1 < (a0.size : Int) := of_decide_eq_true (by first | (with_reducible assumption) | assumption)
                      have hx4 := bt_at a0 x3_1
                      replace p4 := eq_true p4
                      replace q4 := eq_true q4
                      go_wp2
                      go_roundg k1
                      case measure => have := HK1.out; omega
                      case rel => exact ⟨(wrap64 (x3_1 + 1)), (by first | rfl | (simp; done) | (simp [*]; done)), H', ⟨by have := HK1.out; omega⟩, by repeat (first | exact Drawn0.refl _ | apply Drawn0.step)⟩
                    · rw [if_neg c12] at H
                      have c12b0 : decide ((bt a0 x3_1) ≤ 122) = false := decide_eq_false c12
                      clear c12
                      by_cases c13 : ((bt a0 x3_1) ≤ 90)
                      · rw [if_pos c13] at H
                        have c13b0 : decide ((bt a0 x3_1) ≤ 90) = true := decide_eq_true c13
                        clear c13
                        have H' := Aside0.mk H
                        clear H
                        have p4 : 0 ≤ (x3_1 : Int) := of_decide_eq_true (by first | (with_reducible assumption) | assumption)
                        have q4 : x3_1 < (a0.size : Int) := of_decide_eq_true (by first | (with_reducible assumption) | assumption)
                        have hx4 := bt_at a0 x3_1
                        replace p4 := eq_true p4
                        replace q4 := eq_true q4
                        go_wp2
                        go_roundg k1
                        case measure => have := HK1.out; omega
                        case rel => exact ⟨(wrap64 (x3_1 + 1)), (by first | rfl | (simp; done) | (simp [*]; done)), H', ⟨by have := HK1.out; omega⟩, by repeat (first | exact Drawn0.refl _ | apply Drawn0.step)⟩
                      · rw [if_neg c13] at H
                        have c13b0 : decide ((bt a0 x3_1) ≤ 90) = false := decide_eq_false c13
                        clear c13
                        have H' := Aside0.mk H
                        clear H
                        have p4 : 0 ≤ (x3_1 : Int) := of_decide_eq_true (by first | (with_reducible assumption) | assumption)
                        have q4 : x3_1 < (a0.size : Int) := of_decide_eq_true (by first | (with_reducible assumption) | assumption)
                        have hx4 := bt_at a0 x3_1
                        replace p4 := eq_true p4
                        replace q4 := eq_true q4
                        go_wp2
                        go_roundg k1
                        case measure => have := HK1.out; omega
                        case rel => exact ⟨(wrap64 (x3_1 + 1)), (by first | rfl | (simp; done) | (simp [*]; done)), H', ⟨by have := HK1.out; omega⟩, by repeat (first | exact Drawn0.refl _ | apply Drawn0.step)⟩
                  · rw [if_neg c11] at H
                    have c11b0 : ((bt a0 x3_1) == 43) = false := beq_eq_false_iff_ne.mpr c11
                    have c11b1 : ((bt a0 x3_1) != 43) = true := bne_iff_ne.mpr c11
                    by_cases c14 : (bt a0 x3_1) = 45
                    · rw [if_pos c14] at H
                      have c14b0 : ((bt a0 x3_1) == 45) = true := beq_iff_eq.mpr c14
                      have c14b1 : ((bt a0 x3_1) != 45) = false := bne_eq_false_iff_eq.mpr c14
                      clear c14
                      by_cases c15 : ((bt a0 x3_1) ≤ 122)
                      · rw [if_pos c15] at H
                        have c15b0 : decide ((bt a0 x3_1) ≤ 122) = true := decide_eq_true c15
                        clear c15
                        have H' := Aside0.mk H
                        clear H
                        have p4 : 0 ≤ (x3_1 : Int) := of_decide_eq_true (by first | (with_reducible assumption) | assumption)
                        have q4 : x3_1 < (a0.size : Int) := of_decide_eq_true (by first | (with_reducible assumption) | assumption)
                        have hx4 := bt_at a0 x3_1
                        replace p4 := eq_true p4
                        replace q4 := eq_true q4
                        go_wp2
                        go_roundg k1
                        case measure => have := HK1.out; omega
                        case rel => exact ⟨(wrap64 (x3_1 + 1)), (by first | rfl | (simp; done) | (simp [*]; done)), H', ⟨by have := HK1.out; omega⟩, by repeat (first | exact Drawn0.refl _ | apply Drawn0.step)⟩
                      · rw [if_neg c15] at H
                        have c15b0 : decide ((bt a0 x3_1) ≤ 122) = false := decide_eq_false c15
                        clear c15
                        by_cases c16 : ((bt a0 x3_1) ≤ 90)
                        · rw [if_pos c16] at H
                          have c16b0 : decide ((bt a0 x3_1) ≤ 90) = true := decide_eq_true c16
                          clear c16
                          have H' := Aside0.mk H
                          clear H
                          have p4 : 0 ≤ (x3_1 : Int) := of_decide_eq_true (by first | (with_reducible assumption) | assumption)
                          have q4 : x3_1 < (a0.size : Int) := of_decide_eq_true (by first | (with_reducible assumption) | assumption)
                          have hx4 := bt_at a0 x3_1
                          replace p4 := eq_true p4
                          replace q4 := eq_true q4
                          go_wp2
                          go_roundg k1
                          case measure => have := HK1.out; omega
                          case rel => exact ⟨(wrap64 (x3_1 + 1)), (by first | rfl | (simp; done) | (simp [*]; done)), H', ⟨by have := HK1.out; omega⟩, by repeat (first | exact Drawn0.refl _ | apply Drawn0.step)⟩
                        · rw [if_neg c16] at H
                          have c16b0 : decide ((bt a0 x3_1) ≤ 90) = false := decide_eq_false c16
                          clear c16
                          have H' := Aside0.mk H
                          clear H
                          have p4 : 0 ≤ (x3_1 : Int) := of_decide_eq_true (by first | (with_reducible assumption) | assumption)
                          have q4 : x3_1 < (a0.size : Int) := of_decide_eq_true (by first | (with_reducible assumption) | assumption)
                          have hx4 := bt_at a0 x3_1
                          replace p4 := eq_true p4
                          replace q4 := eq_true q4
                          go_wp2
                          go_roundg k1
                          case measure => have := HK1.out; omega
                          case rel => exact ⟨(wrap64 (x3_1 + 1)), (by first | rfl | (simp; done) | (simp [*]; done)), H', ⟨by have := HK1.out; omega⟩, by repeat (first | exact Drawn0.refl _ | apply Drawn0.step)⟩
                    · rw [if_neg c14] at H
                      have c14b0 : ((bt a0 x3_1) == 45) = false := beq_eq_false_iff_ne.mpr c14
                      have c14b1 : ((bt a0 x3_1) != 45) = true := bne_iff_ne.mpr c14
                      by_cases c17 : (bt a0 x3_1) = 95
                      · rw [if_pos c17] at H
                        have c17b0 : ((bt a0 x3_1) == 95) = true := beq_iff_eq.mpr c17
                        have c17b1 : ((bt a0 x3_1) != 95) = false := bne_eq_false_iff_eq.mpr c17
                        clear c17
                        by_cases c18 : ((bt a0 x3_1) ≤ 122)
                        · rw [if_pos c18] at H
                          have c18b0 : decide ((bt a0 x3_1) ≤ 122) = true := decide_eq_true c18
                          clear c18
                          have H' := Aside0.mk H
                          clear H
                          have p4 : 0 ≤ (x3_1 : Int) := of_decide_eq_true (by first | (with_reducible assumption) | assumption)
                          have q4 : x3_1 < (a0.size : Int) := of_decide_eq_true (by first | (with_reducible assumption) | assumption)
                          have hx4 := bt_at a0 x3_1
                          replace p4 := eq_true p4
                          replace q4 := eq_true q4
                          go_wp2
                          go_roundg k1
                          case measure => have := HK1.out; omega
                          case rel => exact ⟨(wrap64 (x3_1 + 1)), (by first | rfl | (simp; done) | (simp [*]; done)), H', ⟨by have := HK1.out; omega⟩, by repeat (first | exact Drawn0.refl _ | apply Drawn0.step)⟩
                        · rw [if_neg c18] at H
                          have c18b0 : decide ((bt a0 x3_1) ≤ 122) = false := decide_eq_false c18
                          clear c18
                          by_cases c19 : ((bt a0 x3_1) ≤ 90)
                          · rw [if_pos c19] at H
                            have c19b0 : decide ((bt a0 x3_1) ≤ 90) = true := decide_eq_true c19
                            clear c19
                            have H' := Aside0.mk H
                            clear H
                            have p4 : 0 ≤ (x3_1 : Int) := of_decide_eq_true (by first | (with_reducible assumption) | assumption)
                            have q4 : x3_1 < (a0.size : Int) := of_decide_eq_true (by first | (with_reducible assumption) | assumption)
                            have hx4 := bt_at a0 x3_1
                            replace p4 := eq_true p4
                            replace q4 := eq_true q4
                            go_wp2
                            go_roundg k1
                            case measure => have := HK1.out; omega
                            case rel => exact ⟨(wrap64 (x3_1 + 1)), (by first | rfl | (simp; done) | (simp [*]; done)), H', ⟨by have := HK1.out; omega⟩, by repeat (first | exact Drawn0.refl _ | apply Drawn0.step)⟩
                          · rw [if_neg c19] at H
                            have c19b0 : decide ((bt a0 x3_1) ≤ 90) = false := decide_eq_false c19
                            clear c19
                            have H' := Aside0.mk H
                            clear H
                            have p4 : 0 ≤ (x3_1 : Int) := of_decide_eq_true (by first | (with_reducible assumption) | assumption)
                            have q4 : x3_1 < (a0.size : Int) := of_decide_eq_true (by first | (with_reducible assumption) | assumption)
                            have hx4 := bt_at a0 x3_1
                            replace p4 := eq_true p4
                            replace q4 := eq_true q4
                            go_wp2
                            go_roundg k1
                            case measure => have := HK1.out; omega
                            case rel => exact ⟨(wrap64 (x3_1 + 1)), (by first | rfl | (simp; done) | (simp [*]; done)), H', ⟨by have := HK1.out; omega⟩, by repeat (first | exact Drawn0.refl _ | apply Drawn0.step)⟩
                      · rw [if_neg c17] at H
                        have c17b0 : ((bt a0 x3_1) == 95) = false := beq_eq_false_iff_ne.mpr c17
                        have c17b1 : ((bt a0 x3_1) != 95) = true := bne_iff_ne.mpr c17
                        by_cases c20 : (bt a0 x3_1) = 63
                        · rw [if_pos c20] at H
                          have c20b0 : ((bt a0 x3_1) == 63) = true := beq_iff_eq.mpr c20
                          have c20b1 : ((bt a0 x3_1) != 63) = false := bne_eq_false_iff_eq.mpr c20
                          clear c20
                          by_cases c21 : ((bt a0 x3_1) ≤ 122)
                          · rw [if_pos c21] at H
                            have c21b0 : decide ((bt a0 x3_1) ≤ 122) = true := decide_eq_true c21
                            clear c21
                            have H' := Aside0.mk H
                            clear H
                            have p4 : 0 ≤ (x3_1 : Int) := of_decide_eq_true (by first | (with_reducible assumption) | assumption)
                            have q4 : x3_1 < (a0.size : Int) := of_decide_eq_true (by first | (with_reducible assumption) | assumption)
                            have hx4 := bt_at a0 x3_1
                            replace p4 := eq_true p4
                            replace q4 := eq_true q4
                            go_wp2
                            go_roundg k1
                            case measure => have := HK1.out; omega
                            case rel => exact ⟨(wrap64 (x3_1 + 1)), (by first | rfl | (simp; done) | (simp [*]; done)), H', ⟨by have := HK1.out; omega⟩, by repeat (first | exact Drawn0.refl _ | apply Drawn0.step)⟩
                          · rw [if_neg c21] at H
                            have c21b0 : decide ((bt a0 x3_1) ≤ 122) = false := decide_eq_false c21
                            clear c21
                            by_cases c22 : ((bt a0 x3_1) ≤ 90)
                            · rw [if_pos c22] at H
                              have c22b0 : decide ((bt a0 x3_1) ≤ 90) = true := decide_eq_true c22
                              clear c22
                              have H' := Aside0.mk H
                              clear H
                              have p4 : 0 ≤ (x3_1 : Int) := of_decide_eq_true (by first | (with_reducible assumption) | assumption)
                              have q4 : x3_1 < (a0.size : Int) := of_decide_eq_true (by first | (with_reducible assumption) | assumption)
                              have hx4 := bt_at a0 x3_1
                              replace p4 := eq_true p4
                              replace q4 := eq_true q4
                              go_wp2
                              go_roundg k1
                              case measure => have := HK1.out; omega
                              case rel => exact ⟨(wrap64 (x3_1 + 1)), (by first | rfl | (simp; done) | (simp [*]; done)), H', ⟨by have := HK1.out; omega⟩, by repeat (first | exact Drawn0.refl _ | apply Drawn0.step)⟩
                            · rw [if_neg c22] at H
                              have c22b0 : decide ((bt a0 x3_1) ≤ 90) = false := decide_eq_false c22
                              clear c22
                              have H' := Aside0.mk H
                              clear H
                              have p4 : 0 ≤ (x3_1 : Int) := of_decide_eq_true (by first | (with_reducible assumption) | assumption)
                              have q4 : x3_1 < (a0.size : Int) := of_decide_eq_true (by first | (with_reducible assumption) | assumption)
                              have hx4 := bt_at a0 x3_1
                              replace p4 := eq_true p4
                              replace q4 := eq_true q4
                              go_wp2
                              go_roundg k1
                              case measure => have := HK1.out; omega
                              case rel => exact ⟨(wrap64 (x3_1 + 1)), (by first | rfl | (simp; done) | (simp [*]; done)), H', ⟨by have := HK1.out; omega⟩, by repeat (first | exact Drawn0.refl _ | apply Drawn0.step)⟩
                        · rw [if_neg c20] at H
                          have c20b0 : ((bt a0 x3_1) == 63) = false := beq_eq_false_iff_ne.mpr c20
                          have c20b1 : ((bt a0 x3_1) != 63) = true := bne_iff_ne.mpr c20
                          by_cases c23 : ((bt a0 x3_1) ≤ 122)
                          · rw [if_pos c23] at H
                            have c23b0 : decide ((bt a0 x3_1) ≤ 122) = true := decide_eq_true c23
                            clear c23
                            have H' := Aside0.mk H
                            clear H
                            have p4 : 0 ≤ (x3_1 : Int) := of_decide_eq_true (by first | (with_reducible assumption) | assumption)
                            have q4 : x3_1 < (a0.size : Int) := of_decide_eq_true (by first | (with_reducible assumption) | assumption)
                            have hx4 := bt_at a0 x3_1
                            replace p4 := eq_true p4
                            replace q4 := eq_true q4
                            go_wp2
                            go_roundg k1
                            case measure => have := HK1.out; omega
                            case rel => exact ⟨(wrap64 (x3_1 + 1)), (by first | rfl | (simp; done) | (simp [*]; done)), H', ⟨by have := HK1.out; omega⟩, by repeat (first | exact Drawn0.refl _ | apply Drawn0.step)⟩
                          · rw [if_neg c23] at H
                            have c23b0 : decide ((bt a0 x3_1) ≤ 122) = false := decide_eq_false c23
                            clear c23
                            by_cases c24 : ((bt a0 x3_1) ≤ 90)
                            · rw [if_pos c24] at H
                              have c24b0 : decide ((bt a0 x3_1) ≤ 90) = true := decide_eq_true c24
                              clear c24
                              have H' := Aside0.mk H
                              clear H
                              have p4 : 0 ≤ (x3_1 : Int) := of_decide_eq_true (by first | (with_reducible assumption) | assumption)
                              have q4 : x3_1 < (a0.size : Int) := of_decide_eq_true (by first | (with_reducible assumption) | assumption)
                              have hx4 := bt_at a0 x3_1
                              replace p4 := eq_true p4
                              replace q4 := eq_true q4
                              go_wp2
                              go_roundg k1
                              case measure => have := HK1.out; omega
                              case rel => exact ⟨(wrap64 (x3_1 + 1)), (by first | rfl | (simp; done) | (simp [*]; done)), H', ⟨by have := HK1.out; omega⟩, by repeat (first | exact Drawn0.refl _ | apply Drawn0.step)⟩
                            · rw [if_neg c24] at H
                              have c24b0 : decide ((bt a0 x3_1) ≤ 90) = false := decide_eq_false c24
                              clear c24
                              by_cases c25 : ((bt a0 x3_1) = 61)
                              · rw [if_pos c25] at H
                                have c25b0 : ((bt a0 x3_1) == 61) = true := beq_iff_eq.mpr c25
                                have c25b1 : ((bt a0 x3_1) != 61) = false := bne_eq_false_iff_eq.mpr c25
                                clear c25
                                have H' := Aside0.mk H
                                clear H
                                have p4 : 0 ≤ (x3_1 : Int) := of_decide_eq_true (by first | (with_reducible assumption) | assumption)
                                have q4 : x3_1 < (a0.size : Int) := of_decide_eq_true (by first | (with_reducible assumption) | assumption)
                                have hx4 := bt_at a0 x3_1
                                replace p4 := eq_true p4
                                replace q4 := eq_true q4
                                go_wp2
                                go_roundg k1
                                case measure => have := HK1.out; omega
                                case rel => exact ⟨(wrap64 (x3_1 + 1)), (by first | rfl | (simp; done) | (simp [*]; done)), H', ⟨by have := HK1.out; omega⟩, by repeat (first | exact Drawn0.refl _ | apply Drawn0.step)⟩
                              · rw [if_neg c25] at H
                                have c25b0 : ((bt a0 x3_1) == 61) = false := beq_eq_false_iff_ne.mpr c25
                                have c25b1 : ((bt a0 x3_1) != 61) = true := bne_iff_ne.mpr c25
                                by_cases c26 : (bt a0 x3_1) = 46
                                · rw [if_pos c26] at H
                                  have c26b0 : ((bt a0 x3_1) == 46) = true := beq_iff_eq.mpr c26
                                  have c26b1 : ((bt a0 x3_1) != 46) = false := bne_eq_false_iff_eq.mpr c26
                                  clear c26
                                  by_cases c27 : x3_1 = 0
                                  · rw [if_pos c27] at H
                                    have c27b0 : (x3_1 == 0) = true := beq_iff_eq.mpr c27
                                    have c27b1 : (x3_1 != 0) = false := bne_eq_false_iff_eq.mpr c27
                                    clear c27
                                    obtain rfl := Option.some.inj H
                                    have p4 : 0 ≤ (x3_1 : Int) := of_decide_eq_true (by first | (with_reducible assumption) | assumption)
                                    have q4 : x3_1 < (a0.size : Int) := of_decide_eq_true (by first | (with_reducible assumption) | assumption)
                                    have hx4 := bt_at a0 x3_1
                                    replace p4 := eq_true p4
                                    replace q4 := eq_true q4
                                    go_wp2
                                    go_ret
                                    exact ⟨by first | rfl | (simp; done) | (simp [*]; done), by repeat (first | exact Drawn0.refl _ | apply Drawn0.step)⟩
                                  · rw [if_neg c27] at H
                                    have c27b0 : (x3_1 == 0) = false := beq_eq_false_iff_ne.mpr c27
                                    have c27b1 : (x3_1 != 0) = true := bne_iff_ne.mpr c27
                                    have H' := Aside0.mk H
                                    clear H
                                    have p4 : 0 ≤ (x3_1 : Int) := of_decide_eq_true (by first | (with_reducible assumption) | assumption)
                                    have q4 : x3_1 < (a0.size : Int) := of_decide_eq_true (by first | (with_reducible assumption) | assumption)
                                    have hx4 := bt_at a0 x3_1
                                    replace p4 := eq_true p4
                                    replace q4 := eq_true q4
                                    go_wp2
                                    go_roundg k1
                                    case measure => have := HK1.out; omega
                                    case rel => exact ⟨(wrap64 (x3_1 + 1)), (by first | rfl | (simp; done) | (simp [*]; done)), H', ⟨by have := HK1.out; omega⟩, by repeat (first | exact Drawn0.refl _ | apply Drawn0.step)⟩
                                · rw [if_neg c26] at H
                                  have c26b0 : ((bt a0 x3_1) == 46) = false := beq_eq_false_iff_ne.mpr c26
                                  have c26b1 : ((bt a0 x3_1) != 46) = true := bne_iff_ne.mpr c26
                                  obtain rfl := Option.some.inj H
                                  have p4 : 0 ≤ (x3_1 : Int) := of_decide_eq_true (by first | (with_reducible assumption) | assumption)
                                  have q4 : x3_1 < (a0.size : Int) := of_decide_eq_true (by first | (with_reducible assumption) | assumption)
                                  have hx4 := bt_at a0 x3_1
                                  replace p4 := eq_true p4
                                  replace q4 := eq_true q4
                                  go_wp2
                                  go_ret
                                  exact ⟨by first | rfl | (simp; done) | (simp [*]; done), by repeat (first | exact Drawn0.refl _ | apply Drawn0.step)⟩
              · rw [if_neg c7] at H
                have c7b0 : decide (48 ≤ (bt a0 x3_1)) = false := decide_eq_false c7
                clear c7
                by_cases c28 : (bt a0 x3_1) = 43
                · rw [if_pos c28] at H
                  have c28b0 : ((bt a0 x3_1) == 43) = true := beq_iff_eq.mpr c28
                  have c28b1 : ((bt a0 x3_1) != 43) = false := bne_eq_false_iff_eq.mpr c28
                  clear c28
                  by_cases c29 : ((bt a0 x3_1) ≤ 122)
                  · rw [if_pos c29] at H
                    have c29b0 : decide ((bt a0 x3_1) ≤ 122) = true := decide_eq_true c29
                    clear c29
                    have H' := Aside0.mk H
                    clear H
                    have p4 : 0 ≤ (x3_1 : Int) := of_decide_eq_true (by first | (with_reducible assumption) | assumption)
                    have q4 : x3_1 < (a0.size : Int) := of_decide_eq_true (by first | (with_reducible assumption) | assumption)
                    have hx4 := bt_at a0 x3_1
                    replace p4 := eq_true p4
                    replace q4 := eq_true q4
                    go_wp2
                    go_roundg k1
                    case measure => have := HK1.out; omega
                    case rel => exact ⟨(wrap64 (x3_1 + 1)), (by first | rfl | (simp; done) | (simp [*]; done)), H', ⟨by have := HK1.out; omega⟩, by repeat (first | exact Drawn0.refl _ | apply Drawn0.step)⟩
                  · rw [if_neg c29] at H
                    have c29b0 : decide ((bt a0 x3_1) ≤ 122) = false := decide_eq_false c29
                    clear c29
                    by_cases c30 : ((bt a0 x3_1) ≤ 90)
                    · rw [if_pos c30] at H
                      have c30b0 : decide ((bt a0 x3_1) ≤ 90) = true := decide_eq_true c30
                      clear c30
                      have H' := Aside0.mk H
                      clear H
                      have p4 : 0 ≤ (x3_1 : Int) := of_decide_eq_true (by first | (with_reducible assumption) | assumption)
                      have q4 : x3_1 < (a0.size : Int) := of_decide_eq_true (by first | (with_reducible assumption) | assumption)
                      have hx4 := bt_at a0 x3_1
                      replace p4 := eq_true p4
                      replace q4 := eq_true q4
                      go_wp2
                      go_roundg k1
                      case measure => have := HK1.out; omega
                      case rel => exact ⟨(wrap64 (x3_1 + 1)), (by first | rfl | (simp; done) | (simp [*]; done)), H', ⟨by have := HK1.out; omega⟩, by repeat (first | exact Drawn0.refl _ | apply Drawn0.step)⟩
                    · rw [if_neg c30] at H
                      have c30b0 : decide ((bt a0 x3_1) ≤ 90) = false := decide_eq_false c30
                      clear c30
                      have H' := Aside0.mk H
                      clear H
                      have p4 : 0 ≤ (x3_1 : Int) := of_decide_eq_true (by first | (with_reducible assumption) | assumption)
                      have q4 : x3_1 < (a0.size : Int) := of_decide_eq_true (by first | (with_reducible assumption) | assumption)
                      have hx4 := bt_at a0 x3_1
                      replace p4 := eq_true p4
                      replace q4 := eq_true q4
                      go_wp2
                      go_roundg k1
                      case measure => have := HK1.out; omega
                      case rel => exact ⟨(wrap64 (x3_1 + 1)), (by first | rfl | (simp; done) | (simp [*]; done)), H', ⟨by have := HK1.out; omega⟩, by repeat (first | exact Drawn0.refl _ | apply Drawn0.step)⟩
                · rw [if_neg c28] at H
                  have c28b0 : ((bt a0 x3_1) == 43) = false := beq_eq_false_iff_ne.mpr c28
                  have c28b1 : ((bt a0 x3_1) != 43) = true := bne_iff_ne.mpr c28
                  by_cases c31 : (bt a0 x3_1) = 45
                  · rw [if_pos c31] at H
                    have c31b0 : ((bt a0 x3_1) == 45) = true := beq_iff_eq.mpr c31
                    have c31b1 : ((bt a0 x3_1) != 45) = false := bne_eq_false_iff_eq.mpr c31
                    clear c31
                    by_cases c32 : ((bt a0 x3_1) ≤ 122)
                    · rw [if_pos c32] at H
                      have c32b0 : decide ((bt a0 x3_1) ≤ 122) = true := decide_eq_true c32
                      clear c32
                      have H' := Aside0.mk H
                      clear H
                      have p4 : 0 ≤ (x3_1 : Int) := of_decide_eq_true (by first | (with_reducible assumption) | assumption)
                      have q4 : x3_1 < (a0.size : Int) := of_decide_eq_true (by first | (with_reducible assumption) | assumption)
                      have hx4 := bt_at a0 x3_1
                      replace p4 := eq_true p4
                      replace q4 := eq_true q4
                      go_wp2
                      go_roundg k1
                      case measure => have := HK1.out; omega
                      case rel => exact ⟨(wrap64 (x3_1 + 1)), (by first | rfl | (simp; done) | (simp [*]; done)), H', ⟨by have := HK1.out; omega⟩, by repeat (first | exact Drawn0.refl _ | apply Drawn0.step)⟩
                    · rw [if_neg c32] at H
                      have c32b0 : decide ((bt a0 x3_1) ≤ 122) = false := decide_eq_false c32
                      clear c32
                      by_cases c33 : ((bt a0 x3_1) ≤ 90)
                      · rw [if_pos c33] at H
                        have c33b0 : decide ((bt a0 x3_1) ≤ 90) = true := decide_eq_true c33
                        clear c33
                        have H' := Aside0.mk H
                        clear H
                        have p4 : 0 ≤ (x3_1 : Int) := of_decide_eq_true (by first | (with_reducible assumption) | assumption)
                        have q4 : x3_1 < (a0.size : Int) := of_decide_eq_true (by first | (with_reducible assumption) | assumption)
                        have hx4 := bt_at a0 x3_1
                        replace p4 := eq_true p4
                        replace q4 := eq_true q4
                        go_wp2
                        go_roundg k1
                        case measure => have := HK1.out; omega
                        case rel => exact ⟨(wrap64 (x3_1 + 1)), (by first | rfl | (simp; done) | (simp [*]; done)), H', ⟨by have := HK1.out; omega⟩, by repeat (first | exact Drawn0.refl _ | apply Drawn0.step)⟩
                      · rw [if_neg c33] at H
                        have c33b0 : decide ((bt a0 x3_1) ≤ 90) = false := decide_eq_false c33
                        clear c33
                        have H' := Aside0.mk H
                        clear H
                        have p4 : 0 ≤ (x3_1 : Int) := of_decide_eq_true (by first | (with_reducible assumption) | assumption)
                        have q4 : x3_1 < (a0.size : Int) := of_decide_eq_true (by first | (with_reducible assumption) | assumption)
                        have hx4 := bt_at a0 x3_1
                        replace p4 := eq_true p4
                        replace q4 := eq_true q4
                        go_wp2
                        go_roundg k1
                        case measure => have := HK1.out; omega
                        case rel => exact ⟨(wrap64 (x3_1 + 1)), (by first | rfl | (simp; done) | (simp [*]; done)), H', ⟨by have := HK1.out; omega⟩, by repeat (first | exact Drawn0.refl _ | apply Drawn0.step)⟩
                  · rw [if_neg c31] at H
                    have c31b0 : ((bt a0 x3_1) == 45) = false := beq_eq_false_iff_ne.mpr c31
                    have c31b1 : ((bt a0 x3_1) != 45) = true := bne_iff_ne.mpr c31
                    by_cases c34 : (bt a0 x3_1) = 95
                    · rw [if_pos c34] at H
                      have c34b0 : ((bt a0 x3_1) == 95) = true := beq_iff_eq.mpr c34
                      have c34b1 : ((bt a0 x3_1) != 95) = false := bne_eq_false_iff_eq.mpr c34
                      clear c34
                      by_cases c35 : ((bt a0 x3_1) ≤ 122)
                      · rw [if_pos c35] at H
                        have c35b0 : decide ((bt a0 x3_1) ≤ 122) = true := decide_eq_true c35
                        clear c35
                        have H' := Aside0.mk H
                        clear H
                        have p4 : 0 ≤ (x3_1 : Int) := of_decide_eq_true (by first | (with_reducible assumption) | assumption)
                        have q4 : x3_1 < (a0.size : Int) := of_decide_eq_true (by first | (with_reducible assumption) | assumption)
                        have hx4 := bt_at a0 x3_1
                        replace p4 := eq_true p4
                        replace q4 := eq_true q4
                        go_wp2
                        go_roundg k1
                        case measure => have := HK1.out; omega
                        case rel => exact ⟨(wrap64 (x3_1 + 1)), (by first | rfl | (simp; done) | (simp [*]; done)), H', ⟨by have := HK1.out; omega⟩, by repeat (first | exact Drawn0.refl _ | apply Drawn0.step)⟩
                      · rw [if_neg c35] at H
                        have c35b0 : decide ((bt a0 x3_1) ≤ 122) = false := decide_eq_false c35
                        clear c35
                        by_cases c36 : ((bt a0 x3_1) ≤ 90)
                        · rw [if_pos c36] at H
                          have c36b0 : decide ((bt a0 x3_1) ≤ 90) = true := decide_eq_true c36
                          clear c36
                          have H' := Aside0.mk H
                          clear H
                          have p4 : 0 ≤ (x3_1 : Int) := of_decide_eq_true (by first | (with_reducible assumption) | assumption)
                          have q4 : x3_1 < (a0.size : Int) := of_decide_eq_true (by first | (with_reducible assumption) | assumption)
                          have hx4 := bt_at a0 x3_1
                          replace p4 := eq_true p4
                          replace q4 := eq_true q4
                          go_wp2
                          go_roundg k1
                          case measure => have := HK1.out; omega
                          case rel => exact ⟨(wrap64 (x3_1 + 1)), (by first | rfl | (simp; done) | (simp [*]; done)), H', ⟨by have := HK1.out; omega⟩, by repeat (first | exact Drawn0.refl _ | apply Drawn0.step)⟩
                        · rw [if_neg c36] at H
                          have c36b0 : decide ((bt a0 x3_1) ≤ 90) = false := decide_eq_false c36
                          clear c36
                          have H' := Aside0.mk H
                          clear H
                          have p4 : 0 ≤ (x3_1 : Int) := of_decide_eq_true (by first | (with_reducible assumption) | assumption)
                          have q4 : x3_1 < (a0.size : Int) := of_decide_eq_true (by first | (with_reducible assumption) | assumption)
                          have hx4 := bt_at a0 x3_1
                          replace p4 := eq_true p4
                          replace q4 := eq_true q4
                          go_wp2
                          go_roundg k1
                          case measure => have := HK1.out; omega
                          case rel => exact ⟨(wrap64 (x3_1 + 1)), (by first | rfl | (simp; done) | (simp [*]; done)), H', ⟨by have := HK1.out; omega⟩, by repeat (first | exact Drawn0.refl _ | apply Drawn0.step)⟩
                    · rw [if_neg c34] at H
                      have c34b0 : ((bt a0 x3_1) == 95) = false := beq_eq_false_iff_ne.mpr c34
                      have c34b1 : ((bt a0 x3_1) != 95) = true := bne_iff_ne.mpr c34
                      by_cases c37 : (bt a0 x3_1) = 63
                      · rw [if_pos c37] at H
                        have c37b0 : ((bt a0 x3_1) == 63) = true := beq_iff_eq.mpr c37
                        have c37b1 : ((bt a0 x3_1) != 63) = false := bne_eq_false_iff_eq.mpr c37
                        clear c37
                        by_cases c38 : ((bt a0 x3_1) ≤ 122)
                        · rw [if_pos c38] at H
                          have c38b0 : decide ((bt a0 x3_1) ≤ 122) = true := decide_eq_true c38
                          clear c38
                          have H' := Aside0.mk H
                          clear H
                          have p4 : 0 ≤ (x3_1 : Int) := of_decide_eq_true (by first | (with_reducible assumption) | assumption)
                          have q4 : x3_1 < (a0.size : Int) := of_decide_eq_true (by first | (with_reducible assumption) | assumption)
                          have hx4 := bt_at a0 x3_1
                          replace p4 := eq_true p4
                          replace q4 := eq_true q4
                          go_wp2
                          go_roundg k1
                          case measure => have := HK1.out; omega
                          case rel => exact ⟨(wrap64 (x3_1 + 1)), (by first | rfl | (simp; done) | (simp [*]; done)), H', ⟨by have := HK1.out; omega⟩, by repeat (first | exact Drawn0.refl _ | apply Drawn0.step)⟩
                        · rw [if_neg c38] at H
                          have c38b0 : decide ((bt a0 x3_1) ≤ 122) = false := decide_eq_false c38
                          clear c38
                          by_cases c39 : ((bt a0 x3_1) ≤ 90)
                          · rw [if_pos c39] at H
                            have c39b0 : decide ((bt a0 x3_1) ≤ 90) = true := decide_eq_true c39
                            clear c39
                            have H' := Aside0.mk H
                            clear H
                            have p4 : 0 ≤ (x3_1 : Int) := of_decide_eq_true (by first | (with_reducible assumption) | assumption)
                            have q4 : x3_1 < (a0.size : Int) := of_decide_eq_true (by first | (with_reducible assumption) | assumption)
                            have hx4 := bt_at a0 x3_1
                            replace p4 := eq_true p4
                            replace q4 := eq_true q4
                            go_wp2
                            go_roundg k1
                            case measure => have := HK1.out; omega
                            case rel => exact ⟨(wrap64 (x3_1 + 1)), (by first | rfl | (simp; done) | (simp [*]; done)), H', ⟨by have := HK1.out; omega⟩, by repeat (first | exact Drawn0.refl _ | apply Drawn0.step)⟩
                          · rw [if_neg c39] at H
                            have c39b0 : decide ((bt a0 x3_1) ≤ 90) = false := decide_eq_false c39
                            clear c39
                            have H' := Aside0.mk H
                            clear H
                            have p4 : 0 ≤ (x3_1 : Int) := of_decide_eq_true (by first | (with_reducible assumption) | assumption)
                            have q4 : x3_1 < (a0.size : Int) := of_decide_eq_true (by first | (with_reducible assumption) | assumption)
                            have hx4 := bt_at a0 x3_1
                            replace p4 := eq_true p4
                            replace q4 := eq_true q4
                            go_wp2
                            go_roundg k1
                            case measure => have := HK1.out; omega
                            case rel => exact ⟨(wrap64 (x3_1 + 1)), (by first | rfl | (simp; done) | (simp [*]; done)), H', ⟨by have := HK1.out; omega⟩, by repeat (first | exact Drawn0.refl _ | apply Drawn0.step)⟩
                      · rw [if_neg c37] at H
                        have c37b0 : ((bt a0 x3_1) == 63) = false := beq_eq_false_iff_ne.mpr c37
                        have c37b1 : ((bt a0 x3_1) != 63) = true := bne_iff_ne.mpr c37
                        by_cases c40 : ((bt a0 x3_1) ≤ 122)
                        · rw [if_pos c40] at H
                          have c40b0 : decide ((bt a0 x3_1) ≤ 122) = true := decide_eq_true c40
                          clear c40
                          have H' := Aside0.mk H
                          clear H
                          have p4 : 0 ≤ (x3_1 : Int) := of_decide_eq_true (by first | (with_reducible assumption) | assumption)
                          have q4 : x3_1 < (a0.size : Int) := of_decide_eq_true (by first | (with_reducible assumption) | assumption)
                          have hx4 := bt_at a0 x3_1
                          replace p4 := eq_true p4
                          replace q4 := eq_true q4
                          go_wp2
                          go_roundg k1
                          case measure => have := HK1.out; omega
                          case rel => exact ⟨(wrap64 (x3_1 + 1)), (by first | rfl | (simp; done) | (simp [*]; done)), H', ⟨by have := HK1.out; omega⟩, by repeat (first | exact Drawn0.refl _ | apply Drawn0.step)⟩
                        · rw [if_neg c40] at H
                          have c40b0 : decide ((bt a0 x3_1) ≤ 122) = false := decide_eq_false c40
                          clear c40
                          by_cases c41 : ((bt a0 x3_1) ≤ 90)
                          · rw [if_pos c41] at H
                            have c41b0 : decide ((bt a0 x3_1) ≤ 90) = true := decide_eq_true c41
                            clear c41
                            have H' := Aside0.mk H
                            clear H
                            have p4 : 0 ≤ (x3_1 : Int) := of_decide_eq_true (by first | (with_reducible assumption) | assumption)
                            have q4 : x3_1 < (a0.size : Int) := of_decide_eq_true (by first | (with_reducible assumption) | assumption)
                            have hx4 := bt_at a0 x3_1
                            replace p4 := eq_true p4
                            replace q4 := eq_true q4
                            go_wp2
                            go_roundg k1
                            case measure => have := HK1.out; omega
                            case rel => exact ⟨(wrap64 (x3_1 + 1)), (by first | rfl | (simp; done) | (simp [*]; done)), H', ⟨by have := HK1.out; omega⟩, by repeat (first | exact Drawn0.refl _ | apply Drawn0.step)⟩
                          · rw [if_neg c41] at H
                            have c41b0 : decide ((bt a0 x3_1) ≤ 90) = false := decide_eq_false c41
                            clear c41
                            by_cases c42 : ((bt a0 x3_1) = 61)
                            · rw [if_pos c42] at H
                              have c42b0 : ((bt a0 x3_1) == 61) = true := beq_iff_eq.mpr c42
                              have c42b1 : ((bt a0 x3_1) != 61) = false := bne_eq_false_iff_eq.mpr c42
                              clear c42
                              have H' := Aside0.mk H
                              clear H
                              have p4 : 0 ≤ (x3_1 : Int) := of_decide_eq_true (by first | (with_reducible assumption) | assumption)
                              have q4 : x3_1 < (a0.size : Int) := of_decide_eq_true (by first | (with_reducible assumption) | assumption)
                              have hx4 := bt_at a0 x3_1
                              replace p4 := eq_true p4
                              replace q4 := eq_true q4
                              go_wp2
                              go_roundg k1
                              case measure => have := HK1.out; omega
                              case rel => exact ⟨(wrap64 (x3_1 + 1)), (by first | rfl | (simp; done) | (simp [*]; done)), H', ⟨by have := HK1.out; omega⟩, by repeat (first | exact Drawn0.refl _ | apply Drawn0.step)⟩
                            · rw [if_neg c42] at H
                              have c42b0 : ((bt a0 x3_1) == 61) = false := beq_eq_false_iff_ne.mpr c42
                              have c42b1 : ((bt a0 x3_1) != 61) = true := bne_iff_ne.mpr c42
                              by_cases c43 : (bt a0 x3_1) = 46
                              · rw [if_pos c43] at H
                                have c43b0 : ((bt a0 x3_1) == 46) = true := beq_iff_eq.mpr c43
                                have c43b1 : ((bt a0 x3_1) != 46) = false := bne_eq_false_iff_eq.mpr c43
                                clear c43
                                by_cases c44 : x3_1 = 0
                                · rw [if_pos c44] at H
                                  have c44b0 : (x3_1 == 0) = true := beq_iff_eq.mpr c44
                                  have c44b1 : (x3_1 != 0) = false := bne_eq_false_iff_eq.mpr c44
                                  clear c44
                                  obtain rfl := Option.some.inj H
                                  have p4 : 0 ≤ (x3_1 : Int) := of_decide_eq_true (by first | (with_reducible assumption) | assumption)
                                  have q4 : x3_1 < (a0.size : Int) := of_decide_eq_true (by first | (with_reducible assumption) | assumption)
                                  have hx4 := bt_at a0 x3_1
                                  replace p4 := eq_true p4
                                  replace q4 := eq_true q4
                                  go_wp2
                                  go_ret
                                  exact ⟨by first | rfl | (simp; done) | (simp [*]; done), by repeat (first | exact Drawn0.refl _ | apply Drawn0.step)⟩
                                · rw [if_neg c44] at H
                                  have c44b0 : (x3_1 == 0) = false := beq_eq_false_iff_ne.mpr c44
                                  have c44b1 : (x3_1 != 0) = true := bne_iff_ne.mpr c44
                                  have H' := Aside0.mk H
                                  clear H
                                  have p4 : 0 ≤ (x3_1 : Int) := of_decide_eq_true (by first | (with_reducible assumption) | assumption)
                                  have q4 : x3_1 < (a0.size : Int) := of_decide_eq_true (by first | (with_reducible assumption) | assumption)
                                  have hx4 := bt_at a0 x3_1
                                  replace p4 := eq_true p4
                                  replace q4 := eq_true q4
                                  go_wp2
                                  go_roundg k1
                                  case measure => have := HK1.out; omega
                                  case rel => exact ⟨(wrap64 (x3_1 + 1)), (by first | rfl | (simp; done) | (simp [*]; done)), H', ⟨by have := HK1.out; omega⟩, by repeat (first | exact Drawn0.refl _ | apply Drawn0.step)⟩
                              · rw [if_neg c43] at H
                                have c43b0 : ((bt a0 x3_1) == 46) = false := beq_eq_false_iff_ne.mpr c43
                                have c43b1 : ((bt a0 x3_1) != 46) = true := bne_iff_ne.mpr c43
                                obtain rfl := Option.some.inj H
                                have p4 : 0 ≤ (x3_1 : Int) := of_decide_eq_true (by first | (with_reducible assumption) | assumption)
                                have q4 : x3_1 < (a0.size : Int) := of_decide_eq_true (by first | (with_reducible assumption) | assumption)
                                have hx4 := bt_at a0 x3_1
                                replace p4 := eq_true p4
                                replace q4 := eq_true q4
                                go_wp2
                                go_ret
                                exact ⟨by first | rfl | (simp; done) | (simp [*]; done), by repeat (first | exact Drawn0.refl _ | apply Drawn0.step)⟩
            · rw [if_neg c6] at H
              have c6b0 : decide (65 ≤ (bt a0 x3_1)) = false := decide_eq_false c6
              clear c6
              by_cases c45 : (bt a0 x3_1) ≥ 48
              · rw [if_pos c45] at H
                have c45b0 : decide (48 ≤ (bt a0 x3_1)) = true := decide_eq_true c45
                clear c45
                by_cases c46 : (bt a0 x3_1) ≤ 57
                · rw [if_pos c46] at H
                  have c46b0 : decide ((bt a0 x3_1) ≤ 57) = true := decide_eq_true c46
                  clear c46
                  by_cases c47 : ((bt a0 x3_1) ≤ 122)
                  · rw [if_pos c47] at H
                    have c47b0 : decide ((bt a0 x3_1) ≤ 122) = true := decide_eq_true c47
                    clear c47
                    have H' := Aside0.mk H
                    clear H
                    have p4 : 0 ≤ (x3_1 : Int) := of_decide_eq_true (by first | (with_reducible assumption) | assumption)
                    have q4 : x3_1 < (a0.size : Int) := of_decide_eq_true (by first | (with_reducible assumption) | assumption)
                    have hx4 := bt_at a0 x3_1
                    replace p4 := eq_true p4
                    replace q4 := eq_true q4
                    go_wp2
                    go_roundg k1
                    case measure => have := HK1.out; omega
                    case rel => exact ⟨(wrap64 (x3_1 + 1)), (by first | rfl | (simp; done) | (simp [*]; done)), H', ⟨by have := HK1.out; omega⟩, by repeat (first | exact Drawn0.refl _ | apply Drawn0.step)⟩
                  · rw [if_neg c47] at H
                    have c47b0 : decide ((bt a0 x3_1) ≤ 122) = false := decide_eq_false c47
                    clear c47
                    have H' := Aside0.mk H
                    clear H
                    have p4 : 0 ≤ (x3_1 : Int) := of_decide_eq_true (by first | (with_reducible assumption) | assumption)
                    have q4 : x3_1 < (a0.size : Int) := of_decide_eq_true (by first | (with_reducible assumption) | assumption)
                    have hx4 := bt_at a0 x3_1
                    replace p4 := eq_true p4
                    replace q4 := eq_true q4
                    go_wp2
                    go_roundg k1
                    case measure => have := HK1.out; omega
                    case rel => exact ⟨(wrap64 (x3_1 + 1)), (by first | rfl | (simp; done) | (simp [*]; done)), H', ⟨by have := HK1.out; omega⟩, by repeat (first | exact Drawn0.refl _ | apply Drawn0.step)⟩
                · rw [if_neg c46] at H
                  have c46b0 : decide ((bt a0 x3_1) ≤ 57) = false := decide_eq_false c46
                  clear c46
                  by_cases c48 : (bt a0 x3_1) = 43
                  · rw [if_pos c48] at H
                    have c48b0 : ((bt a0 x3_1) == 43) = true := beq_iff_eq.mpr c48
                    have c48b1 : ((bt a0 x3_1) != 43) = false := bne_eq_false_iff_eq.mpr c48
                    clear c48
                    by_cases c49 : ((bt a0 x3_1) ≤ 122)
                    · rw [if_pos c49] at H
                      have c49b0 : decide ((bt a0 x3_1) ≤ 122) = true := decide_eq_true c49
                      clear c49
                      have H' := Aside0.mk H
                      clear H
                      have p4 : 0 ≤ (x3_1 : Int) := of_decide_eq_true (by first | (with_reducible assumption) | assumption)
                      have q4 : x3_1 < (a0.size : Int) := of_decide_eq_true (by first | (with_reducible assumption) | assumption)
                      have hx4 := bt_at a0 x3_1
                      replace p4 := eq_true p4
                      replace q4 := eq_true q4
                      go_wp2
                      go_roundg k1
                      case measure => have := HK1.out; omega
                      case rel => exact ⟨(wrap64 (x3_1 + 1)), (by first | rfl | (simp; done) | (simp [*]; done)), H', ⟨by have := HK1.out; omega⟩, by repeat (first | exact Drawn0.refl _ | apply Drawn0.step)⟩
                    · rw [if_neg c49] at H
                      have c49b0 : decide ((bt a0 x3_1) ≤ 122) = false := decide_eq_false c49
                      clear c49
                      have H' := Aside0.mk H
                      clear H
                      have p4 : 0 ≤ (x3_1 : Int) := of_decide_eq_true (by first | (with_reducible assumption) | assumption)
                      have q4 : x3_1 < (a0.size : Int) := of_decide_eq_true (by first | (with_reducible assumption) | assumption)
                      have hx4 := bt_at a0 x3_1
                      replace p4 := eq_true p4
                      replace q4 := eq_true q4
                      go_wp2
                      go_roundg k1
                      case measure => have := HK1.out; omega
                      case rel => exact ⟨(wrap64 (x3_1 + 1)), (by first | rfl | (simp; done) | (simp [*]; done)), H', ⟨by have := HK1.out; omega⟩, by repeat (first | exact Drawn0.refl _ | apply Drawn0.step)⟩
                  · rw [if_neg c48] at H
                    have c48b0 : ((bt a0 x3_1) == 43) = false := beq_eq_false_iff_ne.mpr c48
                    have c48b1 : ((bt a0 x3_1) != 43) = true := bne_iff_ne.mpr c48
                    by_cases c50 : (bt a0 x3_1) = 45
                    · rw [if_pos c50] at H
                      have c50b0 : ((bt a0 x3_1) == 45) = true := beq_iff_eq.mpr c50
                      have c50b1 : ((bt a0 x3_1) != 45) = false := bne_eq_false_iff_eq.mpr c50
                      clear c50
                      by_cases c51 : ((bt a0 x3_1) ≤ 122)
                      · rw [if_pos c51] at H
                        have c51b0 : decide ((bt a0 x3_1) ≤ 122) = true := decide_eq_true c51
                        clear c51
                        have H' := Aside0.mk H
                        clear H
                        have p4 : 0 ≤ (x3_1 : Int) := of_decide_eq_true (by first | (with_reducible assumption) | assumption)
                        have q4 : x3_1 < (a0.size : Int) := of_decide_eq_true (by first | (with_reducible assumption) | assumption)
                        have hx4 := bt_at a0 x3_1
                        replace p4 := eq_true p4
                        replace q4 := eq_true q4
                        go_wp2
                        go_roundg k1
                        case measure => have := HK1.out; omega
                        case rel => exact ⟨(wrap64 (x3_1 + 1)), (by first | rfl | (simp; done) | (simp [*]; done)), H', ⟨by have := HK1.out; omega⟩, by repeat (first | exact Drawn0.refl _ | apply Drawn0.step)⟩
                      · rw [if_neg c51] at H
                        have c51b0 : decide ((bt a0 x3_1) ≤ 122) = false := decide_eq_false c51
                        clear c51
                        have H' := Aside0.mk H
                        clear H
                        have p4 : 0 ≤ (x3_1 : Int) := of_decide_eq_true (by first | (with_reducible assumption) | assumption)
                        have q4 : x3_1 < (a0.size : Int) := of_decide_eq_true (by first | (with_reducible assumption) | assumption)
                        have hx4 := bt_at a0 x3_1
                        replace p4 := eq_true p4
                        replace q4 := eq_true q4
                        go_wp2
                        go_roundg k1
                        case measure => have := HK1.out; omega
                        case rel => exact ⟨(wrap64 (x3_1 + 1)), (by first | rfl | (simp; done) | (simp [*]; done)), H', ⟨by have := HK1.out; omega⟩, by repeat (first | exact Drawn0.refl _ | apply Drawn0.step)⟩
                    · rw [if_neg c50] at H
                      have c50b0 : ((bt a0 x3_1) == 45) = false := beq_eq_false_iff_ne.mpr c50
                      have c50b1 : ((bt a0 x3_1) != 45) = true := bne_iff_ne.mpr c50
                      by_cases c52 : (bt a0 x3_1) = 95
                      · rw [if_pos c52] at H
                        have c52b0 : ((bt a0 x3_1) == 95) = true := beq_iff_eq.mpr c52
                        have c52b1 : ((bt a0 x3_1) != 95) = false := bne_eq_false_iff_eq.mpr c52
                        clear c52
                        by_cases c53 : ((bt a0 x3_1) ≤ 122)
                        · rw [if_pos c53] at H
                          have c53b0 : decide ((bt a0 x3_1) ≤ 122) = true := decide_eq_true c53
                          clear c53
                          have H' := Aside0.mk H
                          clear H
                          have p4 : 0 ≤ (x3_1 : Int) := of_decide_eq_true (by first | (with_reducible assumption) | assumption)
                          have q4 : x3_1 < (a0.size : Int) := of_decide_eq_true (by first | (with_reducible assumption) | assumption)
                          have hx4 := bt_at a0 x3_1
                          replace p4 := eq_true p4
                          replace q4 := eq_true q4
                          go_wp2
                          go_roundg k1
                          case measure => have := HK1.out; omega
                          case rel => exact ⟨(wrap64 (x3_1 + 1)), (by first | rfl | (simp; done) | (simp [*]; done)), H', ⟨by have := HK1.out; omega⟩, by repeat (first | exact Drawn0.refl _ | apply Drawn0.step)⟩
                        · rw [if_neg c53] at H
                          have c53b0 : decide ((bt a0 x3_1) ≤ 122) = false := decide_eq_false c53
                          clear c53
                          have H' := Aside0.mk H
                          clear H
                          have p4 : 0 ≤ (x3_1 : Int) := of_decide_eq_true (by first | (with_reducible assumption) | assumption)
                          have q4 : x3_1 < (a0.size : Int) := of_decide_eq_true (by first | (with_reducible assumption) | assumption)
                          have hx4 := bt_at a0 x3_1
                          replace p4 := eq_true p4
                          replace q4 := eq_true q4
                          go_wp2
                          go_roundg k1
                          case measure => have := HK1.out; omega
                          case rel => exact ⟨(wrap64 (x3_1 + 1)), (by first | rfl | (simp; done) | (simp [*]; done)), H', ⟨by have := HK1.out; omega⟩, by repeat (first | exact Drawn0.refl _ | apply Drawn0.step)⟩
                      · rw [if_neg c52] at H
                        have c52b0 : ((bt a0 x3_1) == 95) = false := beq_eq_false_iff_ne.mpr c52
                        have c52b1 : ((bt a0 x3_1) != 95) = true := bne_iff_ne.mpr c52
                        by_cases c54 : (bt a0 x3_1) = 63
                        · rw [if_pos c54] at H
                          have c54b0 : ((bt a0 x3_1) == 63) = true := beq_iff_eq.mpr c54
                          have c54b1 : ((bt a0 x3_1) != 63) = false := bne_eq_false_iff_eq.mpr c54
                          clear c54
                          by_cases c55 : ((bt a0 x3_1) ≤ 122)
                          · rw [if_pos c55] at H
                            have c55b0 : decide ((bt a0 x3_1) ≤ 122) = true := decide_eq_true c55
                            clear c55
                            have H' := Aside0.mk H
                            clear H
                            have p4 : 0 ≤ (x3_1 : Int) := of_decide_eq_true (by first | (with_reducible assumption) | assumption)
                            have q4 : x3_1 < (a0.size : Int) := of_decide_eq_true (by first | (with_reducible assumption) | assumption)
                            have hx4 := bt_at a0 x3_1
                            replace p4 := eq_true p4
                            replace q4 := eq_true q4
                            go_wp2
                            go_roundg k1
                            case measure => have := HK1.out; omega
                            case rel => exact ⟨(wrap64 (x3_1 + 1)), (by first | rfl | (simp; done) | (simp [*]; done)), H', ⟨by have := HK1.out; omega⟩, by repeat (first | exact Drawn0.refl _ | apply Drawn0.step)⟩
                          · rw [if_neg c55] at H
                            have c55b0 : decide ((bt a0 x3_1) ≤ 122) = false := decide_eq_false c55
                            clear c55
                            have H' := Aside0.mk H
                            clear H
                            have p4 : 0 ≤ (x3_1 : Int) := of_decide_eq_true (by first | (with_reducible assumption) | assumption)
                            have q4 : x3_1 < (a0.size : Int) := of_decide_eq_true (by first | (with_reducible assumption) | assumption)
                            have hx4 := bt_at a0 x3_1
                            replace p4 := eq_true p4
                            replace q4 := eq_true q4
                            go_wp2
                            go_roundg k1
                            case measure => have := HK1.out; omega
                            case rel => exact ⟨(wrap64 (x3_1 + 1)), (by first | rfl | (simp; done) | (simp [*]; done)), H', ⟨by have := HK1.out; omega⟩, by repeat (first | exact Drawn0.refl _ | apply Drawn0.step)⟩
                        · rw [if_neg c54] at H
                          have c54b0 : ((bt a0 x3_1) == 63) = false := beq_eq_false_iff_ne.mpr c54
                          have c54b1 : ((bt a0 x3_1) != 63) = true := bne_iff_ne.mpr c54
                          by_cases c56 : ((bt a0 x3_1) ≤ 122)
                          · rw [if_pos c56] at H
                            have c56b0 : decide ((bt a0 x3_1) ≤ 122) = true := decide_eq_true c56
                            clear c56
                            have H' := Aside0.mk H
                            clear H
                            have p4 : 0 ≤ (x3_1 : Int) := of_decide_eq_true (by first | (with_reducible assumption) | assumption)
                            have q4 : x3_1 < (a0.size : Int) := of_decide_eq_true (by first | (with_reducible assumption) | assumption)
                            have hx4 := bt_at a0 x3_1
                            replace p4 := eq_true p4
                            replace q4 := eq_true q4
                            go_wp2
                            go_roundg k1
                            case measure => have := HK1.out; omega
                            case rel => exact ⟨(wrap64 (x3_1 + 1)), (by first | rfl | (simp; done) | (simp [*]; done)), H', ⟨by have := HK1.out; omega⟩, by repeat (first | exact Drawn0.refl _ | apply Drawn0.step)⟩
                          · rw [if_neg c56] at H
                            have c56b0 : decide ((bt a0 x3_1) ≤ 122) = false := decide_eq_false c56
                            clear c56
                            by_cases c57 : ((bt a0 x3_1) = 61)
                            · rw [if_pos c57] at H
                              have c57b0 : ((bt a0 x3_1) == 61) = true := beq_iff_eq.mpr c57
                              have c57b1 : ((bt a0 x3_1) != 61) = false := bne_eq_false_iff_eq.mpr c57
                              clear c57
                              have H' := Aside0.mk H
                              clear H
                              have p4 : 0 ≤ (x3_1 : Int) := of_decide_eq_true (by first | (with_reducible assumption) | assumption)
                              have q4 : x3_1 < (a0.size : Int) := of_decide_eq_true (by first | (with_reducible assumption) | assumption)
                              have hx4 := bt_at a0 x3_1
                              replace p4 := eq_true p4
                              replace q4 := eq_true q4
                              go_wp2
                              go_roundg k1
                              case measure => have := HK1.out; omega
                              case rel => exact ⟨(wrap64 (x3_1 + 1)), (by first | rfl | (simp; done) | (simp [*]; done)), H', ⟨by have := HK1.out; omega⟩, by repeat (first | exact Drawn0.refl _ | apply Drawn0.step)⟩
                            · rw [if_neg c57] at H
                              have c57b0 : ((bt a0 x3_1) == 61) = false := beq_eq_false_iff_ne.mpr c57
                              have c57b1 : ((bt a0 x3_1) != 61) = true := bne_iff_ne.mpr c57
                              by_cases c58 : (bt a0 x3_1) = 46
                              · rw [if_pos c58] at H
                                have c58b0 : ((bt a0 x3_1) == 46) = true := beq_iff_eq.mpr c58
                                have c58b1 : ((bt a0 x3_1) != 46) = false := bne_eq_false_iff_eq.mpr c58
                                clear c58
                                by_cases c59 : x3_1 = 0
                                · rw [if_pos c59] at H
                                  have c59b0 : (x3_1 == 0) = true := beq_iff_eq.mpr c59
                                  have c59b1 : (x3_1 != 0) = false := bne_eq_false_iff_eq.mpr c59
                                  clear c59
                                  obtain rfl := Option.some.inj H
                                  have p4 : 0 ≤ (x3_1 : Int) := of_decide_eq_true (by first | (with_reducible assumption) | assumption)
                                  have q4 : x3_1 < (a0.size : Int) := of_decide_eq_true (by first | (with_reducible assumption) | assumption)
                                  have hx4 := bt_at a0 x3_1
                                  replace p4 := eq_true p4
                                  replace q4 := eq_true q4
                                  go_wp2
                                  go_ret
                                  exact ⟨by first | rfl | (simp; done) | (simp [*]; done), by repeat (first | exact Drawn0.refl _ | apply Drawn0.step)⟩
                                · rw [if_neg c59] at H
                                  have c59b0 : (x3_1 == 0) = false := beq_eq_false_iff_ne.mpr c59
                                  have c59b1 : (x3_1 != 0) = true := bne_iff_ne.mpr c59
                                  have H' := Aside0.mk H
                                  clear H
                                  have p4 : 0 ≤ (x3_1 : Int) := of_decide_eq_true (by first | (with_reducible assumption) | assumption)
                                  have q4 : x3_1 < (a0.size : Int) := of_decide_eq_true (by first | (with_reducible assumption) | assumption)
                                  have hx4 := bt_at a0 x3_1
                                  replace p4 := eq_true p4
                                  replace q4 := eq_true q4
                                  go_wp2
                                  go_roundg k1
                                  case measure => have := HK1.out; omega
                                  case rel => exact ⟨(wrap64 (x3_1 + 1)), (by first | rfl | (simp; done) | (simp [*]; done)), H', ⟨by have := HK1.out; omega⟩, by repeat (first | exact Drawn0.refl _ | apply Drawn0.step)⟩
                              · rw [if_neg c58] at H
                                have c58b0 : ((bt a0 x3_1) == 46) = false := beq_eq_false_iff_ne.mpr c58
                                have c58b1 : ((bt a0 x3_1) != 46) = true := bne_iff_ne.mpr c58
                                obtain rfl := Option.some.inj H
                                have p4 : 0 ≤ (x3_1 : Int) := of_decide_eq_true (by first | (with_reducible assumption) | assumption)
                                have q4 : x3_1 < (a0.size : Int) := of_decide_eq_true (by first | (with_reducible assumption) | assumption)
                                have hx4 := bt_at a0 x3_1
                                replace p4 := eq_true p4
                                replace q4 := eq_true q4
                                go_wp2
                                go_ret
                                exact ⟨by first | rfl | (simp; done) | (simp [*]; done), by repeat (first | exact Drawn0.refl _ | apply Drawn0.step)⟩
              · rw [if_neg c45] at H
                have c45b0 : decide (48 ≤ (bt a0 x3_1)) = false := decide_eq_false c45
                clear c45
                by_cases c60 : (bt a0 x3_1) = 43
                · rw [if_pos c60] at H
                  have c60b0 : ((bt a0 x3_1) == 43) = true := beq_iff_eq.mpr c60
                  have c60b1 : ((bt a0 x3_1) != 43) = false := bne_eq_false_iff_eq.mpr c60
                  clear c60
                  by_cases c61 : ((bt a0 x3_1) ≤ 122)
                  · rw [if_pos c61] at H
                    have c61b0 : decide ((bt a0 x3_1) ≤ 122) = true := decide_eq_true c61
                    clear c61
                    have H' := Aside0.mk H
                    clear H
                    have p4 : 0 ≤ (x3_1 : Int) := of_decide_eq_true (by first | (with_reducible assumption) | assumption)
                    have q4 : x3_1 < (a0.size : Int) := of_decide_eq_true (by first | (with_reducible assumption) | assumption)
                    have hx4 := bt_at a0 x3_1
                    replace p4 := eq_true p4
                    replace q4 := eq_true q4
                    go_wp2
                    go_roundg k1
                    case measure => have := HK1.out; omega
                    case rel => exact ⟨(wrap64 (x3_1 + 1)), (by first | rfl | (simp; done) | (simp [*]; done)), H', ⟨by have := HK1.out; omega⟩, by repeat (first | exact Drawn0.refl _ | apply Drawn0.step)⟩
                  · rw [if_neg c61] at H
                    have c61b0 : decide ((bt a0 x3_1) ≤ 122) = false := decide_eq_false c61
                    clear c61
                    have H' := Aside0.mk H
                    clear H
                    have p4 : 0 ≤ (x3_1 : Int) := of_decide_eq_true (by first | (with_reducible assumption) | assumption)
                    have q4 : x3_1 < (a0.size : Int) := of_decide_eq_true (by first | (with_reducible assumption) | assumption)
                    have hx4 := bt_at a0 x3_1
                    replace p4 := eq_true p4
                    replace q4 := eq_true q4
                    go_wp2
                    go_roundg k1
                    case measure => have := HK1.out; omega
                    case rel => exact ⟨(wrap64 (x3_1 + 1)), (by first | rfl | (simp; done) | (simp [*]; done)), H', ⟨by have := HK1.out; omega⟩, by repeat (first | exact Drawn0.refl _ | apply Drawn0.step)⟩
                · rw [if_neg c60] at H
                  have c60b0 : ((bt a0 x3_1) == 43) = false := beq_eq_false_iff_ne.mpr c60
                  have c60b1 : ((bt a0 x3_1) != 43) = true := bne_iff_ne.mpr c60
                  by_cases c62 : (bt a0 x3_1) = 45
                  · rw [if_pos c62] at H
                    have c62b0 : ((bt a0 x3_1) == 45) = true := beq_iff_eq.mpr c62
                    have c62b1 : ((bt a0 x3_1) != 45) = false := bne_eq_false_iff_eq.mpr c62
                    clear c62
                    by_cases c63 : ((bt a0 x3_1) ≤ 122)
                    · rw [if_pos c63] at H
                      have c63b0 : decide ((bt a0 x3_1) ≤ 122) = true := decide_eq_true c63
                      clear c63
                      have H' := Aside0.mk H
                      clear H
                      have p4 : 0 ≤ (x3_1 : Int) := of_decide_eq_true (by first | (with_reducible assumption) | assumption)
                      have q4 : x3_1 < (a0.size : Int) := of_decide_eq_true (by first | (with_reducible assumption) | assumption)
                      have hx4 := bt_at a0 x3_1
                      replace p4 := eq_true p4
                      replace q4 := eq_true q4
                      go_wp2
                      go_roundg k1
                      case measure => have := HK1.out; omega
                      case rel => exact ⟨(wrap64 (x3_1 + 1)), (by first | rfl | (simp; done) | (simp [*]; done)), H', ⟨by have := HK1.out; omega⟩, by repeat (first | exact Drawn0.refl _ | apply Drawn0.step)⟩
                    · rw [if_neg c63] at H
                      have c63b0 : decide ((bt a0 x3_1) ≤ 122) = false := decide_eq_false c63
                      clear c63
                      have H' := Aside0.mk H
                      clear H
                      have p4 : 0 ≤ (x3_1 : Int) := of_decide_eq_true (by first | (with_reducible assumption) | assumption)
                      have q4 : x3_1 < (a0.size : Int) := of_decide_eq_true (by first | (with_reducible assumption) | assumption)
                      have hx4 := bt_at a0 x3_1
                      replace p4 := eq_true p4
                      replace q4 := eq_true q4
                      go_wp2
                      go_roundg k1
                      case measure => have := HK1.out; omega
                      case rel => exact ⟨(wrap64 (x3_1 + 1)), (by first | rfl | (simp; done) | (simp [*]; done)), H', ⟨by have := HK1.out; omega⟩, by repeat (first | exact Drawn0.refl _ | apply Drawn0.step)⟩
                  · rw [if_neg c62] at H
                    have c62b0 : ((bt a0 x3_1) == 45) = false := beq_eq_false_iff_ne.mpr c62
                    have c62b1 : ((bt a0 x3_1) != 45) = true := bne_iff_ne.mpr c62
                    by_cases c64 : (bt a0 x3_1) = 95
                    · rw [if_pos c64] at H
                      have c64b0 : ((bt a0 x3_1) == 95) = true := beq_iff_eq.mpr c64
                      have c64b1 : ((bt a0 x3_1) != 95) = false := bne_eq_false_iff_eq.mpr c64
                      clear c64
                      by_cases c65 : ((bt a0 x3_1) ≤ 122)
                      · rw [if_pos c65] at H
                        have c65b0 : decide ((bt a0 x3_1) ≤ 122) = true := decide_eq_true c65
                        clear c65
                        have H' := Aside0.mk H
                        clear H
                        have p4 : 0 ≤ (x3_1 : Int) := of_decide_eq_true (by first | (with_reducible assumption) | assumption)
                        have q4 : x3_1 < (a0.size : Int) := of_decide_eq_true (by first | (with_reducible assumption) | assumption)
                        have hx4 := bt_at a0 x3_1
                        replace p4 := eq_true p4
                        replace q4 := eq_true q4
                        go_wp2
                        go_roundg k1
                        case measure => have := HK1.out; omega
                        case rel => exact ⟨(wrap64 (x3_1 + 1)), (by first | rfl | (simp; done) | (simp [*]; done)), H', ⟨by have := HK1.out; omega⟩, by repeat (first | exact Drawn0.refl _ | apply Drawn0.step)⟩
                      · rw [if_neg c65] at H
                        have c65b0 : decide ((bt a0 x3_1) ≤ 122) = false := decide_eq_false c65
                        clear c65
                        have H' := Aside0.mk H
                        clear H
                        have p4 : 0 ≤ (x3_1 : Int) := of_decide_eq_true (by first | (with_reducible assumption) | assumption)
                        have q4 : x3_1 < (a0.size : Int) := of_decide_eq_true (by first | (with_reducible assumption) | assumption)
                        have hx4 := bt_at a0 x3_1
                        replace p4 := eq_true p4
                        replace q4 := eq_true q4
                        go_wp2
                        go_roundg k1
                        case measure => have := HK1.out; omega
                        case rel => exact ⟨(wrap64 (x3_1 + 1)), (by first | rfl | (simp; done) | (simp [*]; done)), H', ⟨by have := HK1.out; omega⟩, by repeat (first | exact Drawn0.refl _ | apply Drawn0.step)⟩
                    · rw [if_neg c64] at H
                      have c64b0 : ((bt a0 x3_1) == 95) = false := beq_eq_false_iff_ne.mpr c64
                      have c64b1 : ((bt a0 x3_1) != 95) = true := bne_iff_ne.mpr c64
                      by_cases c66 : (bt a0 x3_1) = 63
                      · rw [if_pos c66] at H
                        have c66b0 : ((bt a0 x3_1) == 63) = true := beq_iff_eq.mpr c66
                        have c66b1 : ((bt a0 x3_1) != 63) = false := bne_eq_false_iff_eq.mpr c66
                        clear c66
                        by_cases c67 : ((bt a0 x3_1) ≤ 122)
                        · rw [if_pos c67] at H
                          have c67b0 : decide ((bt a0 x3_1) ≤ 122) = true := decide_eq_true c67
                          clear c67
                          have H' := Aside0.mk H
                          clear H
                          have p4 : 0 ≤ (x3_1 : Int) := of_decide_eq_true (by first | (with_reducible assumption) | assumption)
                          have q4 : x3_1 < (a0.size : Int) := of_decide_eq_true (by first | (with_reducible assumption) | assumption)
                          have hx4 := bt_at a0 x3_1
                          replace p4 := eq_true p4
                          replace q4 := eq_true q4
                          go_wp2
                          go_roundg k1
                          case measure => have := HK1.out; omega
                          case rel => exact ⟨(wrap64 (x3_1 + 1)), (by first | rfl | (simp; done) | (simp [*]; done)), H', ⟨by have := HK1.out; omega⟩, by repeat (first | exact Drawn0.refl _ | apply Drawn0.step)⟩
                        · rw [if_neg c67] at H
                          have c67b0 : decide ((bt a0 x3_1) ≤ 122) = false := decide_eq_false c67
                          clear c67
                          have H' := Aside0.mk H
                          clear H
                          have p4 : 0 ≤ (x3_1 : Int) := of_decide_eq_true (by first | (with_reducible assumption) | assumption)
                          have q4 : x3_1 < (a0.size : Int) := of_decide_eq_true (by first | (with_reducible assumption) | assumption)
                          have hx4 := bt_at a0 x3_1
                          replace p4 := eq_true p4
                          replace q4 := eq_true q4
                          go_wp2
                          go_roundg k1
                          case measure => have := HK1.out; omega
                          case rel => exact ⟨(wrap64 (x3_1 + 1)), (by first | rfl | (simp; done) | (simp [*]; done)), H', ⟨by have := HK1.out; omega⟩, by repeat (first | exact Drawn0.refl _ | apply Drawn0.step)⟩
                      · rw [if_neg c66] at H
                        have c66b0 : ((bt a0 x3_1) == 63) = false := beq_eq_false_iff_ne.mpr c66
                        have c66b1 : ((bt a0 x3_1) != 63) = true := bne_iff_ne.mpr c66
                        by_cases c68 : ((bt a0 x3_1) ≤ 122)
                        · rw [if_pos c68] at H
                          have c68b0 : decide ((bt a0 x3_1) ≤ 122) = true := decide_eq_true c68
                          clear c68
                          have H' := Aside0.mk H
                          clear H
                          have p4 : 0 ≤ (x3_1 : Int) := of_decide_eq_true (by first | (with_reducible assumption) | assumption)
                          have q4 : x3_1 < (a0.size : Int) := of_decide_eq_true (by first | (with_reducible assumption) | assumption)
                          have hx4 := bt_at a0 x3_1
                          replace p4 := eq_true p4
                          replace q4 := eq_true q4
                          go_wp2
                          go_roundg k1
                          case measure => have := HK1.out; omega
                          case rel => exact ⟨(wrap64 (x3_1 + 1)), (by first | rfl | (simp; done) | (simp [*]; done)), H', ⟨by have := HK1.out; omega⟩, by repeat (first | exact Drawn0.refl _ | apply Drawn0.step)⟩
                        · rw [if_neg c68] at H
                          have c68b0 : decide ((bt a0 x3_1) ≤ 122) = false := decide_eq_false c68
                          clear c68
                          by_cases c69 : ((bt a0 x3_1) = 61)
                          · rw [if_pos c69] at H
                            have c69b0 : ((bt a0 x3_1) == 61) = true := beq_iff_eq.mpr c69
                            have c69b1 : ((bt a0 x3_1) != 61) = false := bne_eq_false_iff_eq.mpr c69
                            clear c69
                            have H' := Aside0.mk H
                            clear H
                            have p4 : 0 ≤ (x3_1 : Int) := of_decide_eq_true (by first | (with_reducible assumption) | assumption)
                            have q4 : x3_1 < (a0.size : Int) := of_decide_eq_true (by first | (with_reducible assumption) | assumption)
                            have hx4 := bt_at a0 x3_1
                            replace p4 := eq_true p4
                            replace q4 := eq_true q4
                            go_wp2
                            go_roundg k1
                            case measure => have := HK1.out; omega
                            case rel => exact ⟨(wrap64 (x3_1 + 1)), (by first | rfl | (simp; done) | (simp [*]; done)), H', ⟨by have := HK1.out; omega⟩, by repeat (first | exact Drawn0.refl _ | apply Drawn0.step)⟩
                          · rw [if_neg c69] at H
                            have c69b0 : ((bt a0 x3_1) == 61) = false := beq_eq_false_iff_ne.mpr c69
                            have c69b1 : ((bt a0 x3_1) != 61) = true := bne_iff_ne.mpr c69
                            by_cases c70 : (bt a0 x3_1) = 46
                            · rw [if_pos c70] at H
                              have c70b0 : ((bt a0 x3_1) == 46) = true := beq_iff_eq.mpr c70
                              have c70b1 : ((bt a0 x3_1) != 46) = false := bne_eq_false_iff_eq.mpr c70
                              clear c70
                              by_cases c71 : x3_1 = 0
                              · rw [if_pos c71] at H
                                have c71b0 : (x3_1 == 0) = true := beq_iff_eq.mpr c71
                                have c71b1 : (x3_1 != 0) = false := bne_eq_false_iff_eq.mpr c71
                                clear c71
                                obtain rfl := Option.some.inj H
                                have p4 : 0 ≤ (x3_1 : Int) := of_decide_eq_true (by first | (with_reducible assumption) | assumption)
                                have q4 : x3_1 < (a0.size : Int) := of_decide_eq_true (by first | (with_reducible assumption) | assumption)
                                have hx4 := bt_at a0 x3_1
                                replace p4 := eq_true p4
                                replace q4 := eq_true q4
                                go_wp2
                                go_ret
                                exact ⟨by first | rfl | (simp; done) | (simp [*]; done), by repeat (first | exact Drawn0.refl _ | apply Drawn0.step)⟩
                              · rw [if_neg c71] at H
                                have c71b0 : (x3_1 == 0) = false := beq_eq_false_iff_ne.mpr c71
                                have c71b1 : (x3_1 != 0) = true := bne_iff_ne.mpr c71
                                have H' := Aside0.mk H
                                clear H
                                have p4 : 0 ≤ (x3_1 : Int) := of_decide_eq_true (by first | (with_reducible assumption) | assumption)
                                have q4 : x3_1 < (a0.size : Int) := of_decide_eq_true (by first | (with_reducible assumption) | assumption)
                                have hx4 := bt_at a0 x3_1
                                replace p4 := eq_true p4
                                replace q4 := eq_true q4
                                go_wp2
                                go_roundg k1
                                case measure => have := HK1.out; omega
                                case rel => exact ⟨(wrap64 (x3_1 + 1)), (by first | rfl | (simp; done) | (simp [*]; done)), H', ⟨by have := HK1.out; omega⟩, by repeat (first | exact Drawn0.refl _ | apply Drawn0.step)⟩
                            · rw [if_neg c70] at H
                              have c70b0 : ((bt a0 x3_1) == 46) = false := beq_eq_false_iff_ne.mpr c70
                              have c70b1 : ((bt a0 x3_1) != 46) = true := bne_iff_ne.mpr c70
                              obtain rfl := Option.some.inj H
                              have p4 : 0 ≤ (x3_1 : Int) := of_decide_eq_true (by first | (with_reducible assumption) | assumption)
                              have q4 : x3_1 < (a0.size : Int) := of_decide_eq_true (by first | (with_reducible assumption) | assumption)
                              have hx4 := bt_at a0 x3_1
                              replace p4 := eq_true p4
                              replace q4 := eq_true q4
                              go_wp2
                              go_ret
                              exact ⟨by first | rfl | (simp; done) | (simp [*]; done), by repeat (first | exact Drawn0.refl _ | apply Drawn0.step)⟩
          · rw [if_neg c5] at H
            have c5b0 : decide (97 ≤ (bt a0 x3_1)) = false := decide_eq_false c5
            clear c5
            by_cases c72 : (bt a0 x3_1) ≥ 65
            · rw [if_pos c72] at H
              have c72b0 : decide (65 ≤ (bt a0 x3_1)) = true := decide_eq_true c72
              clear c72
              by_cases c73 : (bt a0 x3_1) ≥ 48
              · rw [if_pos c73] at H
                have c73b0 : decide (48 ≤ (bt a0 x3_1)) = true := decide_eq_true c73
                clear c73
                by_cases c74 : (bt a0 x3_1) ≤ 57
                · rw [if_pos c74] at H
                  have c74b0 : decide ((bt a0 x3_1) ≤ 57) = true := decide_eq_true c74
                  clear c74
                  by_cases c75 : ((bt a0 x3_1) ≤ 90)
                  · rw [if_pos c75] at H
                    have c75b0 : decide ((bt a0 x3_1) ≤ 90) = true := decide_eq_true c75
                    clear c75
                    have H' := Aside0.mk H
                    clear H
                    have p4 : 0 ≤ (x3_1 : Int) := of_decide_eq_true (by first | (with_reducible assumption) | assumption)
                    have q4 : x3_1 < (a0.size : Int) := of_decide_eq_true (by first | (with_reducible assumption) | assumption)
                    have hx4 := bt_at a0 x3_1
                    replace p4 := eq_true p4
                    replace q4 := eq_true q4
                    go_wp2
                    go_roundg k1
                    case measure => have := HK1.out; omega
                    case rel => exact ⟨(wrap64 (x3_1 + 1)), (by first | rfl | (simp; done) | (simp [*]; done)), H', ⟨by have := HK1.out; omega⟩, by repeat (first | exact Drawn0.refl _ | apply Drawn0.step)⟩
                  · rw [if_neg c75] at H
                    have c75b0 : decide ((bt a0 x3_1) ≤ 90) = false := decide_eq_false c75
                    clear c75
                    have H' := Aside0.mk H
                    clear H
                    have p4 : 0 ≤ (x3_1 : Int) := of_decide_eq_true (by first | (with_reducible assumption) | assumption)
                    have q4 : x3_1 < (a0.size : Int) := of_decide_eq_true (by first | (with_reducible assumption) | assumption)
                    have hx4 := bt_at a0 x3_1
                    replace p4 := eq_true p4
                    replace q4 := eq_true q4
                    go_wp2
                    go_roundg k1
                    case measure => have := HK1.out; omega
                    case rel => exact ⟨(wrap64 (x3_1 + 1)), (by first | rfl | (simp; done) | (simp [*]; done)), H', ⟨by have := HK1.out; omega⟩, by repeat (first | exact Drawn0.refl _ | apply Drawn0.step)⟩
                · rw [if_neg c74] at H
                  have c74b0 : decide ((bt a0 x3_1) ≤ 57) = false := decide_eq_false c74
                  clear c74
                  by_cases c76 : (bt a0 x3_1) = 43
                  · rw [if_pos c76] at H
                    have c76b0 : ((bt a0 x3_1) == 43) = true := beq_iff_eq.mpr c76
                    have c76b1 : ((bt a0 x3_1) != 43) = false := bne_eq_false_iff_eq.mpr c76
                    clear c76
                    by_cases c77 : ((bt a0 x3_1) ≤ 90)
                    · rw [if_pos c77] at H
                      have c77b0 : decide ((bt a0 x3_1) ≤ 90) = true := decide_eq_true c77
                      clear c77
                      have H' := Aside0.mk H
                      clear H
                      have p4 : 0 ≤ (x3_1 : Int) := of_decide_eq_true (by first | (with_reducible assumption) | assumption)
                      have q4 : x3_1 < (a0.size : Int) := of_decide_eq_true (by first | (with_reducible assumption) | assumption)
                      have hx4 := bt_at a0 x3_1
                      replace p4 := eq_true p4
                      replace q4 := eq_true q4
                      go_wp2
                      go_roundg k1
                      case measure => have := HK1.out; omega
                      case rel => exact ⟨(wrap64 (x3_1 + 1)), (by first | rfl | (simp; done) | (simp [*]; done)), H', ⟨by have := HK1.out; omega⟩, by repeat (first | exact Drawn0.refl _ | apply Drawn0.step)⟩
                    · rw [if_neg c77] at H
                      have c77b0 : decide ((bt a0 x3_1) ≤ 90) = false := decide_eq_false c77
                      clear c77
                      have H' := Aside0.mk H
                      clear H
                      have p4 : 0 ≤ (x3_1 : Int) := of_decide_eq_true (by first | (with_reducible assumption) | assumption)
                      have q4 : x3_1 < (a0.size : Int) := of_decide_eq_true (by first | (with_reducible assumption) | assumption)
                      have hx4 := bt_at a0 x3_1
                      replace p4 := eq_true p4
                      replace q4 := eq_true q4
                      go_wp2
                      go_roundg k1
                      case measure => have := HK1.out; omega
                      case rel => exact ⟨(wrap64 (x3_1 + 1)), (by first | rfl | (simp; done) | (simp [*]; done)), H', ⟨by have := HK1.out; omega⟩, by repeat (first | exact Drawn0.refl _ | apply Drawn0.step)⟩
                  · rw [if_neg c76] at H
                    have c76b0 : ((bt a0 x3_1) == 43) = false := beq_eq_false_iff_ne.mpr c76
                    have c76b1 : ((bt a0 x3_1) != 43) = true := bne_iff_ne.mpr c76
                    by_cases c78 : (bt a0 x3_1) = 45
                    · rw [if_pos c78] at H
                      have c78b0 : ((bt a0 x3_1) == 45) = true := beq_iff_eq.mpr c78
                      have c78b1 : ((bt a0 x3_1) != 45) = false := bne_eq_false_iff_eq.mpr c78
                      clear c78
                      by_cases c79 : ((bt a0 x3_1) ≤ 90)
                      · rw [if_pos c79] at H
                        have c79b0 : decide ((bt a0 x3_1) ≤ 90) = true := decide_eq_true c79
                        clear c79
                        have H' := Aside0.mk H
                        clear H
                        have p4 : 0 ≤ (x3_1 : Int) := of_decide_eq_true (by first | (with_reducible assumption) | assumption)
                        have q4 : x3_1 < (a0.size : Int) := of_decide_eq_true (by first | (with_reducible assumption) | assumption)
                        have hx4 := bt_at a0 x3_1
                        replace p4 := eq_true p4
                        replace q4 := eq_true q4
                        go_wp2
                        go_roundg k1
                        case measure => have := HK1.out; omega
                        case rel => exact ⟨(wrap64 (x3_1 + 1)), (by first | rfl | (simp; done) | (simp [*]; done)), H', ⟨by have := HK1.out; omega⟩, by repeat (first | exact Drawn0.refl _ | apply Drawn0.step)⟩
                      · rw [if_neg c79] at H
                        have c79b0 : decide ((bt a0 x3_1) ≤ 90) = false := decide_eq_false c79
                        clear c79
                        have H' := Aside0.mk H
                        clear H
                        have p4 : 0 ≤ (x3_1 : Int) := of_decide_eq_true (by first | (with_reducible assumption) | assumption)
                        have q4 : x3_1 < (a0.size : Int) := of_decide_eq_true (by first | (with_reducible assumption) | assumption)
                        have hx4 := bt_at a0 x3_1
                        replace p4 := eq_true p4
                        replace q4 := eq_true q4
                        go_wp2
                        go_roundg k1
                        case measure => have := HK1.out; omega
                        case rel => exact ⟨(wrap64 (x3_1 + 1)), (by first | rfl | (simp; done) | (simp [*]; done)), H', ⟨by have := HK1.out; omega⟩, by repeat (first | exact Drawn0.refl _ | apply Drawn0.step)⟩
                    · rw [if_neg c78] at H
                      have c78b0 : ((bt a0 x3_1) == 45) = false := beq_eq_false_iff_ne.mpr c78
                      have c78b1 : ((bt a0 x3_1) != 45) = true := bne_iff_ne.mpr c78
                      by_cases c80 : (bt a0 x3_1) = 95
                      · rw [if_pos c80] at H
                        have c80b0 : ((bt a0 x3_1) == 95) = true := beq_iff_eq.mpr c80
                        have c80b1 : ((bt a0 x3_1) != 95) = false := bne_eq_false_iff_eq.mpr c80
                        clear c80
                        by_cases c81 : ((bt a0 x3_1) ≤ 90)
                        · rw [if_pos c81] at H
                          have c81b0 : decide ((bt a0 x3_1) ≤ 90) = true := decide_eq_true c81
                          clear c81
                          have H' := Aside0.mk H
                          clear H
                          have p4 : 0 ≤ (x3_1 : Int) := of_decide_eq_true (by first | (with_reducible assumption) | assumption)
                          have q4 : x3_1 < (a0.size : Int) := of_decide_eq_true (by first | (with_reducible assumption) | assumption)
                          have hx4 := bt_at a0 x3_1
                          replace p4 := eq_true p4
                          replace q4 := eq_true q4
                          go_wp2
                          go_roundg k1
                          case measure => have := HK1.out; omega
                          case rel => exact ⟨(wrap64 (x3_1 + 1)), (by first | rfl | (simp; done) | (simp [*]; done)), H', ⟨by have := HK1.out; omega⟩, by repeat (first | exact Drawn0.refl _ | apply Drawn0.step)⟩
                        · rw [if_neg c81] at H
                          have c81b0 : decide ((bt a0 x3_1) ≤ 90) = false := decide_eq_false c81
                          clear c81
                          have H' := Aside0.mk H
                          clear H
                          have p4 : 0 ≤ (x3_1 : Int) := of_decide_eq_true (by first | (with_reducible assumption) | assumption)
                          have q4 : x3_1 < (a0.size : Int) := of_decide_eq_true (by first | (with_reducible assumption) | assumption)
                          have hx4 := bt_at a0 x3_1
                          replace p4 := eq_true p4
                          replace q4 := eq_true q4
                          go_wp2
                          go_roundg k1
                          case measure => have := HK1.out; omega
                          case rel => exact ⟨(wrap64 (x3_1 + 1)), (by first | rfl | (simp; done) | (simp [*]; done)), H', ⟨by have := HK1.out; omega⟩, by repeat (first | exact Drawn0.refl _ | apply Drawn0.step)⟩
                      · rw [if_neg c80] at H
                        have c80b0 : ((bt a0 x3_1) == 95) = false := beq_eq_false_iff_ne.mpr c80
                        have c80b1 : ((bt a0 x3_1) != 95) = true := bne_iff_ne.mpr c80
                        by_cases c82 : (bt a0 x3_1) = 63
                        · rw [if_pos c82] at H
                          have c82b0 : ((bt a0 x3_1) == 63) = true := beq_iff_eq.mpr c82
                          have c82b1 : ((bt a0 x3_1) != 63) = false := bne_eq_false_iff_eq.mpr c82
                          clear c82
                          by_cases c83 : ((bt a0 x3_1) ≤ 90)
                          · rw [if_pos c83] at H
                            have c83b0 : decide ((bt a0 x3_1) ≤ 90) = true := decide_eq_true c83
                            clear c83
                            have H' := Aside0.mk H
                            clear H
                            have p4 : 0 ≤ (x3_1 : Int) := of_decide_eq_true (by first | (with_reducible assumption) | assumption)
                            have q4 : x3_1 < (a0.size : Int) := of_decide_eq_true (by first | (with_reducible assumption) | assumption)
                            have hx4 := bt_at a0 x3_1
                            replace p4 := eq_true p4
                            replace q4 := eq_true q4
                            go_wp2
                            go_roundg k1
                            case measure => have := HK1.out; omega
                            case rel => exact ⟨(wrap64 (x3_1 + 1)), (by first | rfl | (simp; done) | (simp [*]; done)), H', ⟨by have := HK1.out; omega⟩, by repeat (first | exact Drawn0.refl _ | apply Drawn0.step)⟩
                          · rw [if_neg c83] at H
                            have c83b0 : decide ((bt a0 x3_1) ≤ 90) = false := decide_eq_false c83
                            clear c83
                            have H' := Aside0.mk H
                            clear H
                            have p4 : 0 ≤ (x3_1 : Int) := of_decide_eq_true (by first | (with_reducible assumption) | assumption)
                            have q4 : x3_1 < (a0.size : Int) := of_decide_eq_true (by first | (with_reducible assumption) | assumption)
                            have hx4 := bt_at a0 x3_1
                            replace p4 := eq_true p4
                            replace q4 := eq_true q4
                            go_wp2
                            go_roundg k1
                            case measure => have := HK1.out; omega
                            case rel => exact ⟨(wrap64 (x3_1 + 1)), (by first | rfl | (simp; done) | (simp [*]; done)), H', ⟨by have := HK1.out; omega⟩, by repeat (first | exact Drawn0.refl _ | apply Drawn0.step)⟩
                        · rw [if_neg c82] at H
                          have c82b0 : ((bt a0 x3_1) == 63) = false := beq_eq_false_iff_ne.mpr c82
                          have c82b1 : ((bt a0 x3_1) != 63) = true := bne_iff_ne.mpr c82
                          by_cases c84 : ((bt a0 x3_1) ≤ 90)
                          · rw [if_pos c84] at H
                            have c84b0 : decide ((bt a0 x3_1) ≤ 90) = true := decide_eq_true c84
                            clear c84
                            have H' := Aside0.mk H
                            clear H
                            have p4 : 0 ≤ (x3_1 : Int) := of_decide_eq_true (by first | (with_reducible assumption) | assumption)
                            have q4 : x3_1 < (a0.size : Int) := of_decide_eq_true (by first | (with_reducible assumption) | assumption)
                            have hx4 := bt_at a0 x3_1
                            replace p4 := eq_true p4
                            replace q4 := eq_true q4
                            go_wp2
                            go_roundg k1
                            case measure => have := HK1.out; omega
                            case rel => exact ⟨(wrap64 (x3_1 + 1)), (by first | rfl | (simp; done) | (simp [*]; done)), H', ⟨by have := HK1.out; omega⟩, by repeat (first | exact Drawn0.refl _ | apply Drawn0.step)⟩
                          · rw [if_neg c84] at H
                            have c84b0 : decide ((bt a0 x3_1) ≤ 90) = false := decide_eq_false c84
                            clear c84
                            by_cases c85 : ((bt a0 x3_1) = 61)
                            · rw [if_pos c85] at H
                              have c85b0 : ((bt a0 x3_1) == 61) = true := beq_iff_eq.mpr c85
                              have c85b1 : ((bt a0 x3_1) != 61) = false := bne_eq_false_iff_eq.mpr c85
                              clear c85
                              have H' := Aside0.mk H
                              clear H
                              have p4 : 0 ≤ (x3_1 : Int) := of_decide_eq_true (by first | (with_reducible assumption) | assumption)
                              have q4 : x3_1 < (a0.size : Int) := of_decide_eq_true (by first | (with_reducible assumption) | assumption)
                              have hx4 := bt_at a0 x3_1
                              replace p4 := eq_true p4
                              replace q4 := eq_true q4
                              go_wp2
                              go_roundg k1
                              case measure => have := HK1.out; omega
                              case rel => exact ⟨(wrap64 (x3_1 + 1)), (by first | rfl | (simp; done) | (simp [*]; done)), H', ⟨by have := HK1.out; omega⟩, by repeat (first | exact Drawn0.refl _ | apply Drawn0.step)⟩
                            · rw [if_neg c85] at H
                              have c85b0 : ((bt a0 x3_1) == 61) = false := beq_eq_false_iff_ne.mpr c85
                              have c85b1 : ((bt a0 x3_1) != 61) = true := bne_iff_ne.mpr c85
                              by_cases c86 : (bt a0 x3_1) = 46
                              · rw [if_pos c86] at H
                                have c86b0 : ((bt a0 x3_1) == 46) = true := beq_iff_eq.mpr c86
                                have c86b1 : ((bt a0 x3_1) != 46) = false := bne_eq_false_iff_eq.mpr c86
                                clear c86
                                by_cases c87 : x3_1 = 0
                                · rw [if_pos c87] at H
                                  have c87b0 : (x3_1 == 0) = true := beq_iff_eq.mpr c87
                                  have c87b1 : (x3_1 != 0) = false := bne_eq_false_iff_eq.mpr c87
                                  clear c87
                                  obtain rfl := Option.some.inj H
                                  have p4 : 0 ≤ (x3_1 : Int) := of_decide_eq_true (by first | (with_reducible assumption) | assumption)
                                  have q4 : x3_1 < (a0.size : Int) := of_decide_eq_true (by first | (with_reducible assumption) | assumption)
                                  have hx4 := bt_at a0 x3_1
                                  replace p4 := eq_true p4
                                  replace q4 := eq_true q4
                                  go_wp2
                                  go_ret
                                  exact ⟨by first | rfl | (simp; done) | (simp [*]; done), by repeat (first | exact Drawn0.refl _ | apply Drawn0.step)⟩
                                · rw [if_neg c87] at H
                                  have c87b0 : (x3_1 == 0) = false := beq_eq_false_iff_ne.mpr c87
                                  have c87b1 : (x3_1 != 0) = true := bne_iff_ne.mpr c87
                                  have H' := Aside0.mk H
                                  clear H
                                  have p4 : 0 ≤ (x3_1 : Int) := of_decide_eq_true (by first | (with_reducible assumption) | assumption)
                                  have q4 : x3_1 < (a0.size : Int) := of_decide_eq_true (by first | (with_reducible assumption) | assumption)
                                  have hx4 := bt_at a0 x3_1
                                  replace p4 := eq_true p4
                                  replace q4 := eq_true q4
                                  go_wp2
                                  go_roundg k1
                                  case measure => have := HK1.out; omega
                                  case rel => exact ⟨(wrap64 (x3_1 + 1)), (by first | rfl | (simp; done) | (simp [*]; done)), H', ⟨by have := HK1.out; omega⟩, by repeat (first | exact Drawn0.refl _ | apply Drawn0.step)⟩
                              · rw [if_neg c86] at H
                                have c86b0 : ((bt a0 x3_1) == 46) = false := beq_eq_false_iff_ne.mpr c86
                                have c86b1 : ((bt a0 x3_1) != 46) = true := bne_iff_ne.mpr c86
                                obtain rfl := Option.some.inj H
                                have p4 : 0 ≤ (x3_1 : Int) := of_decide_eq_true (by first | (with_reducible assumption) | assumption)
                                have q4 : x3_1 < (a0.size : Int) := of_decide_eq_true (by first | (with_reducible assumption) | assumption)
                                have hx4 := bt_at a0 x3_1
                                replace p4 := eq_true p4
                                replace q4 := eq_true q4
                                go_wp2
                                go_ret
                                exact ⟨by first | rfl | (simp; done) | (simp [*]; done), by repeat (first | exact Drawn0.refl _ | apply Drawn0.step)⟩
              · rw [if_neg c73] at H
                have c73b0 : decide (48 ≤ (bt a0 x3_1)) = false := decide_eq_false c73
                clear c73
                by_cases c88 : (bt a0 x3_1) = 43
                · rw [if_pos c88] at H
                  have c88b0 : ((bt a0 x3_1) == 43) = true := beq_iff_eq.mpr c88
                  have c88b1 : ((bt a0 x3_1) != 43) = false := bne_eq_false_iff_eq.mpr c88
                  clear c88
                  by_cases c89 : ((bt a0 x3_1) ≤ 90)
                  · rw [if_pos c89] at H
                    have c89b0 : decide ((bt a0 x3_1) ≤ 90) = true := decide_eq_true c89
                    clear c89
                    have H' := Aside0.mk H
                    clear H
                    have p4 : 0 ≤ (x3_1 : Int) := of_decide_eq_true (by first | (with_reducible assumption) | assumption)
                    have q4 : x3_1 < (a0.size : Int) := of_decide_eq_true (by first | (with_reducible assumption) | assumption)
                    have hx4 := bt_at a0 x3_1
                    replace p4 := eq_true p4
                    replace q4 := eq_true q4
                    go_wp2
                    go_roundg k1
                    case measure => have := HK1.out; omega
                    case rel => exact ⟨(wrap64 (x3_1 + 1)), (by first | rfl | (simp; done) | (simp [*]; done)), H', ⟨by have := HK1.out; omega⟩, by repeat (first | exact Drawn0.refl _ | apply Drawn0.step)⟩
                  · rw [if_neg c89] at H
                    have c89b0 : decide ((bt a0 x3_1) ≤ 90) = false := decide_eq_false c89
                    clear c89
                    have H' := Aside0.mk H
                    clear H
                    have p4 : 0 ≤ (x3_1 : Int) := of_decide_eq_true (by first | (with_reducible assumption) | assumption)
                    have q4 : x3_1 < (a0.size : Int) := of_decide_eq_true (by first | (with_reducible assumption) | assumption)
                    have hx4 := bt_at a0 x3_1
                    replace p4 := eq_true p4
                    replace q4 := eq_true q4
                    go_wp2
                    go_roundg k1
                    case measure => have := HK1.out; omega
                    case rel => exact ⟨(wrap64 (x3_1 + 1)), (by first | rfl | (simp; done) | (simp [*]; done)), H', ⟨by have := HK1.out; omega⟩, by repeat (first | exact Drawn0.refl _ | apply Drawn0.step)⟩
                · rw [if_neg c88] at H
                  have c88b0 : ((bt a0 x3_1) == 43) = false := beq_eq_false_iff_ne.mpr c88
                  have c88b1 : ((bt a0 x3_1) != 43) = true := bne_iff_ne.mpr c88
                  by_cases c90 : (bt a0 x3_1) = 45
                  · rw [if_pos c90] at H
                    have c90b0 : ((bt a0 x3_1) == 45) = true := beq_iff_eq.mpr c90
                    have c90b1 : ((bt a0 x3_1) != 45) = false := bne_eq_false_iff_eq.mpr c90
                    clear c90
                    by_cases c91 : ((bt a0 x3_1) ≤ 90)
                    · rw [if_pos c91] at H
                      have c91b0 : decide ((bt a0 x3_1) ≤ 90) = true := decide_eq_true c91
                      clear c91
                      have H' := Aside0.mk H
                      clear H
                      have p4 : 0 ≤ (x3_1 : Int) := of_decide_eq_true (by first | (with_reducible assumption) | assumption)
                      have q4 : x3_1 < (a0.size : Int) := of_decide_eq_true (by first | (with_reducible assumption) | assumption)
                      have hx4 := bt_at a0 x3_1
                      replace p4 := eq_true p4
                      replace q4 := eq_true q4
                      go_wp2
                      go_roundg k1
                      case measure => have := HK1.out; omega
                      case rel => exact ⟨(wrap64 (x3_1 + 1)), (by first | rfl | (simp; done) | (simp [*]; done)), H', ⟨by have := HK1.out; omega⟩, by repeat (first | exact Drawn0.refl _ | apply Drawn0.step)⟩
                    · rw [if_neg c91] at H
                      have c91b0 : decide ((bt a0 x3_1) ≤ 90) = false := decide_eq_false c91
                      clear c91
                      have H' := Aside0.mk H
                      clear H
                      have p4 : 0 ≤ (x3_1 : Int) := of_decide_eq_true (by first | (with_reducible assumption) | assumption)
                      have q4 : x3_1 < (a0.size : Int) := of_decide_eq_true (by first | (with_reducible assumption) | assumption)
                      have hx4 := bt_at a0 x3_1
                      replace p4 := eq_true p4
                      replace q4 := eq_true q4
                      go_wp2
                      go_roundg k1
                      case measure => have := HK1.out; omega
                      case rel => exact ⟨(wrap64 (x3_1 + 1)), (by first | rfl | (simp; done) | (simp [*]; done)), H', ⟨by have := HK1.out; omega⟩, by repeat (first | exact Drawn0.refl _ | apply Drawn0.step)⟩
                  · rw [if_neg c90] at H
                    have c90b0 : ((bt a0 x3_1) == 45) = false := beq_eq_false_iff_ne.mpr c90
                    have c90b1 : ((bt a0 x3_1) != 45) = true := bne_iff_ne.mpr c90
                    by_cases c92 : (bt a0 x3_1) = 95
                    · rw [if_pos c92] at H
                      have c92b0 : ((bt a0 x3_1) == 95) = true := beq_iff_eq.mpr c92
                      have c92b1 : ((bt a0 x3_1) != 95) = false := bne_eq_false_iff_eq.mpr c92
                      clear c92
                      by_cases c93 : ((bt a0 x3_1) ≤ 90)
                      · rw [if_pos c93] at H
                        have c93b0 : decide ((bt a0 x3_1) ≤ 90) = true := decide_eq_true c93
                        clear c93
                        have H' := Aside0.mk H
                        clear H
                        have p4 : 0 ≤ (x3_1 : Int) := of_decide_eq_true (by first | (with_reducible assumption) | assumption)
                        have q4 : x3_1 < (a0.size : Int) := of_decide_eq_true (by first | (with_reducible assumption) | assumption)
                        have hx4 := bt_at a0 x3_1
                        replace p4 := eq_true p4
                        replace q4 := eq_true q4
                        go_wp2
                        go_roundg k1
                        case measure => have := HK1.out; omega
                        case rel => exact ⟨(wrap64 (x3_1 + 1)), (by first | rfl | (simp; done) | (simp [*]; done)), H', ⟨by have := HK1.out; omega⟩, by repeat (first | exact Drawn0.refl _ | apply Drawn0.step)⟩
                      · rw [if_neg c93] at H
                        have c93b0 : decide ((bt a0 x3_1) ≤ 90) = false := decide_eq_false c93
                        clear c93
                        have H' := Aside0.mk H
                        clear H
                        have p4 : 0 ≤ (x3_1 : Int) := of_decide_eq_true (by first | (with_reducible assumption) | assumption)
                        have q4 : x3_1 < (a0.size : Int) := of_decide_eq_true (by first | (with_reducible assumption) | assumption)
                        have hx4 := bt_at a0 x3_1
                        replace p4 := eq_true p4
                        replace q4 := eq_true q4
                        go_wp2
                        go_roundg k1
                        case measure => have := HK1.out; omega
                        case rel => exact ⟨(wrap64 (x3_1 + 1)), (by first | rfl | (simp; done) | (simp [*]; done)), H', ⟨by have := HK1.out; omega⟩, by repeat (first | exact Drawn0.refl _ | apply Drawn0.step)⟩
                    · rw [if_neg c92] at H
                      have c92b0 : ((bt a0 x3_1) == 95) = false := beq_eq_false_iff_ne.mpr c92
                      have c92b1 : ((bt a0 x3_1) != 95) = true := bne_iff_ne.mpr c92
                      by_cases c94 : (bt a0 x3_1) = 63
                      · rw [if_pos c94] at H
                        have c94b0 : ((bt a0 x3_1) == 63) = true := beq_iff_eq.mpr c94
                        have c94b1 : ((bt a0 x3_1) != 63) = false := bne_eq_false_iff_eq.mpr c94
                        clear c94
                        by_cases c95 : ((bt a0 x3_1) ≤ 90)
                        · rw [if_pos c95] at H
                          have c95b0 : decide ((bt a0 x3_1) ≤ 90) = true := decide_eq_true c95
                          clear c95
                          have H' := Aside0.mk H
                          clear H
                          have p4 : 0 ≤ (x3_1 : Int) := of_decide_eq_true (by first | (with_reducible assumption) | assumption)
                          have q4 : x3_1 < (a0.size : Int) := of_decide_eq_true (by first | (with_reducible assumption) | assumption)
                          have hx4 := bt_at a0 x3_1
                          replace p4 := eq_true p4
                          replace q4 := eq_true q4
                          go_wp2
                          go_roundg k1
                          case measure => have := HK1.out; omega
                          case rel => exact ⟨(wrap64 (x3_1 + 1)), (by first | rfl | (simp; done) | (simp [*]; done)), H', ⟨by have := HK1.out; omega⟩, by repeat (first | exact Drawn0.refl _ | apply Drawn0.step)⟩
                        · rw [if_neg c95] at H
                          have c95b0 : decide ((bt a0 x3_1) ≤ 90) = false := decide_eq_false c95
                          clear c95
                          have H' := Aside0.mk H
                          clear H
                          have p4 : 0 ≤ (x3_1 : Int) := of_decide_eq_true (by first | (with_reducible assumption) | assumption)
                          have q4 : x3_1 < (a0.size : Int) := of_decide_eq_true (by first | (with_reducible assumption) | assumption)
                          have hx4 := bt_at a0 x3_1
                          replace p4 := eq_true p4
                          replace q4 := eq_true q4
                          go_wp2
                          go_roundg k1
                          case measure => have := HK1.out; omega
                          case rel => exact ⟨(wrap64 (x3_1 + 1)), (by first | rfl | (simp; done) | (simp [*]; done)), H', ⟨by have := HK1.out; omega⟩, by repeat (first | exact Drawn0.refl _ | apply Drawn0.step)⟩
                      · rw [if_neg c94] at H
                        have c94b0 : ((bt a0 x3_1) == 63) = false := beq_eq_false_iff_ne.mpr c94
                        have c94b1 : ((bt a0 x3_1) != 63) = true := bne_iff_ne.mpr c94
                        by_cases c96 : ((bt a0 x3_1) ≤ 90)
                        · rw [if_pos c96] at H
                          have c96b0 : decide ((bt a0 x3_1) ≤ 90) = true := decide_eq_true c96
                          clear c96
                          have H' := Aside0.mk H
                          clear H
                          have p4 : 0 ≤ (x3_1 : Int) := of_decide_eq_true (by first | (with_reducible assumption) | assumption)
                          have q4 : x3_1 < (a0.size : Int) := of_decide_eq_true (by first | (with_reducible assumption) | assumption)
                          have hx4 := bt_at a0 x3_1
                          replace p4 := eq_true p4
                          replace q4 := eq_true q4
                          go_wp2
                          go_roundg k1
                          case measure => have := HK1.out; omega
                          case rel => exact ⟨(wrap64 (x3_1 + 1)), (by first | rfl | (simp; done) | (simp [*]; done)), H', ⟨by have := HK1.out; omega⟩, by repeat (first | exact Drawn0.refl _ | apply Drawn0.step)⟩
                        · rw [if_neg c96] at H
                          have c96b0 : decide ((bt a0 x3_1) ≤ 90) = false := decide_eq_false c96
                          clear c96
                          by_cases c97 : ((bt a0 x3_1) = 61)
                          · rw [if_pos c97] at H
                            have c97b0 : ((bt a0 x3_1) == 61) = true := beq_iff_eq.mpr c97
                            have c97b1 : ((bt a0 x3_1) != 61) = false := bne_eq_false_iff_eq.mpr c97
                            clear c97
                            have H' := Aside0.mk H
                            clear H
                            have p4 : 0 ≤ (x3_1 : Int) := of_decide_eq_true (by first | (with_reducible assumption) | assumption)
                            have q4 : x3_1 < (a0.size : Int) := of_decide_eq_true (by first | (with_reducible assumption) | assumption)
                            have hx4 := bt_at a0 x3_1
                            replace p4 := eq_true p4
                            replace q4 := eq_true q4
                            go_wp2
                            go_roundg k1
                            case measure => have := HK1.out; omega
                            case rel => exact ⟨(wrap64 (x3_1 + 1)), (by first | rfl | (simp; done) | (simp [*]; done)), H', ⟨by have := HK1.out; omega⟩, by repeat (first | exact Drawn0.refl _ | apply Drawn0.step)⟩
                          · rw [if_neg c97] at H
                            have c97b0 : ((bt a0 x3_1) == 61) = false := beq_eq_false_iff_ne.mpr c97
                            have c97b1 : ((bt a0 x3_1) != 61) = true := bne_iff_ne.mpr c97
                            by_cases c98 : (bt a0 x3_1) = 46
                            · rw [if_pos c98] at H
                              have c98b0 : ((bt a0 x3_1) == 46) = true := beq_iff_eq.mpr c98
                              have c98b1 : ((bt a0 x3_1) != 46) = false := bne_eq_false_iff_eq.mpr c98
                              clear c98
                              by_cases c99 : x3_1 = 0
                              · rw [if_pos c99] at H
                                have c99b0 : (x3_1 == 0) = true := beq_iff_eq.mpr c99
                                have c99b1 : (x3_1 != 0) = false := bne_eq_false_iff_eq.mpr c99
                                clear c99
                                obtain rfl := Option.some.inj H
                                have p4 : 0 ≤ (x3_1 : Int) := of_decide_eq_true (by first | (with_reducible assumption) | assumption)
                                have q4 : x3_1 < (a0.size : Int) := of_decide_eq_true (by first | (with_reducible assumption) | assumption)
                                have hx4 := bt_at a0 x3_1
                                replace p4 := eq_true p4
                                replace q4 := eq_true q4
                                go_wp2
                                go_ret
                                exact ⟨by first | rfl | (simp; done) | (simp [*]; done), by repeat (first | exact Drawn0.refl _ | apply Drawn0.step)⟩
                              · rw [if_neg c99] at H
                                have c99b0 : (x3_1 == 0) = false := beq_eq_false_iff_ne.mpr c99
                                have c99b1 : (x3_1 != 0) = true := bne_iff_ne.mpr c99
                                have H' := Aside0.mk H
                                clear H
                                have p4 : 0 ≤ (x3_1 : Int) := of_decide_eq_true (by first | (with_reducible assumption) | assumption)
                                have q4 : x3_1 < (a0.size : Int) := of_decide_eq_true (by first | (with_reducible assumption) | assumption)
                                have hx4 := bt_at a0 x3_1
                                replace p4 := eq_true p4
                                replace q4 := eq_true q4
                                go_wp2
                                go_roundg k1
                                case measure => have := HK1.out; omega
                                case rel => exact ⟨(wrap64 (x3_1 + 1)), (by first | rfl | (simp; done) | (simp [*]; done)), H', ⟨by have := HK1.out; omega⟩, by repeat (first | exact Drawn0.refl _ | apply Drawn0.step)⟩
                            · rw [if_neg c98] at H
                              have c98b0 : ((bt a0 x3_1) == 46) = false := beq_eq_false_iff_ne.mpr c98
                              have c98b1 : ((bt a0 x3_1) != 46) = true := bne_iff_ne.mpr c98
                              obtain rfl := Option.some.inj H
                              have p4 : 0 ≤ (x3_1 : Int) := of_decide_eq_true (by first | (with_reducible assumption) | assumption)
                              have q4 : x3_1 < (a0.size : Int) := of_decide_eq_true (by first | (with_reducible assumption) | assumption)
                              have hx4 := bt_at a0 x3_1
                              replace p4 := eq_true p4
                              replace q4 := eq_true q4
                              go_wp2
                              go_ret
                              exact ⟨by first | rfl | (simp; done) | (simp [*]; done), by repeat (first | exact Drawn0.refl _ | apply Drawn0.step)⟩
            · rw [if_neg c72] at H
              have c72b0 : decide (65 ≤ (bt a0 x3_1)) = false := decide_eq_false c72
              clear c72
              by_cases c100 : (bt a0 x3_1) ≥ 48
              · rw [if_pos c100] at H
                have c100b0 : decide (48 ≤ (bt a0 x3_1)) = true := decide_eq_true c100
                clear c100
                by_cases c101 : (bt a0 x3_1) ≤ 57
                · rw [if_pos c101] at H
                  have c101b0 : decide ((bt a0 x3_1) ≤ 57) = true := decide_eq_true c101
                  clear c101
                  have H' := Aside0.mk H
                  clear H
                  have p4 : 0 ≤ (x3_1 : Int) := of_decide_eq_true (by first | (with_reducible assumption) | assumption)
                  have q4 : x3_1 < (a0.size : Int) := of_decide_eq_true (by first | (with_reducible assumption) | assumption)
                  have hx4 := bt_at a0 x3_1
                  replace p4 := eq_true p4
                  replace q4 := eq_true q4
                  go_wp2
                  go_roundg k1
                  case measure => have := HK1.out; omega
                  case rel => exact ⟨(wrap64 (x3_1 + 1)), (by first | rfl | (simp; done) | (simp [*]; done)), H', ⟨by have := HK1.out; omega⟩, by repeat (first | exact Drawn0.refl _ | apply Drawn0.step)⟩
                · rw [if_neg c101] at H
                  have c101b0 : decide ((bt a0 x3_1) ≤ 57) = false := decide_eq_false c101
                  clear c101
                  by_cases c102 : (bt a0 x3_1) = 43
                  · rw [if_pos c102] at H
                    have c102b0 : ((bt a0 x3_1) == 43) = true := beq_iff_eq.mpr c102
                    have c102b1 : ((bt a0 x3_1) != 43) = false := bne_eq_false_iff_eq.mpr c102
                    clear c102
                    have H' := Aside0.mk H
                    clear H
                    have p4 : 0 ≤ (x3_1 : Int) := of_decide_eq_true (by first | (with_reducible assumption) | assumption)
                    have q4 : x3_1 < (a0.size : Int) := of_decide_eq_true (by first | (with_reducible assumption) | assumption)
                    have hx4 := bt_at a0 x3_1
                    replace p4 := eq_true p4
                    replace q4 := eq_true q4
                    go_wp2
                    go_roundg k1
                    case measure => have := HK1.out; omega
                    case rel => exact ⟨(wrap64 (x3_1 + 1)), (by first | rfl | (simp; done) | (simp [*]; done)), H', ⟨by have := HK1.out; omega⟩, by repeat (first | exact Drawn0.refl _ | apply Drawn0.step)⟩
                  · rw [if_neg c102] at H
                    have c102b0 : ((bt a0 x3_1) == 43) = false := beq_eq_false_iff_ne.mpr c102
                    have c102b1 : ((bt a0 x3_1) != 43) = true := bne_iff_ne.mpr c102
                    by_cases c103 : (bt a0 x3_1) = 45
                    · rw [if_pos c103] at H
                      have c103b0 : ((bt a0 x3_1) == 45) = true := beq_iff_eq.mpr c103
                      have c103b1 : ((bt a0 x3_1) != 45) = false := bne_eq_false_iff_eq.mpr c103
                      clear c103
                      have H' := Aside0.mk H
                      clear H
                      have p4 : 0 ≤ (x3_1 : Int) := of_decide_eq_true (by first | (with_reducible assumption) | assumption)
                      have q4 : x3_1 < (a0.size : Int) := of_decide_eq_true (by first | (with_reducible assumption) | assumption)
                      have hx4 := bt_at a0 x3_1
                      replace p4 := eq_true p4
                      replace q4 := eq_true q4
                      go_wp2
                      go_roundg k1
                      case measure => have := HK1.out; omega
                      case rel => exact ⟨(wrap64 (x3_1 + 1)), (by first | rfl | (simp; done) | (simp [*]; done)), H', ⟨by have := HK1.out; omega⟩, by repeat (first | exact Drawn0.refl _ | apply Drawn0.step)⟩
                    · rw [if_neg c103] at H
                      have c103b0 : ((bt a0 x3_1) == 45) = false := beq_eq_false_iff_ne.mpr c103
                      have c103b1 : ((bt a0 x3_1) != 45) = true := bne_iff_ne.mpr c103
                      by_cases c104 : (bt a0 x3_1) = 95
                      · rw [if_pos c104] at H
                        have c104b0 : ((bt a0 x3_1) == 95) = true := beq_iff_eq.mpr c104
                        have c104b1 : ((bt a0 x3_1) != 95) = false := bne_eq_false_iff_eq.mpr c104
                        clear c104
                        have H' := Aside0.mk H
                        clear H
                        have p4 : 0 ≤ (x3_1 : Int) := of_decide_eq_true (by first | (with_reducible assumption) | assumption)
                        have q4 : x3_1 < (a0.size : Int) := of_decide_eq_true (by first | (with_reducible assumption) | assumption)
                        have hx4 := bt_at a0 x3_1
                        replace p4 := eq_true p4
                        replace q4 := eq_true q4
                        go_wp2
                        go_roundg k1
                        case measure => have := HK1.out; omega
                        case rel => exact ⟨(wrap64 (x3_1 + 1)), (by first | rfl | (simp; done) | (simp [*]; done)), H', ⟨by have := HK1.out; omega⟩, by repeat (first | exact Drawn0.refl _ | apply Drawn0.step)⟩
                      · rw [if_neg c104] at H
                        have c104b0 : ((bt a0 x3_1) == 95) = false := beq_eq_false_iff_ne.mpr c104
                        have c104b1 : ((bt a0 x3_1) != 95) = true := bne_iff_ne.mpr c104
                        by_cases c105 : (bt a0 x3_1) = 63
                        · rw [if_pos c105] at H
                          have c105b0 : ((bt a0 x3_1) == 63) = true := beq_iff_eq.mpr c105
                          have c105b1 : ((bt a0 x3_1) != 63) = false := bne_eq_false_iff_eq.mpr c105
                          clear c105
                          have H' := Aside0.mk H
                          clear H
                          have p4 : 0 ≤ (x3_1 : Int) := of_decide_eq_true (by first | (with_reducible assumption) | assumption)
                          have q4 : x3_1 < (a0.size : Int) := of_decide_eq_true (by first | (with_reducible assumption) | assumption)
                          have hx4 := bt_at a0 x3_1
                          replace p4 := eq_true p4
                          replace q4 := eq_true q4
                          go_wp2
                          go_roundg k1
                          case measure => have := HK1.out; omega
                          case rel => exact ⟨(wrap64 (x3_1 + 1)), (by first | rfl | (simp; done) | (simp [*]; done)), H', ⟨by have := HK1.out; omega⟩, by repeat (first | exact Drawn0.refl _ | apply Drawn0.step)⟩
                        · rw [if_neg c105] at H
                          have c105b0 : ((bt a0 x3_1) == 63) = false := beq_eq_false_iff_ne.mpr c105
                          have c105b1 : ((bt a0 x3_1) != 63) = true := bne_iff_ne.mpr c105
                          by_cases c106 : ((bt a0 x3_1) = 61)
                          · rw [if_pos c106] at H
                            have c106b0 : ((bt a0 x3_1) == 61) = true := beq_iff_eq.mpr c106
                            have c106b1 : ((bt a0 x3_1) != 61) = false := bne_eq_false_iff_eq.mpr c106
                            clear c106
                            have H' := Aside0.mk H
                            clear H
                            have p4 : 0 ≤ (x3_1 : Int) := of_decide_eq_true (by first | (with_reducible assumption) | assumption)
                            have q4 : x3_1 < (a0.size : Int) := of_decide_eq_true (by first | (with_reducible assumption) | assumption)
                            have hx4 := bt_at a0 x3_1
                            replace p4 := eq_true p4
                            replace q4 := eq_true q4
                            go_wp2
                            go_roundg k1
                            case measure => have := HK1.out; omega
                            case rel => exact ⟨(wrap64 (x3_1 + 1)), (by first | rfl | (simp; done) | (simp [*]; done)), H', ⟨by have := HK1.out; omega⟩, by repeat (first | exact Drawn0.refl _ | apply Drawn0.step)⟩
                          · rw [if_neg c106] at H
                            have c106b0 : ((bt a0 x3_1) == 61) = false := beq_eq_false_iff_ne.mpr c106
                            have c106b1 : ((bt a0 x3_1) != 61) = true := bne_iff_ne.mpr c106
                            by_cases c107 : (bt a0 x3_1) = 46
                            · rw [if_pos c107] at H
                              have c107b0 : ((bt a0 x3_1) == 46) = true := beq_iff_eq.mpr c107
                              have c107b1 : ((bt a0 x3_1) != 46) = false := bne_eq_false_iff_eq.mpr c107
                              clear c107
                              by_cases c108 : x3_1 = 0
                              · rw [if_pos c108] at H
                                have c108b0 : (x3_1 == 0) = true := beq_iff_eq.mpr c108
                                have c108b1 : (x3_1 != 0) = false := bne_eq_false_iff_eq.mpr c108
                                clear c108
                                obtain rfl := Option.some.inj H
                                have p4 : 0 ≤ (x3_1 : Int) := of_decide_eq_true (by first | (with_reducible assumption) | assumption)
                                have q4 : x3_1 < (a0.size : Int) := of_decide_eq_true (by first | (with_reducible assumption) | assumption)
                                have hx4 := bt_at a0 x3_1
                                replace p4 := eq_true p4
                                replace q4 := eq_true q4
                                go_wp2
                                go_ret
                                exact ⟨by first | rfl | (simp; done) | (simp [*]; done), by repeat (first | exact Drawn0.refl _ | apply Drawn0.step)⟩
                              · rw [if_neg c108] at H
                                have c108b0 : (x3_1 == 0) = false := beq_eq_false_iff_ne.mpr c108
                                have c108b1 : (x3_1 != 0) = true := bne_iff_ne.mpr c108
                                have H' := Aside0.mk H
                                clear H
                                have p4 : 0 ≤ (x3_1 : Int) := of_decide_eq_true (by first | (with_reducible assumption) | assumption)
                                have q4 : x3_1 < (a0.size : Int) := of_decide_eq_true (by first | (with_reducible assumption) | assumption)
                                have hx4 := bt_at a0 x3_1
                                replace p4 := eq_true p4
                                replace q4 := eq_true q4
                                go_wp2
                                go_roundg k1
                                case measure => have := HK1.out; omega
                                case rel => exact ⟨(wrap64 (x3_1 + 1)), (by first | rfl | (simp; done) | (simp [*]; done)), H', ⟨by have := HK1.out; omega⟩, by repeat (first | exact Drawn0.refl _ | apply Drawn0.step)⟩
                            · rw [if_neg c107] at H
                              have c107b0 : ((bt a0 x3_1) == 46) = false := beq_eq_false_iff_ne.mpr c107
                              have c107b1 : ((bt a0 x3_1) != 46) = true := bne_iff_ne.mpr c107
                              obtain rfl := Option.some.inj H
                              have p4 : 0 ≤ (x3_1 : Int) := of_decide_eq_true (by first | (with_reducible assumption) | assumption)
                              have q4 : x3_1 < (a0.size : Int) := of_decide_eq_true (by first | (with_reducible assumption) | assumption)
                              have hx4 := bt_at a0 x3_1
                              replace p4 := eq_true p4
                              replace q4 := eq_true q4
                              go_wp2
                              go_ret
                              exact ⟨by first | rfl | (simp; done) | (simp [*]; done), by repeat (first | exact Drawn0.refl _ | apply Drawn0.step)⟩
              · rw [if_neg c100] at H
                have c100b0 : decide (48 ≤ (bt a0 x3_1)) = false := decide_eq_false c100
                clear c100
                by_cases c109 : (bt a0 x3_1) = 43
                · rw [if_pos c109] at H
                  have c109b0 : ((bt a0 x3_1) == 43) = true := beq_iff_eq.mpr c109
                  have c109b1 : ((bt a0 x3_1) != 43) = false := bne_eq_false_iff_eq.mpr c109
                  clear c109
                  have H' := Aside0.mk H
                  clear H
                  have p4 : 0 ≤ (x3_1 : Int) := of_decide_eq_true (by first | (with_reducible assumption) | assumption)
                  have q4 : x3_1 < (a0.size : Int) := of_decide_eq_true (by first | (with_reducible assumption) | assumption)
                  have hx4 := bt_at a0 x3_1
                  replace p4 := eq_true p4
                  replace q4 := eq_true q4
                  go_wp2
                  go_roundg k1
                  case measure => have := HK1.out; omega
                  case rel => exact ⟨(wrap64 (x3_1 + 1)), (by first | rfl | (simp; done) | (simp [*]; done)), H', ⟨by have := HK1.out; omega⟩, by repeat (first | exact Drawn0.refl _ | apply Drawn0.step)⟩
                · rw [if_neg c109] at H
                  have c109b0 : ((bt a0 x3_1) == 43) = false := beq_eq_false_iff_ne.mpr c109
                  have c109b1 : ((bt a0 x3_1) != 43) = true := bne_iff_ne.mpr c109
                  by_cases c110 : (bt a0 x3_1) = 45
                  · rw [if_pos c110] at H
                    have c110b0 : ((bt a0 x3_1) == 45) = true := beq_iff_eq.mpr c110
                    have c110b1 : ((bt a0 x3_1) != 45) = false := bne_eq_false_iff_eq.mpr c110
                    clear c110
                    have H' := Aside0.mk H
                    clear H
                    have p4 : 0 ≤ (x3_1 : Int) := of_decide_eq_true (by first | (with_reducible assumption) | assumption)
                    have q4 : x3_1 < (a0.size : Int) := of_decide_eq_true (by first | (with_reducible assumption) | assumption)
                    have hx4 := bt_at a0 x3_1
                    replace p4 := eq_true p4
                    replace q4 := eq_true q4
                    go_wp2
                    go_roundg k1
                    case measure => have := HK1.out; omega
                    case rel => exact ⟨(wrap64 (x3_1 + 1)), (by first | rfl | (simp; done) | (simp [*]; done)), H', ⟨by have := HK1.out; omega⟩, by repeat (first | exact Drawn0.refl _ | apply Drawn0.step)⟩
                  · rw [if_neg c110] at H
                    have c110b0 : ((bt a0 x3_1) == 45) = false := beq_eq_false_iff_ne.mpr c110
                    have c110b1 : ((bt a0 x3_1) != 45) = true := bne_iff_ne.mpr c110
                    by_cases c111 : (bt a0 x3_1) = 95
                    · rw [if_pos c111] at H
                      have c111b0 : ((bt a0 x3_1) == 95) = true := beq_iff_eq.mpr c111
                      have c111b1 : ((bt a0 x3_1) != 95) = false := bne_eq_false_iff_eq.mpr c111
                      clear c111
                      have H' := Aside0.mk H
                      clear H
                      have p4 : 0 ≤ (x3_1 : Int) := of_decide_eq_true (by first | (with_reducible assumption) | assumption)
                      have q4 : x3_1 < (a0.size : Int) := of_decide_eq_true (by first | (with_reducible assumption) | assumption)
                      have hx4 := bt_at a0 x3_1
                      replace p4 := eq_true p4
                      replace q4 := eq_true q4
                      go_wp2
                      go_roundg k1
                      case measure => have := HK1.out; omega
                      case rel => exact ⟨(wrap64 (x3_1 + 1)), (by first | rfl | (simp; done) | (simp [*]; done)), H', ⟨by have := HK1.out; omega⟩, by repeat (first | exact Drawn0.refl _ | apply Drawn0.step)⟩
                    · rw [if_neg c111] at H
                      have c111b0 : ((bt a0 x3_1) == 95) = false := beq_eq_false_iff_ne.mpr c111
                      have c111b1 : ((bt a0 x3_1) != 95) = true := bne_iff_ne.mpr c111
                      by_cases c112 : (bt a0 x3_1) = 63
                      · rw [if_pos c112] at H
                        have c112b0 : ((bt a0 x3_1) == 63) = true := beq_iff_eq.mpr c112
                        have c112b1 : ((bt a0 x3_1) != 63) = false := bne_eq_false_iff_eq.mpr c112
                        clear c112
                        have H' := Aside0.mk H
                        clear H
                        have p4 : 0 ≤ (x3_1 : Int) := of_decide_eq_true (by first | (with_reducible assumption) | assumption)
                        have q4 : x3_1 < (a0.size : Int) := of_decide_eq_true (by first | (with_reducible assumption) | assumption)
                        have hx4 := bt_at a0 x3_1
                        replace p4 := eq_true p4
                        replace q4 := eq_true q4
                        go_wp2
                        go_roundg k1
                        case measure => have := HK1.out; omega
                        case rel => exact ⟨(wrap64 (x3_1 + 1)), (by first | rfl | (simp; done) | (simp [*]; done)), H', ⟨by have := HK1.out; omega⟩, by repeat (first | exact Drawn0.refl _ | apply Drawn0.step)⟩
                      · rw [if_neg c112] at H
                        have c112b0 : ((bt a0 x3_1) == 63) = false := beq_eq_false_iff_ne.mpr c112
                        have c112b1 : ((bt a0 x3_1) != 63) = true := bne_iff_ne.mpr c112
                        by_cases c113 : ((bt a0 x3_1) = 61)
                        · rw [if_pos c113] at H
                          have c113b0 : ((bt a0 x3_1) == 61) = true := beq_iff_eq.mpr c113
                          have c113b1 : ((bt a0 x3_1) != 61) = false := bne_eq_false_iff_eq.mpr c113
                          clear c113
                          have H' := Aside0.mk H
                          clear H
                          have p4 : 0 ≤ (x3_1 : Int) := of_decide_eq_true (by first | (with_reducible assumption) | assumption)
                          have q4 : x3_1 < (a0.size : Int) := of_decide_eq_true (by first | (with_reducible assumption) | assumption)
                          have hx4 := bt_at a0 x3_1
                          replace p4 := eq_true p4
                          replace q4 := eq_true q4
                          go_wp2
                          go_roundg k1
                          case measure => have := HK1.out; omega
                          case rel => exact ⟨(wrap64 (x3_1 + 1)), (by first | rfl | (simp; done) | (simp [*]; done)), H', ⟨by have := HK1.out; omega⟩, by repeat (first | exact Drawn0.refl _ | apply Drawn0.step)⟩
                        · rw [if_neg c113] at H
                          have c113b0 : ((bt a0 x3_1) == 61) = false := beq_eq_false_iff_ne.mpr c113
                          have c113b1 : ((bt a0 x3_1) != 61) = true := bne_iff_ne.mpr c113
                          by_cases c114 : (bt a0 x3_1) = 46
                          · rw [if_pos c114] at H
                            have c114b0 : ((bt a0 x3_1) == 46) = true := beq_iff_eq.mpr c114
                            have c114b1 : ((bt a0 x3_1) != 46) = false := bne_eq_false_iff_eq.mpr c114
                            clear c114
                            by_cases c115 : x3_1 = 0
                            · rw [if_pos c115] at H
                              have c115b0 : (x3_1 == 0) = true := beq_iff_eq.mpr c115
                              have c115b1 : (x3_1 != 0) = false := bne_eq_false_iff_eq.mpr c115
                              clear c115
                              obtain rfl := Option.some.inj H
                              have p4 : 0 ≤ (x3_1 : Int) := of_decide_eq_true (by first | (with_reducible assumption) | assumption)
                              have q4 : x3_1 < (a0.size : Int) := of_decide_eq_true (by first | (with_reducible assumption) | assumption)
                              have hx4 := bt_at a0 x3_1
                              replace p4 := eq_true p4
                              replace q4 := eq_true q4
                              go_wp2
                              go_ret
                              exact ⟨by first | rfl | (simp; done) | (simp [*]; done), by repeat (first | exact Drawn0.refl _ | apply Drawn0.step)⟩
                            · rw [if_neg c115] at H
                              have c115b0 : (x3_1 == 0) = false := beq_eq_false_iff_ne.mpr c115
                              have c115b1 : (x3_1 != 0) = true := bne_iff_ne.mpr c115
                              have H' := Aside0.mk H
                              clear H
                              have p4 : 0 ≤ (x3_1 : Int) := of_decide_eq_true (by first | (with_reducible assumption) | assumption)
                              have q4 : x3_1 < (a0.size : Int) := of_decide_eq_true (by first | (with_reducible assumption) | assumption)
                              have hx4 := bt_at a0 x3_1
                              replace p4 := eq_true p4
                              replace q4 := eq_true q4
                              go_wp2
                              go_roundg k1
                              case measure => have := HK1.out; omega
                              case rel => exact ⟨(wrap64 (x3_1 + 1)), (by first | rfl | (simp; done) | (simp [*]; done)), H', ⟨by have := HK1.out; omega⟩, by repeat (first | exact Drawn0.refl _ | apply Drawn0.step)⟩
                          · rw [if_neg c114] at H
                            have c114b0 : ((bt a0 x3_1) == 46) = false := beq_eq_false_iff_ne.mpr c114
                            have c114b1 : ((bt a0 x3_1) != 46) = true := bne_iff_ne.mpr c114
                            obtain rfl := Option.some.inj H
                            have p4 : 0 ≤ (x3_1 : Int) := of_decide_eq_true (by first | (with_reducible assumption) | assumption)
                            have q4 : x3_1 < (a0.size : Int) := of_decide_eq_true (by first | (with_reducible assumption) | assumption)
                            have hx4 := bt_at a0 x3_1
                            replace p4 := eq_true p4
                            replace q4 := eq_true q4
                            go_wp2
                            go_ret
                            exact ⟨by first | rfl | (simp; done) | (simp [*]; done), by repeat (first | exact Drawn0.refl _ | apply Drawn0.step)⟩
        · rw [if_neg c3] at H
          exact absurd H (by simp)
      · rw [if_neg c2] at H
        have c2b0 : decide (x3_1 < (a0.size : Int)) = false := decide_eq_false c2
        clear c2
        by_cases c116 : (a0.size : Int) ≥ 1
        · rw [if_pos c116] at H
          have c116b0 : decide (1 ≤ (a0.size : Int)) = true := decide_eq_true c116
          have c116b1 : decide (1 ≤ a0.size) = true := decide_eq_true (by omega)
          clear c116
          obtain rfl := Option.some.inj H
          go_wp2
          go_ret
          exact ⟨by first | rfl | (simp; done) | (simp [*]; done), by repeat (first | exact Drawn0.refl _ | apply Drawn0.step)⟩
        · rw [if_neg c116] at H
          have c116b0 : decide (1 ≤ (a0.size : Int)) = false := decide_eq_false c116
          have c116b1 : decide (1 ≤ a0.size) = false := decide_eq_false (by omega)
          clear c116
          obtain rfl := Option.some.inj H
          go_wp2
          go_ret
          exact ⟨by first | rfl | (simp; done) | (simp [*]; done), by repeat (first | exact Drawn0.refl _ | apply Drawn0.step)⟩

end Go.Proofs.Ytigeljeoodhcoaa.PNamingPaths
