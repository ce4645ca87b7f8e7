-- PRINTED BY print.sh 35421559b90ae4d0a3588c463048766b98c2df88dd9212a6774a882060cdf62d: not written by this session
import Derived.Test.YtigeljeoodhcoaaPNamingPathsx0
namespace Go.Proofs.Ytigeljeoodhcoaa.PNamingPaths
open Go.RowKit Go.Proofs.YtigeljeoodhcoaaW.PrintWords Go.Proofs.YtigeljeoodhcoaaW.PrintLast Go.Proofs.YtigeljeoodhcoaaW.PrintMore
attribute [local go_sem] max2_int min2_int max_two min_two max_three min_three max_four min_four   -- for this text's walks alone
set_option linter.unusedVariables false
set_option linter.unusedSimpArgs false

/-! ### naming_Name: function 9 -/
mutual
def naming_Name.l0 : Nat → ByteArray → Int → Int → Option (Bool)
  | 0, _, _, _ => none
  | k + 1, x0, x6, x7 => if x7 < x6 then (if 0 ≤ x7 then (if x7 < (x0.size : Int) then (if (bt x0 x7) ≥ 97 then (naming_Name.j1 k x0 x7 (bt x0 x7) x6 x7 (decide ((bt x0 x7) ≤ 122))) else (naming_Name.j1 k x0 x7 (bt x0 x7) x6 x7 false)) else (none)) else (none)) else (if x0.toList = ([] : List UInt8) then (some false) else (some (decide ((x0.size : Int) ≤ 40))))
def naming_Name.j1 : Nat → ByteArray → Int → Int → Int → Int → Bool → Option (Bool)
  | 0, _, _, _, _, _, _ => none
  | k + 1, x0, x3, x4, x6, x7, x13 => if x13 = true then (naming_Name.j4 k x0 x3 x4 x6 x7 x13) else (if x4 ≥ 65 then (naming_Name.j2 k x0 x3 x4 x6 x7 (decide (x4 ≤ 90))) else (naming_Name.j2 k x0 x3 x4 x6 x7 false))
def naming_Name.j4 : Nat → ByteArray → Int → Int → Int → Int → Bool → Option (Bool)
  | 0, _, _, _, _, _, _ => none
  | k + 1, x0, x3, x4, x6, x7, x13 => if x13 = true then (naming_Name.l0 k x0 x6 (wrap64 (x7 + 1))) else (if x4 = 46 then (if x3 > 0 then (naming_Name.l0 k x0 x6 (wrap64 (x7 + 1))) else (some false)) else (some false))
def naming_Name.j2 : Nat → ByteArray → Int → Int → Int → Int → Bool → Option (Bool)
  | 0, _, _, _, _, _, _ => none
  | k + 1, x0, x3, x4, x6, x7, x13 => if x13 = true then (naming_Name.j4 k x0 x3 x4 x6 x7 x13) else (if x4 ≥ 48 then (naming_Name.j3 k x0 x3 x4 x6 x7 (decide (x4 ≤ 57))) else (naming_Name.j3 k x0 x3 x4 x6 x7 false))
def naming_Name.j3 : Nat → ByteArray → Int → Int → Int → Int → Bool → Option (Bool)
  | 0, _, _, _, _, _, _ => none
  | k + 1, x0, x3, x4, x6, x7, x13 => if x13 = true then (naming_Name.j4 k x0 x3 x4 x6 x7 x13) else (if x4 = 43 then (naming_Name.j4 k x0 x3 x4 x6 x7 (x4 == 43)) else (if x4 = 45 then (naming_Name.j4 k x0 x3 x4 x6 x7 (x4 == 45)) else (if x4 = 95 then (naming_Name.j4 k x0 x3 x4 x6 x7 (x4 == 95)) else (if x4 = 63 then (naming_Name.j4 k x0 x3 x4 x6 x7 (x4 == 63)) else (naming_Name.j4 k x0 x3 x4 x6 x7 (x4 == 61))))))
end
def naming_Name.f (k : Nat) (a0 : ByteArray) : Option (Bool) := naming_Name.l0 k a0 (a0.size : Int) 0
theorem naming_Name.mono_l : ∀ k, (∀ y0 y1 y2, LeO (naming_Name.l0 k y0 y1 y2) (naming_Name.l0 (k + 1) y0 y1 y2)) ∧ (∀ y0 y1 y2 y3 y4 y5, LeO (naming_Name.j1 k y0 y1 y2 y3 y4 y5) (naming_Name.j1 (k + 1) y0 y1 y2 y3 y4 y5)) ∧ (∀ y0 y1 y2 y3 y4 y5, LeO (naming_Name.j4 k y0 y1 y2 y3 y4 y5) (naming_Name.j4 (k + 1) y0 y1 y2 y3 y4 y5)) ∧ (∀ y0 y1 y2 y3 y4 y5, LeO (naming_Name.j2 k y0 y1 y2 y3 y4 y5) (naming_Name.j2 (k + 1) y0 y1 y2 y3 y4 y5)) ∧ (∀ y0 y1 y2 y3 y4 y5, LeO (naming_Name.j3 k y0 y1 y2 y3 y4 y5) (naming_Name.j3 (k + 1) y0 y1 y2 y3 y4 y5))
  | 0 => ⟨fun _ _ _ r h => by simp [naming_Name.l0] at h, fun _ _ _ _ _ _ r h => by simp [naming_Name.j1] at h, fun _ _ _ _ _ _ r h => by simp [naming_Name.j4] at h, fun _ _ _ _ _ _ r h => by simp [naming_Name.j2] at h, fun _ _ _ _ _ _ r h => by simp [naming_Name.j3] at h⟩
  | k + 1 => by
    obtain ⟨ih0, ih1, ih2, ih3, ih4⟩ := naming_Name.mono_l k
    refine ⟨?_, ?_, ?_, ?_, ?_⟩
    · intro y0 y1 y2
      unfold naming_Name.l0
      repeat' first
      | (with_reducible exact ih0 _ _ _)
      | (with_reducible exact ih1 _ _ _ _ _ _)
      | (with_reducible exact ih2 _ _ _ _ _ _)
      | (with_reducible exact ih3 _ _ _ _ _ _)
      | (with_reducible exact ih4 _ _ _ _ _ _)
      | (with_reducible exact LeO.refl _)
      | (with_reducible exact LeO.none _)
      | (with_reducible refine LeO.ite ?_ ?_)
      | (with_reducible refine LeO.bind ?_ (fun _ => ?_))
      | exact ih0 _ _ _
      | exact ih1 _ _ _ _ _ _
      | exact ih2 _ _ _ _ _ _
      | exact ih3 _ _ _ _ _ _
      | exact ih4 _ _ _ _ _ _
      | exact LeO.none _
      | refine LeO.ite ?_ ?_
      | refine LeO.bind ?_ (fun _ => ?_)
    · intro y0 y1 y2 y3 y4 y5
      unfold naming_Name.j1
      repeat' first
      | (with_reducible exact ih0 _ _ _)
      | (with_reducible exact ih1 _ _ _ _ _ _)
      | (with_reducible exact ih2 _ _ _ _ _ _)
      | (with_reducible exact ih3 _ _ _ _ _ _)
      | (with_reducible exact ih4 _ _ _ _ _ _)
      | (with_reducible exact LeO.refl _)
      | (with_reducible exact LeO.none _)
      | (with_reducible refine LeO.ite ?_ ?_)
      | (with_reducible refine LeO.bind ?_ (fun _ => ?_))
      | exact ih0 _ _ _
      | exact ih1 _ _ _ _ _ _
      | exact ih2 _ _ _ _ _ _
      | exact ih3 _ _ _ _ _ _
      | exact ih4 _ _ _ _ _ _
      | exact LeO.none _
      | refine LeO.ite ?_ ?_
      | refine LeO.bind ?_ (fun _ => ?_)
    · intro y0 y1 y2 y3 y4 y5
      unfold naming_Name.j4
      repeat' first
      | (with_reducible exact ih0 _ _ _)
      | (with_reducible exact ih1 _ _ _ _ _ _)
      | (with_reducible exact ih2 _ _ _ _ _ _)
      | (with_reducible exact ih3 _ _ _ _ _ _)
      | (with_reducible exact ih4 _ _ _ _ _ _)
      | (with_reducible exact LeO.refl _)
      | (with_reducible exact LeO.none _)
      | (with_reducible refine LeO.ite ?_ ?_)
      | (with_reducible refine LeO.bind ?_ (fun _ => ?_))
      | exact ih0 _ _ _
      | exact ih1 _ _ _ _ _ _
      | exact ih2 _ _ _ _ _ _
      | exact ih3 _ _ _ _ _ _
      | exact ih4 _ _ _ _ _ _
      | exact LeO.none _
      | refine LeO.ite ?_ ?_
      | refine LeO.bind ?_ (fun _ => ?_)
    · intro y0 y1 y2 y3 y4 y5
      unfold naming_Name.j2
      repeat' first
      | (with_reducible exact ih0 _ _ _)
      | (with_reducible exact ih1 _ _ _ _ _ _)
      | (with_reducible exact ih2 _ _ _ _ _ _)
      | (with_reducible exact ih3 _ _ _ _ _ _)
      | (with_reducible exact ih4 _ _ _ _ _ _)
      | (with_reducible exact LeO.refl _)
      | (with_reducible exact LeO.none _)
      | (with_reducible refine LeO.ite ?_ ?_)
      | (with_reducible refine LeO.bind ?_ (fun _ => ?_))
      | exact ih0 _ _ _
      | exact ih1 _ _ _ _ _ _
      | exact ih2 _ _ _ _ _ _
      | exact ih3 _ _ _ _ _ _
      | exact ih4 _ _ _ _ _ _
      | exact LeO.none _
      | refine LeO.ite ?_ ?_
      | refine LeO.bind ?_ (fun _ => ?_)
    · intro y0 y1 y2 y3 y4 y5
      unfold naming_Name.j3
      repeat' first
      | (with_reducible exact ih0 _ _ _)
      | (with_reducible exact ih1 _ _ _ _ _ _)
      | (with_reducible exact ih2 _ _ _ _ _ _)
      | (with_reducible exact ih3 _ _ _ _ _ _)
      | (with_reducible exact ih4 _ _ _ _ _ _)
      | (with_reducible exact LeO.refl _)
      | (with_reducible exact LeO.none _)
      | (with_reducible refine LeO.ite ?_ ?_)
      | (with_reducible refine LeO.bind ?_ (fun _ => ?_))
      | exact ih0 _ _ _
      | exact ih1 _ _ _ _ _ _
      | exact ih2 _ _ _ _ _ _
      | exact ih3 _ _ _ _ _ _
      | exact ih4 _ _ _ _ _ _
      | exact LeO.none _
      | refine LeO.ite ?_ ?_
      | refine LeO.bind ?_ (fun _ => ?_)
theorem naming_Name.mono : ∀ a0 k, LeO (naming_Name.f k a0) (naming_Name.f (k + 1) a0) := by
  intro a0 k
  obtain ⟨ih0, ih1, ih2, ih3, ih4⟩ := naming_Name.mono_l k
  unfold naming_Name.f
  repeat' first
      | (with_reducible exact ih0 _ _ _)
      | (with_reducible exact ih1 _ _ _ _ _ _)
      | (with_reducible exact ih2 _ _ _ _ _ _)
      | (with_reducible exact ih3 _ _ _ _ _ _)
      | (with_reducible exact ih4 _ _ _ _ _ _)
      | (with_reducible exact LeO.refl _)
      | (with_reducible exact LeO.none _)
      | (with_reducible refine LeO.ite ?_ ?_)
      | (with_reducible refine LeO.bind ?_ (fun _ => ?_))
      | exact ih0 _ _ _
      | exact ih1 _ _ _ _ _ _
      | exact ih2 _ _ _ _ _ _
      | exact ih3 _ _ _ _ _ _
      | exact ih4 _ _ _ _ _ _
      | exact LeO.none _
      | refine LeO.ite ?_ ?_
      | refine LeO.bind ?_ (fun _ => ?_)
set_option maxHeartbeats 8000000 in
set_option maxRecDepth 100000 in
theorem naming_Name.calls (k : Nat) (a0 : ByteArray) (r : Bool) (w : World) (h : naming_Name.f k a0 = some r) :
    Calls Try.prog 9 #[.string a0] w fun e w' => e = .returned (.bool r) ∧ Drawn0 w w' := by
  have H : (naming_Name.l0 k a0 (a0.size : Int) 0) = some r := h
  clear h
  have H' := Aside0.mk H
  clear H
  go_enter Try.func9, Try.ntmps9
  go_wp2
  go_loopg [7] k (fun kq v7 w' => ∃ (x7_1 : Int), v7 = .int .i64 x7_1 ∧ Aside0 (naming_Name.l0 kq a0 (a0.size : Int) x7_1 = some r) ∧ Aside0 (kq ≤ k) ∧ Drawn0 w w')
  case atStart => exact ⟨(0), (by first | rfl | (simp; done) | (simp [*]; done)), H', ⟨Nat.le_refl _⟩, by repeat (first | exact Drawn0.refl _ | apply Drawn0.step)⟩
  case round =>
    clear H'
    obtain ⟨x7_1, rfl, HA, HK1, ⟨m1, rfl⟩⟩ := hrel
    cases gk with
    | zero => exact absurd HA.out (by simp [naming_Name.l0])
    | succ k1 =>
      have H := HA.out
      clear HA
      simp only [naming_Name.l0] at H
      by_cases c2 : x7_1 < (a0.size : Int)
      · rw [if_pos c2] at H
        have c2b0 : decide (x7_1 < (a0.size : Int)) = true := decide_eq_true c2
        clear c2
        by_cases c3 : 0 ≤ x7_1
        · rw [if_pos c3] at H
          have c3b0 : decide (0 ≤ x7_1) = true := decide_eq_true c3
          clear c3
          by_cases c4 : x7_1 < (a0.size : Int)
          · rw [if_pos c4] at H
            have c4b0 : decide (x7_1 < (a0.size : Int)) = true := decide_eq_true c4
            clear c4
            have HC6 := Aside0.mk H
            clear H
            have p5 : 0 ≤ (x7_1 : Int) := of_decide_eq_true (by first | (with_reducible assumption) | assumption)
            have q5 : x7_1 < (a0.size : Int) := of_decide_eq_true (by first | (with_reducible assumption) | assumption)
            have hx5 := bt_at a0 x7_1
            replace p5 := eq_true p5
            replace q5 := eq_true q5
            go_upto_region 6 with (fail)
            go_cut [13] (fun v13 wc => ∃ (kq : Nat) (x13_5 : Bool), v13 = .bool x13_5 ∧ Aside0 (naming_Name.j1 kq a0 x7_1 (bt a0 x7_1) (a0.size : Int) x7_1 x13_5 = some r) ∧ Aside0 (kq ≤ k1) ∧ Drawn0 w wc)
            case first =>
              have H := HC6.out
              clear HC6
              by_cases c7 : (bt a0 x7_1) ≥ 97
              · rw [if_pos c7] at H
                have c7b0 : decide (97 ≤ (bt a0 x7_1)) = true := decide_eq_true c7
                clear c7
                (first | rw [c7b0] | (simp only [i64_w, i32_w]; rw [c7b0]) | skip)
                have H' := Aside0.mk H
                clear H
                go_wp2
                go_meet
                case rel => exact ⟨_, (decide ((bt a0 x7_1) ≤ 122)), (by first | rfl | (simp; done) | (simp [*]; done)), H', ⟨by have := HK1.out; first | omega | exact Nat.le_refl _⟩, by repeat (first | exact Drawn0.refl _ | apply Drawn0.step)⟩
              · rw [if_neg c7] at H
                have c7b0 : decide (97 ≤ (bt a0 x7_1)) = false := decide_eq_false c7
                clear c7
                (first | rw [c7b0] | (simp only [i64_w, i32_w]; rw [c7b0]) | skip)
                have H' := Aside0.mk H
                clear H
                go_wp2
                go_meet
                case rel => exact ⟨_, (false), (by first | rfl | (simp; done) | (simp [*]; done)), H', ⟨by have := HK1.out; first | omega | exact Nat.le_refl _⟩, by repeat (first | exact Drawn0.refl _ | apply Drawn0.step)⟩
            case rest =>
              clear HC6
              try clear c2
              try clear c2b0
              try clear p2
              try clear c3
              try clear c3b0
              try clear c4
              try clear c4b0
              try clear p5
              try clear q5
              try clear hx5
              try clear c7
              try clear c7b0
              try clear p5
              try clear q5
              obtain ⟨kq, x13_5, rfl, HA, HJ5, ⟨mc5, rfl⟩⟩ := hcut
              cases kq with
              | zero => exact absurd HA.out (by simp [naming_Name.j1])
              | succ kj5 =>
                have H := HA.out
                clear HA
                simp only [naming_Name.j1] at H
                have HC8 := Aside0.mk H
                clear H
                go_upto_if 13 with (fail)
                go_cut [13] (fun v13 wc => ∃ (kq : Nat) (x13_7 : Bool), v13 = .bool x13_7 ∧ Aside0 (naming_Name.j4 kq a0 x7_1 (bt a0 x7_1) (a0.size : Int) x7_1 x13_7 = some r) ∧ Aside0 (kq ≤ kj5) ∧ Drawn0 w wc)
                case first =>
                  have H := HC8.out
                  clear HC8
                  by_cases c9 : x13_5 = true
                  · subst c9
                    have H1 : (naming_Name.j4 kj5 a0 x7_1 (bt a0 x7_1) (a0.size : Int) x7_1 true) = some r := by rw [if_pos rfl] at H; exact H
                    clear H
                    have H := H1
                    clear H1
                    have H' := Aside0.mk H
                    clear H
                    go_wp2
                    go_meet
                    case rel => exact ⟨_, (true), (by first | rfl | (simp; done) | (simp [*]; done)), H', ⟨by have := HK1.out; have := HJ5.out; first | omega | exact Nat.le_refl _⟩, by repeat (first | exact Drawn0.refl _ | apply Drawn0.step)⟩
                  · replace c9 := Bool.eq_false_iff.mpr c9
                    subst c9
                    have H1 : (if (bt a0 x7_1) ≥ 65 then (naming_Name.j2 kj5 a0 x7_1 (bt a0 x7_1) (a0.size : Int) x7_1 (decide ((bt a0 x7_1) ≤ 90))) else (naming_Name.j2 kj5 a0 x7_1 (bt a0 x7_1) (a0.size : Int) x7_1 false)) = some r := by rw [if_neg (show ¬ (false = true) by decide)] at H; exact H
                    clear H
                    have H := H1
                    clear H1
                    have HC10 := Aside0.mk H
                    clear H
                    go_upto_region 7 with (fail)
                    go_cut [13] (fun v13 wc => ∃ (kq : Nat) (x13_9 : Bool), v13 = .bool x13_9 ∧ Aside0 (naming_Name.j2 kq a0 x7_1 (bt a0 x7_1) (a0.size : Int) x7_1 x13_9 = some r) ∧ Aside0 (kq ≤ kj5) ∧ Drawn0 w wc)
                    case first =>
                      have H := HC10.out
                      clear HC10
                      by_cases c11 : (bt a0 x7_1) ≥ 65
                      · rw [if_pos c11] at H
                        have c11b0 : decide (65 ≤ (bt a0 x7_1)) = true := decide_eq_true c11
                        clear c11
                        (first | rw [c11b0] | (simp only [i64_w, i32_w]; rw [c11b0]) | skip)
                        have H' := Aside0.mk H
                        clear H
                        go_wp2
                        go_meet
                        case rel => exact ⟨_, (decide ((bt a0 x7_1) ≤ 90)), (by first | rfl | (simp; done) | (simp [*]; done)), H', ⟨by have := HK1.out; have := HJ5.out; first | omega | exact Nat.le_refl _⟩, by repeat (first | exact Drawn0.refl _ | apply Drawn0.step)⟩
                      · rw [if_neg c11] at H
                        have c11b0 : decide (65 ≤ (bt a0 x7_1)) = false := decide_eq_false c11
                        clear c11
                        (first | rw [c11b0] | (simp only [i64_w, i32_w]; rw [c11b0]) | skip)
                        have H' := Aside0.mk H
                        clear H
                        go_wp2
                        go_meet
                        case rel => exact ⟨_, (false), (by first | rfl | (simp; done) | (simp [*]; done)), H', ⟨by have := HK1.out; have := HJ5.out; first | omega | exact Nat.le_refl _⟩, by repeat (first | exact Drawn0.refl _ | apply Drawn0.step)⟩
                    case rest =>
                      clear HC10
                      try clear c1
                      try clear c2
                      try clear c2b0
                      try clear p2
                      try clear c3
                      try clear c3b0
                      try clear c4
                      try clear c4b0
                      try clear c5
                      try clear p5
                      try clear q5
                      try clear hx5
                      try clear c7
                      try clear c7b0
                      try clear c9
                      try clear c11
                      try clear c11b0
                      try clear p2
                      try clear p5
                      try clear q5
                      obtain ⟨kq, x13_9, rfl, HA, HJ9, ⟨mc9, rfl⟩⟩ := hcut
                      cases kq with
                      | zero => exact absurd HA.out (by simp [naming_Name.j2])
                      | succ kj9 =>
                        have H := HA.out
                        clear HA
                        simp only [naming_Name.j2] at H
                        by_cases c12 : x13_9 = true
                        · subst c12
                          have H1 : (naming_Name.j4 kj9 a0 x7_1 (bt a0 x7_1) (a0.size : Int) x7_1 true) = some r := by rw [if_pos rfl] at H; exact H
                          clear H
                          have H := H1
                          clear H1
                          have H' := Aside0.mk H
                          clear H
                          go_wp2
                          go_meet
                          case rel => exact ⟨_, (true), (by first | rfl | (simp; done) | (simp [*]; done)), H', ⟨by have := HK1.out; have := HJ5.out; have := HJ9.out; first | omega | exact Nat.le_refl _⟩, by repeat (first | exact Drawn0.refl _ | apply Drawn0.step)⟩
                        · replace c12 := Bool.eq_false_iff.mpr c12
                          subst c12
                          have H1 : (if (bt a0 x7_1) ≥ 48 then (naming_Name.j3 kj9 a0 x7_1 (bt a0 x7_1) (a0.size : Int) x7_1 (decide ((bt a0 x7_1) ≤ 57))) else (naming_Name.j3 kj9 a0 x7_1 (bt a0 x7_1) (a0.size : Int) x7_1 false)) = some r := by rw [if_neg (show ¬ (false = true) by decide)] at H; exact H
                          clear H
                          have H := H1
                          clear H1
                          have HC13 := Aside0.mk H
                          clear H
                          go_upto_region 8 with (fail)
                          go_cut [13] (fun v13 wc => ∃ (kq : Nat) (x13_12 : Bool), v13 = .bool x13_12 ∧ Aside0 (naming_Name.j3 kq a0 x7_1 (bt a0 x7_1) (a0.size : Int) x7_1 x13_12 = some r) ∧ Aside0 (kq ≤ kj9) ∧ Drawn0 w wc)
                          case first =>
                            have H := HC13.out
                            clear HC13
                            by_cases c14 : (bt a0 x7_1) ≥ 48
                            · rw [if_pos c14] at H
                              have c14b0 : decide (48 ≤ (bt a0 x7_1)) = true := decide_eq_true c14
                              clear c14
                              (first | rw [c14b0] | (simp only [i64_w, i32_w]; rw [c14b0]) | skip)
                              have H' := Aside0.mk H
                              clear H
                              go_wp2
                              go_meet
                              case rel => exact ⟨_, (decide ((bt a0 x7_1) ≤ 57)), (by first | rfl | (simp; done) | (simp [*]; done)), H', ⟨by have := HK1.out; have := HJ5.out; have := HJ9.out; first | omega | exact Nat.le_refl _⟩, by repeat (first | exact Drawn0.refl _ | apply Drawn0.step)⟩
                            · rw [if_neg c14] at H
                              have c14b0 : decide (48 ≤ (bt a0 x7_1)) = false := decide_eq_false c14
                              clear c14
                              (first | rw [c14b0] | (simp only [i64_w, i32_w]; rw [c14b0]) | skip)
                              have H' := Aside0.mk H
                              clear H
                              go_wp2
                              go_meet
                              case rel => exact ⟨_, (false), (by first | rfl | (simp; done) | (simp [*]; done)), H', ⟨by have := HK1.out; have := HJ5.out; have := HJ9.out; first | omega | exact Nat.le_refl _⟩, by repeat (first | exact Drawn0.refl _ | apply Drawn0.step)⟩
                          case rest =>
                            clear HC13
                            try clear c1
                            try clear c2
                            try clear c2b0
                            try clear p2
                            try clear c3
                            try clear c3b0
                            try clear c4
                            try clear c4b0
                            try clear c5
                            try clear p5
                            try clear q5
                            try clear hx5
                            try clear c7
                            try clear c7b0
                            try clear c9
                            try clear c11
                            try clear c11b0
                            try clear c12
                            try clear c14
                            try clear c14b0
                            try clear p2
                            try clear p5
                            try clear q5
                            obtain ⟨kq, x13_12, rfl, HA, HJ12, ⟨mc12, rfl⟩⟩ := hcut
                            cases kq with
                            | zero => exact absurd HA.out (by simp [naming_Name.j3])
                            | succ kj12 =>
                              have H := HA.out
                              clear HA
                              simp only [naming_Name.j3] at H
                              by_cases c15 : x13_12 = true
                              · subst c15
                                have H1 : (naming_Name.j4 kj12 a0 x7_1 (bt a0 x7_1) (a0.size : Int) x7_1 true) = some r := by rw [if_pos rfl] at H; exact H
                                clear H
                                have H := H1
                                clear H1
                                have H' := Aside0.mk H
                                clear H
                                go_wp2
                                go_meet
                                case rel => exact ⟨_, (true), (by first | rfl | (simp; done) | (simp [*]; done)), H', ⟨by have := HK1.out; have := HJ5.out; have := HJ9.out; have := HJ12.out; first | omega | exact Nat.le_refl _⟩, by repeat (first | exact Drawn0.refl _ | apply Drawn0.step)⟩
                              · replace c15 := Bool.eq_false_iff.mpr c15
                                subst c15
                                have H1 : (if (bt a0 x7_1) = 43 then (naming_Name.j4 kj12 a0 x7_1 (bt a0 x7_1) (a0.size : Int) x7_1 ((bt a0 x7_1) == 43)) else (if (bt a0 x7_1) = 45 then (naming_Name.j4 kj12 a0 x7_1 (bt a0 x7_1) (a0.size : Int) x7_1 ((bt a0 x7_1) == 45)) else (if (bt a0 x7_1) = 95 then (naming_Name.j4 kj12 a0 x7_1 (bt a0 x7_1) (a0.size : Int) x7_1 ((bt a0 x7_1) == 95)) else (if (bt a0 x7_1) = 63 then (naming_Name.j4 kj12 a0 x7_1 (bt a0 x7_1) (a0.size : Int) x7_1 ((bt a0 x7_1) == 63)) else (naming_Name.j4 kj12 a0 x7_1 (bt a0 x7_1) (a0.size : Int) x7_1 ((bt a0 x7_1) == 61)))))) = some r := by rw [if_neg (show ¬ (false = true) by decide)] at H; exact H
                                clear H
                                have H := H1
                                clear H1
                                by_cases c16 : (bt a0 x7_1) = 43
                                · rw [if_pos c16] at H
                                  have c16b0 : ((bt a0 x7_1) == 43) = true := beq_iff_eq.mpr c16
                                  have c16b1 : ((bt a0 x7_1) != 43) = false := bne_eq_false_iff_eq.mpr c16
                                  clear c16
                                  have H' := Aside0.mk H
                                  clear H
                                  go_wp2
                                  go_meet
                                  case rel => exact ⟨_, (((bt a0 x7_1) == 43)), (by first | rfl | (simp; done) | (simp [*]; done)), H', ⟨by have := HK1.out; have := HJ5.out; have := HJ9.out; have := HJ12.out; first | omega | exact Nat.le_refl _⟩, by repeat (first | exact Drawn0.refl _ | apply Drawn0.step)⟩
                                · rw [if_neg c16] at H
                                  have c16b0 : ((bt a0 x7_1) == 43) = false := beq_eq_false_iff_ne.mpr c16
                                  have c16b1 : ((bt a0 x7_1) != 43) = true := bne_iff_ne.mpr c16
                                  by_cases c17 : (bt a0 x7_1) = 45
                                  · rw [if_pos c17] at H
                                    have c17b0 : ((bt a0 x7_1) == 45) = true := beq_iff_eq.mpr c17
                                    have c17b1 : ((bt a0 x7_1) != 45) = false := bne_eq_false_iff_eq.mpr c17
                                    clear c17
                                    have H' := Aside0.mk H
                                    clear H
                                    go_wp2
                                    go_meet
                                    case rel => exact ⟨_, (((bt a0 x7_1) == 45)), (by first | rfl | (simp; done) | (simp [*]; done)), H', ⟨by have := HK1.out; have := HJ5.out; have := HJ9.out; have := HJ12.out; first | omega | exact Nat.le_refl _⟩, by repeat (first | exact Drawn0.refl _ | apply Drawn0.step)⟩
                                  · rw [if_neg c17] at H
                                    have c17b0 : ((bt a0 x7_1) == 45) = false := beq_eq_false_iff_ne.mpr c17
                                    have c17b1 : ((bt a0 x7_1) != 45) = true := bne_iff_ne.mpr c17
                                    by_cases c18 : (bt a0 x7_1) = 95
                                    · rw [if_pos c18] at H
                                      have c18b0 : ((bt a0 x7_1) == 95) = true := beq_iff_eq.mpr c18
                                      have c18b1 : ((bt a0 x7_1) != 95) = false := bne_eq_false_iff_eq.mpr c18
                                      clear c18
                                      have H' := Aside0.mk H
                                      clear H
                                      go_wp2
                                      go_meet
                                      case rel => exact ⟨_, (((bt a0 x7_1) == 95)), (by first | rfl | (simp; done) | (simp [*]; done)), H', ⟨by have := HK1.out; have := HJ5.out; have := HJ9.out; have := HJ12.out; first | omega | exact Nat.le_refl _⟩, by repeat (first | exact Drawn0.refl _ | apply Drawn0.step)⟩
                                    · rw [if_neg c18] at H
                                      have c18b0 : ((bt a0 x7_1) == 95) = false := beq_eq_false_iff_ne.mpr c18
                                      have c18b1 : ((bt a0 x7_1) != 95) = true := bne_iff_ne.mpr c18
                                      by_cases c19 : (bt a0 x7_1) = 63
                                      · rw [if_pos c19] at H
                                        have c19b0 : ((bt a0 x7_1) == 63) = true := beq_iff_eq.mpr c19
                                        have c19b1 : ((bt a0 x7_1) != 63) = false := bne_eq_false_iff_eq.mpr c19
                                        clear c19
                                        have H' := Aside0.mk H
                                        clear H
                                        go_wp2
                                        go_meet
                                        case rel => exact ⟨_, (((bt a0 x7_1) == 63)), (by first | rfl | (simp; done) | (simp [*]; done)), H', ⟨by have := HK1.out; have := HJ5.out; have := HJ9.out; have := HJ12.out; first | omega | exact Nat.le_refl _⟩, by repeat (first | exact Drawn0.refl _ | apply Drawn0.step)⟩
                                      · rw [if_neg c19] at H
                                        have c19b0 : ((bt a0 x7_1) == 63) = false := beq_eq_false_iff_ne.mpr c19
                                        have c19b1 : ((bt a0 x7_1) != 63) = true := bne_iff_ne.mpr c19
                                        have H' := Aside0.mk H
                                        clear H
                                        go_wp2
                                        go_meet
                                        case rel => exact ⟨_, (((bt a0 x7_1) == 61)), (by first | rfl | (simp; done) | (simp [*]; done)), H', ⟨by have := HK1.out; have := HJ5.out; have := HJ9.out; have := HJ12.out; first | omega | exact Nat.le_refl _⟩, by repeat (first | exact Drawn0.refl _ | apply Drawn0.step)⟩
                case rest =>
                  clear HC8
                  try clear c1
                  try clear c2
                  try clear c2b0
                  try clear p2
                  try clear c3
                  try clear c3b0
                  try clear c4
                  try clear c4b0
                  try clear c5
                  try clear p5
                  try clear q5
                  try clear hx5
                  try clear c7
                  try clear c7b0
                  try clear c9
                  try clear c11
                  try clear c11b0
                  try clear c12
                  try clear c14
                  try clear c14b0
                  try clear c15
                  try clear c16
                  try clear c16b0
                  try clear c16b1
                  try clear c17
                  try clear c17b0
                  try clear c17b1
                  try clear c18
                  try clear c18b0
                  try clear c18b1
                  try clear c19
                  try clear c19b0
                  try clear c19b1
                  try clear p2
                  try clear p5
                  try clear q5
                  obtain ⟨kq, x13_7, rfl, HA, HJ7, ⟨mc7, rfl⟩⟩ := hcut
                  cases kq with
                  | zero => exact absurd HA.out (by simp [naming_Name.j4])
                  | succ kj7 =>
                    have H := HA.out
                    clear HA
                    simp only [naming_Name.j4] at H
                    by_cases c20 : x13_7 = true
                    · subst c20
                      have H1 : (naming_Name.l0 kj7 a0 (a0.size : Int) (wrap64 (x7_1 + 1))) = some r := by rw [if_pos rfl] at H; exact H
                      clear H
                      have H := H1
                      clear H1
                      have H' := Aside0.mk H
                      clear H
                      go_wp2
                      go_roundg kj7
                      case measure => have := HK1.out; have := HJ5.out; have := HJ7.out; omega
                      case rel => exact ⟨(wrap64 (x7_1 + 1)), (by first | rfl | (simp; done) | (simp [*]; done)), H', ⟨by have := HK1.out; have := HJ5.out; have := HJ7.out; omega⟩, by repeat (first | exact Drawn0.refl _ | apply Drawn0.step)⟩
                    · replace c20 := Bool.eq_false_iff.mpr c20
                      subst c20
                      have H1 : (if (bt a0 x7_1) = 46 then (if x7_1 > 0 then (naming_Name.l0 kj7 a0 (a0.size : Int) (wrap64 (x7_1 + 1))) else (some false)) else (some false)) = some r := by rw [if_neg (show ¬ (false = true) by decide)] at H; exact H
                      clear H
                      have H := H1
                      clear H1
                      by_cases c21 : (bt a0 x7_1) = 46
                      · rw [if_pos c21] at H
                        have c21b0 : ((bt a0 x7_1) == 46) = true := beq_iff_eq.mpr c21
                        have c21b1 : ((bt a0 x7_1) != 46) = false := bne_eq_false_iff_eq.mpr c21
                        clear c21
                        by_cases c22 : x7_1 > 0
                        · rw [if_pos c22] at H
                          have c22b0 : decide (0 < x7_1) = true := decide_eq_true c22
                          clear c22
                          have H' := Aside0.mk H
                          clear H
                          go_wp2
                          go_roundg kj7
                          case measure => have := HK1.out; have := HJ5.out; have := HJ7.out; omega
                          case rel => exact ⟨(wrap64 (x7_1 + 1)), (by first | rfl | (simp; done) | (simp [*]; done)), H', ⟨by have := HK1.out; have := HJ5.out; have := HJ7.out; omega⟩, by repeat (first | exact Drawn0.refl _ | apply Drawn0.step)⟩
                        · rw [if_neg c22] at H
                          have c22b0 : decide (0 < x7_1) = false := decide_eq_false c22
                          clear c22
                          obtain rfl := Option.some.inj H
                          go_wp2
                          go_ret
                          exact ⟨by first | rfl | (simp; done) | (simp [*]; done), by repeat (first | exact Drawn0.refl _ | apply Drawn0.step)⟩
                      · rw [if_neg c21] at H
                        have c21b0 : ((bt a0 x7_1) == 46) = false := beq_eq_false_iff_ne.mpr c21
                        have c21b1 : ((bt a0 x7_1) != 46) = true := bne_iff_ne.mpr c21
                        obtain rfl := Option.some.inj H
                        go_wp2
                        go_ret
                        exact ⟨by first | rfl | (simp; done) | (simp [*]; done), by repeat (first | exact Drawn0.refl _ | apply Drawn0.step)⟩
          · rw [if_neg c4] at H
            exact absurd H (by simp)
        · rw [if_neg c3] at H
          exact absurd H (by simp)
      · rw [if_neg c2] at H
        have c2b0 : decide (x7_1 < (a0.size : Int)) = false := decide_eq_false c2
        clear c2
        by_cases c23 : a0.toList = ([] : List UInt8)
        · rw [if_pos c23] at H
          have c23b0 : (a0.toList == ([] : List UInt8)) = true := beq_iff_eq.mpr c23
          have c23b1 : (a0.toList != ([] : List UInt8)) = false := bne_eq_false_iff_eq.mpr c23
          clear c23
          obtain rfl := Option.some.inj H
          go_wp2
          go_ret
          exact ⟨by first | rfl | (simp; done) | (simp [*]; done), by repeat (first | exact Drawn0.refl _ | apply Drawn0.step)⟩
        · rw [if_neg c23] at H
          have c23b0 : (a0.toList == ([] : List UInt8)) = false := beq_eq_false_iff_ne.mpr c23
          have c23b1 : (a0.toList != ([] : List UInt8)) = true := bne_iff_ne.mpr c23
          obtain rfl := Option.some.inj H
          go_wp2
          go_ret
          exact ⟨by first | rfl | (simp; done) | (simp [*]; done), by repeat (first | exact Drawn0.refl _ | apply Drawn0.step)⟩

/-! ### base_Len: function 28 -/
def base_Len.f (a0 : Int) : Option (Int) := if a0 ≤ 0 then (some 0) else (some (wrap64 ((wrap64 (Int.tdiv (wrap64 ((wrap64 (a0 * 8)) - 1)) 5)) + 1)))
set_option maxHeartbeats 8000000 in
set_option maxRecDepth 100000 in
theorem base_Len.calls (a0 : Int) (r : Int) (w : World) (h : base_Len.f a0 = some r) :
    Calls Try.prog 28 #[.int .i64 a0] w fun e w' => e = .returned (.int .i64 r) ∧ Drawn0 w w' := by
  have H : (if a0 ≤ 0 then (some 0) else (some (wrap64 ((wrap64 (Int.tdiv (wrap64 ((wrap64 (a0 * 8)) - 1)) 5)) + 1)))) = some r := h
  clear h
  by_cases c2 : a0 ≤ 0
  · rw [if_pos c2] at H
    have c2b0 : decide (a0 ≤ 0) = true := decide_eq_true c2
    clear c2
    obtain rfl := Option.some.inj H
    go_enter Try.func28, Try.ntmps28
    go_wp2
    go_ret
    exact ⟨by first | rfl | (simp; done) | (simp [*]; done), by repeat (first | exact Drawn0.refl _ | apply Drawn0.step)⟩
  · rw [if_neg c2] at H
    have c2b0 : decide (a0 ≤ 0) = false := decide_eq_false c2
    clear c2
    obtain rfl := Option.some.inj H
    go_enter Try.func28, Try.ntmps28
    go_wp2
    go_ret
    exact ⟨by first | rfl | (simp; done) | (simp [*]; done), by repeat (first | exact Drawn0.refl _ | apply Drawn0.step)⟩

-- NOT PRINTED: function 46 (abi_NoEscape)

-- NOT PRINTED: function 40 (strings_Builder_copyCheck)

-- NOT PRINTED: function 29 (strings_Builder_WriteByte)

/-! ### base_five: function 30 -/
def base_five.f (l0 : List Int) (a1 : Int) : Option (Int) := if 0 ≤ (wrap64 (Int.tdiv a1 8)) then (if (wrap64 (Int.tdiv a1 8)) < (l0.length : Int) then (if 0 ≤ (Int.tmod a1 8) then (if (wrap64 ((wrap64 (Int.tdiv a1 8)) + 1)) < (l0.length : Int) then (if 0 ≤ (wrap64 ((wrap64 (Int.tdiv a1 8)) + 1)) then (if 0 ≤ (wrap64 (8 - (Int.tmod a1 8))) then (some ((Go.bits .and .i64 (Go.bits .or .i64 (shr .i64 (wrap64 (rd l0 (wrap64 (Int.tdiv a1 8)))) (Int.tmod a1 8)) (shl .i64 (wrap64 (rd l0 (wrap64 ((wrap64 (Int.tdiv a1 8)) + 1)))) (wrap64 (8 - (Int.tmod a1 8))))) 31) % 256)) else (none)) else (none)) else (some ((Go.bits .and .i64 (shr .i64 (wrap64 (rd l0 (wrap64 (Int.tdiv a1 8)))) (Int.tmod a1 8)) 31) % 256))) else (none)) else (none)) else (none)
set_option maxHeartbeats 8000000 in
set_option maxRecDepth 100000 in
theorem base_five.calls (A0 : Option Addr) (c0 : Nat) (l0 : List Int) (a1 : Int) (r : Int) (w : World) (hr0 : Kd.C (Kd.int .u8) w A0 l0.length l0) (hc0 : l0.length ≤ c0) (h : base_five.f l0 a1 = some r) :
    Calls Try.prog 30 #[.slice A0 l0.length c0, .int .i64 a1] w fun e w' => e = .returned (.int .u8 r) ∧ Drawn0 w w' := by
  have HR0 := Aside0.mk hr0
  have HC0 := Aside0.mk hc0
  clear hr0 hc0
  have H : (if 0 ≤ (wrap64 (Int.tdiv a1 8)) then (if (wrap64 (Int.tdiv a1 8)) < (l0.length : Int) then (if 0 ≤ (Int.tmod a1 8) then (if (wrap64 ((wrap64 (Int.tdiv a1 8)) + 1)) < (l0.length : Int) then (if 0 ≤ (wrap64 ((wrap64 (Int.tdiv a1 8)) + 1)) then (if 0 ≤ (wrap64 (8 - (Int.tmod a1 8))) then (some ((Go.bits .and .i64 (Go.bits .or .i64 (shr .i64 (wrap64 (rd l0 (wrap64 (Int.tdiv a1 8)))) (Int.tmod a1 8)) (shl .i64 (wrap64 (rd l0 (wrap64 ((wrap64 (Int.tdiv a1 8)) + 1)))) (wrap64 (8 - (Int.tmod a1 8))))) 31) % 256)) else (none)) else (none)) else (some ((Go.bits .and .i64 (shr .i64 (wrap64 (rd l0 (wrap64 (Int.tdiv a1 8)))) (Int.tmod a1 8)) 31) % 256))) else (none)) else (none)) else (none)) = some r := h
  clear h
  obtain ⟨ji3, hji3⟩ : ∃ j_ : Int, (wrap64 (Int.tdiv a1 8)) = j_ := ⟨_, rfl⟩
  replace H : (if 0 ≤ (ji3) then (if (ji3) < (l0.length : Int) then (if 0 ≤ (Int.tmod a1 8) then (if (wrap64 ((ji3) + 1)) < (l0.length : Int) then (if 0 ≤ (wrap64 ((ji3) + 1)) then (if 0 ≤ (wrap64 (8 - (Int.tmod a1 8))) then (some ((Go.bits .and .i64 (Go.bits .or .i64 (shr .i64 (wrap64 (rd l0 (ji3))) (Int.tmod a1 8)) (shl .i64 (wrap64 (rd l0 (wrap64 ((ji3) + 1)))) (wrap64 (8 - (Int.tmod a1 8))))) 31) % 256)) else (none)) else (none)) else (some ((Go.bits .and .i64 (shr .i64 (wrap64 (rd l0 (ji3))) (Int.tmod a1 8)) 31) % 256))) else (none)) else (none)) else (none)) = some r := by first | (rw [hji3] at H; exact H) | (simp only [hji3] at H ⊢; exact H)
  have hji3w : (IntKind.i64.wrap (Int.tdiv a1 8)) = ji3 := (i64_w _).trans hji3
  by_cases c4 : 0 ≤ (ji3)
  · rw [if_pos c4] at H
    have c4b0 : decide (0 ≤ (ji3)) = true := decide_eq_true c4
    clear c4
    by_cases c5 : (ji3) < (l0.length : Int)
    · rw [if_pos c5] at H
      have c5b0 : decide ((ji3) < (l0.length : Int)) = true := decide_eq_true c5
      clear c5
      obtain ⟨ji6, hji6⟩ : ∃ j_ : Int, (Int.tmod a1 8) = j_ := ⟨_, rfl⟩
      replace H : (if 0 ≤ (ji6) then (if (wrap64 ((ji3) + 1)) < (l0.length : Int) then (if 0 ≤ (wrap64 ((ji3) + 1)) then (if 0 ≤ (wrap64 (8 - (ji6))) then (some ((Go.bits .and .i64 (Go.bits .or .i64 (shr .i64 (wrap64 (rd l0 (ji3))) (ji6)) (shl .i64 (wrap64 (rd l0 (wrap64 ((ji3) + 1)))) (wrap64 (8 - (ji6))))) 31) % 256)) else (none)) else (none)) else (some ((Go.bits .and .i64 (shr .i64 (wrap64 (rd l0 (ji3))) (ji6)) 31) % 256))) else (none)) = some r := by first | (rw [hji6] at H; exact H) | (simp only [hji6] at H ⊢; exact H)
      by_cases c7 : 0 ≤ (ji6)
      · rw [if_pos c7] at H
        have c7b0 := eq_true c7
        have c7b1 : decide (0 ≤ (ji6)) = true := decide_eq_true c7
        clear c7
        obtain ⟨ji8, hji8⟩ : ∃ j_ : Int, (shr .i64 (wrap64 (rd l0 (ji3))) (ji6)) = j_ := ⟨_, rfl⟩
        replace H : (if (wrap64 ((ji3) + 1)) < (l0.length : Int) then (if 0 ≤ (wrap64 ((ji3) + 1)) then (if 0 ≤ (wrap64 (8 - (ji6))) then (some ((Go.bits .and .i64 (Go.bits .or .i64 (ji8) (shl .i64 (wrap64 (rd l0 (wrap64 ((ji3) + 1)))) (wrap64 (8 - (ji6))))) 31) % 256)) else (none)) else (none)) else (some ((Go.bits .and .i64 (ji8) 31) % 256))) = some r := by first | (rw [hji8] at H; exact H) | (simp only [hji8] at H ⊢; exact H)
        have hji8_ : ((wrap64 (rd l0 (ji3))) / 2 ^ min (ji6).toNat 64) = ji8 := hji8
        have hji8z : (ji6) ≤ 64 → ((wrap64 (rd l0 (ji3))) / 2 ^ (ji6).toNat) = ji8 := shr_small hji8
        by_cases c9 : (wrap64 ((ji3) + 1)) < (l0.length : Int)
        · rw [if_pos c9] at H
          have c9b0 : decide ((wrap64 ((ji3) + 1)) < (l0.length : Int)) = true := decide_eq_true c9
          clear c9
          obtain ⟨ji10, hji10⟩ : ∃ j_ : Int, (wrap64 ((ji3) + 1)) = j_ := ⟨_, rfl⟩
          replace H : (if 0 ≤ (ji10) then (if 0 ≤ (wrap64 (8 - (ji6))) then (some ((Go.bits .and .i64 (Go.bits .or .i64 (ji8) (shl .i64 (wrap64 (rd l0 (ji10))) (wrap64 (8 - (ji6))))) 31) % 256)) else (none)) else (none)) = some r := by first | (rw [hji10] at H; exact H) | (simp only [hji10] at H ⊢; exact H)
          (try rw [hji10] at c9b0)
          have hji10w : (IntKind.i64.wrap ((ji3) + 1)) = ji10 := (i64_w _).trans hji10
          by_cases c11 : 0 ≤ (ji10)
          · rw [if_pos c11] at H
            have c11b0 : decide (0 ≤ (ji10)) = true := decide_eq_true c11
            clear c11
            obtain ⟨ji12, hji12⟩ : ∃ j_ : Int, (wrap64 (8 - (ji6))) = j_ := ⟨_, rfl⟩
            replace H : (if 0 ≤ (ji12) then (some ((Go.bits .and .i64 (Go.bits .or .i64 (ji8) (shl .i64 (wrap64 (rd l0 (ji10))) (ji12))) 31) % 256)) else (none)) = some r := by first | (rw [hji12] at H; exact H) | (simp only [hji12] at H ⊢; exact H)
            have hji12w : (IntKind.i64.wrap (8 - (ji6))) = ji12 := (i64_w _).trans hji12
            by_cases c13 : 0 ≤ (ji12)
            · rw [if_pos c13] at H
              have c13b0 := eq_true c13
              have c13b1 : decide (0 ≤ (ji12)) = true := decide_eq_true c13
              clear c13
              obtain ⟨ji14, hji14⟩ : ∃ j_ : Int, (shl .i64 (wrap64 (rd l0 (ji10))) (ji12)) = j_ := ⟨_, rfl⟩
              replace H : (some ((Go.bits .and .i64 (Go.bits .or .i64 (ji8) (ji14)) 31) % 256)) = some r := by first | (rw [hji14] at H; exact H) | (simp only [hji14] at H ⊢; exact H)
              have hji14_ : (IntKind.i64.wrap ((wrap64 (rd l0 (ji10))) * 2 ^ min (ji12).toNat 64)) = ji14 := hji14
              have hji14z : (ji12) ≤ 64 → (IntKind.i64.wrap ((wrap64 (rd l0 (ji10))) * 2 ^ (ji12).toNat)) = ji14 := shl_small hji14
              have hji14y : (wrap64 ((wrap64 (rd l0 (ji10))) * 2 ^ min (ji12).toNat 64)) = ji14 := (i64_w _).symm.trans hji14_
              have hji14x : (ji12) ≤ 64 → (wrap64 ((wrap64 (rd l0 (ji10))) * 2 ^ (ji12).toNat)) = ji14 := fun h_ => (i64_w _).symm.trans (hji14z h_)
              obtain rfl := Option.some.inj H
              have p101 : 0 ≤ ((ji3) : Int) := of_decide_eq_true (by first | (with_reducible assumption) | assumption)
              have q101 : (ji3) < (l0.length : Int) := of_decide_eq_true (by first | (with_reducible assumption) | assumption)
              obtain ⟨ad101, e101, hx101_0⟩ := Kd.at_int HR0.out (ji3) p101 q101
              cases e101
              replace p101 := eq_true p101
              replace q101 := eq_true q101
              have p102 : 0 ≤ ((ji10) : Int) := of_decide_eq_true (by first | (with_reducible assumption) | assumption)
              have q102 : (ji10) < (l0.length : Int) := of_decide_eq_true (by first | (with_reducible assumption) | assumption)
              obtain ⟨ad102, e102, hx102_0⟩ := Kd.at_int HR0.out (ji10) p102 q102
              obtain rfl : ad101 = ad102 := (by injection e102)
              replace p102 := eq_true p102
              replace q102 := eq_true q102
              go_enter Try.func30, Try.ntmps30
              go_wp2
              go_ret
              exact ⟨by first | rfl | (simp; done) | (simp only [← hji3, ← hji6, ← hji8, ← hji10, ← hji12, ← hji14] <;> (first | rfl | simp)) | (simp [*]; done), by repeat (first | exact Drawn0.refl _ | apply Drawn0.step)⟩
            · rw [if_neg c13] at H
              exact absurd H (by simp)
          · rw [if_neg c11] at H
            exact absurd H (by simp)
        · rw [if_neg c9] at H
          have c9b0 : decide ((wrap64 ((ji3) + 1)) < (l0.length : Int)) = false := decide_eq_false c9
          clear c9
          obtain rfl := Option.some.inj H
          have p101 : 0 ≤ ((ji3) : Int) := of_decide_eq_true (by first | (with_reducible assumption) | assumption)
          have q101 : (ji3) < (l0.length : Int) := of_decide_eq_true (by first | (with_reducible assumption) | assumption)
          obtain ⟨ad101, e101, hx101_0⟩ := Kd.at_int HR0.out (ji3) p101 q101
          cases e101
          replace p101 := eq_true p101
          replace q101 := eq_true q101
          go_enter Try.func30, Try.ntmps30
          go_wp2
          go_ret
          exact ⟨by first | rfl | (simp; done) | (simp only [← hji3, ← hji6, ← hji8] <;> (first | rfl | simp)) | (simp [*]; done), by repeat (first | exact Drawn0.refl _ | apply Drawn0.step)⟩
      · rw [if_neg c7] at H
        exact absurd H (by simp)
    · rw [if_neg c5] at H
      exact absurd H (by simp)
  · rw [if_neg c4] at H
    exact absurd H (by simp)

-- NOT PRINTED: function 31 (strings_Builder_String)

-- NOT PRINTED: function 18 (base_Encode)

-- NOT PRINTED: function 11 (naming_Path)

-- NOT PRINTED: function 47 (bytealg_IndexByteString)

-- NOT PRINTED: function 41 (stringslite_IndexByte)

-- NOT PRINTED: function 32 (strings_IndexByte)

-- NOT PRINTED: function 19 (base_Decode)

-- NOT PRINTED: function 12 (naming_Parse)

-- NOT PRINTED: function 14 (naming_Is)

-- NOT PRINTED: function 8 (staddlelaw06_awake)

end Go.Proofs.Ytigeljeoodhcoaa.PNamingPaths
