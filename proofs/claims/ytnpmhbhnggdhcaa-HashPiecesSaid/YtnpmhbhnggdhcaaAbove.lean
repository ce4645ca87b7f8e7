/-
  above, for squares and cubes.
-/
import Derived.Test.YtnpmhbhnggdhcaaRoots
import Derived.Test.YtnpmhbhnggdhcaaShelf
import Derived.Test.YtnpmhbhnggdhcaaOnce
import Derived.WalkLawsBesides
import Derived.Laws.Externs
set_option linter.unusedVariables false
set_option linter.unusedSimpArgs false
namespace Go.Proofs.Ytnpmhbhnggdhcaa
open Go.RowKit

theorem above2 (m p : Nat) : aboveN m p 2 = (decide (p < m * m / 18446744073709551616) || (decide (m * m / 18446744073709551616 = p) && decide (0 < m * m % 18446744073709551616))) := by
  unfold aboveN
  rw [if_pos rfl, Bool.eq_iff_iff]
  simp only [decide_eq_true_eq, Bool.or_eq_true, Bool.and_eq_true]
  omega
theorem add64_run (b c s : Nat) (h : b + c = s) (hs : s < 18446744073709551616) (W : World) : (callFunc 38 #[.int .u64 b, .int .u64 c, .int .u64 0]).run Try.prog W = .ok (.value (.tuple #[.int .u64 s, .int .u64 0])) W := by
  rw [run_callFunc_extern (e := add64Entry) Try.func38 (by kernel_rfl) (by kernel_rfl) (by kernel_rfl) (by kernel_rfl), run_add64 b c 0 (by omega) (by omega) (by omega) (by omega)]
  have e1 : ((b : Int) + c + 0) % 18446744073709551616 = s := by omega
  have e2 : ((b : Int) + c + 0) / 18446744073709551616 = 0 := by omega
  rw [e1, e2]
  rfl

set_option maxHeartbeats 400000 in
theorem above_two (m p : Nat) (hm : m ≤ 137438953472) (w : World) :
    Calls Try.prog 32 #[.int .u64 m, .int .u64 p, .int .i64 2] w fun e w' => e = .returned (.bool (aboveN m p 2)) ∧ w' = w := by
  have hA := above2 m p
  have hM := Try.bits_Mul64 m m (by omega) (by omega)
  generalize aboveN m p 2 = A at hA ⊢
  generalize m * m / 18446744073709551616 = hi at hA hM
  generalize m * m % 18446744073709551616 = lo at hA hM
  have HM := Lib.hid hM
  have HA := Lib.hid hA
  clear hM hA
  go_enter Try.func32, Try.ntmps32
  go_wp2_with fail
  refine (HM.out _).mono ?_
  rintro e w1 ⟨rfl, rfl⟩
  by_cases c1 : p < hi
  · go_wp2
    go_ret
    exact ⟨by rw [HA.out]; simp [c1], rfl⟩
  · by_cases c2 : hi = p
    · subst c2
      by_cases c3 : 0 < lo
      · go_wp2
        go_ret
        exact ⟨by rw [HA.out]; simp [c3], rfl⟩
      · go_wp2
        go_ret
        exact ⟨by rw [HA.out]; simp [c3], rfl⟩
    · have c2' : ((hi : Int) == (p : Int)) = false := by rw [beq_eq_false_iff_ne]; omega
      go_wp2
      go_ret
      exact ⟨by rw [HA.out]; simp [c1, c2], rfl⟩
theorem mul_any (x y hi lo : Nat) (hx : x < 18446744073709551616) (hy : y < 18446744073709551616) (h : x * y = hi * 18446744073709551616 + lo) (hl : lo < 18446744073709551616) (w : World) :
    Calls Try.prog 37 #[.int .u64 x, .int .u64 y] w fun e w' => e = .returned (.tuple #[.int .u64 (hi : Int), .int .u64 (lo : Int)]) ∧ w' = w := by
  have e1 : x * y / 18446744073709551616 = hi := by omega
  have e2 : x * y % 18446744073709551616 = lo := by omega
  have := Try.bits_Mul64 x y hx hy w
  rw [e1, e2] at this
  exact this
theorem or_zero (s t r : Nat) (h : s = t * 4294967296 + r) (hr : r < 4294967296) (hs : s < 18446744073709551616) : bits .or .u64 0 ((s : Int) / 4294967296) = (t : Int) := by
  have e : (s : Int) / 4294967296 = (t : Int) := by omega
  rw [e]
  have ht : t < 18446744073709551616 := by omega
  have e2 : BitVec.ofInt 64 (t : Int) = BitVec.ofNat 64 t := by simp
  show IntKind.wrap .u64 (((BitVec.ofInt 64 0) ||| (BitVec.ofInt 64 (t : Int))).toNat : Int) = t
  rw [e2]
  have e3 : ((BitVec.ofInt 64 0) ||| (BitVec.ofNat 64 t)).toNat = t := by simp; omega
  rw [e3]
  show (t : Int) % 18446744073709551616 = t
  omega
theorem shl_low (s t r : Nat) (h : s = t * 4294967296 + r) : IntKind.u64.wrap ((s : Int) * 4294967296) = ((r * 4294967296 % 18446744073709551616 : Nat) : Int) := by
  show ((s : Int) * 4294967296) % 18446744073709551616 = _
  subst h
  omega
theorem above3 (m p hi lo b c d s t r : Nat) (h1 : m * m = hi * 18446744073709551616 + lo) (h2 : hi * m = b) (h3 : lo * m = c * 18446744073709551616 + d) (h4 : b + c = s) (h5 : s = t * 4294967296 + r)
    (hd : d < 18446744073709551616) (hr : r < 4294967296) : aboveN m p 3 = (decide (p < t) || (decide (t = p) && (!decide (r = 0) || !decide (d = 0)))) := by
  have e : m * m * m = s * 18446744073709551616 + d := by
    rw [h1, Nat.add_mul, h3, Nat.mul_right_comm, h2, ← h4]
    omega
  unfold aboveN
  rw [if_neg (by decide), e, Bool.eq_iff_iff]
  simp only [decide_eq_true_eq, Bool.or_eq_true, Bool.and_eq_true, Bool.not_eq_true', decide_eq_false_iff_not]
  omega
set_option maxHeartbeats 400000 in
theorem above_three (m p hi lo b c d s t r v : Nat) (hM : ∀ w, Calls Try.prog 37 #[.int .u64 m, .int .u64 m] w fun e w' => e = .returned (.tuple #[.int .u64 (hi : Int), .int .u64 (lo : Int)]) ∧ w' = w)
    (hN : ∀ w, Calls Try.prog 37 #[.int .u64 hi, .int .u64 m] w fun e w' => e = .returned (.tuple #[.int .u64 ((0 : Nat) : Int), .int .u64 (b : Int)]) ∧ w' = w)
    (hO : ∀ w, Calls Try.prog 37 #[.int .u64 lo, .int .u64 m] w fun e w' => e = .returned (.tuple #[.int .u64 (c : Int), .int .u64 (d : Int)]) ∧ w' = w)
    (hS : ∀ W, (callFunc 38 #[.int .u64 b, .int .u64 c, .int .u64 0]).run Try.prog W = .ok (.value (.tuple #[.int .u64 s, .int .u64 0])) W)
    (hor : bits .or .u64 0 ((s : Int) / 4294967296) = (t : Int)) (hsh : IntKind.u64.wrap ((s : Int) * 4294967296) = (v : Int)) (A : Bool) (hA : A = (decide (p < t) || (decide (t = p) && (!decide (v = 0) || !decide (d = 0))))) (w : World) :
    Calls Try.prog 32 #[.int .u64 m, .int .u64 p, .int .i64 3] w fun e w' => e = .returned (.bool A) ∧ w' = w := by
  have HM := Lib.hid hM
  have HN := Lib.hid hN
  have HO := Lib.hid hO
  have HA := Lib.hid hA
  clear hM hN hO hA
  go_enter Try.func32, Try.ntmps32
  go_wp2_with fail
  refine (HM.out _).mono ?_
  rintro e w1 ⟨rfl, rfl⟩
  go_wp2_with fail
  refine (HN.out _).mono ?_
  rintro e w1 ⟨rfl, rfl⟩
  go_wp2_with fail
  refine (HO.out _).mono ?_
  rintro e w1 ⟨rfl, rfl⟩
  by_cases c1 : p < t
  · go_wp2
    go_ret
    exact ⟨by rw [HA.out]; simp [c1], rfl⟩
  · by_cases c2 : t = p
    · subst c2
      by_cases c3 : v = 0
      · subst c3
        by_cases c4 : d = 0
        · subst c4
          go_wp2
          go_ret
          exact ⟨by rw [HA.out]; simp, rfl⟩
        · have c4' : ((d : Int) != 0) = true := by rw [bne_iff_ne]; omega
          go_wp2
          go_ret
          exact ⟨by rw [HA.out]; simp [c4], rfl⟩
      · have c3' : ¬ (v : Int) = 0 := by omega
        have c3'' : ((v : Int) != 0) = true := by rw [bne_iff_ne]; omega
        go_wp2
        go_ret
        exact ⟨by rw [HA.out]; simp [c3], rfl⟩
    · have c2' : ((t : Int) == (p : Int)) = false := by rw [beq_eq_false_iff_ne]; omega
      go_wp2
      go_ret
      exact ⟨by rw [HA.out]; simp [c1, c2], rfl⟩
theorem above_cube (m p : Nat) (hm : m ≤ 137438953472) (w : World) :
    Calls Try.prog 32 #[.int .u64 m, .int .u64 p, .int .i64 3] w fun e w' => e = .returned (.bool (aboveN m p 3)) ∧ w' = w := by
  have q1 : m * m ≤ 18889465931478580854784 := Nat.mul_le_mul hm hm
  obtain ⟨hi, lo, h1, h2⟩ : ∃ hi lo, m * m = hi * 18446744073709551616 + lo ∧ lo < 18446744073709551616 := ⟨m * m / 18446744073709551616, m * m % 18446744073709551616, by omega, by omega⟩
  have h3 : hi ≤ 1024 := by omega
  have q2 : hi * m ≤ 1024 * 137438953472 := Nat.mul_le_mul h3 hm
  obtain ⟨c, d, h4, h5⟩ : ∃ c d, lo * m = c * 18446744073709551616 + d ∧ d < 18446744073709551616 := ⟨lo * m / 18446744073709551616, lo * m % 18446744073709551616, by omega, by omega⟩
  have q3 : lo * m ≤ 18446744073709551616 * 137438953472 := Nat.mul_le_mul (by omega) hm
  obtain ⟨b, hb⟩ : ∃ b, hi * m = b := ⟨_, rfl⟩
  obtain ⟨t, r, h6, h7⟩ : ∃ t r, b + c = t * 4294967296 + r ∧ r < 4294967296 := ⟨(b + c) / 4294967296, (b + c) % 4294967296, by omega, by omega⟩
  rw [hb] at q2
  have hs : b + c < 18446744073709551616 := by omega
  have hv : (r * 4294967296 % 18446744073709551616 = 0) = (r = 0) := by
    rw [eq_iff_iff]
    omega
  refine above_three m p hi lo b c d (b + c) t r _ (mul_any m m hi lo (by omega) (by omega) h1 h2) (mul_any hi m 0 b (by omega) (by omega) (by omega) (by omega)) (mul_any lo m c d (by omega) (by omega) h4 h5)
    (add64_run b c (b + c) rfl hs) (or_zero _ t r h6 h7 hs) (shl_low _ t r h6) _ ?_ w
  rw [above3 m p hi lo b c d (b + c) t r h1 hb h4 rfl h6 h5 h7]
  simp only [hv]
theorem above_any (m p pow : Nat) (hm : m ≤ 137438953472) (hp : pow = 2 ∨ pow = 3) (w : World) :
    Calls Try.prog 32 #[.int .u64 m, .int .u64 p, .int .i64 pow] w fun e w' => e = .returned (.bool (aboveN m p pow)) ∧ w' = w := by
  rcases hp with rfl | rfl
  · exact above_two m p hm w
  · exact above_cube m p hm w
end Go.Proofs.Ytnpmhbhnggdhcaa
