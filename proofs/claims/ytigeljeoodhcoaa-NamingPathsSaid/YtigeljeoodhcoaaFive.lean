/-
  Five bits of some bytes, and how many signs there are: the contracts in plain words.
-/
import Derived.Test.YtigeljeoodhcoaaPlain
import Derived.Test.YtigeljeoodhcoaaPNamingPathsx3
import Derived.Test.YtigeljeoodhcoaaPNamingPathsx1
namespace Go.Proofs.Ytigeljeoodhcoaa
open Go.RowKit Go.Proofs.YtigeljeoodhcoaaW.PrintWords Go.Proofs.YtigeljeoodhcoaaW.PrintLast Go.Proofs.YtigeljeoodhcoaaW.PrintMore

theorem wraps_i64 (n : Int) (h₀ : 0 ≤ n) (h₁ : n < 2 ^ 32) : IntKind.i64.wrap n = n := by rw [IntKind.wrap_i64]; omega
theorem and_nat (a b : Nat) (ha : a < 2 ^ 32) (hb : b < 2 ^ 32) : bits .and .i64 (a : Int) (b : Int) = ((a &&& b : Nat) : Int) := (bits_nat .i64 32 (by decide) wraps_i64 a b ha hb).1
theorem or_nat (a b : Nat) (ha : a < 2 ^ 32) (hb : b < 2 ^ 32) : bits .or .i64 (a : Int) (b : Int) = ((a ||| b : Nat) : Int) := (bits_nat .i64 32 (by decide) wraps_i64 a b ha hb).2

theorem pow_le_256 (j : Nat) (h : j ≤ 8) : 2 ^ j ≤ 256 := by
  have := Nat.pow_le_pow_right (n := 2) (by decide) h
  omega

theorem shr_nat (a j : Nat) (hj : j ≤ 8) : shr .i64 (a : Int) (j : Int) = ((a / 2 ^ j : Nat) : Int) := by
  unfold shr
  have e : min (j : Int).toNat IntKind.i64.bits = j := by
    have : IntKind.i64.bits = 64 := rfl
    rw [this, Int.toNat_natCast]; omega
  rw [e]; push_cast; rfl
theorem shl_nat (a j : Nat) (ha : a < 256) (hj : j ≤ 8) : shl .i64 (a : Int) (j : Int) = ((a * 2 ^ j : Nat) : Int) := by
  unfold shl
  have e : min (j : Int).toNat IntKind.i64.bits = j := by
    have : IntKind.i64.bits = 64 := rfl
    rw [this, Int.toNat_natCast]; omega
  rw [e]
  have h1 := pow_le_256 j hj
  have h2 : a * 2 ^ j ≤ 255 * 256 := Nat.mul_le_mul (by omega) h1
  have : ((a : Int) * 2 ^ j) = ((a * 2 ^ j : Nat) : Int) := by push_cast; rfl
  rw [this]
  exact wraps_i64 _ (by omega) (by omega)

theorem five_f (l : List UInt8) (k : Nat) (hk : 5 * k < 8 * l.length) (hl : l.length ≤ 1000000000) :
    PNamingPaths.base_five.f (ints l) ((k : Int) * 5) = some ((val l / 32 ^ k % 32 : Nat) : Int) := by
  have hv : val l / 32 ^ k = val (l.drop (5 * k / 8)) / 2 ^ (5 * k % 8) := by
    rw [show (32 : Nat) = 2 ^ 5 from rfl, ← Nat.pow_mul, val_at]
  obtain ⟨i, hi⟩ : ∃ i, 5 * k / 8 = i := ⟨_, rfl⟩
  obtain ⟨j, hj⟩ : ∃ j, 5 * k % 8 = j := ⟨_, rfl⟩
  rw [hi, hj] at hv
  have ei : wrap64 (Int.tdiv ((k : Int) * 5) 8) = (i : Int) := by
    rw [Int.tdiv_eq_ediv_of_nonneg (by omega), wrap64_id _ (by omega) (by omega)]; omega
  have ej : Int.tmod ((k : Int) * 5) 8 = (j : Int) := by
    rw [Int.tmod_eq_emod_of_nonneg (by omega)]; omega
  have ei1 : wrap64 ((i : Int) + 1) = ((i + 1 : Nat) : Int) := by rw [wrap64_id _ (by omega) (by omega)]; omega
  have ej8 : wrap64 (8 - (j : Int)) = ((8 - j : Nat) : Int) := by rw [wrap64_id _ (by omega) (by omega)]; omega
  have b0 := (l.getD i 0).toNat_lt
  have b1 := (l.getD (i + 1) 0).toNat_lt
  have w0 : wrap64 (rd (ints l) (i : Int)) = ((l.getD i 0).toNat : Int) := by rw [rd_ints]; exact wrap64_id _ (by omega) (by omega)
  have w1 : wrap64 (rd (ints l) ((i + 1 : Nat) : Int)) = ((l.getD (i + 1) 0).toNat : Int) := by rw [rd_ints]; exact wrap64_id _ (by omega) (by omega)
  have hil : i < l.length := by omega
  have q0 : (l.getD i 0).toNat / 2 ^ j ≤ (l.getD i 0).toNat := Nat.div_le_self _ _
  have ed : l.drop i = l.getD i 0 :: l.drop (i + 1) := by
    rw [List.drop_eq_getElem_cons hil, List.getD_eq_getElem?_getD, List.getElem?_eq_getElem hil]; rfl
  unfold PNamingPaths.base_five.f
  rw [ei, ej, ei1, ej8, w0, w1, ints_length, if_pos (by omega), if_pos (by omega), if_pos (by omega), shr_nat _ _ (by omega)]
  by_cases h : i + 1 < l.length
  · rw [if_pos (by omega), if_pos (by omega), if_pos (by omega), shl_nat _ _ (by omega) (by omega)]
    have q1 : (l.getD (i + 1) 0).toNat * 2 ^ (8 - j) ≤ 255 * 256 := Nat.mul_le_mul (by omega) (pow_le_256 _ (by omega))
    rw [or_nat _ _ (by omega) (by omega), show (31 : Int) = ((31 : Nat) : Int) from rfl, and_nat _ _ (Nat.or_lt_two_pow (by omega) (by omega)) (by omega)]
    have ed1 : l.drop (i + 1) = l.getD (i + 1) 0 :: l.drop (i + 2) := by
      rw [List.drop_eq_getElem_cons h, List.getD_eq_getElem?_getD, List.getElem?_eq_getElem h]; rfl
    have e2 := two_bytes (l.getD i 0).toNat (l.getD (i + 1) 0).toNat (val (l.drop (i + 2))) j (by omega) (by omega) (by omega)
    rw [hv, ed, ed1, val, val, e2]
    congr 1
    omega
  · rw [if_neg (by omega), show (31 : Int) = ((31 : Nat) : Int) from rfl, and_nat _ _ (by omega) (by omega), one_byte]
    rw [hv, ed, List.drop_eq_nil_of_le (by omega), val, val, Nat.mul_zero, Nat.add_zero]
    congr 1
    omega

/-- five, at the place of a sign. -/
theorem five_any (A : Option Addr) (c : Nat) (l : List UInt8) (k : Nat) (w : World) (hr : Kd.C (Kd.int .u8) w A l.length (ints l)) (hc : l.length ≤ c) (hk : 5 * k < 8 * l.length) (hl : l.length ≤ 1000000000) :
    Calls Try.prog 30 #[.slice A l.length c, .int .i64 ((k : Int) * 5)] w fun e w' => e = .returned (.int .u8 ((val l / 32 ^ k % 32 : Nat) : Int)) ∧ Drawn0 w w' := by
  have h := PNamingPaths.base_five.calls A c (ints l) ((k : Int) * 5) _ w (by rw [ints_length]; exact hr) (by rw [ints_length]; exact hc) (five_f l k hk hl)
  rw [ints_length] at h
  exact h

theorem len_f (n : Nat) (hn : n ≤ 1000000000) : PNamingPaths.base_Len.f (n : Int) = some ((lens n : Nat) : Int) := by
  unfold PNamingPaths.base_Len.f lens
  by_cases h : n = 0
  · subst h; rfl
  · rw [if_neg (by omega), wrap64_id ((n : Int) * 8) (by omega) (by omega), wrap64_id ((n : Int) * 8 - 1) (by omega) (by omega), Int.tdiv_eq_ediv_of_nonneg (by omega)]
    rw [wrap64_id (((n : Int) * 8 - 1) / 5) (by omega) (by omega), wrap64_id _ (by omega) (by omega)]
    congr 1
    omega

theorem len_any (n : Nat) (w : World) (hn : n ≤ 1000000000) :
    Calls Try.prog 28 #[.int .i64 (n : Int)] w fun e w' => e = .returned (.int .i64 ((lens n : Nat) : Int)) ∧ Drawn0 w w' :=
  PNamingPaths.base_Len.calls _ _ w (len_f n hn)

end Go.Proofs.Ytigeljeoodhcoaa
