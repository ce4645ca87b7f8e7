/-
  Plain facts on base 32 and base 16: bytes as one number, the signs of it. No program in sight.
-/
import Derived.Test.YtgbknccnigfniaaWWords
namespace Go.Proofs.Ytgbknccnigfniaa
open Go.RowKit Go.Proofs.YtgbknccnigfniaaW.PrintWords

/-- Bytes as whole numbers. -/
def ints (l : List UInt8) : List Int := l.map fun b => (b.toNat : Int)
theorem ints_length (l : List UInt8) : (ints l).length = l.length := by simp [ints]
/-- Bytes as one number, the lowest first. -/
def val : List UInt8 → Nat
  | [] => 0
  | b :: l => b.toNat + 256 * val l
def signs : ByteArray := ⟨#[48, 49, 50, 51, 52, 53, 54, 55, 56, 57, 97, 98, 99, 100, 102, 103, 104, 105, 106, 107, 108, 109, 110, 112, 113, 114, 115, 118, 119, 120, 121, 122]⟩
def sgn (n : Nat) : UInt8 := signs.data.getD (n % 32) 0
/-- The signs of v, the k lowest of them, the highest first. -/
def down (v : Nat) : Nat → List UInt8
  | 0 => []
  | k + 1 => sgn (v / 32 ^ k) :: down v k
/-- How many signs n bytes have. -/
def lens (n : Nat) : Nat := (8 * n + 4) / 5
def enc (l : List UInt8) : List UInt8 := down (val l) (lens l.length)

theorem down_length (v k : Nat) : (down v k).length = k := by
  induction k with
  | zero => rfl
  | succ k ih => simp [down, ih]
theorem enc_length (l : List UInt8) : (enc l).length = lens l.length := down_length _ _

theorem rd_ints (l : List UInt8) (i : Nat) : rd (ints l) (i : Int) = ((l.getD i 0).toNat : Int) := by
  unfold rd ints
  simp only [Int.toNat_natCast, List.getD_eq_getElem?_getD, List.getElem?_map]
  cases l[i]? <;> simp

theorem val_lt (l : List UInt8) : val l < 256 ^ l.length := by
  induction l with
  | nil => simp [val]
  | cons b l ih =>
    have := b.toNat_lt
    simp only [val, List.length_cons, Nat.pow_succ]
    omega
theorem val_div (l : List UInt8) (i : Nat) : val l / 256 ^ i = val (l.drop i) := by
  induction i generalizing l with
  | zero => simp
  | succ i ih =>
    cases l with
    | nil => simp [val]
    | cons b l =>
      have hb := b.toNat_lt
      simp only [val, List.drop_succ_cons, ← ih]
      rw [Nat.pow_succ, Nat.mul_comm (256 ^ i) 256, ← Nat.div_div_eq_div_mul]
      congr 1
      omega

/-- Five bits of two bytes and what is behind them. -/
theorem two_bytes (a b r j : Nat) (ha : a < 256) (_hb : b < 256) (hj : j < 8) :
    ((a / 2 ^ j ||| b * 2 ^ (8 - j)) &&& 31) = (a + 256 * (b + 256 * r)) / 2 ^ j % 32 := by
  have hor : (a / 2 ^ j ||| b * 2 ^ (8 - j)) = b * 2 ^ (8 - j) + a / 2 ^ j := by
    have h1 : a / 2 ^ j < 2 ^ (8 - j) := by
      rw [Nat.div_lt_iff_lt_mul (Nat.two_pow_pos _), ← Nat.pow_add]
      have : 8 - j + j = 8 := by omega
      rw [this]; omega
    rw [Nat.or_comm, Nat.mul_comm, ← Nat.two_pow_add_eq_or_of_lt h1]
  rw [hor, show (31 : Nat) = 2 ^ 5 - 1 from rfl, Nat.and_two_pow_sub_one_eq_mod]
  match j, hj with
  | 0, _ => simp; omega
  | 1, _ => simp; omega
  | 2, _ => simp; omega
  | 3, _ => simp; omega
  | 4, _ => simp; omega
  | 5, _ => simp; omega
  | 6, _ => simp; omega
  | 7, _ => simp; omega
theorem one_byte (a j : Nat) : (a / 2 ^ j &&& 31) = a / 2 ^ j % 32 := by
  rw [show (31 : Nat) = 2 ^ 5 - 1 from rfl, Nat.and_two_pow_sub_one_eq_mod]

theorem val_at (l : List UInt8) (at_ : Nat) : val l / 2 ^ at_ = val (l.drop (at_ / 8)) / 2 ^ (at_ % 8) := by
  rw [← val_div, Nat.div_div_eq_div_mul, show (256 : Nat) = 2 ^ 8 from rfl, ← Nat.pow_mul, ← Nat.pow_add]
  congr 2
  omega

theorem sgn_mod (n : Nat) : sgn (n % 32) = sgn n := by simp [sgn]

theorem wrap64_id (x : Int) (h0 : -9223372036854775808 ≤ x) (h1 : x ≤ 9223372036854775807) : wrap64 x = x := by unfold wrap64; omega

end Go.Proofs.Ytgbknccnigfniaa
