/-
  Plain: roots by halving, primes, and the words that they make.
-/
import Derived.KernelRfl
namespace Go.Proofs.Ytnpmhbhnggdhcaa

/-- A word of 32 bits, as a number. -/
abbrev W32 := BitVec 32
def u (x : W32) : Int := (x.toNat : Int)
theorem u_nonneg (x : W32) : 0 ≤ u x := Int.natCast_nonneg _
theorem u_lt (x : W32) : u x < 4294967296 := by have := x.isLt; unfold u; omega

def aboveN (m p pow : Nat) : Bool := if pow = 2 then decide (p * 18446744073709551616 < m * m) else decide (p * 79228162514264337593543950336 < m * m * m)
def rootL (p pow : Nat) : Nat → Nat → Nat → Nat
  | 0, lo, _ => lo
  | k + 1, lo, hi => if 1 < hi - lo then (if aboveN (lo + (hi - lo) / 2) p pow then rootL p pow k lo (lo + (hi - lo) / 2) else rootL p pow k (lo + (hi - lo) / 2) hi) else lo
def rootN (p pow : Nat) : Nat := rootL p pow 37 0 137438953472
theorem rootL_done (p pow k lo hi : Nat) (h : ¬ 1 < hi - lo) : rootL p pow k lo hi = lo := by
  cases k
  · rfl
  · simp [rootL, h]
theorem rootL_step (p pow k lo hi : Nat) (h : 1 < hi - lo) (hk : hi - lo ≤ 2 ^ k) : ∃ j, k = j + 1 ∧ rootL p pow k lo hi = (if aboveN (lo + (hi - lo) / 2) p pow then rootL p pow j lo (lo + (hi - lo) / 2) else rootL p pow j (lo + (hi - lo) / 2) hi) ∧ (lo + (hi - lo) / 2) - lo ≤ 2 ^ j ∧ hi - (lo + (hi - lo) / 2) ≤ 2 ^ j := by
  cases k with
  | zero => simp at hk; omega
  | succ j =>
    refine ⟨j, rfl, by simp [rootL, h], ?_, ?_⟩ <;> rw [Nat.pow_succ] at hk <;> omega

def primeL (p : Nat) : Nat → Nat → Bool
  | 0, _ => true
  | k + 1, d => if d * d ≤ p then (if p % d = 0 then false else primeL p k (d + 1)) else true
def primeN (p : Nat) : Bool := primeL p 20 2
def primesTo (p : Nat) : List Nat := ((List.range p).drop 2).filter primeN
theorem primesTo_succ (p : Nat) (hp : 2 ≤ p) : primesTo (p + 1) = primesTo p ++ if primeN p then [p] else [] := by
  unfold primesTo
  rw [List.range_succ, List.drop_append_of_le_length (by simpa using hp), List.filter_append]
  by_cases h : primeN p <;> simp [h]
theorem primes_few : ∀ p, p < 312 → (primesTo p).length < 64 := by decide +kernel
theorem primes_all : (primesTo 312).length = 64 := by decide +kernel
def rt (pow p : Nat) : W32 := BitVec.ofNat 32 (rootN p pow)
def Kc : List W32 := [
  0x428a2f98, 0x71374491, 0xb5c0fbcf, 0xe9b5dba5, 0x3956c25b, 0x59f111f1, 0x923f82a4, 0xab1c5ed5,
  0xd807aa98, 0x12835b01, 0x243185be, 0x550c7dc3, 0x72be5d74, 0x80deb1fe, 0x9bdc06a7, 0xc19bf174,
  0xe49b69c1, 0xefbe4786, 0x0fc19dc6, 0x240ca1cc, 0x2de92c6f, 0x4a7484aa, 0x5cb0a9dc, 0x76f988da,
  0x983e5152, 0xa831c66d, 0xb00327c8, 0xbf597fc7, 0xc6e00bf3, 0xd5a79147, 0x06ca6351, 0x14292967,
  0x27b70a85, 0x2e1b2138, 0x4d2c6dfc, 0x53380d13, 0x650a7354, 0x766a0abb, 0x81c2c92e, 0x92722c85,
  0xa2bfe8a1, 0xa81a664b, 0xc24b8b70, 0xc76c51a3, 0xd192e819, 0xd6990624, 0xf40e3585, 0x106aa070,
  0x19a4c116, 0x1e376c08, 0x2748774c, 0x34b0bcb5, 0x391c0cb3, 0x4ed8aa4a, 0x5b9cca4f, 0x682e6ff3,
  0x748f82ee, 0x78a5636f, 0x84c87814, 0x8cc70208, 0x90befffa, 0xa4506ceb, 0xbef9a3f7, 0xc67178f2]
def Hc : List W32 := [0x6a09e667, 0xbb67ae85, 0x3c6ef372, 0xa54ff53a, 0x510e527f, 0x9b05688c, 0x1f83d9ab, 0x5be0cd19]
theorem words_K : (primesTo 312).map (rt 3) = Kc := by decide +kernel
theorem words_H : ((primesTo 312).take 8).map (rt 2) = Hc := by decide +kernel
end Go.Proofs.Ytnpmhbhnggdhcaa
