/-
  Plain: the digest of a text.
-/
import Derived.Test.YtnpmhbhnggdhcaaFeed
namespace Go.Proofs.Ytnpmhbhnggdhcaa

def zrs (n : Nat) : List UInt8 := List.replicate n 0
def padZ (n : Nat) : Nat := (119 - n % 64) % 64
theorem padZ_end (n : Nat) : (n + 1 + padZ n) % 64 = 56 := by unfold padZ; omega
theorem padZ_more (n z : Nat) (h : z < padZ n) : (n + 1 + z) % 64 ≠ 56 := by unfold padZ at h; omega
theorem padZ_lt (n : Nat) : padZ n < 64 := by unfold padZ; omega
def byteAt (v k : Nat) : UInt8 := UInt8.ofNat (v / 2 ^ k % 256)
theorem byteAt_nat (v k : Nat) : (byteAt v k).toNat = v / 2 ^ k % 256 := by
  unfold byteAt
  rw [UInt8.toNat_ofNat']
  omega
def lenB (v : Nat) : List UInt8 := (List.range 8).map fun i => byteAt v (56 - 8 * i)
theorem lenB_length (v : Nat) : (lenB v).length = 8 := by simp [lenB]
theorem lenB_take (v j : Nat) (h : j < 8) : (lenB v).take (j + 1) = (lenB v).take j ++ [byteAt v (56 - 8 * j)] := by
  rw [List.take_succ_eq_append_getElem (by rw [lenB_length]; exact h)]
  simp [lenB]
def pad (l : List UInt8) : List UInt8 := ((l ++ [128]) ++ zrs (padZ l.length)) ++ lenB (l.length * 8)
theorem pad_length (l : List UInt8) : (pad l).length = l.length + 1 + padZ l.length + 8 := by simp [pad, zrs, lenB_length]; omega
/-- The words as bytes. -/
def digB (H : List W32) : List UInt8 := (List.range 32).map fun j => byteAt (H.getD (j / 4) 0).toNat (24 - 8 * (j % 4))
theorem digB_length (H : List W32) : (digB H).length = 32 := by simp [digB]
def digP (H : List W32) (j : Nat) : List UInt8 := (digB H).take j ++ zrs (32 - j)
theorem digP_zero (H : List W32) : digP H 0 = zrs 32 := by simp [digP]
theorem digP_end (H : List W32) : digP H 32 = digB H := by
  unfold digP
  rw [List.take_of_length_le (by rw [digB_length]; exact Nat.le_refl _)]
  simp [zrs]
theorem digP_length (H : List W32) (j : Nat) (h : j ≤ 32) : (digP H j).length = 32 := by
  unfold digP zrs
  rw [List.length_append, List.length_take, digB_length, List.length_replicate]
  omega
theorem digP_set (H : List W32) (j : Nat) (h : j < 32) : (digP H j).set j (byteAt (H.getD (j / 4) 0).toNat (24 - 8 * (j % 4))) = digP H (j + 1) := by
  unfold digP zrs
  rw [List.set_append, if_neg (by rw [List.length_take, digB_length]; omega), List.length_take, digB_length, show 32 - j = (32 - (j + 1)) + 1 by omega, List.replicate_succ, show j - min j 32 = 0 by omega, List.set_cons_zero, List.take_succ_eq_append_getElem (by rw [digB_length]; exact h)]
  simp [digB]
def digest (l : List UInt8) : List UInt8 := digB (blocksH ((pad l).length / 64) (pad l)).l
theorem digest_length (l : List UInt8) : (digest l).length = 32 := digB_length _
end Go.Proofs.Ytnpmhbhnggdhcaa
