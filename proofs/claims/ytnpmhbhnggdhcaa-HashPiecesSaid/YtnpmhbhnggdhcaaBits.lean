/-
  Words of 32 bits as the walk reckons with them; RotateLeft32.
-/
import Derived.Test.YtnpmhbhnggdhcaaNew
import Derived.Test.YtnpmhbhnggdhcaaSched
set_option linter.unusedVariables false
set_option linter.unusedSimpArgs false
namespace Go.Proofs.Ytnpmhbhnggdhcaa
open Go.RowKit Go.Proofs.YtnpmhbhnggdhcaaW.PrintWords

theorem ofInt_u (x : W32) : BitVec.ofInt 32 (u x) = x := by
  unfold u
  rw [BitVec.ofInt_natCast]
  simp
theorem wrap_u (x : W32) : IntKind.u32.wrap (x.toNat : Int) = u x := by
  show (x.toNat : Int) % 4294967296 = (x.toNat : Int)
  have := x.isLt
  omega
theorem or_u (a b : W32) : bits .or .u32 (u a) (u b) = u (a ||| b) := by
  show IntKind.u32.wrap (((BitVec.ofInt 32 (u a)) ||| (BitVec.ofInt 32 (u b))).toNat : Int) = _
  rw [ofInt_u, ofInt_u, wrap_u]
theorem and_u (a b : W32) : bits .and .u32 (u a) (u b) = u (a &&& b) := by
  show IntKind.u32.wrap (((BitVec.ofInt 32 (u a)) &&& (BitVec.ofInt 32 (u b))).toNat : Int) = _
  rw [ofInt_u, ofInt_u, wrap_u]
theorem xor_u (a b : W32) : bits .xor .u32 (u a) (u b) = u (a ^^^ b) := by
  show IntKind.u32.wrap (((BitVec.ofInt 32 (u a)) ^^^ (BitVec.ofInt 32 (u b))).toNat : Int) = _
  rw [ofInt_u, ofInt_u, wrap_u]
theorem add_u (a b : W32) : (u a + u b) % 4294967296 = u (a + b) := by
  unfold u
  rw [BitVec.toNat_add]
  omega
theorem addw_u (a b : W32) : IntKind.u32.wrap (u a + u b) = u (a + b) := add_u a b
theorem shr_u (a : W32) (n : Nat) : u a / 2 ^ n = u (a >>> n) := by
  unfold u
  rw [BitVec.toNat_ushiftRight, Nat.shiftRight_eq_div_pow]
  simp
theorem shl_u (a : W32) (n : Nat) : u a * 2 ^ n % 4294967296 = u (a <<< n) := by
  unfold u
  rw [BitVec.toNat_shiftLeft, Nat.shiftLeft_eq]
  simp
theorem shr3_u (a : W32) : u a / (8 : Int) = u (a >>> (3 : Nat)) := shr_u a 3
theorem shr10_u (a : W32) : u a / (1024 : Int) = u (a >>> (10 : Nat)) := shr_u a 10
theorem shl8_u (a : W32) : u a * (256 : Int) % (4294967296 : Int) = u (a <<< (8 : Nat)) := shl_u a 8
theorem u_b8 (b : UInt8) : ((b.toNat : Nat) : Int) = u (b8 b) := by
  have := b.toNat_lt
  unfold u b8
  rw [BitVec.toNat_ofNat, Nat.mod_eq_of_lt (by omega)]
theorem rotl_def (x : W32) (n : Nat) (hn : n < 32) : x.rotateLeft n = x <<< n ||| x >>> (32 - n) := by
  rw [BitVec.rotateLeft_eq_rotateLeftAux_of_lt hn]
  rfl
theorem and31 (n : Nat) (h : n < 32) : bits .and .u64 (n : Int) 31 = (n : Int) := by
  have : ∀ k, k < 32 → bits .and .u64 ((k : Nat) : Int) 31 = (k : Int) := by decide
  exact this n h
set_option maxHeartbeats 400000 in
theorem rotl_any (x : W32) (n : Nat) (hn : n < 32) (w : World) : Calls Try.prog 27 #[.int .u32 (u x), .int .i64 n] w fun e w' => e = .returned (.int .u32 (u (x.rotateLeft n))) ∧ w' = w := by
  have h1 := and31 n hn
  have hu := u_nonneg x
  have hv := u_lt x
  have e : bits BinOp.or IntKind.u32 (u x * 2 ^ n % 4294967296) (u x / 2 ^ (32 - n)) = u (x.rotateLeft n) := by
    rw [shl_u, shr_u, or_u, ← rotl_def x n hn]
  generalize u (x.rotateLeft n) = r at *
  have E := Lib.hid e
  clear e
  go_enter Try.func27, Try.ntmps27
  go_wp2
  rw [E.out]
  go_ret
  exact ⟨rfl, rfl⟩
end Go.Proofs.Ytnpmhbhnggdhcaa
