/-
  right: a word turned to the right; and words that the reference reckons otherwise.
-/
import Derived.Test.YtnpmhbhnggdhcaaOf
import Derived.Deep.QuietTactic
import Derived.BigQuiet
set_option linter.unusedVariables false
set_option linter.unusedSimpArgs false
namespace Go.Proofs.Ytnpmhbhnggdhcaa
open Go.RowKit Go.Proofs.YtnpmhbhnggdhcaaW.PrintWords
set_option maxHeartbeats 400000 in
theorem right_any (x : W32) (n : Nat) (hn : n < 32) (h1 : 1 ≤ n) (w : World) : Calls Try.prog 22 #[.int .u32 (u x), .int .i64 n] w fun e w' => e = .returned (.int .u32 (u (x.rotateLeft (32 - n)))) ∧ ∃ m, w' = w.drewN m := by
  have hu := u_nonneg x
  obtain ⟨q, hq⟩ : ∃ q, q = 32 - n := ⟨_, rfl⟩
  have e1 : IntKind.i64.wrap (32 - (n : Int)) = (q : Int) := by rw [IntWalk.i64_in _ (by omega)]; omega
  have b1 : ¬ (n : Int) < 0 ∧ ¬ (q : Int) < 0 ∧ n ≤ 32 ∧ q ≤ 32 := by omega
  obtain ⟨b1, b2, b3, b4⟩ := b1
  have e : bits BinOp.or IntKind.u32 (u x / 2 ^ n) (u x * 2 ^ q % 4294967296) = u (x.rotateLeft q) := by
    rw [shl_u, shr_u, or_u, rotl_def x q (by omega), BitVec.or_comm, show 32 - q = n by omega]
  rw [← hq]
  have E := Lib.hid e
  clear hq e
  generalize u (x.rotateLeft q) = r at *
  go_enter Try.func22, Try.ntmps22
  go_wp2
  go_quiet (fail)
  go_wp2
  rw [E.out]
  go_ret
  exact ⟨rfl, nq, rfl⟩
theorem u_eq {a b : W32} (h : a = b) : u a = u b := by rw [h]
/-- The choice and the majority, the reference's way. -/
theorem ch_eq (e f g : W32) : (e &&& f ||| ~~~e &&& g) = (g ^^^ e &&& (f ^^^ g)) := by
  apply BitVec.eq_of_getLsbD_eq
  intro i hi
  simp only [BitVec.getLsbD_or, BitVec.getLsbD_and, BitVec.getLsbD_xor, BitVec.getLsbD_not, hi, decide_true, Bool.true_and]
  cases e.getLsbD i <;> cases f.getLsbD i <;> cases g.getLsbD i <;> rfl
theorem maj_eq (a b c : W32) : (a &&& b ||| a &&& c ||| b &&& c) = (a &&& b ||| c &&& (a ||| b)) := by
  apply BitVec.eq_of_getLsbD_eq
  intro i hi
  simp only [BitVec.getLsbD_or, BitVec.getLsbD_and]
  cases a.getLsbD i <;> cases b.getLsbD i <;> cases c.getLsbD i <;> rfl
def rone (k w : W32) (v : V8) : W32 := v.h + k + w + (v.e.rotateLeft 26 ^^^ v.e.rotateLeft 21 ^^^ v.e.rotateLeft 7) + (v.e &&& v.f ||| ~~~v.e &&& v.g)
def rtwo (v : V8) : W32 := (v.a.rotateLeft 30 ^^^ v.a.rotateLeft 19 ^^^ v.a.rotateLeft 10) + (v.a &&& v.b ||| v.a &&& v.c ||| v.b &&& v.c)
theorem rone_eq (k w : W32) (v : V8) : rone k w v = tw k w v := by
  unfold rone tw
  rw [ch_eq]
theorem rtwo_eq (v : V8) : rtwo v = uw v := by
  unfold rtwo uw
  rw [maj_eq]
theorem not_u (a : W32) : bits .xor .u32 (-1) (u a) = u (~~~a) := by
  show IntKind.u32.wrap (((BitVec.ofInt 32 (-1)) ^^^ (BitVec.ofInt 32 (u a))).toNat : Int) = _
  rw [ofInt_u, ← wrap_u]
  congr 3
/-- Four bytes as a word, the reference's way. -/
def rword (b0 b1 b2 b3 : UInt8) : W32 := b8 b0 <<< 24 + b8 b1 <<< 16 + b8 b2 <<< 8 + b8 b3
theorem rword_eq (part : List UInt8) (i : Nat) : rword (part.getD (4 * i) 0) (part.getD (4 * i + 1) 0) (part.getD (4 * i + 2) 0) (part.getD (4 * i + 3) 0) = word part i := by
  show _ = (((((0 : W32) <<< 8 ||| b8 (part.getD (4 * i + 0) 0)) <<< 8 ||| b8 (part.getD (4 * i + 1) 0)) <<< 8 ||| b8 (part.getD (4 * i + 2) 0)) <<< 8 ||| b8 (part.getD (4 * i + 3) 0))
  rw [Nat.add_zero]
  generalize part.getD (4 * i) 0 = b0
  generalize part.getD (4 * i + 1) 0 = b1
  generalize part.getD (4 * i + 2) 0 = b2
  generalize part.getD (4 * i + 3) 0 = b3
  have h0 := b0.toNat_lt
  have h1 := b1.toNat_lt
  have h2 := b2.toNat_lt
  have h3 := b3.toNat_lt
  have key : ∀ (x : W32) (b : UInt8), x.toNat < 16777216 → ((x <<< 8) ||| b8 b).toNat = x.toNat * 256 + b.toNat := fun x b hx => by
    have hb := b.toNat_lt
    rw [BitVec.toNat_or, BitVec.toNat_shiftLeft]
    have e1 : (b8 b).toNat = b.toNat := by unfold b8; rw [BitVec.toNat_ofNat]; omega
    rw [e1, Nat.mod_eq_of_lt (by rw [Nat.shiftLeft_eq]; omega), ← Nat.shiftLeft_add_eq_or_of_lt (by omega : b.toNat < 2 ^ 8), Nat.shiftLeft_eq]
  apply BitVec.eq_of_toNat_eq
  have k0 : ((0 : W32) <<< 8 ||| b8 b0).toNat = b0.toNat := by
    have := key 0 b0 (by decide)
    simpa using this
  have k1 := key ((0 : W32) <<< 8 ||| b8 b0) b1 (by omega)
  have k2 := key (((0 : W32) <<< 8 ||| b8 b0) <<< 8 ||| b8 b1) b2 (by omega)
  have k3 := key ((((0 : W32) <<< 8 ||| b8 b0) <<< 8 ||| b8 b1) <<< 8 ||| b8 b2) b3 (by omega)
  rw [k3, k2, k1, k0]
  unfold rword b8
  simp only [BitVec.toNat_add, BitVec.toNat_shiftLeft, BitVec.toNat_ofNat, Nat.shiftLeft_eq]
  omega
theorem rnext_eq (a b c d : W32) : a + c + b + d = a + b + c + d := by rw [BitVec.add_assoc a c b, BitVec.add_comm c b, ← BitVec.add_assoc]
end Go.Proofs.Ytnpmhbhnggdhcaa
