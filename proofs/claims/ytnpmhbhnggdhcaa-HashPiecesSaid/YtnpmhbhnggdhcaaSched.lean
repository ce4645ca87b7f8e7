/-
  Plain: what a block does to the words of a hasher.
-/
import Derived.Test.YtnpmhbhnggdhcaaRoots
namespace Go.Proofs.Ytnpmhbhnggdhcaa

/-- A byte as a word. -/
def b8 (b : UInt8) : W32 := BitVec.ofNat 32 b.toNat
/-- The i-th word of a part, its first k bytes taken. -/
def wk (part : List UInt8) (i : Nat) : Nat → W32
  | 0 => 0
  | k + 1 => (wk part i k <<< 8) ||| b8 (part.getD (4 * i + k) 0)
def word (part : List UInt8) (i : Nat) : W32 := wk part i 4
def s0 (x : W32) : W32 := x.rotateLeft 25 ^^^ x.rotateLeft 14 ^^^ x >>> 3
def s1 (x : W32) : W32 := x.rotateLeft 15 ^^^ x.rotateLeft 13 ^^^ x >>> 10
def nextW (l : List W32) (n : Nat) : W32 := l.getD n 0 + s0 (l.getD (n + 1) 0) + l.getD (n + 9) 0 + s1 (l.getD (n + 14) 0)
def schedL (part : List UInt8) : Nat → List W32
  | 0 => (List.range 16).map (word part)
  | n + 1 => schedL part n ++ [nextW (schedL part n) n]
/-- Eight words. -/
structure V8 where
  a : W32
  b : W32
  c : W32
  d : W32
  e : W32
  f : W32
  g : W32
  h : W32
def V8.l (v : V8) : List W32 := [v.a, v.b, v.c, v.d, v.e, v.f, v.g, v.h]
def tw (k w : W32) (v : V8) : W32 := v.h + k + w + (v.e.rotateLeft 26 ^^^ v.e.rotateLeft 21 ^^^ v.e.rotateLeft 7) + (v.g ^^^ v.e &&& (v.f ^^^ v.g))
def uw (v : V8) : W32 := (v.a.rotateLeft 30 ^^^ v.a.rotateLeft 19 ^^^ v.a.rotateLeft 10) + (v.a &&& v.b ||| v.c &&& (v.a ||| v.b))
def round (k w : W32) (v : V8) : V8 := ⟨tw k w v + uw v, v.a, v.b, v.c, v.d + tw k w v, v.e, v.f, v.g⟩
def rnd (K S : List W32) (v : V8) : Nat → V8
  | 0 => v
  | n + 1 => round (K.getD n 0) (S.getD n 0) (rnd K S v n)
def V8.add (v x : V8) : V8 := ⟨v.a + x.a, v.b + x.b, v.c + x.c, v.d + x.d, v.e + x.e, v.f + x.f, v.g + x.g, v.h + x.h⟩
def comp (H : V8) (part : List UInt8) : V8 := H.add (rnd Kc (schedL part 48) H 64)
def H8 : V8 := ⟨0x6a09e667, 0xbb67ae85, 0x3c6ef372, 0xa54ff53a, 0x510e527f, 0x9b05688c, 0x1f83d9ab, 0x5be0cd19⟩
theorem H8_l : H8.l = Hc := rfl
theorem schedL_length (part : List UInt8) (n : Nat) : (schedL part n).length = 16 + n := by
  induction n with
  | zero => simp [schedL]
  | succ n ih => simp [schedL, ih]; omega
theorem V8.l_length (v : V8) : v.l.length = 8 := rfl
end Go.Proofs.Ytnpmhbhnggdhcaa
