/-
  New, and what a call about a sector asks first.
-/
import Derived.Test.YtaakknnfebmkcaaMem
import Derived.Test.YtaakknnfebmkcaaProg
import Derived.WalkKit
import Derived.Lib.Hide
import Derived.WalkLawsBesides
set_option linter.unusedVariables false
set_option linter.unusedSimpArgs false
namespace Go.Proofs.Ytaakknnfebmkcaa
open Go.RowKit Go.Proofs.YtaakknnfebmkcaaW.PrintWords

set_option maxHeartbeats 400000 in
set_option maxRecDepth 100000 in
theorem new_out (n : Int) (w : World) (h : n < 1 ∨ 8192 < n) : Calls Try.prog 8 #[.int .i64 n] w fun e w' => e = .returned (.tuple #[.pointer none, .int .i64 1]) ∧ w' = w := by
  go_enter Try.func8, Try.ntmps8
  by_cases h1 : n < 1
  · go_wp2
    go_ret2
    exact ⟨rfl, rfl⟩
  · go_wp2
    go_ret2
    exact ⟨rfl, rfl⟩

def zb (k : Nat) : List UInt8 := List.replicate k 0
theorem info64 : (Try.prog.info? 64).map (fun i => (i.zero, i.size, i.bytes)) = some (some (.agg (Lib.byteCells (zb 256)).toArray), 256, 256) := by kernel_rfl
theorem made_const (Z : Array Value) (h : ∀ i, i < Z.size → Z[i]! = .int .u8 0) (h0 : 0 < Z.size) (k : Nat) : madeCells Z k = (Lib.byteCells (zb k)).toArray := by
  apply Array.ext
  · rw [size_madeCells]
    simp [Lib.byteCells, zb]
  · intro i h1 h2
    have : i % Z.size < Z.size := Nat.mod_lt _ h0
    have e1 : (Lib.byteCells (zb k)).toArray[i] = .int .u8 0 := by simp [Lib.byteCells, zb]
    rw [e1, ← h _ this]
    simp [madeCells]
theorem made_zb (k : Nat) : madeCells (Lib.byteCells (zb 256)).toArray k = (Lib.byteCells (zb k)).toArray := by
  have hs : (Lib.byteCells (zb 256)).toArray.size = 256 := by rw [List.size_toArray, Lib.byteCells_length]; exact List.length_replicate
  refine made_const _ (fun i hi => ?_) (by rw [hs]; decide) k
  rw [getElem!_pos _ i hi]
  have : Lib.byteCells (zb 256) = List.replicate 256 (.int .u8 0) := List.map_replicate
  simp only [this, List.getElem_toArray]
  exact List.getElem_replicate _
theorem make_blocks (n : Nat) (hn : n ≤ 8192) (W : World) : (Instr.makeSlice 54 (.int .i64 (n : Int)) (.int .i64 (n : Int))).run Try.prog W = .ok (.slice (some ⟨W.heap.size, 0, none⟩) n n) (W.alloc (.cells (Lib.byteCells (zb (n * 256))).toArray 64)) := by
  cases hi : Try.prog.info? 64 with
  | none => have := info64; rw [hi] at this; cases this
  | some i =>
    have h := info64
    rw [hi] at h
    simp only [Option.map_some, Option.some.injEq, Prod.mk.injEq] at h
    obtain ⟨hz, hs, hb⟩ := h
    rw [run_make W 54 64 i _ Try.underlying54 hi hz .i64 .i64 n n (by omega) (by omega) (by rw [hb]; omega) (by omega), hs]
    simp only [Int.toNat_natCast]
    rw [show (Value.agg (Lib.byteCells (zb 256)).toArray).cells = (Lib.byteCells (zb 256)).toArray from rfl, made_zb]

/-- A write on its way, as cells. -/
def wayCells (way : List (Nat × List UInt8)) : List Value := way.flatMap fun p => .int .i64 (p.1 : Int) :: Lib.byteCells p.2
/-- A device stands in block b, its sectors in block g. -/
structure Dev (w : World) (base b g n : Nat) (L : List UInt8) (wv : Value) (way : List (Nat × List UInt8)) (cnt arm : Int) (off : Bool) : Prop where
  dev : w.heap[b]? = some (.cells #[.slice (some ⟨g, 0, none⟩) n n, wv, .int .i64 cnt, .int .i64 arm, .bool off] 62 (0, 0))
  secs : w.heap[g]? = some (.cells (Lib.byteCells L).toArray 64 (0, 0))
  len : L.length = n * 256
  bb : base ≤ b
  bg : base ≤ g
  own : w.ownsRow base 66 257 wv way.length (wayCells way)
  small : n ≤ 8192
  each : ∀ p ∈ way, p.1 < n ∧ p.2.length = 256

set_option maxHeartbeats 400000 in
set_option maxRecDepth 100000 in
theorem new_in (n : Nat) (w : World) (h : 1 ≤ n) (h8 : n ≤ 8192) : Calls Try.prog 8 #[.int .i64 (n : Int)] w fun e w' => ∃ b g, e = .returned (.tuple #[.pointer (some ⟨b, 0, none⟩), .int .i64 0]) ∧ Dev w' w.heap.size b g n (zb (n * 256)) (.slice none 0 0) [] 0 0 false ∧ Below w.heap.size w w' := by
  have hm := make_blocks n h8
  have hl : (zb (n * 256)).length = n * 256 := List.length_replicate
  have hg := alloc_at w (.cells (Lib.byteCells (zb (n * 256))).toArray 64)
  generalize zb (n * 256) = Z at hm hl hg
  have HL := Lib.hid hl
  have HG := Lib.hid hg
  clear hl hg
  go_enter Try.func8, Try.ntmps8
  go_wp2_with fail
  go_ret2
  refine ⟨_, w.heap.size, rfl, ⟨?_, alloc_far HG.out _, HL.out, by omega, Nat.le_refl _, own_nil _ _ _ _, h8, fun p hp => by cases hp⟩, ((Below.refl _ w).alloc (Nat.le_refl _) _).alloc (by simp) _⟩
  have := alloc_at (w.alloc (.cells (Lib.byteCells Z).toArray 64)) (.cells #[.slice (some ⟨w.heap.size, 0, none⟩) n n, .slice none 0 0, .int .i64 0, .int .i64 0, .bool false] 62)
  rwa [show (w.alloc (.cells (Lib.byteCells Z).toArray 64)).heap.size = w.heap.size + 1 by simp] at this
end Go.Proofs.Ytaakknnfebmkcaa
