/-
  Whole: a sector's bytes, the first ones from a few.
-/
import Derived.Test.YtaakknnfebmkcaaPSectorErrsx1
import Derived.Test.YtaakknnfebmkcaaRestartAny
set_option linter.unusedVariables false
set_option linter.unusedSimpArgs false
namespace Go.Proofs.Ytaakknnfebmkcaa
open Go.RowKit Go.Proofs.YtaakknnfebmkcaaW.PrintWords

def ints (l : List UInt8) : List Int := l.map fun b => (b.toNat : Int)
theorem ints_length (l : List UInt8) : (ints l).length = l.length := by simp [ints]
def mixW (l : List UInt8) (i : Nat) : List UInt8 := l.take i ++ zb (256 - i)
def wholeL (l : List UInt8) : List UInt8 := mixW l (min l.length 256)
theorem mixW_length (l : List UInt8) (i : Nat) (h : i ≤ l.length) (h2 : i ≤ 256) : (mixW l i).length = 256 := by simp [mixW, zb]; omega
theorem wholeL_length (l : List UInt8) : (wholeL l).length = 256 := mixW_length l _ (by omega) (by omega)
theorem wholeL_of (l : List UInt8) (h : l.length = 256) : wholeL l = l := by
  unfold wholeL mixW
  rw [h]
  simp [zb, List.take_of_length_le (Nat.le_of_eq h)]
theorem mixW_step (l : List UInt8) (i : Nat) (h : i < l.length) (h2 : i < 256) : (mixW l i).set i (l.getD i 0) = mixW l (i + 1) := by
  unfold mixW zb
  have e1 : (l.take i).length = i := by simp; omega
  have e2 : List.replicate (256 - i) (0 : UInt8) = 0 :: List.replicate (256 - (i + 1)) 0 := by
    rw [show 256 - i = (256 - (i + 1)) + 1 by omega, List.replicate_succ]
  rw [List.set_append, if_neg (by omega), e1, Nat.sub_self, e2, List.set_cons_zero, List.take_succ_eq_append_getElem h, List.append_assoc]
  congr 1
  simp [List.getD_eq_getElem?_getD, h]
theorem rd_ints (l : List UInt8) (i : Nat) : rd (ints l) (i : Int) = ((l.getD i 0).toNat : Int) := by
  unfold rd ints
  rw [Int.toNat_natCast]
  by_cases h : i < l.length
  · simp [List.getD_eq_getElem?_getD, h]
  · simp [List.getD_eq_getElem?_getD, h]
theorem wrap64_id (x : Int) (h0 : -9223372036854775808 ≤ x) (h1 : x ≤ 9223372036854775807) : wrap64 x = x := by unfold wrap64; omega
theorem whole_loop (l : List UInt8) (hl : l.length ≤ 9223372036854775807) (d : Nat) : ∀ (k i : Nat), min l.length 256 = i + d → d + 1 ≤ k →
    PSectorErrs.staddlelaw14_whole.l0 k (ints l) (ints (mixW l i)) (i : Int) = some (ints (wholeL l)) := by
  induction d with
  | zero =>
    intro k i h0 h1
    obtain ⟨k, rfl⟩ : ∃ m, k = m + 1 := ⟨k - 1, by omega⟩
    have e : mixW l i = wholeL l := by unfold wholeL; rw [h0]; rfl
    rw [PSectorErrs.staddlelaw14_whole.l0, ints_length, e]
    split
    · rw [if_neg (by omega)]
    · rfl
  | succ d ih =>
    intro k i h0 h1
    obtain ⟨k, rfl⟩ : ∃ m, k = m + 1 := ⟨k - 1, by omega⟩
    have hi : i < l.length := by omega
    have hi2 : i < 256 := by omega
    have e1 : wrap64 ((i : Int) + 1) = ((i + 1 : Nat) : Int) := by rw [wrap64_id _ (by omega) (by omega)]; omega
    have e2 : (ints (mixW l i)).set ((i : Int)).toNat (rd (ints l) (i : Int)) = ints (mixW l (i + 1)) := by
      rw [rd_ints, Int.toNat_natCast, ← mixW_step l i hi hi2]
      simp [ints, List.map_set]
    rw [PSectorErrs.staddlelaw14_whole.l0, ints_length, ints_length, if_pos (by omega), if_pos (by omega), if_pos (by omega), if_pos (by rw [mixW_length l i (by omega) (by omega)]; omega), e1, e2]
    exact ih k (i + 1) (by omega) (by omega)
theorem whole_any (A : Option Addr) (c : Nat) (l : List UInt8) (w : World) (hr : Kd.C (Kd.int .u8) w A l.length (ints l)) (hc : l.length ≤ c) (hl : l.length ≤ 9223372036854775807) :
    Calls Try.prog 9 #[.slice A l.length c] w fun e w' => ∃ b cc, e = .returned (.slice (some ⟨b, 0, none⟩) 256 cc) ∧ w'.ownsRow w.heap.size 5 1 (.slice (some ⟨b, 0, none⟩) 256 cc) 256 (encs (Value.int .u8) (ints (wholeL l))) ∧ w'.rangeAt b 0 (Lib.byteCells (wholeL l)) ∧ Below w.heap.size w w' := by
  have hf : PSectorErrs.staddlelaw14_whole.f (min l.length 256 + 1) (ints l) = some (ints (wholeL l)) := by
    unfold PSectorErrs.staddlelaw14_whole.f
    rw [if_pos (by decide)]
    have e : List.replicate 256 (0 : Int) = ints (mixW l 0) := by
      unfold ints mixW zb
      rw [List.take_zero, List.nil_append, List.map_replicate]
      rfl
    rw [e]
    exact whole_loop l hl (min l.length 256) _ 0 (by omega) (by omega)
  have hk := PSectorErrs.staddlelaw14_whole.calls _ A c (ints l) _ w (by rw [ints_length]; exact hr) (by rw [ints_length]; exact hc) hf
  rw [ints_length] at hk
  refine hk.mono ?_
  rintro e w' ⟨v, rfl, hR, hb⟩
  have ho := Kd.own_of_R hR
  rw [ints_length, wholeL_length] at ho
  rcases ho.2 with ⟨_, h1⟩ | ⟨b, cc, cur, rfl, hbb, hbk, _, _, hs, ht⟩
  · omega
  · refine ⟨b, cc, rfl, ho, fun j v hv => ?_, hb⟩
    rw [cell_of_row w' b _ _ 5 (0, 0) hbk, Nat.zero_add]
    have e1 : Lib.byteCells (wholeL l) = cur.toList.take 256 := by
      rw [Nat.mul_one] at ht
      rw [ht]
      simp [Lib.byteCells, nums, encs, ints]
    rw [e1, List.getElem?_take] at hv
    split at hv
    · simpa using hv
    · cases hv
end Go.Proofs.Ytaakknnfebmkcaa
