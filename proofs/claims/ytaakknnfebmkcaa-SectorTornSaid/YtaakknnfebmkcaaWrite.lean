/-
  Write: a sector has these bytes.
-/
import Derived.Test.YtaakknnfebmkcaaBegin
set_option linter.unusedVariables false
set_option linter.unusedSimpArgs false
namespace Go.Proofs.Ytaakknnfebmkcaa
open Go.RowKit Go.Proofs.YtaakknnfebmkcaaW.PrintWords

set_option maxHeartbeats 400000 in
set_option maxRecDepth 100000 in
theorem write_nil (i : Int) (p : Value) (w : World) : Calls Try.prog 10 #[.pointer none, .int .i64 i, p] w fun e w' => e = .returned (.int .i64 6) ∧ w' = w := by
  go_enter Try.func10, Try.ntmps10
  go_wp2_with fail
  refine (look_nil i w).mono ?_
  rintro e w1 ⟨rfl, rfl⟩
  go_wp2
  go_ret
  exact ⟨rfl, rfl⟩

set_option maxHeartbeats 400000 in
set_option maxRecDepth 100000 in
theorem write_out (b g n : Nat) (x1 x2 x3 x4 : Value) (i : Int) (p : Value) (w : World) (hd : w.heap[b]? = some (.cells #[.slice (some ⟨g, 0, none⟩) n n, x1, x2, x3, x4] 62 (0, 0))) (hi : ¬ (0 ≤ i ∧ i < n)) :
    Calls Try.prog 10 #[.pointer (some ⟨b, 0, none⟩), .int .i64 i, p] w fun e w' => e = .returned (.int .i64 1) ∧ w' = w := by
  have hx := look_any b g n x1 x2 x3 x4 i w hd
  rw [if_neg hi] at hx
  go_enter Try.func10, Try.ntmps10
  go_wp2_with fail
  refine hx.mono ?_
  rintro e w1 ⟨rfl, rfl⟩
  go_wp2
  go_ret
  exact ⟨rfl, rfl⟩

set_option maxHeartbeats 400000 in
set_option maxRecDepth 100000 in
theorem write_form (b g n : Nat) (x1 x2 x3 x4 : Value) (i : Int) (A : Option Addr) (len cap : Nat) (w : World) (hd : w.heap[b]? = some (.cells #[.slice (some ⟨g, 0, none⟩) n n, x1, x2, x3, x4] 62 (0, 0))) (hi : 0 ≤ i ∧ i < n) (hl : len ≠ 256) :
    Calls Try.prog 10 #[.pointer (some ⟨b, 0, none⟩), .int .i64 i, .slice A len cap] w fun e w' => e = .returned (.int .i64 3) ∧ w' = w := by
  have hx := look_any b g n x1 x2 x3 x4 i w hd
  rw [if_pos hi] at hx
  have hl' : (len : Int) ≠ 256 := by omega
  go_enter Try.func10, Try.ntmps10
  go_wp2_with fail
  refine hx.mono ?_
  rintro e w1 ⟨rfl, rfl⟩
  go_wp2
  go_ret
  exact ⟨rfl, rfl⟩

set_option maxHeartbeats 400000 in
set_option maxRecDepth 100000 in
theorem write_off (b g n : Nat) (x1 x2 x3 : Value) (i : Int) (A : Option Addr) (cap : Nat) (w : World) (hd : w.heap[b]? = some (.cells #[.slice (some ⟨g, 0, none⟩) n n, x1, x2, x3, .bool true] 62 (0, 0))) (hi : 0 ≤ i ∧ i < n) :
    Calls Try.prog 10 #[.pointer (some ⟨b, 0, none⟩), .int .i64 i, .slice A 256 cap] w fun e w' => e = .returned (.int .i64 14) ∧ w' = w := by
  have hx := look_any b g n x1 x2 x3 (.bool true) i w hd
  rw [if_pos hi] at hx
  obtain ⟨_, _, _, _, c4⟩ := dev_cells hd
  go_enter Try.func10, Try.ntmps10
  go_wp2_with fail
  refine hx.mono ?_
  rintro e w1 ⟨rfl, rfl⟩
  go_wp2
  go_ret
  exact ⟨rfl, rfl⟩

end Go.Proofs.Ytaakknnfebmkcaa
