/-
  look and begin.
-/
import Derived.Test.YtaakknnfebmkcaaNew
import Derived.Laws.LoneSync
set_option linter.unusedVariables false
set_option linter.unusedSimpArgs false
namespace Go.Proofs.Ytaakknnfebmkcaa
open Go.RowKit Go.Proofs.YtaakknnfebmkcaaW.PrintWords

set_option maxHeartbeats 400000 in
set_option maxRecDepth 100000 in
theorem look_nil (i : Int) (w : World) : Calls Try.prog 23 #[.pointer none, .int .i64 i] w fun e w' => e = .returned (.int .i64 6) ∧ w' = w := by
  go_enter Try.func23, Try.ntmps23
  go_wp2
  go_ret
  exact ⟨rfl, rfl⟩

/-- The device's fields. -/
theorem dev_cells {w : World} {b : Nat} {x0 x1 x2 x3 x4 : Value} {t : TypeId} (h : w.heap[b]? = some (.cells #[x0, x1, x2, x3, x4] t (0, 0))) :
    w.cell? ⟨b, 0, none⟩ = some x0 ∧ w.cell? ⟨b, 1, none⟩ = some x1 ∧ w.cell? ⟨b, 2, none⟩ = some x2 ∧ w.cell? ⟨b, 3, none⟩ = some x3 ∧ w.cell? ⟨b, 4, none⟩ = some x4 := by
  refine ⟨?_, ?_, ?_, ?_, ?_⟩ <;> rw [cell_of_row w b _ _ t (0, 0) h] <;> rfl
theorem dev_thaw {w : World} {b o : Nat} {c : Array Value} {t : TypeId} (h : w.heap[b]? = some (.cells c t (0, 0))) : w.frozen? ⟨b, o, none⟩ = false := by simp [World.frozen?, h]

set_option maxHeartbeats 400000 in
set_option maxRecDepth 100000 in
theorem look_any (b g n : Nat) (x1 x2 x3 x4 : Value) (i : Int) (w : World) (hd : w.heap[b]? = some (.cells #[.slice (some ⟨g, 0, none⟩) n n, x1, x2, x3, x4] 62 (0, 0))) :
    Calls Try.prog 23 #[.pointer (some ⟨b, 0, none⟩), .int .i64 i] w fun e w' => e = .returned (.int .i64 (if 0 ≤ i ∧ i < n then 0 else 1)) ∧ w' = w := by
  obtain ⟨c0, _, _, _, _⟩ := dev_cells hd
  by_cases h0 : i < 0
  · rw [if_neg (by omega)]
    go_enter Try.func23, Try.ntmps23
    go_wp2
    go_ret
    exact ⟨rfl, rfl⟩
  · by_cases h1 : i < (n : Int)
    · rw [if_pos ⟨by omega, h1⟩]
      go_enter Try.func23, Try.ntmps23
      go_wp2
      go_ret
      exact ⟨rfl, rfl⟩
    · rw [if_neg (by omega)]
      go_enter Try.func23, Try.ntmps23
      go_wp2
      go_ret
      exact ⟨rfl, rfl⟩

theorem dev_set (w : World) {b : Nat} {c : Array Value} {t : TypeId} (h : w.heap[b]? = some (.cells c t (0, 0))) (i : Nat) (v : Value) : (w.setCell ⟨b, i, none⟩ v).heap[b]? = some (.cells (c.setIfInBounds i v) t (0, 0)) := blk_set h i v

set_option maxHeartbeats 400000 in
set_option maxRecDepth 100000 in
theorem add_any (b : Nat) (x0 x1 x3 x4 : Value) (c : Int) (w : World) (hd : w.heap[b]? = some (.cells #[x0, x1, .int .i64 c, x3, x4] 62 (0, 0))) (h0 : 0 ≤ c) (h1 : c ≤ 1000000000000) :
    Calls Try.prog 28 #[.pointer (some ⟨b, 2, none⟩), .int .i64 1] w fun e w' => e = .returned (.int .i64 (c + 1)) ∧ w'.heap[b]? = some (.cells #[x0, x1, .int .i64 (c + 1), x3, x4] 62 (0, 0)) ∧ At1 b w w' := by
  obtain ⟨_, _, c2, _, _⟩ := dev_cells hd
  have hz := dev_thaw (o := 2) hd
  have hadd := run_call_add (P := Try.prog) Try.func31 (by kernel_rfl) (by kernel_rfl) (by kernel_rfl) .i64 (by kernel_rfl) (y := 1) (s := c + 1) c2 hz (by simp [go_sem, IntKind.wrap_i64]; omega)
  have hs := dev_set w hd 2 (.int .i64 (c + 1))
  have ha := At1.set w b 2 (.int .i64 (c + 1))
  go_enter Try.func28, Try.ntmps28
  go_wp2
  go_ret
  exact ⟨rfl, hs, ha⟩

/-- Is the power off behind an operation? -/
def offB (cnt arm : Int) (off : Bool) : Bool := off || (decide (0 < arm) && decide (arm ≤ cnt + 1))

set_option maxHeartbeats 400000 in
set_option maxRecDepth 100000 in
theorem begin_any (b : Nat) (x0 x1 : Value) (cnt arm : Int) (off : Bool) (w : World) (hd : w.heap[b]? = some (.cells #[x0, x1, .int .i64 cnt, .int .i64 arm, .bool off] 62 (0, 0))) (h0 : 0 ≤ cnt) (h1 : cnt ≤ 1000000000000) :
    Calls Try.prog 24 #[.pointer (some ⟨b, 0, none⟩)] w fun e w' => e = .returned (.bool (!offB cnt arm off)) ∧ w'.heap[b]? = some (.cells #[x0, x1, .int .i64 (cnt + 1), .int .i64 arm, .bool (offB cnt arm off)] 62 (0, 0)) ∧ At1 b w w' := by
  unfold offB
  go_enter Try.func24, Try.ntmps24
  go_wp2_with fail
  refine (add_any b x0 x1 _ _ cnt w hd h0 h1).mono ?_
  rintro e w1 ⟨rfl, hd1, ha1⟩
  obtain ⟨_, _, _, c3, c4⟩ := dev_cells hd1
  have hz := dev_thaw (o := 4) hd1
  clear hd
  by_cases h2 : 0 < arm
  · by_cases h3 : arm ≤ cnt + 1
    · have hs := dev_set w1 hd1 4 (.bool true)
      have ha := ha1.trans (At1.set w1 b 4 (.bool true))
      obtain ⟨_, _, _, _, c4'⟩ := dev_cells hs
      go_wp2
      go_ret
      refine ⟨?_, ?_, ha⟩
      · simp [h2, h3]
      · rw [hs]; simp [h2, h3]
    · go_wp2
      go_ret
      refine ⟨?_, ?_, ha1⟩
      · simp [h2, h3]
      · rw [hd1]; simp [h2, h3]; intros; omega
  · go_wp2
    go_ret
    refine ⟨?_, ?_, ha1⟩
    · simp [h2]
    · rw [hd1]; simp [h2]; intros; omega
end Go.Proofs.Ytaakknnfebmkcaa
