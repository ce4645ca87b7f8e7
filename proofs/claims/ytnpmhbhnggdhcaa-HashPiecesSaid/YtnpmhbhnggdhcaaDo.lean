/-
  Once.Do over make, the first time.
-/
import Derived.Test.YtnpmhbhnggdhcaaMake
set_option linter.unusedVariables false
set_option linter.unusedSimpArgs false
namespace Go.Proofs.Ytnpmhbhnggdhcaa
open Go.RowKit Go.Proofs.YtnpmhbhnggdhcaaW.PrintWords

def z64 : List W32 := List.replicate 64 0
def z8 : List W32 := List.replicate 8 0
theorem z64_length : z64.length = 64 := List.length_replicate
theorem z8_length : z8.length = 8 := List.length_replicate
theorem wblk_0 (c0 c1 c2 v : Value) (K H : List W32) : (wblk c0 c1 c2 K H).toArray.setIfInBounds 0 v = (wblk v c1 c2 K H).toArray := by
  rw [List.setIfInBounds_toArray]
  rfl
theorem wblk_1 (c0 c1 c2 v : Value) (K H : List W32) : (wblk c0 c1 c2 K H).toArray.setIfInBounds 1 v = (wblk c0 v c2 K H).toArray := by
  rw [List.setIfInBounds_toArray]
  rfl
theorem wblk_at0 {w : World} {b : Nat} {c0 c1 c2 : Value} {K H : List W32} (h : w.heap[b]? = some (.cells (wblk c0 c1 c2 K H).toArray 61 (0, 0))) : w.cell? ⟨b, 0, none⟩ = some c0 ∧ w.cell? ⟨b, 1, none⟩ = some c1 := by
  rw [blk_cell h, blk_cell h]
  exact ⟨rfl, rfl⟩

theorem bload_zero (a : Addr) (w : World) (h : w.cell? a = some (.int .u32 0)) : Calls Try.prog 23 #[.pointer (some a)] w fun e w' => e = .returned (.bool false) ∧ w' = w := by
  have hl := run_call_load (P := Try.prog) Try.func28 (by kernel_rfl) (by kernel_rfl) (by kernel_rfl) .u32 (by kernel_rfl) h
  go_enter Try.func23, Try.ntmps23
  go_wp2
  go_ret
  exact ⟨rfl, rfl⟩

set_option maxRecDepth 100000 in
set_option maxHeartbeats 1600000 in
theorem slow_any (b : Nat) (c2 : Value) (w : World) (hb : w.heap[b]? = some (.cells (wblk (.int .u32 0) (.int .i32 0) c2 z64 z8).toArray 61 (0, 0))) :
    Calls Try.prog 24 #[.pointer (some ⟨b, 0, none⟩), .func (.func 20) #[.pointer (some ⟨b, 0, none⟩)] #[]] w fun e w' => e = .returned (.tuple #[]) ∧ w'.heap[b]? = some (.cells (wblk (.int .u32 1) (.int .i32 0) c2 Kc Hc).toArray 61 (0, 0)) ∧ At1 b w w' := by
  obtain ⟨h0, h1⟩ := wblk_at0 hb
  have f0 := blk_frozen hb 0
  have f1 := blk_frozen hb 1
  have hb1 := blk_set hb 1 (.int .i32 1)
  rw [wblk_1] at hb1
  have HB := Lib.hid hb1
  have HA := Lib.hid (At1.set w b 1 (.int .i32 1))
  have HL := Lib.hid (bload_zero ⟨b, 0, none⟩ (w.setCell ⟨b, 1, none⟩ (.int .i32 1)) (wblk_at0 hb1).1)
  clear hb hb1
  have hnot : ∀ (x : Bool) (w : World), (Op.unary .not (.bool x)).run Try.prog w = .ok (.bool (!x)) w := fun _ _ => rfl
  go_enter_defers Try.func24, Try.ntmps24
  go_wp2_with (go_at_call 29; refine (lock_free ⟨b, 1, none⟩ _ h1 f1).mono ?_; rintro e w' ⟨rfl, rfl⟩)
  refine HL.out.mono ?_
  rintro e w1 ⟨rfl, rfl⟩
  generalize w.setCell ⟨b, 1, none⟩ (.int .i32 1) = w1 at *
  go_wp2_with fail
  refine (make_any b _ _ _ _ HB.out).mono ?_
  rintro e w2 ⟨rfl, h2, h3⟩
  have H2 := Lib.hid h2
  have H3 := Lib.hid (HA.out.trans h3)
  clear h2 h3 HA HB h0 h1 f0 f1
  go_wp2
  refine leaves_cons (f := 31) (args := #[.pointer (some ⟨b, 0, none⟩), .bool true]) (by simp) (by simp [go_sem]) ?_
  refine (store_deferred ⟨b, 0, none⟩ (.int .u32 0) .returning _ (wblk_at0 H2.out).1 (blk_frozen H2.out 0)).mono ?_
  rintro e u' w'' ⟨rfl, rfl, rfl⟩
  have h4 : (w2.drew.setCell ⟨b, 0, none⟩ (.int .u32 1)).heap[b]? = some (.cells (wblk (.int .u32 1) (.int .i32 1) c2 Kc Hc).toArray 61 (0, 0)) := by
    rw [← wblk_0 (.int .u32 0)]
    exact blk_set (w := w2.drew) H2.out 0 _
  refine leaves_cons (f := 30) (args := #[.pointer (some ⟨b, 1, none⟩)]) (by simp [settle]) (by simp [go_sem]) ?_
  refine (unlock_deferred ⟨b, 1, none⟩ _ _ (wblk_at0 h4).2 (blk_frozen h4 1)).mono ?_
  rintro e u' w'' ⟨rfl, rfl, rfl⟩
  have h5 := blk_set h4 1 (.int .i32 0)
  rw [wblk_1] at h5
  have h6 := (H3.out.drew.trans (At1.set w2.drew b 0 (.int .u32 1))).trans (At1.set _ b 1 (.int .i32 0))
  simp [Leaves, settle, results, Try.results24]
  exact ⟨h5, h6⟩

set_option maxRecDepth 100000 in
set_option maxHeartbeats 1600000 in
theorem do_any (b : Nat) (c2 : Value) (w : World) (hb : w.heap[b]? = some (.cells (wblk (.int .u32 0) (.int .i32 0) c2 z64 z8).toArray 61 (0, 0))) :
    Calls Try.prog 19 #[.pointer (some ⟨b, 0, none⟩), .func (.func 20) #[.pointer (some ⟨b, 0, none⟩)] #[]] w fun e w' => e = .returned (.tuple #[]) ∧ w'.heap[b]? = some (.cells (wblk (.int .u32 1) (.int .i32 0) c2 Kc Hc).toArray 61 (0, 0)) ∧ At1 b w w' := by
  have hnot : ∀ (x : Bool) (w : World), (Op.unary .not (.bool x)).run Try.prog w = .ok (.bool (!x)) w := fun _ _ => rfl
  have HL := Lib.hid (bload_zero ⟨b, 0, none⟩ w (wblk_at0 hb).1)
  have HS := Lib.hid (slow_any b c2 w hb)
  clear hb
  go_enter Try.func19, Try.ntmps19
  go_wp2_with fail
  refine HL.out.mono ?_
  rintro e w1 ⟨rfl, rfl⟩
  go_wp2_with fail
  refine HS.out.mono ?_
  rintro e w2 ⟨rfl, h1, h2⟩
  have H1 := Lib.hid h1
  have H2 := Lib.hid h2
  clear h1 h2
  go_wp2
  go_end0
  exact ⟨rfl, H1.out, H2.out⟩
end Go.Proofs.Ytnpmhbhnggdhcaa
