/-
  The reference's Of: words on what it holds.
-/
import Derived.Test.YtnpmhbhnggdhcaaAppend
import Derived.Test.YtnpmhbhnggdhcaaRefMake
import Derived.Test.YtnpmhbhnggdhcaaRight
import Derived.Deep.DeepCutAuto
import Derived.Deep.DeepMust
import Derived.StillTailTactics
set_option linter.unusedVariables false
set_option linter.unusedSimpArgs false
namespace Go.Proofs.Ytnpmhbhnggdhcaa
open Go.RowKit Go.Proofs.YtnpmhbhnggdhcaaW.PrintWords

/-- The words' box, the result's cell, and the bytes that were gathered. -/
structure OS (w0 wr : World) (v : Value) (l : List UInt8) : Prop where
  h0 : wr.heap[w0.heap.size]? = some (.cells rw72.toArray 38 (0, 0))
  h1 : wr.heap[w0.heap.size + 1]? = some (.cells (Lib.byteCells (zrs 32)).toArray 24 (0, 0))
  own : OB wr w0.heap.size v l
  below : Below w0.heap.size w0 wr
section
variable {w0 wr : World} {v : Value} {l : List UInt8}
theorem OS.grown (h : OS w0 wr v l) {w' : World} {v' : Value} {l' : List UInt8} (ho : OB w' w0.heap.size v' l') (hg : wr.grownBy w' v.ownBlock) : OS w0 w' v' l' := by
  refine ⟨blk_grown h.h0 hg (own_ne h.own h.h0 (by decide)), ?_, ho, h.below.grown hg h.below.size (fun k hk => own_base h.own k hk)⟩
  exact blk_grown h.h1 hg (own_ne h.own h.h1 (by decide))
theorem OS.alloc (h : OS w0 wr v l) (o : Obj) : OS w0 (wr.alloc o) v l :=
  ⟨alloc_far h.h0 o, alloc_far h.h1 o, own_move h.own (fun k hk => by rw [Below.heap_alloc wr o k (own_lt h.own k hk)]), h.below.alloc h.below.size o⟩
theorem OS.congr {l' : List UInt8} (h : OS w0 wr v l) (e : l = l') : OS w0 wr v l' := e ▸ h
theorem OB.form {w : World} {base : Nat} {v : Value} {l : List UInt8} (h : OB w base v l) (n : Nat) (hn : l.length = n) (h0 : 0 < n) : ∃ g c, v = .slice (some ⟨g, 0, none⟩) n c := by
  subst hn
  rcases h.2 with ⟨_, e⟩ | ⟨g, c, _, rfl, _⟩
  · omega
  · exact ⟨g, c, rfl⟩
theorem rd_new (w : World) (x : Int) (b : UInt8) (hx : x = (b.toNat : Int)) : Rd (w.alloc (.cells #[.int .u8 x] 5)) (some ⟨w.heap.size, 0, none⟩) [b] := fun _ => ⟨_, rfl, by simp, fun j hj => by
  have : j = 0 := by simpa using hj
  subst this
  subst hx
  rw [add_plain, blk_cell (alloc_at w _)]
  rfl⟩
end

theorem rw72_part : (rw72.drop 64).take (uc Hc).length = uc Hc := by
  show ((uc Kc ++ uc Hc).drop 64).take _ = _
  rw [List.drop_append_of_le_length (by decide), List.drop_of_length_le (by decide), List.nil_append, List.take_length]
theorem OS.at1 {w0 wr w' : World} {v : Value} {l : List UInt8} (h : OS w0 wr v l) {k : Nat} (e : At1 k wr w') (hk : w0.heap.size + 2 ≤ k) (hv : v.ownBlock ≠ some k) : OS w0 w' v l :=
  ⟨(e.block _ (by omega)).trans h.h0, (e.block _ (by omega)).trans h.h1, own_move h.own (fun j hj => e.block j (fun x => hv (by rw [hj, x]))), At1.below h.below e (by omega)⟩
theorem OS.drew {w0 wr : World} {v : Value} {l : List UInt8} (h : OS w0 wr v l) : OS w0 wr.drew v l := ⟨h.h0, h.h1, own_move h.own (fun _ _ => rfl), h.below.drew⟩
theorem OS.drewN {w0 wr : World} {v : Value} {l : List UInt8} (h : OS w0 wr v l) (m : Nat) : OS w0 (wr.drewN m) v l := ⟨h.h0, h.h1, own_move h.own (fun _ _ => rfl), ⟨h.below.os, h.below.tape, h.below.output, h.below.size, h.below.block⟩⟩
theorem OB.cell {w : World} {base g n c : Nat} {l : List UInt8} (h : OB w base (.slice (some ⟨g, 0, none⟩) n c) l) (i : Nat) (hi : i < l.length) : w.cell? ⟨g, i, none⟩ = some (.int .u8 ((l.getD i 0).toNat : Int)) := by
  have := World.ownsRow.cells h (g := g) rfl i (.int .u8 ((l.getD i 0).toNat : Int)) (by simp [Lib.byteCells, hi])
  rwa [add_plain] at this
theorem make_x (W : World) : (Instr.makeSlice 66 (.int .i64 64) (.int .i64 64)).run Try.prog W = .ok (.slice (some ⟨W.heap.size, 0, none⟩) 64 64) (W.alloc (.cells (uc z64).toArray 34)) := by kernel_rfl
/-- And the eight words. -/
structure PS (w0 wr : World) (hB : Nat) (v : Value) (l : List UInt8) (H : List W32) : Prop where
  os : OS w0 wr v l
  hh : wr.heap[hB]? = some (.cells (uc H).toArray 36 (0, 0))
  far : w0.heap.size + 2 ≤ hB
theorem PS.drewN {w0 wr : World} {hB : Nat} {v : Value} {l : List UInt8} {H : List W32} (h : PS w0 wr hB v l H) (m : Nat) : PS w0 (wr.drewN m) hB v l H := ⟨h.os.drewN m, h.hh, h.far⟩
theorem PS.alloc {w0 wr : World} {hB : Nat} {v : Value} {l : List UInt8} {H : List W32} (h : PS w0 wr hB v l H) (o : Obj) : PS w0 (wr.alloc o) hB v l H := ⟨h.os.alloc o, alloc_far h.hh o, h.far⟩
theorem PS.at1 {w0 wr w' : World} {hB : Nat} {v : Value} {l : List UInt8} {H : List W32} (h : PS w0 wr hB v l H) {k : Nat} (e : At1 k wr w') (hk : w0.heap.size + 2 ≤ k) (hv : v.ownBlock ≠ some k) (hn : hB ≠ k) : PS w0 w' hB v l H :=
  ⟨h.os.at1 e hk hv, (e.block _ hn).trans h.hh, h.far⟩
/-- And the schedule. -/
structure QS (w0 wr : World) (hB : Nat) (v : Value) (l : List UInt8) (H : List W32) (x : Nat) (ws : List W32) : Prop where
  ps : PS w0 wr hB v l H
  hx : wr.heap[x]? = some (.cells (uc ws).toArray 34 (0, 0))
  fx : w0.heap.size + 2 ≤ x
  nx : hB ≠ x
section
variable {w0 wr : World} {hB : Nat} {v : Value} {l : List UInt8} {H : List W32} {x : Nat} {ws : List W32}
theorem QS.drewN (h : QS w0 wr hB v l H x ws) (m : Nat) : QS w0 (wr.drewN m) hB v l H x ws := ⟨h.ps.drewN m, h.hx, h.fx, h.nx⟩
theorem QS.setx (h : QS w0 wr hB v l H x ws) (i : Nat) (z : W32) : QS w0 (wr.setCell ⟨x, i, none⟩ (.int .u32 (u z))) hB v l H x (ws.set i z) := by
  have e := At1.set wr x i (.int .u32 (u z))
  refine ⟨h.ps.at1 e h.fx (fun k => own_ne h.ps.os.own h.hx (by decide) k.symm) h.nx, ?_, h.fx, h.nx⟩
  rw [blk_set h.hx i, uc_sets]
theorem QS.congr {ws' : List W32} (h : QS w0 wr hB v l H x ws) (e : ws = ws') : QS w0 wr hB v l H x ws' := e ▸ h
end
def W0' (part : List UInt8) (i : Nat) : List W32 := (List.range i).map (word part) ++ List.replicate (64 - i) 0
theorem W0'_length (part : List UInt8) (i : Nat) (h : i ≤ 64) : (W0' part i).length = 64 := by simp [W0']; omega
theorem W0'_set (part : List UInt8) (i : Nat) (h : i < 64) : (W0' part i).set i (word part i) = W0' part (i + 1) := by
  unfold W0'
  rw [show 64 - i = (64 - (i + 1)) + 1 by omega, List.replicate_succ, List.set_append, if_neg (by simp), List.length_map, List.length_range, Nat.sub_self, List.set_cons_zero, List.range_succ, List.map_append, List.append_assoc]
  rfl
theorem W0'_end (part : List UInt8) : W0' part 16 = W2 part 0 := rfl
/-- The schedule while it is laid: j words. -/
def WX (part : List UInt8) (j : Nat) : List W32 := if j ≤ 16 then W0' part j else W2 part (j - 16)
theorem WX_length (part : List UInt8) (j : Nat) (h : j ≤ 64) : (WX part j).length = 64 := by
  unfold WX
  split
  · exact W0'_length _ _ h
  · exact W2_length _ _ (by omega)
theorem WX_low (part : List UInt8) (j : Nat) (h : j < 16) : (WX part j).set j (word part j) = WX part (j + 1) := by
  unfold WX
  rw [if_pos (by omega), if_pos (by omega), W0'_set _ _ (by omega)]
theorem WX_high (part : List UInt8) (j m : Nat) (hm : j = 16 + m) (h : j < 64) : (WX part j).set j (nextW (schedL part m) m) = WX part (j + 1) ∧ ∀ i, i < j → (WX part j).getD i 0 = (schedL part m).getD i 0 := by
  have e : WX part j = W2 part m := by
    unfold WX
    by_cases h16 : j ≤ 16
    · have : m = 0 := by omega
      subst this
      have : j = 16 := by omega
      subst this
      rfl
    · rw [if_neg h16, show j - 16 = m by omega]
  rw [e]
  refine ⟨?_, fun i hi => W2_get part m i (by omega)⟩
  subst hm
  rw [W2_set part m (by omega)]
  unfold WX
  rw [if_neg (by omega), show 16 + m + 1 - 16 = m + 1 by omega]
theorem WX_end (part : List UInt8) : WX part 64 = schedL part 48 := by
  unfold WX
  rw [if_neg (by decide)]
  exact W2_end part

theorem shl16w_u (a : W32) : IntKind.u32.wrap (u a * (65536 : Int)) = u (a <<< (16 : Nat)) := shl_u a 16
theorem shl24w_u (a : W32) : IntKind.u32.wrap (u a * (16777216 : Int)) = u (a <<< (24 : Nat)) := shl_u a 24
attribute [local go_sem] shl8w_u shl16w_u shl24w_u wrapb_u or_u and_u xor_u addw_u add_u shr3_u shr10_u not_u
theorem right7 (x : W32) (w : World) : Calls Try.prog 22 #[.int .u32 (u x), .int .i64 7] w fun e w' => e = .returned (.int .u32 (u (x.rotateLeft 25))) ∧ ∃ m, w' = w.drewN m := right_any x 7 (by decide) (by decide) w
theorem right18 (x : W32) (w : World) : Calls Try.prog 22 #[.int .u32 (u x), .int .i64 18] w fun e w' => e = .returned (.int .u32 (u (x.rotateLeft 14))) ∧ ∃ m, w' = w.drewN m := right_any x 18 (by decide) (by decide) w
theorem right17 (x : W32) (w : World) : Calls Try.prog 22 #[.int .u32 (u x), .int .i64 17] w fun e w' => e = .returned (.int .u32 (u (x.rotateLeft 15))) ∧ ∃ m, w' = w.drewN m := right_any x 17 (by decide) (by decide) w
theorem right19 (x : W32) (w : World) : Calls Try.prog 22 #[.int .u32 (u x), .int .i64 19] w fun e w' => e = .returned (.int .u32 (u (x.rotateLeft 13))) ∧ ∃ m, w' = w.drewN m := right_any x 19 (by decide) (by decide) w
theorem right6 (x : W32) (w : World) : Calls Try.prog 22 #[.int .u32 (u x), .int .i64 6] w fun e w' => e = .returned (.int .u32 (u (x.rotateLeft 26))) ∧ ∃ m, w' = w.drewN m := right_any x 6 (by decide) (by decide) w
theorem right11 (x : W32) (w : World) : Calls Try.prog 22 #[.int .u32 (u x), .int .i64 11] w fun e w' => e = .returned (.int .u32 (u (x.rotateLeft 21))) ∧ ∃ m, w' = w.drewN m := right_any x 11 (by decide) (by decide) w
theorem right25 (x : W32) (w : World) : Calls Try.prog 22 #[.int .u32 (u x), .int .i64 25] w fun e w' => e = .returned (.int .u32 (u (x.rotateLeft 7))) ∧ ∃ m, w' = w.drewN m := right_any x 25 (by decide) (by decide) w
theorem right2 (x : W32) (w : World) : Calls Try.prog 22 #[.int .u32 (u x), .int .i64 2] w fun e w' => e = .returned (.int .u32 (u (x.rotateLeft 30))) ∧ ∃ m, w' = w.drewN m := right_any x 2 (by decide) (by decide) w
theorem right13 (x : W32) (w : World) : Calls Try.prog 22 #[.int .u32 (u x), .int .i64 13] w fun e w' => e = .returned (.int .u32 (u (x.rotateLeft 19))) ∧ ∃ m, w' = w.drewN m := right_any x 13 (by decide) (by decide) w
theorem right22 (x : W32) (w : World) : Calls Try.prog 22 #[.int .u32 (u x), .int .i64 22] w fun e w' => e = .returned (.int .u32 (u (x.rotateLeft 10))) ∧ ∃ m, w' = w.drewN m := right_any x 22 (by decide) (by decide) w


/-- The loops of a function's body, in the order of the text. -/
def loopsOf : Code → List Code
  | .loop c => c :: loopsOf c
  | .seq a b => loopsOf a ++ loopsOf b
  | .block _ c => loopsOf c
  | .scope c => loopsOf c
  | .cond _ a b => loopsOf a ++ loopsOf b
  | _ => []
noncomputable def loop15 (i : Nat) : Code := (loopsOf ((Try.f15.body).getD .skip)).getD i .skip
end Go.Proofs.Ytnpmhbhnggdhcaa
