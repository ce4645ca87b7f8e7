/-
  Words on memory: one block is written, all others stand; a whole array is stored; the laws that the walks of arrays use.
-/
import Derived.Test.YtnpmhbhnggdhcaaWWords
import Derived.Deep.MidRow
import Derived.Laws.Cover3
set_option linter.unusedVariables false
set_option linter.unusedSimpArgs false
namespace Go.Proofs.Ytnpmhbhnggdhcaa
open Go.RowKit Go.Proofs.YtnpmhbhnggdhcaaW.PrintWords

/-- Only block b may have turned. -/
structure At1 (b : Nat) (w w' : World) : Prop where
  os : w'.os = w.os
  tape : w'.tape = w.tape
  output : w'.output = w.output
  size : w'.heap.size = w.heap.size
  block : ∀ k, k ≠ b → w'.heap[k]? = w.heap[k]?
theorem At1.refl (b : Nat) (w : World) : At1 b w w := ⟨rfl, rfl, rfl, rfl, fun _ _ => rfl⟩
theorem At1.trans {b : Nat} {u v w : World} (h : At1 b u v) (k : At1 b v w) : At1 b u w := ⟨k.os.trans h.os, k.tape.trans h.tape, k.output.trans h.output, k.size.trans h.size, fun i hi => (k.block i hi).trans (h.block i hi)⟩
theorem At1.below {b B : Nat} {u v w : World} (h : Below B u v) (k : At1 b v w) (hB : B ≤ b) : Below B u w :=
  h.trans ⟨k.os, k.tape, k.output, Nat.le_of_eq k.size.symm, fun i hi => k.block i (by omega)⟩
theorem At1.drew {b : Nat} {u w : World} (h : At1 b u w) : At1 b u w.drew := ⟨h.os, h.tape, h.output, h.size, h.block⟩
theorem At1.drewN {b : Nat} {u w : World} (h : At1 b u w) (n : Nat) : At1 b u (w.drewN n) := ⟨h.os, h.tape, h.output, h.size, h.block⟩
theorem At1.grown {b : Nat} {v w : World} (k : At1 b v w) : v.grownBy w (some b) := ⟨k.os, k.tape, k.output, Nat.le_of_eq k.size.symm, fun i _ hi => k.block i (fun e => hi (by rw [e]))⟩
theorem At1.set (w : World) (b o : Nat) (v : Value) : At1 b w (w.setCell ⟨b, o, none⟩ v) := ⟨rfl, rfl, rfl, by simp [World.setCell], fun k hk => Below.heap_setCell w _ v k hk⟩
theorem At1.sets (w : World) (b o : Nat) (vs : List Value) : At1 b w (w.setCells b o vs) :=
  ⟨(setCells_same b vs o w).1, (setCells_same b vs o w).2.1, (setCells_same b vs o w).2.2.1, (setCells_same b vs o w).2.2.2, fun k hk => setCells_far vs o k hk⟩

/-- All the cells of a block are stored at once. -/
theorem setCells_all {w : World} {b : Nat} {old : Array Value} {t : TypeId} (cells : Array Value) (hb : w.heap[b]? = some (.cells old t (0, 0))) (hs : old.size = cells.size) :
    (w.setCells b 0 cells.toList).heap[b]? = some (.cells cells t (0, 0)) := by
  obtain ⟨cur', h1, h2, h3⟩ := setCells_row cells.toList 0 w old hb (by rw [Array.length_toList]; omega)
  rw [h1]
  congr 2
  apply Array.toList_inj.1
  rw [h3, List.take_zero, List.nil_append, List.drop_eq_nil_of_le (by rw [Array.length_toList, Array.length_toList]; omega), List.append_nil]
theorem there_all {w : World} {b : Nat} {old : Array Value} {t : TypeId} (hb : w.heap[b]? = some (.cells old t (0, 0))) (n : Nat) (hn : n ≤ old.size) : w.there b 0 n := fun j hj => by
  constructor
  · rw [cell_of_row w b (0 + j) _ t (0, 0) hb, Nat.zero_add]
    simp; omega
  · simp [World.frozen?, hb]
section
variable {P : Program} {ops : Array Oper} {rest : List Oper} {op : Oper} {a : Act} {W : World} {Q : Exit → Act → World → Prop}
theorem wpList_store_whole (hgd : op.guard = none) (ty : TypeId) (x y : Operand) (ho : op.op = .store ty x y) (b : Nat) (cells old : Array Value) (t : TypeId)
    (hx : a.eval x = .pointer (some ⟨b, 0, none⟩)) (hy : a.eval y = .agg cells) (hb : W.heap[b]? = some (.cells old t (0, 0))) (hs : old.size = cells.size)
    (hi : (P.info? ty).map (·.size) = some cells.size) (h1 : cells.all (·.oneCell') = true)
    (h : ∀ W', W'.heap[b]? = some (.cells cells t (0, 0)) → At1 b W W' → wpList P ops Q rest (a.put op.dst undef) W') : wpList P ops Q (op :: rest) a W :=
  wpList_store_mid hgd ty x y ho b 0 cells hx hy (there_all hb _ (Nat.le_of_eq hs.symm)) hi h1 (h _ (setCells_all cells hb hs) (At1.sets _ _ _ _))
end
theorem alloc_at (w : World) (o : Obj) : (w.alloc o).heap[w.heap.size]? = some o := by
  show (w.heap.push _)[w.heap.size]? = _
  simp
theorem alloc_far {w : World} {k : Nat} {x : Obj} (h : w.heap[k]? = some x) (o : Obj) : (w.alloc o).heap[k]? = some x := by
  rw [Below.heap_alloc w o k (Array.getElem?_eq_some_iff.1 h).1]; exact h
theorem blk_below {w w1 : World} {k : Nat} {x : Obj} (h : w.heap[k]? = some x) (hb : Below w.heap.size w w1) : w1.heap[k]? = some x := by
  rw [hb.block k (Array.getElem?_eq_some_iff.1 h).1]; exact h
theorem blk_drawn {w w1 : World} {k : Nat} {x : Obj} (h : w.heap[k]? = some x) (hd : Drawn0 w w1) : w1.heap[k]? = some x := by
  obtain ⟨n, rfl⟩ := hd
  exact h
end Go.Proofs.Ytnpmhbhnggdhcaa
