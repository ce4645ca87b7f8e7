/-
  A part of a block is read, or stored, as a whole array.
-/
import Derived.Test.YtnpmhbhnggdhcaaMem
import Derived.Laws.CopyOwn
set_option linter.unusedVariables false
set_option linter.unusedSimpArgs false
namespace Go.Proofs.Ytnpmhbhnggdhcaa
open Go.RowKit Go.Proofs.YtnpmhbhnggdhcaaW.PrintWords

theorem setCells_splice {w : World} {g o : Nat} {cur vs : List Value} {t : TypeId} (hg : w.heap[g]? = some (.cells cur.toArray t (0, 0))) (hl : o + vs.length ≤ cur.length) : (w.setCells g o vs).heap[g]? = some (.cells (splice cur o vs).toArray t (0, 0)) := by
  obtain ⟨cur', h1, h2, h3⟩ := setCells_row vs o w cur.toArray hg (by simpa using hl)
  rw [h1]
  congr 2
  apply Array.toList_inj.1
  rw [h3]
  simp [splice]
theorem range_part {W : World} {b o : Nat} {cur cs : List Value} {t : TypeId} (hb : W.heap[b]? = some (.cells cur.toArray t (0, 0))) (h : (cur.drop o).take cs.length = cs) : W.rangeAt b o cs := fun j v hv => by
  rw [blk_cell hb]
  have hj : j < cs.length := (List.getElem?_eq_some_iff.1 hv).1
  have : ((cur.drop o).take cs.length)[j]? = some v := by rw [h]; exact hv
  rw [List.getElem?_take_of_lt hj, List.getElem?_drop] at this
  simpa using this
theorem there_part {W : World} {b o n : Nat} {cur : List Value} {t : TypeId} (hb : W.heap[b]? = some (.cells cur.toArray t (0, 0))) (h : o + n ≤ cur.length) : W.there b o n := fun j hj => by
  rw [blk_cell hb]
  exact ⟨by simp; omega, blk_frozen hb _⟩
section
variable {P : Program} {ops : Array Oper} {rest : List Oper} {op : Oper} {a : Act} {W : World} {Q : Exit → Act → World → Prop}
theorem wpList_store_part (hgd : op.guard = none) (ty : TypeId) (x y : Operand) (ho : op.op = .store ty x y) (b o : Nat) (cells cur : List Value) (t : TypeId)
    (hx : a.eval x = .pointer (some ⟨b, o, none⟩)) (hy : a.eval y = .agg cells.toArray) (hb : W.heap[b]? = some (.cells cur.toArray t (0, 0))) (hl : o + cells.length ≤ cur.length)
    (hi : (P.info? ty).map (·.size) = some cells.length) (h1 : cells.toArray.all (·.oneCell') = true)
    (h : ∀ W', W'.heap[b]? = some (.cells (splice cur o cells).toArray t (0, 0)) → At1 b W W' → wpList P ops Q rest (a.put op.dst undef) W') : wpList P ops Q (op :: rest) a W :=
  wpList_store_mid hgd ty x y ho b o cells.toArray hx hy (by simpa using there_part (n := cells.length) hb hl) (by simpa using hi) h1 (h _ (by simpa using setCells_splice hb hl) (At1.sets _ _ _ _))
theorem wpList_load_part (hgd : op.guard = none) (ty : TypeId) (x : Operand) (ho : op.op = .load ty x) (b o : Nat) (cur cs : List Value) (t : TypeId) (d : TypeDesc)
    (hx : a.eval x = .pointer (some ⟨b, o, none⟩)) (hb : W.heap[b]? = some (.cells cur.toArray t (0, 0))) (hc : (cur.drop o).take cs.length = cs)
    (hu : P.underlying ty = some d) (hd : d.isRow = true) (hi : (P.info? ty).map (·.size) = some cs.length)
    (h : wpList P ops Q rest (a.put op.dst (.agg cs.toArray)) W) : wpList P ops Q (op :: rest) a W :=
  wpList_load_mid hgd ty x ho b o hx cs d (range_part hb hc) hu hd hi h
end
end Go.Proofs.Ytnpmhbhnggdhcaa
