/-
  Bytes are appended to a row of the call's own, whatever the source.
-/
import Derived.Test.YtnpmhbhnggdhcaaRowBytes
import Derived.Laws.AppendOwn
import Derived.Laws.AppendOwnNone
set_option linter.unusedVariables false
set_option linter.unusedSimpArgs false
namespace Go.Proofs.Ytnpmhbhnggdhcaa
open Go.RowKit Go.Proofs.YtnpmhbhnggdhcaaW.PrintWords

/-- v owns the bytes l, in a block from base on. -/
def OB (w : World) (base : Nat) (v : Value) (l : List UInt8) : Prop := w.ownsRow base 5 1 v l.length (Lib.byteCells l)
theorem OB.nil (w : World) (base : Nat) : OB w base (.slice none 0 0) [] := ⟨by simp [Lib.byteCells], .inl ⟨rfl, rfl⟩⟩
theorem info5 : (Try.prog.info? 5).map (fun i => (i.zero, i.size, i.bytes)) = some (some (.int .u8 0), 1, 1) := by kernel_rfl
section
variable {w : World} {ops : Array Oper} {rest : List Oper} {o : Oper} {a : Act} {Q : Exit → Act → World → Prop}
theorem wpList_append_b (hgd : o.guard = none) (s x : Operand) (ho : o.op = .call { callee := .builtin .append, args := #[s, x], argTypes := #[22, 22] })
    (base : Nat) (v : Value) (l : List UInt8) (hs : a.eval s = v) (hown : OB w base v l) (A : Option Addr) (c : Nat) (p : List UInt8) (hx : a.eval x = .slice A p.length c) (hr : Rd w A p)
    (hc : A = none → p.length = 0 ∧ c = 0) (hb : l.length + p.length ≤ 1000000000000) (hbase : base ≤ w.heap.size)
    (h : ∀ v' w', OB w' base v' (l ++ p) → w.grownBy w' v.ownBlock → wpList Try.prog ops Q rest (a.put o.dst v') w') : wpList Try.prog ops Q (o :: rest) a w := by
  have h5 := info5
  cases hi : Try.prog.info? 5 with
  | none => rw [hi] at h5; cases h5
  | some i =>
    rw [hi] at h5
    simp only [Option.map_some, Option.some.injEq, Prod.mk.injEq] at h5
    obtain ⟨hz, hsz, hby⟩ := h5
    have key : ∀ v' w', w'.ownsRow base 5 1 v' (l.length + p.length) (Lib.byteCells l ++ Lib.byteCells p) → OB w' base v' (l ++ p) := fun v' w' h' => by
      unfold OB
      rw [List.length_append]
      have e : Lib.byteCells (l ++ p) = Lib.byteCells l ++ Lib.byteCells p := by simp [Lib.byteCells]
      rw [e]
      exact h'
    cases A with
    | none =>
      obtain ⟨h0, rfl⟩ := hc rfl
      have hp : p = [] := List.eq_nil_of_length_eq_zero h0
      subst hp
      exact wpList_append_own_none hgd s x 22 ho base 5 i 1 Try.underlying22 hi v l.length (Lib.byteCells l) hs hown hx (h v w (by simpa using hown) (World.grownBy.refl w _))
    | some ad =>
      refine wpList_append_own w hgd s x 22 ho base 5 i (.int .u8 0) 1 1 Try.underlying22 hi hz hsz hby rfl (by decide) v l.length (Lib.byteCells l) hs hown ad p.length c (Lib.byteCells p) hx (by rw [Lib.byteCells_length, Nat.mul_one]) (fun j u hu => ?_) (by simp [Lib.byteCells, Value.oneCell']) (by unfold maxLen; omega) (by omega) hbase ?_
      · have hj : j < p.length := by have := (List.getElem?_eq_some_iff.1 hu).1; rwa [Lib.byteCells_length] at this
        obtain ⟨ad', e, _, h2⟩ := hr (by omega)
        cases e
        rw [h2 j hj, ← hu]
        simp [Lib.byteCells, hj]
      · intro v' w' h1 h2 _
        exact h v' w' (key v' w' h1) h2
end
end Go.Proofs.Ytnpmhbhnggdhcaa
