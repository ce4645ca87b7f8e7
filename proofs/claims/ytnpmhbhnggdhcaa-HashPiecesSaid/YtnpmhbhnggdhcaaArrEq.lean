/-
  ArrEq: an array of bytes is equal to itself.
-/
import Derived.Test.YtnpmhbhnggdhcaaAwake
import Derived.Laws.StructEq
set_option linter.unusedVariables false
set_option linter.unusedSimpArgs false
namespace Go.Proofs.Ytnpmhbhnggdhcaa
open Go.RowKit Go.Proofs.YtnpmhbhnggdhcaaW.PrintWords

theorem run_forIn_yield {P : Program} {w : World} {α σ : Type} (l : List α) (s : σ) (f : α → σ → Sem (ForInStep σ)) (h : ∀ x ∈ l, (f x s).run P w = .ok (.yield s) w) : (forIn l s f : Sem σ).run P w = .ok s w := by
  induction l with
  | nil => simp
  | cons a l ih =>
    simp only [List.forIn_cons, Sem.run_bind, h a (List.mem_cons_self ..), Result.andThen_ok]
    exact ih fun x hx => h x (List.mem_cons_of_mem _ hx)

theorem equalIn_arr {P : Program} {w : World} {t e : TypeId} {n d : Nat} (l : List UInt8) (ht : P.underlying t = some (.array n e)) (he : P.underlying e = some (.int .u8)) (hs : (sizeOf e).run P w = .ok 1 w) (hl : l.length = n) :
    (Op.equalIn (d + 2) t (.agg (Lib.byteCells l).toArray) (.agg (Lib.byteCells l).toArray)).run P w = .ok true w := by
  have hp : ∀ i, i < n → (part e (Lib.byteCells l).toArray i).run P w = .ok (.int .u8 ((l.getD i 0).toNat : Int)) w := by
    intro i hi
    have ha : (isAgg e).run P w = .ok false w := by simp [isAgg, Sem.run_bind, run_underlying he]
    simp [part, Sem.run_bind, ha, Lib.byteCells, List.getD_eq_getElem?_getD, hl, hi]
  rw [Op.equalIn]
  simp only [Sem.run_bind, run_underlying ht, Result.andThen_ok, hs, Std.Legacy.Range.forIn_eq_forIn_range']
  rw [run_forIn_yield]
  · simp
  · intro i hi
    have hi' : i < n := by simp [Std.Legacy.Range.size] at hi; omega
    simp [Sem.run_bind, Result.andThen, hp i hi', run_equalIn_int _ d e .u8 .u8 _ _ he]

theorem wpList_load_w {P : Program} {ops : Array Oper} {rest : List Oper} {op : Oper} {a : Act} {w : World} {Q : Exit → Act → World → Prop} (ty : TypeId) (x : Operand) (ho : op.op = .load ty x)
    (b : Nat) (hx : a.eval x = .pointer (some ⟨b, 0, none⟩)) (cs : List Value) (d : TypeDesc) (hc : w.rangeAt b 0 cs)
    (hu : P.underlying ty = some d) (hd : d.isRow = true) (hi : (P.info? ty).map (·.size) = some cs.length) (hw : Region.wanted op (yielded ops a.tmps) = true)
    (h : wpList P ops Q rest (a.put op.dst (.agg cs.toArray)) w) : wpList P ops Q (op :: rest) a w := by
  rw [wpList, if_pos hw]
  exact .inl (wp_load_mid ty x ho b 0 hx cs d hc hu hd hi h)
theorem sz5 (w : World) : (sizeOf 5).run Try.prog w = .ok 1 w := by
  have : (Try.prog.info? 5).map (·.size) = some 1 := by kernel_rfl
  cases h : Try.prog.info? 5 with
  | none => rw [h] at this; cases this
  | some i =>
    rw [h] at this
    have e : i.size = 1 := by simpa using this
    simp [sizeOf, typeInfo, Sem.run_bind, h, e]
theorem eql32 (l : List UInt8) (hl : l.length = 32) (w : World) : (binOp .eql 24 (.agg (Lib.byteCells l).toArray) (.agg (Lib.byteCells l).toArray)).run Try.prog w = .ok (.bool true) w := by
  rw [run_eql_struct, equalIn_arr (d := 9998) l Try.underlying24 Try.underlying5 (sz5 w) hl]
  rfl
theorem guard32 (x y : Operand) (xs ys : Array Value) (w : World) : (eqGuard .eql 24 x y (.agg xs) (.agg ys)).run Try.prog w = .ok () w :=
  run_eqGuard_agg w .eql 24 x y xs ys (by kernel_rfl)
end Go.Proofs.Ytnpmhbhnggdhcaa
