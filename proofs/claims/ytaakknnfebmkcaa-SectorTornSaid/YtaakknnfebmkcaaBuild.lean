/-
  Build: a write as a value; a slice of one write.
-/
import Derived.Test.YtaakknnfebmkcaaBegin
import Derived.Laws.Tables
set_option linter.unusedVariables false
set_option linter.unusedSimpArgs false
namespace Go.Proofs.Ytaakknnfebmkcaa
open Go.RowKit Go.Proofs.YtaakknnfebmkcaaW.PrintWords

theorem fold_set (off : Nat) : ∀ (l : List Value) (k : Nat) (cells : Array Value), off + k + l.length ≤ cells.size →
    ((l.zipIdx k).foldl (fun cs (p : Value × Nat) => cs.setIfInBounds (off + p.2) p.1) cells).toList = cells.toList.take (off + k) ++ l ++ cells.toList.drop (off + k + l.length)
  | [], k, cells, h => by simp
  | c :: l, k, cells, h => by
    have h' : off + k + (l.length + 1) ≤ cells.size := h
    rw [List.zipIdx_cons, List.foldl_cons, fold_set off l (k + 1) _ (by simp; omega)]
    simp only [Array.toList_setIfInBounds]
    have hk : off + k < cells.toList.length := by rw [Array.length_toList]; omega
    have e1 : (cells.toList.set (off + k) c).take (off + (k + 1)) = cells.toList.take (off + k) ++ [c] := by
      rw [show off + (k + 1) = off + k + 1 by omega, List.take_succ_eq_append_getElem (by simpa using hk), List.take_set, List.getElem_set_self, List.set_eq_of_length_le (by simp; omega)]
    have e2 : (cells.toList.set (off + k) c).drop (off + (k + 1) + l.length) = cells.toList.drop (off + k + (c :: l).length) := by
      rw [List.drop_set, if_pos (by omega)]
      congr 1
      simp; omega
    rw [e1, e2]
    simp
theorem fill_one (v : Array Value) (off : Nat) (cells : Array Value) (h : off + v.size ≤ cells.size) :
    v.zipIdx.foldl (fun cs (p : Value × Nat) => cs.setIfInBounds (off + p.2) p.1) cells = (cells.toList.take off ++ v.toList ++ cells.toList.drop (off + v.size)).toArray := by
  apply Array.toList_inj.1
  have := fold_set off v.toList 0 cells (by simpa using h)
  rw [← Array.foldl_toList]
  simpa using this

/-- A write's cells. -/
def wcells (i : Nat) (p : List UInt8) : List Value := .int .i64 (i : Int) :: Lib.byteCells p
theorem wcells_length (i : Nat) (p : List UInt8) : (wcells i p).length = p.length + 1 := by simp [wcells, Lib.byteCells]
theorem info66 : (Try.prog.info? 66).map (fun i => (i.zero, i.size, i.bytes)) = some (some (.agg (wcells 0 (zb 256)).toArray), 257, 264) := by kernel_rfl
def fieldsOf (P : Program) (t : TypeId) : List Field := match P.underlying t with | some (.struct fs) => fs.toList | _ => []
theorem under66 : ∃ fs, Try.prog.underlying 66 = some (.struct fs) ∧ fs.toList = fieldsOf Try.prog 66 := by
  have h : (match Try.prog.underlying 66 with | some (.struct fs) => true | _ => false) = true := by kernel_rfl
  unfold fieldsOf
  cases hu : Try.prog.underlying 66 with
  | none => rw [hu] at h; cases h
  | some d => cases d <;> first | (rw [hu] at h; cases h; done) | exact ⟨_, rfl, rfl⟩
theorem places66 : (fieldsOf Try.prog 66).mapM (fun f => (Try.prog.info? f.type).map fun i => (f.offset, i.size)) = some [(0, 1), (1, 256)] := by kernel_rfl
theorem fill_step {place : Nat → Option (Nat × Nat)} {cells : Array Value} {i off size : Nat} {v : Value} {rest : List (Nat × Value)} (hp : place i = some (off, size)) (hs : v.cells.size = size) (hb : off + size ≤ cells.size) :
    Instr.fill place cells ((i, v) :: rest) = Instr.fill place (cells.toList.take off ++ v.cells.toList ++ cells.toList.drop (off + size)).toArray rest := by
  rw [Instr.fill, hp]
  simp only [hs]
  rw [if_neg (by simp; omega)]
  have := fill_one v.cells off cells (by omega)
  rw [hs] at this
  rw [← this]
theorem fill_two (i : Nat) (p : List UInt8) (hp : p.length = 256) (Z : Array Value) (hz : Z.size = 257) :
    Instr.fill (([(0, 1), (1, 256)] : List (Nat × Nat)).toArray[·]?) Z [(0, .int .i64 (i : Int)), (1, .agg (Lib.byteCells p).toArray)] = some (wcells i p).toArray := by
  have hs : (Lib.byteCells p).toArray.size = 256 := by rw [List.size_toArray, Lib.byteCells_length, hp]
  have hzl : Z.toList.length = 257 := by rw [Array.length_toList, hz]
  rw [fill_step (off := 0) (size := 1) rfl rfl (by omega), fill_step (off := 1) (size := 256) (v := .agg (Lib.byteCells p).toArray) rfl hs (by simp [hzl, Value.cells]), Instr.fill]
  congr 2
  have hc : (Value.int .i64 (i : Int)).cells.toList = [.int .i64 (i : Int)] := rfl
  have hc2 : (Value.agg (Lib.byteCells p).toArray).cells.toList = Lib.byteCells p := rfl
  rw [hc, hc2]
  simp [wcells, hzl]
theorem built66 (i : Nat) (p : List UInt8) (hp : p.length = 256) : Try.prog.built 66 [(0, .int .i64 (i : Int)), (1, .agg (Lib.byteCells p).toArray)] = some (wcells i p).toArray := by
  obtain ⟨fs, hu, hf⟩ := under66
  have hi := info66
  unfold Program.built
  cases h : Try.prog.info? 66 with
  | none => rw [h] at hi; cases hi
  | some it =>
    rw [h] at hi
    simp only [Option.map_some, Option.some.injEq, Prod.mk.injEq] at hi
    obtain ⟨hz, _, _⟩ := hi
    simp only [hu, hz, hf, places66]
    exact fill_two i p hp _ (by show (wcells 0 (zb 256)).toArray.size = 257; rw [List.size_toArray, wcells_length, show (zb 256).length = 256 from List.length_replicate])
theorem build_write (i : Nat) (p : List UInt8) (hp : p.length = 256) (W : World) :
    (Instr.build 66 #[(0, .int .i64 (i : Int)), (1, .agg (Lib.byteCells p).toArray)]).run Try.prog W = .ok (.agg (wcells i p).toArray) W := run_build W 66 _ _ (built66 i p hp)

/-- As the walk opens it. -/
theorem zero66 : ∃ Z : Array Value, Z.size = 257 ∧ (∀ W, (zeroValue 66).run Try.prog W = .ok (.agg Z) W) ∧ ∀ (i : Nat) (p : List UInt8), p.length = 256 →
    List.foldl (fun cs (x : Value × Nat) => cs.setIfInBounds (1 + x.snd) x.fst) (Z.setIfInBounds 0 (.int .i64 (i : Int))) (Lib.byteCells p).zipIdx = (wcells i p).toArray := by
  have hi := info66
  cases h : Try.prog.info? 66 with
  | none => rw [h] at hi; cases hi
  | some it =>
    rw [h] at hi
    simp only [Option.map_some, Option.some.injEq, Prod.mk.injEq] at hi
    obtain ⟨hz, _, _⟩ := hi
    have hs : (wcells 0 (zb 256)).toArray.size = 257 := by rw [List.size_toArray, wcells_length, show (zb 256).length = 256 from List.length_replicate]
    refine ⟨_, hs, fun W => by simp [zeroValue, typeInfo, Sem.run_bind, h, hz, Result.andThen], fun i p hp => ?_⟩
    generalize (wcells 0 (zb 256)).toArray = Z at hs
    apply Array.toList_inj.1
    have hzl : Z.toList.length = 257 := by rw [Array.length_toList, hs]
    rw [fold_set 1 (Lib.byteCells p) 0 _ (by simp [hs, Lib.byteCells_length, hp])]
    obtain ⟨l⟩ := Z
    cases l with
    | nil => simp at hzl
    | cons a l =>
      simp [wcells, Lib.byteCells_length, hp] at hzl ⊢
      omega

theorem slice_write (i : Nat) (p : List UInt8) (hp : p.length = 256) (W : World) :
    (Instr.buildSlice 55 1 #[(0, .agg (wcells i p).toArray)]).run Try.prog W = .ok (.slice (some ⟨W.heap.size, 0, none⟩) 1 1) (W.alloc (.cells (wcells i p).toArray 66)) := by
  have hi := info66
  cases h : Try.prog.info? 66 with
  | none => rw [h] at hi; cases hi
  | some it =>
    rw [h] at hi
    simp only [Option.map_some, Option.some.injEq, Prod.mk.injEq] at hi
    obtain ⟨hz, hs, _⟩ := hi
    have hws : (Value.agg (wcells i p).toArray).cells.size = 257 := by simp [Value.cells, wcells, Lib.byteCells, hp]
    have hf : ∀ Z : Array Value, Z.size = 257 → Instr.fill (fun i => some (i * 257, 257)) Z [(0, .agg (wcells i p).toArray)] = some (wcells i p).toArray := by
      intro Z hZ
      have hzl : Z.toList.length = 257 := by rw [Array.length_toList, hZ]
      rw [fill_step (off := 0) (size := 257) rfl hws (by omega), Instr.fill]
      congr 2
      rw [show (Value.agg (wcells i p).toArray).cells.toList = wcells i p from rfl]
      simp [hzl]
    unfold Instr.buildSlice
    simp only [Sem.run_bind, run_underlying Try.underlying55, Result.andThen_ok]
    simp [sizeOf, typeInfo, zeroValue, h, hz, hs, Sem.run_bind, Result.andThen, hf]
    clear hf hws hz hs h
    simp [go_sem]
end Go.Proofs.Ytaakknnfebmkcaa
