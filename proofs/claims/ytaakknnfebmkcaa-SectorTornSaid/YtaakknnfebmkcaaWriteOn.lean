/-
  WriteOn: a sector has these bytes, the power being on.
-/
import Derived.Test.YtaakknnfebmkcaaWrite
import Derived.Test.YtaakknnfebmkcaaBuild
import Derived.Deep.RegionHeld3
import Derived.Deep.AppendLies
import Derived.Deep.RegionLaw
set_option linter.unusedVariables false
set_option linter.unusedSimpArgs false
namespace Go.Proofs.Ytaakknnfebmkcaa
open Go.RowKit Go.Proofs.YtaakknnfebmkcaaW.PrintWords


theorem grown_range {w w' : World} {row : Option Nat} {b o : Nat} {cs : List Value} (hg : w.grownBy w' row) (h : w.rangeAt b o cs) (hl : b < w.heap.size) (hne : row ≠ some b) : w'.rangeAt b o cs := fun j v hv => by
  have := h j v hv
  unfold World.cell? at this ⊢
  rw [hg.block b hl (Ne.symm hne)]
  exact this

theorem range_set {w : World} {b o b' i : Nat} {cs : List Value} (h : w.rangeAt b o cs) (hne : b ≠ b') (v : Value) : (w.setCell ⟨b', i, none⟩ v).rangeAt b o cs := fun j u hu => by
  have := h j u hu
  unfold World.cell? at this ⊢
  rw [Below.heap_setCell w _ v b hne]
  exact this

/-- All is as it was but for some blocks, and what is new. -/
structure Kept (w w' : World) (ks : Nat → Prop) : Prop where
  os : w'.os = w.os
  tape : w'.tape = w.tape
  output : w'.output = w.output
  size : w.heap.size ≤ w'.heap.size
  block : ∀ k, k < w.heap.size → ¬ ks k → w'.heap[k]? = w.heap[k]?
theorem Kept.below {w w' : World} {ks : Nat → Prop} (h : Kept w w' ks) {B : Nat} {u : World} (hb : Below B u w) (hk : ∀ k, ks k → B ≤ k) (hB : B ≤ w.heap.size) : Below B u w' :=
  hb.trans ⟨h.os, h.tape, h.output, h.size, fun k hk' => h.block k (by omega) (fun hs => by have := hk k hs; omega)⟩

theorem wayCells_snoc (way : List (Nat × List UInt8)) (i : Nat) (p : List UInt8) : wayCells (way ++ [(i, p)]) = wayCells way ++ wcells i p := by simp [wayCells, wcells]

theorem write_close {base b g n : Nat} {L : List UInt8} {wv : Value} {way : List (Nat × List UInt8)} {cnt cnt' arm : Int} {off : Bool} {i cc gg : Nat} {p : List UInt8} {w w2 w4 : World} (HD : Dev w base b g n L wv way cnt arm false)
    (hd2 : w2.heap[b]? = some (.cells #[.slice (some ⟨g, 0, none⟩) n n, wv, .int .i64 cnt', .int .i64 arm, .bool off] 62 (0, 0))) (ha2 : At1 b w w2) (hi : i < n) (hp : p.length = 256)
    (hown4 : w4.ownsRow base 66 257 (.slice (some ⟨gg, 0, none⟩) (way.length + 1) cc) (way.length + 1) (wayCells way ++ wcells i p)) (hgrow : (w2.alloc (.cells (wcells i p).toArray 66)).drew.grownBy w4 wv.ownBlock)
    (hat4 : wv.ownBlock = some gg ∨ gg = w2.heap.size + 1) :
    Dev (w4.setCell ⟨b, 1, none⟩ (.slice (some ⟨gg, 0, none⟩) (way.length + 1) cc)) base b g n L (.slice (some ⟨gg, 0, none⟩) (way.length + 1) cc) (way ++ [(i, p)]) cnt' arm off ∧
    Kept w (w4.setCell ⟨b, 1, none⟩ (.slice (some ⟨gg, 0, none⟩) (way.length + 1) cc)) (fun k => k = b ∨ wv.ownBlock = some k) ∧ (wv.ownBlock = some gg ∨ w.heap.size ≤ gg) := by
  have hbl := blk_lt hd2
  have hsz := ha2.size
  have hwb : wv.ownBlock ≠ some b := fun e => own_ne HD.own HD.dev (by decide) e.symm
  have hwg : wv.ownBlock ≠ some g := fun e => own_ne HD.own HD.secs (by decide) e.symm
  have hgb : g ≠ b := fun e => by have := HD.secs; rw [e, HD.dev] at this; simp at this
  have h4 : ∀ k, k < w2.heap.size → wv.ownBlock ≠ some k → w4.heap[k]? = w2.heap[k]? := fun k hk hne => by
    rw [hgrow.block k (by simp; omega) (Ne.symm hne)]
    exact Below.heap_alloc w2 _ k hk
  have hd4 : w4.heap[b]? = _ := (h4 b hbl hwb).trans hd2
  have hggb : gg ≠ b := fun e => by
    rcases hat4 with h | h
    · exact hwb (by rw [h, e])
    · omega
  refine ⟨⟨?_, ?_, HD.len, HD.bb, HD.bg, ?_, HD.small, ?_⟩, ⟨?_, ?_, ?_, ?_, ?_⟩, ?_⟩
  · rw [blk_set hd4 1]; rfl
  · rw [Below.heap_setCell w4 _ _ g hgb, h4 g (by rw [hsz]; exact blk_lt HD.secs) hwg, ha2.block g hgb]
    exact HD.secs
  · have := own_setCell hown4 (p := ⟨b, 1, none⟩) (by simp [Value.ownBlock]; exact fun e => hggb e.symm) (.slice (some ⟨gg, 0, none⟩) (way.length + 1) cc)
    rw [wayCells_snoc, List.length_append]
    exact this
  · intro q hq
    rcases List.mem_append.1 hq with h | h
    · exact HD.each q h
    · simp at h; subst h; exact ⟨hi, hp⟩
  · exact (hgrow.os).trans ha2.os
  · exact (hgrow.tape).trans ha2.tape
  · exact (hgrow.output).trans ha2.output
  · have := hgrow.size
    simp [World.setCell] at this ⊢
    omega
  · intro k hk hks
    rw [Below.heap_setCell w4 _ _ k (fun e => hks (.inl e)), h4 k (by omega) (fun e => hks (.inr e)), ha2.block k (fun e => hks (.inl e))]
  · rcases hat4 with h | h
    · exact .inl h
    · exact .inr (by omega)

theorem load55 (b : Nat) (v : Value) (W : World) (h : W.cell? ⟨b, 1, none⟩ = some v) : (loadVar 55 ⟨b, 1, none⟩).run Try.prog W = .ok v W := by
  simp [go_sem, h]

theorem load4 (b : Nat) (v : Value) (W : World) (h : W.cell? ⟨b, 4, none⟩ = some v) : (loadVar 4 ⟨b, 4, none⟩).run Try.prog W = .ok v W := by
  simp [go_sem, h]

/-- Names that the walk does not open: a load of a whole sector, a slice of writes. -/
noncomputable def ld64 (a : Addr) : Sem Value := loadVar 64 a
theorem ld64_eq (a : Addr) : loadVar 64 a = ld64 a := rfl
noncomputable def bs66 (x : Array (Nat × Value)) : Sem Value := Instr.buildSlice 55 1 x
theorem bs66_eq (x : Array (Nat × Value)) : Instr.buildSlice 55 1 x = bs66 x := rfl
attribute [local go_sem ↓] ld64_eq bs66_eq

set_option maxHeartbeats 1000000 in
set_option maxRecDepth 100000 in
theorem write_on (base b g n : Nat) (L : List UInt8) (wv : Value) (way : List (Nat × List UInt8)) (cnt arm : Int) (i : Nat) (pb po : Nat) (cap : Nat) (p : List UInt8) (w : World) (hD : Dev w base b g n L wv way cnt arm false) (hi : i < n) (h0 : 0 ≤ cnt) (h1 : cnt ≤ 1000000000000)
    (hp : p.length = 256) (hr : w.rangeAt pb po (Lib.byteCells p)) (hpb : pb ≠ b) (hpw : wv.ownBlock ≠ some pb) (hpl : pb < w.heap.size) (hway : way.length ≤ 1000000) (hbs : base ≤ w.heap.size) :
    Calls Try.prog 10 #[.pointer (some ⟨b, 0, none⟩), .int .i64 i, .slice (some ⟨pb, po, none⟩) 256 cap] w fun e w' => ∃ gg cc, e = .returned (.int .i64 (if offB cnt arm false then 14 else 0)) ∧ Dev w' base b g n L (.slice (some ⟨gg, 0, none⟩) (way.length + 1) cc) (way ++ [(i, p)]) (cnt + 1) arm (offB cnt arm false) ∧ Kept w w' (fun k => k = b ∨ wv.ownBlock = some k) ∧ (wv.ownBlock = some gg ∨ w.heap.size ≤ gg) := by
  have hbeg := fun W hd => begin_any b (.slice (some ⟨g, 0, none⟩) n n) wv cnt arm false W hd h0 h1
  generalize offB cnt arm false = o at hbeg ⊢
  have hd := hD.dev
  have hx := look_any b g n _ _ _ _ i w hd
  rw [if_pos (by omega)] at hx
  obtain ⟨_, _, _, _, c4⟩ := dev_cells hd
  have hown := hD.own
  have hbl := blk_lt hd
  have hwb : wv.ownBlock ≠ some b := fun e => own_ne hown hd (by decide) e.symm
  obtain ⟨i0, hi0⟩ : ∃ it, Try.prog.info? 66 = some it := by
    have := info66
    cases h : Try.prog.info? 66 with
    | none => rw [h] at this; cases this
    | some it => exact ⟨it, rfl⟩
  have hi6 := info66
  rw [hi0] at hi6
  simp only [Option.map_some, Option.some.injEq, Prod.mk.injEq] at hi6
  obtain ⟨hz0, hz1, hz2⟩ := hi6
  have I0 := Aside0.mk hi0
  have Z0 := Aside0.mk hz0
  have Z1 := Aside0.mk hz1
  have Z2 := Aside0.mk hz2
  have HD := Aside0.mk hD
  obtain ⟨Z, hZ, hzv, hfo⟩ := zero66
  have hfo := hfo i p hp
  have hZ0 : ¬ Z = #[] := by intro e; rw [e] at hZ; simp at hZ
  have hZs : ¬ Z.size < 257 := by omega
  have SW : ∀ W : World, (bs66 #[(0, .agg (wcells i p).toArray)]).run Try.prog W = .ok (.slice (some ⟨W.heap.size, 0, none⟩) 1 1) (W.alloc (.cells (wcells i p).toArray 66)) := fun W => slice_write i p hp W
  clear hi0 hz0 hz1 hz2 hD
  have HI := Aside0.mk hi
  have l0 := load4 b _ w c4
  go_enter Try.func10, Try.ntmps10
  go_wp2_with fail
  refine hx.mono ?_
  rintro e w1 ⟨rfl, rfl⟩
  go_wp2_with fail
  refine (hbeg _ hd).mono ?_
  rintro e w2 ⟨rfl, hd2, ha2⟩
  have hr2 : w2.rangeAt pb po (Lib.byteCells p) := fun j v hv => by
    have := hr j v hv
    unfold World.cell? at this ⊢
    rw [ha2.block pb hpb]
    exact this
  have hsz := ha2.size
  have hown2 : w2.ownsRow base 66 257 wv way.length (wayCells way) := own_move hown (fun k hk => ha2.block k (fun e => hwb (by rw [hk, e])))
  obtain ⟨_, c1, _, _, _⟩ := dev_cells hd2
  have hz := dev_thaw (o := 1) hd2
  go_wp2_with fail
  have hu := Try.underlying64
  have hi : (Try.prog.info? 64).map (·.size) = some (Lib.byteCells p).length := by
    have := info64
    cases h : Try.prog.info? 64 with
    | none => rw [h] at this; cases this
    | some it =>
      rw [h] at this
      simp only [Option.map_some, Option.some.injEq, Prod.mk.injEq] at this ⊢
      rw [Lib.byteCells_length, hp]
      exact this.2.1
  have hlen : (Lib.byteCells p).length = 256 := by rw [Lib.byteCells_length, hp]
  have hat : ∀ W, (Instr.arrayAt 64 (.slice (some ⟨pb, po, none⟩) 256 cap)).run Try.prog W = .ok (.pointer (some ⟨pb, po, none⟩)) W := fun W => run_arrayAt W 64 _ 256 _ 256 cap Try.underlying64 (Nat.le_refl _)
  have hbl2 : b < w2.heap.size := by omega
  have hpl2 : pb < w2.heap.size := by omega
  have hbs2 : base ≤ w2.heap.size := by omega
  have HSZ := Aside0.mk hsz
  clear hsz
  have hW3 : ∃ W3, W3 = w2.alloc (.cells (wcells i p).toArray 66) := ⟨_, rfl⟩
  have k1' : Aside0 ((w2.alloc (.cells (wcells i p).toArray 66)).drew.cell? ⟨b, 1, none⟩ = some wv) := ⟨by
    show (w2.alloc (.cells (wcells i p).toArray 66)).cell? ⟨b, 1, none⟩ = some wv
    rw [World.cell?_alloc_lt _ _ _ hbl2]; exact c1⟩
  have k1 : (w2.alloc (.cells (wcells i p).toArray 66)).drew.cell? ⟨b, 1, none⟩ = some wv := by
    show (w2.alloc (.cells (wcells i p).toArray 66)).cell? ⟨b, 1, none⟩ = some wv
    rw [World.cell?_alloc_lt _ _ _ hbl2]; exact c1
  have k2 : (w2.alloc (.cells (wcells i p).toArray 66)).drew.frozen? ⟨b, 1, none⟩ = false := by
    show (w2.alloc (.cells (wcells i p).toArray 66)).frozen? ⟨b, 1, none⟩ = false
    rw [World.frozen?_alloc_past _ _ _ hbl2]; exact hz
  have k3 : (w2.alloc (.cells (wcells i p).toArray 66)).drew.rangeAt pb po (Lib.byteCells p) := World.rangeAt_alloc hr2 _
  have l1 : (loadVar 55 ⟨b, 1, none⟩).run Try.prog w2.drew = .ok wv w2.drew := load55 b wv _ c1
  have l2 : (loadVar 55 ⟨b, 1, none⟩).run Try.prog (w2.alloc (.cells (wcells i p).toArray 66)).drew = .ok wv (w2.alloc (.cells (wcells i p).toArray 66)).drew := load55 b wv _ k1
  have l3 : (ld64 ⟨pb, po, none⟩).run Try.prog w2.drew = .ok (.agg (Lib.byteCells p).toArray) w2.drew := run_loadVar_mid w2.drew pb po 64 _ _ hr2 Try.underlying64 rfl hi
  clear k1 hr2 hi hr
  have k1' : Aside0 ((w2.alloc (.cells (wcells i p).toArray 66)).drew.cell? ⟨b, 1, none⟩ = some wv) := ⟨by
    show (w2.alloc (.cells (wcells i p).toArray 66)).cell? ⟨b, 1, none⟩ = some wv
    rw [World.cell?_alloc_lt _ _ _ hbl2]; exact c1⟩
  go_region_law ((refine step_append_lies _ (by rfl) _ _ _ (by rfl) base 66 i0 _ 257 264 Try.underlying55 I0.out Z0.out Z1.out Z2.out (by show (wcells 0 (zb 256)).toArray.size = 257; rw [List.size_toArray, wcells_length, show (zb 256).length = 256 from List.length_replicate]) (by omega) wv _ _ (by rfl) ((hown2.alloc _).drew) ⟨w2.heap.size, 0, none⟩ 1 1 (wcells i p) (by rfl) (by rw [wcells_length, hp]) (World.news_of_block (cs := (wcells i p).toArray) (t := 66) (fr := (0, 0)) (heap_alloc_new w2 _)) (by simp [wcells, Lib.byteCells, Value.oneCell']) (by omega) (by unfold maxLen; omega) (by omega) (by simp; omega) (w2.heap.size + 1) (by simp) ?_; intro gg cc w4 hown4 hgrow hat4 hlt4; have q1 := (hgrow.cell_far ⟨b, 1, none⟩ (by simp; omega) (Ne.symm hwb)).trans k1'.out; have q2 := (hgrow.frozen_far ⟨b, 1, none⟩ (by simp; omega) (Ne.symm hwb)).trans k2))
  all_goals
    obtain ⟨f1, f2, f3⟩ := write_close HD.out hd2 ha2 HI.out hp hown4 hgrow hat4
    clear hown4 hgrow hat4 q1 q2 hd2 k2 k3
    generalize w4.setCell ⟨b, 1, none⟩ (.slice (some ⟨gg, 0, none⟩) (way.length + 1) cc) = w5 at f1 f2 ⊢
    cases o
    · go_wp2
      go_ret
      exact ⟨rfl, gg, ⟨cc, f1⟩, f2, f3⟩
    · go_wp2
      go_ret
      exact ⟨rfl, gg, ⟨cc, f1⟩, f2, f3⟩
end Go.Proofs.Ytaakknnfebmkcaa
