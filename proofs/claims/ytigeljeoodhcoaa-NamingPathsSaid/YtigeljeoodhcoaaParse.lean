/-
  Parse: the digest and the name of a path.
-/
import Derived.Test.YtigeljeoodhcoaaPath
import Derived.Test.YtigeljeoodhcoaaMem
import Derived.WalkLawsBesides
import Derived.Deep.RegionHeld
set_option linter.unusedVariables false
set_option linter.unusedSimpArgs false
namespace Go.Proofs.Ytigeljeoodhcoaa
open Go.RowKit Go.Proofs.YtigeljeoodhcoaaW.PrintWords Go.Proofs.YtigeljeoodhcoaaW.PrintLast Go.Proofs.YtigeljeoodhcoaaW.PrintMore

def zeros : List UInt8 := List.replicate 20 0
theorem arr_size (d : List UInt8) : (Lib.byteCells d).toArray.size = d.length := by simp [Lib.byteCells]
theorem info24 : (Try.prog.info? 24).map (·.size) = some 20 := by kernel_rfl
theorem range_arr {W : World} {b : Nat} {d : List UInt8} {t : TypeId} {fr : Nat × Nat} (hb : W.heap[b]? = some (.cells (Lib.byteCells d).toArray t fr)) : W.rangeAt b 0 (Lib.byteCells d) := fun j v hv => by
  rw [cell_of_row W b (0 + j) _ t fr hb, Nat.zero_add]
  simpa using hv
theorem load_arr {W : World} {b : Nat} {d : List UInt8} {t : TypeId} {fr : Nat × Nat} (hb : W.heap[b]? = some (.cells (Lib.byteCells d).toArray t fr)) (hd : d.length = 20) :
    (loadVar 24 ⟨b, 0, none⟩).run Try.prog W = .ok (.agg (Lib.byteCells d).toArray) W :=
  run_loadVar_mid W b 0 24 _ _ (range_arr hb) Try.underlying24 rfl (by rw [info24, Lib.byteCells_length, hd])
theorem there_arr {W : World} {b : Nat} {d : List UInt8} {t : TypeId} (hb : W.heap[b]? = some (.cells (Lib.byteCells d).toArray t (0, 0))) : W.there b 0 d.length := fun j hj => by
  constructor
  · rw [cell_of_row W b (0 + j) _ t (0, 0) hb, Nat.zero_add]
    simp [Lib.byteCells, hj]
  · simp [World.frozen?, hb]
theorem one_arr (d : List UInt8) : (Lib.byteCells d).toArray.all (·.oneCell') = true := by
  simp [Lib.byteCells, Value.oneCell']

def zc : Array Value := (Lib.byteCells zeros).toArray
theorem zc_eq : zc = #[.int .u8 0, .int .u8 0, .int .u8 0, .int .u8 0, .int .u8 0, .int .u8 0, .int .u8 0, .int .u8 0, .int .u8 0, .int .u8 0, .int .u8 0, .int .u8 0, .int .u8 0, .int .u8 0, .int .u8 0, .int .u8 0, .int .u8 0, .int .u8 0, .int .u8 0, .int .u8 0] := rfl
theorem info24z : (Try.prog.info? 24).map (·.size) = some zc.size := by kernel_rfl
theorem zc_one : zc.all (·.oneCell') = true := one_arr zeros

/-- The path is too short, or has no dash at its place, or no name behind it. -/
def badHead (s : ByteArray) : Prop := s.size < 34 ∨ (34 ≤ s.size ∧ bt s 32 ≠ 45) ∨ (34 ≤ s.size ∧ bt s 32 = 45 ∧ nameB (s.extract 33 s.size) = false)

theorem results_cell2 {fn : Func} {p u v : Tmp} {ty : TypeId} (h : fn.results = #[.cell p ty, .tmp u, .tmp v]) (tmps : Array Value) {P : Program} {w : World} {A : Addr} {x : Value}
    (hp : tmps.getD p undef = .pointer (some A)) (hl : (loadVar ty A).run P w = .ok x w) :
    (results fn tmps).run P w = .ok (.tuple #[x, tmps.getD u undef, tmps.getD v undef]) w := by
  simp only [results, h]
  have hp : tmps[p]?.getD undef = .pointer (some A) := by simpa [Array.getD_eq_getD_getElem?] using hp
  simp [Sem.run_bind, hp, asAddr, Result.andThen, hl]

set_option maxHeartbeats 400000 in
set_option maxRecDepth 100000 in
theorem parse_short (s : ByteArray) (w : World) (h : s.size < 34) :
    Calls Try.prog 12 #[.string s] w fun e w' => e = .returned (.tuple #[.agg zc, .string ⟨#[]⟩, .int .i64 4]) ∧ Below w.heap.size w w' := by
  go_enter Try.func12, Try.ntmps12
  go_wp2_with (refine wpList_store_whole rfl 24 (.tmp 2) (.tmp 21) rfl w.heap.size zc zc 24 rfl rfl (alloc_at w (.cells zc 24)) rfl info24z zc_one ?_)
  intro W hb hA
  have hB := hA.below ((Below.refl _ w).alloc (Nat.le_refl _) _) (Nat.le_refl _)
  go_wp2
  have hl := load_arr (d := zeros) hb rfl
  exact bodyPost_ret (results_cell2 rfl _ rfl hl) rfl ⟨rfl, hB⟩


set_option maxHeartbeats 400000 in
set_option maxRecDepth 100000 in
theorem parse_dash (s : ByteArray) (w : World) (h : ¬ s.size < 34) (hd : bt s 32 ≠ 45) :
    Calls Try.prog 12 #[.string s] w fun e w' => e = .returned (.tuple #[.agg zc, .string ⟨#[]⟩, .int .i64 4]) ∧ Below w.heap.size w w' := by
  have h32 : 32 < s.size := by omega
  obtain ⟨c, hc⟩ : ∃ c : Int, bt s 32 = c := ⟨_, rfl⟩
  rw [hc] at hd
  have hbt : ((s[32].toNat : Nat) : Int) = bt s 32 := bt_at s 32 h32
  rw [hc] at hbt
  go_enter Try.func12, Try.ntmps12
  go_wp2_with (refine wpList_store_whole rfl 24 (.tmp 2) (.tmp 21) rfl w.heap.size zc zc 24 rfl rfl (alloc_at w (.cells zc 24)) rfl info24z zc_one ?_)
  intro W hb hA
  have hB := hA.below ((Below.refl _ w).alloc (Nat.le_refl _) _) (Nat.le_refl _)
  go_wp2
  have hl := load_arr (d := zeros) hb rfl
  exact bodyPost_ret (results_cell2 rfl _ rfl hl) rfl ⟨rfl, hB⟩

set_option maxHeartbeats 400000 in
set_option maxRecDepth 100000 in
theorem parse_name (s : ByteArray) (w : World) (h : ¬ s.size < 34) (hs : s.size ≤ 140737488351232) (hd : bt s 32 = 45) (hn : nameB (s.extract 33 s.size) = false) :
    Calls Try.prog 12 #[.string s] w fun e w' => e = .returned (.tuple #[.agg zc, .string ⟨#[]⟩, .int .i64 4]) ∧ Below w.heap.size w w' := by
  have h32 : 32 < s.size := by omega
  have hbt : ((s[32].toNat : Nat) : Int) = bt s 32 := bt_at s 32 h32
  rw [hd] at hbt
  go_enter Try.func12, Try.ntmps12
  go_wp2_with fail
  have hx := name_any (s.extract 33 s.size) (w.alloc (.cells zc 24)) (by simp; omega)
  rw [hn] at hx
  refine hx.mono ?_
  rintro e w1 ⟨rfl, hd1⟩
  have hB := below_drawn ((Below.refl _ w).alloc (Nat.le_refl _) (.cells zc 24)) hd1
  have hb1 := blk_drawn (alloc_at w (.cells zc 24)) hd1
  clear hx hd1
  go_wp2_with (refine wpList_store_whole rfl 24 (.tmp 2) (.tmp 21) rfl w.heap.size zc zc 24 rfl rfl hb1 rfl info24z zc_one ?_)
  intro W hb2 hA
  have hB2 := hA.below hB (Nat.le_refl _)
  go_wp2
  have hl := load_arr (d := zeros) hb2 rfl
  exact bodyPost_ret (results_cell2 rfl _ rfl hl) rfl ⟨rfl, hB2⟩

/-- The digest's part. -/
def headL (s : ByteArray) : ByteArray := s.extract 0 32
theorem head_size (s : ByteArray) (h : ¬ s.size < 34) : (s.extract 0 32).size = 32 := by simp; omega

set_option maxHeartbeats 400000 in
set_option maxRecDepth 100000 in
theorem parse_none (s : ByteArray) (w : World) (h : ¬ s.size < 34) (hs : s.size ≤ 140737488351232) (hd : bt s 32 = 45) (hn : nameB (s.extract 33 s.size) = true) (hdc : decE (s.extract 0 32) = 3) :
    Calls Try.prog 12 #[.string s] w fun e w' => e = .returned (.tuple #[.agg zc, .string ⟨#[]⟩, .int .i64 4]) ∧ Below w.heap.size w w' := by
  have h32 : 32 < s.size := by omega
  have hbt : ((s[32].toNat : Nat) : Int) = bt s 32 := bt_at s 32 h32
  rw [hd] at hbt
  go_enter Try.func12, Try.ntmps12
  go_wp2_with fail
  have hx := name_any (s.extract 33 s.size) (w.alloc (.cells zc 24)) (by simp; omega)
  rw [hn] at hx
  refine hx.mono ?_
  rintro e w1 ⟨rfl, hd1⟩
  have hB := below_drawn ((Below.refl _ w).alloc (Nat.le_refl _) (.cells zc 24)) hd1
  have hb1 := blk_drawn (alloc_at w (.cells zc 24)) hd1
  clear hx hd1
  go_wp2_with fail
  have hx := dec_any (s.extract 0 32) w1 (by rw [head_size s h]; omega)
  obtain ⟨L, hL⟩ : ∃ L, decL (s.extract 0 32) = L := ⟨_, rfl⟩
  rw [hdc, hL] at hx
  refine hx.mono ?_
  rintro e w2 ⟨A, c, rfl, ho, hb2⟩
  have hB2 := hB.trans (hb2.mono hB.size)
  have hb3 := blk_below hb1 hb2
  clear hx hb2 hb1 hB
  go_wp2_with (refine wpList_store_whole rfl 24 (.tmp 2) _ rfl w.heap.size zc zc 24 rfl rfl hb3 rfl info24z zc_one ?_)
  intro W hb4 hA
  have hB3 := hA.below hB2 (Nat.le_refl _)
  go_wp2
  have hl := load_arr (d := zeros) hb4 rfl
  exact bodyPost_ret (results_cell2 rfl _ rfl hl) rfl ⟨rfl, hB3⟩

theorem own_blk20 {w : World} {base m c : Nat} {A : Option Addr} {l : List UInt8} (h : Own w base (.slice A m c) l) (hl : l.length = m) (h0 : 0 < m) : ∃ b, A = some ⟨b, 0, none⟩ ∧ base ≤ b ∧ b < w.heap.size ∧ w.rangeAt b 0 (Lib.byteCells l) := by
  rcases h.2 with ⟨_, h1⟩ | ⟨g, cap, cur, he, hg, hb, _, _, hs, ht⟩
  · omega
  · injection he with e1 e2 e3
    refine ⟨g, e1, hg, (Array.getElem?_eq_some_iff.1 hb).1, fun j v hv => ?_⟩
    rw [cell_of_row w g (0 + j) _ _ (0, 0) hb, Nat.zero_add]
    have hc : Lib.byteCells l = nums .u8 (ints l) := by simp [Lib.byteCells, nums, ints]
    rw [hc, ← ht, List.getElem?_take] at hv
    split at hv
    · simpa using hv
    · cases hv

end Go.Proofs.Ytigeljeoodhcoaa
