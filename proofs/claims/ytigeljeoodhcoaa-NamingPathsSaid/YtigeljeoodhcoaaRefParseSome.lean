/-
  RefParseSome: the reference's Parse: the digest and the name of a path.
-/
import Derived.Test.YtigeljeoodhcoaaRefParse
import Derived.Deep.RegionHeld
set_option linter.unusedVariables false
set_option linter.unusedSimpArgs false
namespace Go.Proofs.Ytigeljeoodhcoaa
open Go.RowKit Go.Proofs.YtigeljeoodhcoaaW.PrintWords Go.Proofs.YtigeljeoodhcoaaW.PrintLast Go.Proofs.YtigeljeoodhcoaaW.PrintMore

/-- a byte of an array in its block is stored. -/
theorem arr_set {W : World} {b i : Nat} {l : List UInt8} {t : TypeId} (hb : W.heap[b]? = some (.cells (Lib.byteCells l).toArray t (0, 0))) (c : UInt8) :
    (W.setCell ⟨b, i, none⟩ (.int .u8 (c.toNat : Int))).heap[b]? = some (.cells (Lib.byteCells (l.set i c)).toArray t (0, 0)) := by
  rw [blk_set hb i]
  congr 2
  simp [Lib.byteCells, List.map_set]
theorem arr_cell {W : World} {b i : Nat} {l : List UInt8} {t : TypeId} (hb : W.heap[b]? = some (.cells (Lib.byteCells l).toArray t (0, 0))) (hi : i < l.length) :
    W.cell? ⟨b, i, none⟩ = some (.int .u8 ((l.getD i 0).toNat : Int)) ∧ W.frozen? ⟨b, i, none⟩ = false := by
  constructor
  · rw [cell_of_row W b i _ t (0, 0) hb]
    simp [Lib.byteCells, hi, List.getD_eq_getElem?_getD]
  · simp [World.frozen?, hb]
/-- The first bytes of L, the rest as it was. -/
def mix (L : List UInt8) (i : Nat) : List UInt8 := L.take i ++ List.replicate (20 - i) 0
theorem mix_length {L : List UInt8} (hL : L.length = 20) {i : Nat} (hi : i ≤ 20) : (mix L i).length = 20 := by simp [mix, hL]; omega
theorem mix_zero (L : List UInt8) : mix L 0 = zeros := by simp [mix, zeros]
theorem mix_full {L : List UInt8} (hL : L.length = 20) : mix L 20 = L := by simp [mix, List.take_of_length_le (Nat.le_of_eq hL)]
theorem mix_step {L : List UInt8} (hL : L.length = 20) {i : Nat} (hi : i < 20) : (mix L i).set i (L.getD i 0) = mix L (i + 1) := by
  unfold mix
  have e1 : (L.take i).length = i := by simp [hL]; omega
  have e2 : List.replicate (20 - i) (0 : UInt8) = 0 :: List.replicate (20 - (i + 1)) 0 := by
    rw [show 20 - i = (20 - (i + 1)) + 1 by omega, List.replicate_succ]
  rw [List.set_append, if_neg (by omega), e1, Nat.sub_self, e2, List.set_cons_zero, List.take_succ_eq_append_getElem (show i < L.length by omega), List.append_assoc]
  congr 1
  simp [List.getD_eq_getElem?_getD, hL, hi]

set_option maxHeartbeats 400000 in
set_option maxRecDepth 100000 in
theorem refParse_some (s : ByteArray) (w : World) (h : ¬ s.size < 34) (hs : s.size ≤ 140737488351232) (hd : bt s 32 = 45) (hn : nameB (s.extract 33 s.size) = true) (hdc : decE (s.extract 0 32) = 0) (L : List UInt8) (hL : decL (s.extract 0 32) = L) (hl20 : L.length = 20) :
    Calls Try.prog 15 #[.string s] w fun e w' => e = .returned (.tuple #[.agg (Lib.byteCells L).toArray, .string (s.extract 33 s.size), .bool true]) ∧ Below w.heap.size w w' := by
  have h32 : 32 < s.size := by omega
  have hbt : ((s[32].toNat : Nat) : Int) = bt s 32 := bt_at s 32 h32
  rw [hd] at hbt
  have hA := two_a w
  have hD := two_d w
  have hB := two_below w
  unfold two at hA hD hB
  go_enter Try.func15, Try.ntmps15
  go_wp2_with fail
  have hx := refName_any (s.extract 33 s.size) ((w.alloc (.cells zc 24)).alloc (.cells zc 24)) (by simp; omega)
  rw [hn] at hx
  refine hx.mono ?_
  rintro e w1 ⟨rfl, hd1⟩
  have hB1 := below_drawn hB hd1
  have hA1 := blk_drawn hA hd1
  have hD1 := blk_drawn hD hd1
  clear hx hd1 hA hD hB
  go_wp2_with fail
  have hx := refDec_any (s.extract 0 32) w1 (by rw [head_size s h]; omega)
  rw [hdc, hL, hl20] at hx
  refine hx.mono ?_
  rintro e w2 ⟨A, c, rfl, ho, hb2⟩
  have hB2 := hB1.trans (hb2.mono hB1.size)
  have hA2 := blk_below hA1 hb2
  have hD2 := blk_below hD1 hb2
  have hlt : w.heap.size + 1 < w1.heap.size := blk_lt hD1
  obtain ⟨b, rfl, hbk, hbn, hrg⟩ := own_blk20 ho hl20 (by decide)
  clear hx hb2 hA1 hD1 hB1 hn hdc hL hd
  have HO := Lib.hid ho
  clear ho
  go_wp2_with fail
  go_loopw [8] (fun i wr => ∃ k : Nat, i = .int .i64 k ∧ k ≤ 20 ∧ At1 (w.heap.size + 1) w2 wr ∧ wr.heap[w.heap.size + 1]? = some (.cells (Lib.byteCells (mix L k)).toArray 24 (0, 0))) (fun i _ => (20 - (intOf i).toNat))
  case atStart => exact ⟨0, by first | rfl | go_num, by omega, At1.refl _ _, by rw [mix_zero]; exact hD2⟩
  case round =>
    obtain ⟨k, rfl, hk, hAt, hBk⟩ := hrel
    by_cases hk0 : k < 20
    · have hc0 := arr_cell hBk (i := k) (by rw [mix_length hl20 hk]; exact hk0)
      obtain ⟨x, hx⟩ : ∃ x, L.getD k 0 = x := ⟨_, rfl⟩
      have hcp : wr.cell? ⟨b, k, none⟩ = some (.int .u8 (x.toNat : Int)) := by
        have e1 : w2.cell? ⟨b, 0 + k, none⟩ = some (.int .u8 (x.toNat : Int)) := hrg k _ (by
          rw [← hx]
          simp [Lib.byteCells, hl20, hk0, List.getD_eq_getElem?_getD])
        rw [Nat.zero_add] at e1
        unfold World.cell? at e1 ⊢
        rw [hAt.block b (by omega)]
        exact e1
      have hst := arr_set hBk x (i := k)
      have hms := mix_step hl20 hk0
      rw [hx] at hms
      rw [hms] at hst
      have hat := hAt.trans (At1.set wr (w.heap.size + 1) k (.int .u8 (x.toNat : Int)))
      obtain ⟨hc1, hc2⟩ := hc0
      clear hms hBk hAt
      go_wp2
      go_roundw
      case rel => exact ⟨k + 1, by first | rfl | go_num, by omega, hat, hst⟩
      case measure => simp [intOf]; try omega
    · obtain rfl : k = 20 := by omega
      have hBk2 := hBk
      rw [mix_full hl20] at hBk2
      have hA3 : wr.heap[w.heap.size]? = some (.cells zc 24) := by rw [hAt.block _ (by omega)]; exact hA2
      have hBw := hAt.below hB2 (by omega)
      have hrd := range_arr hBk2
      have hth : wr.there w.heap.size 0 20 := there_all hA3 20 (Nat.le_refl _)
      have hst := setCells_all (w := wr.drew) (cells := (Lib.byteCells L).toArray) hA3 (by simp [hl20, Lib.byteCells_length]; rfl)
      have hat' : At1 w.heap.size wr.drew (wr.drew.setCells w.heap.size 0 (Lib.byteCells L)) := At1.sets wr.drew w.heap.size 0 (Lib.byteCells L)
      have hB3 := hat'.below hBw.drew (Nat.le_refl _)
      clear hBw hat' hAt hBk hBk2 hB2 hA2 hA3 hrg
      go_wp2_with fail
      have hu := Try.underlying24
      have hi : (Try.prog.info? 24).map (·.size) = some (Lib.byteCells L).length := by rw [info24, Lib.byteCells_length, hl20]
      have hlen : (Lib.byteCells L).length = 20 := by rw [Lib.byteCells_length, hl20]
      have hone : ∀ v ∈ Lib.byteCells L, v.oneCell' = true := by simp [Lib.byteCells, Value.oneCell']
      go_region_held (fun W => W.rangeAt (w.heap.size + 1) 0 (Lib.byteCells L) ∧ W.there w.heap.size 0 20) (go_keep_ranges) (fail)
      go_wp2
      have hl := load_arr hst hl20
      exact bodyPost_ret (results_cell2 rfl _ rfl hl) rfl ⟨rfl, hB3⟩

theorem refParse_bad (s : ByteArray) (w : World) (hs : s.size ≤ 140737488351232) (h : pathB s = false) :
    Calls Try.prog 15 #[.string s] w fun e w' => e = .returned (.tuple #[.agg zc, .string ⟨#[]⟩, .bool false]) ∧ Below w.heap.size w w' := by
  by_cases h1 : s.size < 34
  · exact refParse_short s w h1
  by_cases h2 : bt s 32 = 45
  · by_cases h3 : nameB (s.extract 33 s.size) = true
    · refine refParse_none s w h1 hs h2 h3 ?_
      have : (dec (s.extract 0 32).data.toList).isSome = false := by
        unfold pathB at h
        rw [decide_eq_true (show 34 ≤ s.size by omega), decide_eq_true h2, h3] at h
        simpa using h
      rw [decE, this]
      rfl
    · exact refParse_name s w h1 hs h2 (by simpa using h3)
  · exact refParse_dash s w h1 h2
theorem refParse_good (s : ByteArray) (w : World) (hs : s.size ≤ 140737488351232) (h : pathB s = true) :
    Calls Try.prog 15 #[.string s] w fun e w' => e = .returned (.tuple #[.agg (Lib.byteCells (decL (s.extract 0 32))).toArray, .string (s.extract 33 s.size), .bool true]) ∧ Below w.heap.size w w' := by
  have hl := pathB_len h
  unfold pathB at h
  simp only [Bool.and_eq_true, decide_eq_true_eq] at h
  obtain ⟨⟨⟨h1, h2⟩, h3⟩, h4⟩ := h
  exact refParse_some s w (by omega) hs h2 h3 (by rw [decE, h4]; rfl) _ rfl hl
end Go.Proofs.Ytigeljeoodhcoaa
