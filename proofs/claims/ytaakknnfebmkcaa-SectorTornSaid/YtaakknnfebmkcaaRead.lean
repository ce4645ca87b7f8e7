/-
  Read: a sector's bytes.
-/
import Derived.Test.YtaakknnfebmkcaaWriteOn
set_option linter.unusedVariables false
set_option linter.unusedSimpArgs false
namespace Go.Proofs.Ytaakknnfebmkcaa
open Go.RowKit Go.Proofs.YtaakknnfebmkcaaW.PrintWords

theorem one_arr (d : List UInt8) : (Lib.byteCells d).toArray.all (·.oneCell') = true := by
  simp [Lib.byteCells, Value.oneCell']

set_option maxHeartbeats 400000 in
set_option maxRecDepth 100000 in
theorem read_nil (i : Int) (w : World) : Calls Try.prog 13 #[.pointer none, .int .i64 i] w fun e w' => e = .returned (.tuple #[.slice none 0 0, .int .i64 6]) ∧ w' = w := by
  go_enter Try.func13, Try.ntmps13
  go_wp2_with fail
  refine (look_nil i w).mono ?_
  rintro e w1 ⟨rfl, rfl⟩
  go_wp2
  go_ret2
  exact ⟨rfl, rfl⟩

set_option maxHeartbeats 400000 in
set_option maxRecDepth 100000 in
theorem read_out (b g n : Nat) (x1 x2 x3 x4 : Value) (i : Int) (w : World) (hd : w.heap[b]? = some (.cells #[.slice (some ⟨g, 0, none⟩) n n, x1, x2, x3, x4] 62 (0, 0))) (hi : ¬ (0 ≤ i ∧ i < n)) :
    Calls Try.prog 13 #[.pointer (some ⟨b, 0, none⟩), .int .i64 i] w fun e w' => e = .returned (.tuple #[.slice none 0 0, .int .i64 1]) ∧ w' = w := by
  have hx := look_any b g n x1 x2 x3 x4 i w hd
  rw [if_neg hi] at hx
  go_enter Try.func13, Try.ntmps13
  go_wp2_with fail
  refine hx.mono ?_
  rintro e w1 ⟨rfl, rfl⟩
  go_wp2
  go_ret2
  exact ⟨rfl, rfl⟩

theorem load_sec {w : World} {base b g n : Nat} {L : List UInt8} {wv : Value} {way : List (Nat × List UInt8)} {cnt arm : Int} {off : Bool} (hD : Dev w base b g n L wv way cnt arm off) {i : Nat} (hi : i < n) :
    w.rangeAt g (i * 256) (Lib.byteCells ((L.drop (i * 256)).take 256)) := fun j v hv => by
  rw [cell_of_row w g _ _ 64 (0, 0) hD.secs]
  have hl := hD.len
  have : j < 256 := by
    have := (List.getElem?_eq_some_iff.1 hv).1
    rw [Lib.byteCells_length, List.length_take] at this
    omega
  simp [Lib.byteCells, List.getElem?_take, this, List.getElem?_drop] at hv ⊢
  exact hv
theorem info64s : (Try.prog.info? 64).map (·.size) = some 256 := by kernel_rfl
theorem info66s : (Try.prog.info? 66).map (·.size) = some 257 := by kernel_rfl
theorem zero64 : ∃ Z : Array Value, Z.size = 256 ∧ ∀ W, (zeroValue 64).run Try.prog W = .ok (.agg Z) W := by
  have hi := info64
  cases h : Try.prog.info? 64 with
  | none => rw [h] at hi; cases hi
  | some it =>
    rw [h] at hi
    simp only [Option.map_some, Option.some.injEq, Prod.mk.injEq] at hi
    obtain ⟨hz, _, _⟩ := hi
    refine ⟨(Lib.byteCells (zb 256)).toArray, ?_, fun W => by simp [zeroValue, typeInfo, Sem.run_bind, h, hz, Result.andThen]⟩
    rw [List.size_toArray, Lib.byteCells_length]
    exact List.length_replicate
theorem one_w (i : Nat) (d : List UInt8) : (wcells i d).toArray.all (·.oneCell') = true := by
  simp [wcells, Lib.byteCells, Value.oneCell']
/-- The bytes of the last write at i, or what was there. -/
def pick (s0 : List UInt8) (ws : List (Nat × List UInt8)) (i : Nat) : List UInt8 := ws.foldl (fun s q => if q.1 = i then q.2 else s) s0
theorem pick_succ (s0 : List UInt8) (way : List (Nat × List UInt8)) (i k : Nat) (hk : k < way.length) : pick s0 (way.take (k + 1)) i = if way[k].1 = i then way[k].2 else pick s0 (way.take k) i := by
  rw [List.take_succ_eq_append_getElem hk, pick, List.foldl_append]
  rfl
theorem pick_length {s0 : List UInt8} {way : List (Nat × List UInt8)} {i : Nat} (h0 : s0.length = 256) (hw : ∀ q ∈ way, q.2.length = 256) : (pick s0 way i).length = 256 := by
  induction way generalizing s0 with
  | nil => exact h0
  | cons a l ih =>
    rw [pick, List.foldl_cons]
    refine ih (s0 := if a.1 = i then a.2 else s0) ?_ (fun q hq => hw q (List.mem_cons_of_mem _ hq))
    split
    · exact hw a (List.mem_cons_self ..)
    · exact h0
theorem way_part (way : List (Nat × List UInt8)) (hw : ∀ q ∈ way, q.2.length = 256) (k : Nat) (hk : k < way.length) (j : Nat) (hj : j < 257) : (wayCells way)[k * 257 + j]? = (wcells way[k].1 way[k].2)[j]? := by
  induction way generalizing k with
  | nil => cases hk
  | cons a l ih =>
    have ha : (wcells a.1 a.2).length = 257 := by rw [wcells_length, hw a (List.mem_cons_self ..)]
    have e : wayCells (a :: l) = wcells a.1 a.2 ++ wayCells l := rfl
    rw [e]
    cases k with
    | zero =>
      rw [List.getElem?_append_left (by omega), Nat.zero_mul, Nat.zero_add]
      rfl
    | succ k =>
      rw [List.getElem?_append_right (by omega), ha]
      have := ih (fun q hq => hw q (List.mem_cons_of_mem _ hq)) k (by simpa using hk)
      rw [show (k + 1) * 257 + j - 257 = k * 257 + j by omega, this]
      rfl
theorem way_at {w : World} {base c : Nat} {A : Option Addr} {way : List (Nat × List UInt8)} (ho : w.ownsRow base 66 257 (.slice A way.length c) way.length (wayCells way)) (hw : ∀ q ∈ way, q.2.length = 256) (k : Nat) (hk : k < way.length) :
    ∃ wg, A = some ⟨wg, 0, none⟩ ∧ wg < w.heap.size ∧ base ≤ wg ∧ w.rangeAt wg (k * 257) (wcells way[k].1 way[k].2) := by
  rcases ho.2 with ⟨_, h1⟩ | ⟨g, cap, cur, he, hg, hb, _, _, hs, ht⟩
  · omega
  · injection he with e1 e2 e3
    refine ⟨g, e1, (Array.getElem?_eq_some_iff.1 hb).1, hg, fun j v hv => ?_⟩
    rw [cell_of_row w g _ _ _ (0, 0) hb]
    have hj : j < 257 := by
      have := (List.getElem?_eq_some_iff.1 hv).1
      rw [wcells_length, hw _ (List.getElem_mem hk)] at this
      omega
    rw [← way_part way hw k hk j hj, ← ht, List.getElem?_take] at hv
    split at hv
    · simpa using hv
    · cases hv
theorem range_below {w w' : World} {b o : Nat} {cs : List Value} (h : w.rangeAt b o cs) (hb : Below w.heap.size w w') (hl : b < w.heap.size) : w'.rangeAt b o cs := fun j v hv => by
  have := h j v hv
  unfold World.cell? at this ⊢
  rw [hb.block b hl]
  exact this
theorem range_blk {W : World} {b o : Nat} {cs : Array Value} {ds : List Value} {t : TypeId} (hb : W.heap[b]? = some (.cells cs t (0, 0))) (h : ∀ j v, ds[j]? = some v → cs[o + j]? = some v) : W.rangeAt b o ds := fun j v hv => by
  rw [cell_of_row W b (o + j) _ t (0, 0) hb]
  exact h j v hv

set_option maxHeartbeats 400000 in
set_option maxRecDepth 100000 in
theorem read_on (base b g n : Nat) (L : List UInt8) (A : Option Addr) (wc : Nat) (way : List (Nat × List UInt8)) (cnt arm : Int) (i : Nat) (w : World) (hD : Dev w base b g n L (.slice A way.length wc) way cnt arm false) (hi : i < n) (hway : way.length ≤ 1000000) :
    Calls Try.prog 13 #[.pointer (some ⟨b, 0, none⟩), .int .i64 i] w fun e w' => e = .returned (.tuple #[.slice (some ⟨w.heap.size, 0, none⟩) 256 256, .int .i64 0]) ∧ w'.heap[w.heap.size]? = some (.cells (Lib.byteCells (pick ((L.drop (i * 256)).take 256) way i)).toArray 64 (0, 0)) ∧ Below w.heap.size w w' := by
  have hd := hD.dev
  have hx := look_any b g n _ _ _ _ i w hd
  rw [if_pos (by omega)] at hx
  obtain ⟨c0, c1, _, _, c4⟩ := dev_cells hd
  have hr := load_sec hD hi
  have hlen : ((L.drop (i * 256)).take 256).length = 256 := by
    rw [List.length_take, List.length_drop, hD.len]
    have : i * 256 + 256 ≤ n * 256 := by omega
    omega
  generalize (L.drop (i * 256)).take 256 = s0 at hr hlen ⊢
  have hlb : (Lib.byteCells s0).length = 256 := by rw [Lib.byteCells_length, hlen]
  have hi64 : (Try.prog.info? 64).map (·.size) = some (Lib.byteCells s0).length := by rw [info64s, hlb]
  have HW : Aside0 (∀ q ∈ way, q.2.length = 256) := ⟨fun q hq => (hD.each q hq).2⟩
  have HO := Aside0.mk hD.own
  have HLB := Aside0.mk hlb
  have HLEN := Aside0.mk hlen
  have HI64 := Aside0.mk hi64
  obtain ⟨Z4, hZ4, hz4⟩ := zero64
  obtain ⟨Z6, hZ6, hz6, _⟩ := zero66
  have HZ4 : Aside0 (Z4.size = (Lib.byteCells s0).toArray.size) := ⟨by rw [hZ4, List.size_toArray, hlb]⟩
  have HS4 : Aside0 ((Try.prog.info? 64).map (·.size) = some (Lib.byteCells s0).toArray.size) := ⟨by rw [info64s, List.size_toArray, hlb]⟩
  have HZ6 := Aside0.mk hZ6
  clear hD hd hlb hi64 hZ4 hZ6 hlen
  go_enter Try.func13, Try.ntmps13
  go_wp2_with fail
  refine hx.mono ?_
  rintro e w1 ⟨rfl, rfl⟩
  go_wp2_with (first
    | (refine wpList_load_mid rfl 64 _ rfl g (i * 256) rfl (Lib.byteCells s0) _ hr Try.underlying64 rfl HI64.out ?_)
    | (refine wpList_store_whole rfl 64 (.tmp 7) _ rfl w1.heap.size (Lib.byteCells s0).toArray Z4 64 rfl rfl (alloc_at w1 (.cells Z4 64)) HZ4.out HS4.out (one_arr s0) ?_))
  intro W hW hAW
  have HBW := hAW.below ((Below.refl _ w1).alloc (Nat.le_refl _) (.cells Z4 64)) (Nat.le_refl _)
  have cw : W.cell? ⟨b, 1, none⟩ = _ := (HBW.cell (by have := World.block_lt_of_cell? w1 _ c1; exact this)).trans c1
  clear hAW c0 c4 hr hx
  go_wp2_with fail
  go_loopw [32] (fun x wr => ∃ k : Nat, x = .int .i64 k ∧ k ≤ way.length ∧ Below w1.heap.size w1 wr ∧ wr.heap[w1.heap.size]? = some (.cells (Lib.byteCells (pick s0 (way.take k) i)).toArray 64 (0, 0))) (fun x _ => (way.length - (intOf x).toNat))
  case atStart => exact ⟨0, by first | rfl | go_num, Nat.zero_le _, HBW, hW⟩
  case round =>
    clear hW HBW cw c1
    obtain ⟨k, rfl, hk, hB, hR⟩ := hrel
    by_cases hk0 : k < way.length
    · obtain ⟨wg, hA, hwl, _, hrg⟩ := way_at HO.out HW.out k hk0
      subst hA
      have hps := pick_succ s0 way i k hk0
      have hq2 := HW.out _ (List.getElem_mem hk0)
      generalize way[k] = q at hrg hps hq2
      obtain ⟨qa, qp⟩ := q
      simp only at hrg hps hq2
      have hrg2 := range_below hrg hB hwl
      have hwc : Aside0 ((wcells qa qp).length = 257) := ⟨by rw [wcells_length, hq2]⟩
      have hZW : Aside0 (Z6.size = (wcells qa qp).toArray.size) := ⟨by rw [HZ6.out, List.size_toArray, hwc.out]⟩
      have hIW : Aside0 ((Try.prog.info? 66).map (·.size) = some (wcells qa qp).toArray.size) := ⟨by rw [info66s, List.size_toArray, hwc.out]⟩
      have hIL : Aside0 ((Try.prog.info? 66).map (·.size) = some (wcells qa qp).length) := ⟨by rw [info66s, hwc.out]⟩
      have hPB : Aside0 ((Lib.byteCells qp).length = 256) := ⟨by rw [Lib.byteCells_length, hq2]⟩
      have HPS := Aside0.mk hps
      clear hps hrg hwl
      go_wp2_with (first
        | (refine wpList_load_mid rfl 66 _ rfl wg (k * 257) rfl (wcells qa qp) _ hrg2 Try.underlying66 rfl hIL.out ?_)
        | (refine wpList_store_whole rfl 66 _ _ rfl wr.heap.size (wcells qa qp).toArray Z6 66 rfl rfl (alloc_at wr (.cells Z6 66)) hZW.out hIW.out (one_w qa qp) ?_))
      intro W3 hW3 hA3
      have hlw : w1.heap.size < wr.heap.size := blk_lt hR
      have hB3 := hA3.below (hB.alloc hB.size (.cells Z6 66)) hB.size
      have hR3 : W3.heap[w1.heap.size]? = _ := (hA3.block _ (by omega)).trans (alloc_far hR (.cells Z6 66))
      have cq : W3.cell? ⟨wr.heap.size, 0, none⟩ = some (.int .i64 (qa : Int)) := by
        rw [cell_of_row W3 _ _ _ 66 (0, 0) hW3]
        rfl
      have hrq : W3.rangeAt wr.heap.size 1 (Lib.byteCells qp) := range_blk hW3 (fun j v hv => by
        rw [show (wcells qa qp).toArray[1 + j]? = (wcells qa qp)[1 + j]? by simp, Nat.add_comm]
        exact hv)
      clear hW3 hA3 hR hB hrg2
      by_cases he : qa = i
      · subst he
        have hps := HPS.out
        rw [if_pos rfl] at hps
        have hi4 : Aside0 ((Try.prog.info? 64).map (·.size) = some (Lib.byteCells qp).length) := ⟨by rw [info64s, hPB.out]⟩
        have hi5 : Aside0 ((Try.prog.info? 64).map (·.size) = some (Lib.byteCells qp).toArray.size) := ⟨by rw [info64s, List.size_toArray, hPB.out]⟩
        have hpl : (pick s0 (way.take k) qa).length = 256 := pick_length HLEN.out (fun q hq => HW.out q (List.mem_of_mem_take hq))
        have hsz : Aside0 ((Lib.byteCells (pick s0 (way.take k) qa)).toArray.size = (Lib.byteCells qp).toArray.size) := ⟨by rw [List.size_toArray, List.size_toArray, hPB.out, Lib.byteCells_length, hpl]⟩
        clear hpl
        have HPS2 := Aside0.mk hps
        clear hps
        go_wp2_with (first
          | (refine wpList_load_mid rfl 64 _ rfl wr.heap.size 1 rfl (Lib.byteCells qp) _ hrq Try.underlying64 rfl hi4.out ?_)
          | (refine wpList_store_whole rfl 64 (.tmp 7) _ rfl w1.heap.size (Lib.byteCells qp).toArray _ 64 rfl rfl hR3 hsz.out hi5.out (one_arr qp) ?_))
        intro W4 hW4 hA4
        have hB4 := hA4.below hB3 (Nat.le_refl _)
        go_wp2
        go_roundw
        case rel => exact ⟨k + 1, by first | rfl | go_num, hk0, hB4, by rw [HPS2.out]; exact hW4⟩
        case measure => simp [intOf]; try omega
      · have hps := HPS.out
        rw [if_neg he] at hps
        have HPS2 := Aside0.mk hps
        have he' : (qa : Int) ≠ (i : Int) := by omega
        clear hps
        go_wp2
        go_roundw
        case rel => exact ⟨k + 1, by first | rfl | go_num, hk0, hB3, by rw [HPS2.out]; exact hR3⟩
        case measure => simp [intOf]; try omega
    · obtain rfl : k = way.length := by omega
      rw [List.take_length] at hR
      go_wp2
      go_ret2
      exact ⟨rfl, hR, hB⟩
end Go.Proofs.Ytaakknnfebmkcaa
