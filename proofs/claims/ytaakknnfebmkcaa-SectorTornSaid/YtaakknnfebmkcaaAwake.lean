/-
  The document's example: awake answers true.
-/
import Derived.Test.YtaakknnfebmkcaaWhole
import Derived.Lib.SlBytesConst
set_option linter.unusedVariables false
set_option linter.unusedSimpArgs false
namespace Go.Proofs.Ytaakknnfebmkcaa
open Go.RowKit Go.Proofs.YtaakknnfebmkcaaW.PrintWords

theorem Dev.below {w w' : World} {base b g n : Nat} {L : List UInt8} {wv : Value} {way : List (Nat × List UInt8)} {cnt arm : Int} {off : Bool} (h : Dev w base b g n L wv way cnt arm off) (hb : Below w.heap.size w w') : Dev w' base b g n L wv way cnt arm off :=
  ⟨blk_below h.dev hb, blk_below h.secs hb, h.len, h.bb, h.bg, own_move h.own (fun k hk => hb.block k (own_lt h.own k hk)), h.small, h.each⟩

set_option maxHeartbeats 400000 in
set_option maxRecDepth 100000 in
theorem len_any (b g n : Nat) (x1 x2 x3 x4 : Value) (w : World) (hd : w.heap[b]? = some (.cells #[.slice (some ⟨g, 0, none⟩) n n, x1, x2, x3, x4] 62 (0, 0))) :
    Calls Try.prog 22 #[.pointer (some ⟨b, 0, none⟩)] w fun e w' => e = .returned (.int .i64 n) ∧ w' = w := by
  obtain ⟨c0, _, _, _, _⟩ := dev_cells hd
  go_enter Try.func22, Try.ntmps22
  go_wp2
  go_ret
  exact ⟨rfl, rfl⟩

theorem c_lit (W : World) (l : List UInt8) (fz : Nat × Nat) (hl : l.length ≤ 1000) : Kd.C (Kd.int .u8) (W.alloc (.cells (Lib.byteCells l).toArray 5 fz)) (some ⟨W.heap.size, 0, none⟩) l.length (ints l) := by
  refine Kd.C_of_reads (d := 0) ⟨ints_length l, by omega, fun _ => ⟨_, rfl, fun j hj => ?_⟩⟩
  have e : (⟨W.heap.size, 0, none⟩ : Addr).add j = ⟨W.heap.size, j, none⟩ := add_plain _ _
  rw [e]
  have hh := alloc_at W (.cells (Lib.byteCells l).toArray 5 fz)
  rw [cell_of_row _ _ _ _ 5 fz hh]
  simp [Lib.byteCells, ints, hj, List.getD_eq_getElem?_getD]
theorem Kept.below' {w w' : World} {ks : Nat → Prop} (h : Kept w w' ks) {B : Nat} {u : World} (hb : Below B u w) (hk : ∀ k, ks k → B ≤ k) (hB : B ≤ w.heap.size) : Below B u w' := h.below hb hk hB

def exL : List UInt8 := pick (((restK ([] ++ [(0, wholeL [97, 98])]) 0 (cutN 1) [] (zb (2 * 256)) ([] ++ [(0, wholeL [97, 98])]).length).drop (0 * 256)).take 256) [] 0
theorem exL_two : exL.take 2 = [97, 0] := by decide +kernel
theorem two_cells {w : World} {b : Nat} {l : List UInt8} (h : w.heap[b]? = some (.cells (Lib.byteCells l).toArray 64 (0, 0))) (hl : l.take 2 = [97, 0]) : w.cell? ⟨b, 0, none⟩ = some (.int .u8 97) ∧ w.cell? ⟨b, 1, none⟩ = some (.int .u8 0) := by
  match l, hl with
  | a :: c :: r, hl =>
    simp at hl
    obtain ⟨rfl, rfl⟩ := hl
    constructor <;> rw [cell_of_row w b _ _ 64 (0, 0) h] <;> rfl

set_option maxHeartbeats 1000000 in
set_option maxRecDepth 100000 in
theorem awake_any (w : World) : Calls Try.prog 7 #[] w fun e w' => e = .returned (.bool true) ∧ Below w.heap.size w w' := by
  have kc := fun (W : World) (C : Array Value) (n c : Nat) => Lib.run_convert_bytes_const (P := Try.prog) W 22 5 C n c Try.underlying22 Try.underlying5
  go_enter Try.func7, Try.ntmps7
  go_wp2_with fail
  refine (new_in 2 w (by decide) (by decide)).mono ?_
  rintro e w1 ⟨b, g, rfl, hD, hb1⟩
  go_wp2_with fail
  have hw := whole_any (some ⟨w1.heap.size, 0, none⟩) 2 [97, 98] (w1.alloc (.cells (Lib.byteCells [97, 98]).toArray 5 (2, 3))) (c_lit w1 [97, 98] (2, 3) (by decide)) (by decide) (by decide)
  refine hw.mono ?_
  rintro e w2 ⟨pb, pc, rfl, ho, hrg, hb2⟩
  clear hw
  have hbA := (Below.refl w1.heap.size w1).alloc (Nat.le_refl _) (.cells (Lib.byteCells [97, 98]).toArray 5 (2, 3))
  have hb12 := hbA.trans (hb2.mono (by simp))
  have hD2 := hD.below hb12
  have HB2 := hb1.trans (hb12.mono hb1.size)
  have hpb : w1.heap.size ≤ pb := by have := own_base ho pb rfl; simp at this; omega
  have hpl := own_lt ho pb rfl
  have hbl := blk_lt hD.dev
  have hwr := write_on w.heap.size b g 2 _ _ [] 0 0 0 pb 0 pc (wholeL [97, 98]) w2 hD2 (by decide) (by decide) (by decide) (wholeL_length _) hrg (by omega) (by simp [Value.ownBlock]) hpl (by decide) HB2.size
  clear hbA hb12 hD hb2 ho
  have HW := Aside0.mk hwr
  clear hwr
  go_wp2_with fail
  refine HW.out.mono ?_
  rintro e w3 ⟨gg, cc, rfl, hD3, hk3, hg3⟩
  have HB3 : Below w.heap.size w w3 := hk3.below HB2 (fun k hk => by
    rcases hk with rfl | hk
    · exact hD2.bb
    · simp [Value.ownBlock] at hk) HB2.size
  have hrs := restart_any w.heap.size b g 2 _ _ cc ([] ++ [(0, wholeL [97, 98])]) 1 0 false none [] 0 0 1 w3 hD3 (by decide) (by decide) (fun h => by simp at h)
  have HR := Aside0.mk hrs
  clear hrs hrg hb1 hD2
  go_wp2_with fail
  refine HR.out.mono ?_
  rintro e w4 ⟨rfl, hD4, hk4⟩
  have HB4 : Below w.heap.size w w4 := hk4.below HB3 (fun k hk => by
    rcases hk with rfl | rfl
    · exact hD3.bg
    · exact hD3.bb) HB3.size
  have hrd := read_on w.heap.size b g 2 _ none 0 [] 1 0 0 w4 hD4 (by decide) (by decide)
  have HRD := Aside0.mk hrd
  clear hrd hk3 hk4 hD3
  go_wp2_with fail
  refine HRD.out.mono ?_
  rintro e w5 ⟨rfl, hp5, hb5⟩
  have HB5 := HB4.trans (hb5.mono HB4.size)
  have hD5 := hD4.below hb5
  obtain ⟨q0, q1⟩ := two_cells hp5 exL_two
  have HL := len_any b g 2 _ _ _ _ w5 hD5.dev
  clear hp5 hb5 hD4
  go_wp2_with fail
  refine HL.mono ?_
  rintro e w6 ⟨rfl, rfl⟩
  go_wp2
  go_ret
  exact ⟨by first | rfl | (go_simp; done), HB5⟩
end Go.Proofs.Ytaakknnfebmkcaa
