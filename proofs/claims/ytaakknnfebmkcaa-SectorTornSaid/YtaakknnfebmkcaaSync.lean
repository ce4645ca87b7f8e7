/-
  Sync: all writes are durable.
-/
import Derived.Test.YtaakknnfebmkcaaSectorErrsLaw
set_option linter.unusedVariables false
set_option linter.unusedSimpArgs false
namespace Go.Proofs.Ytaakknnfebmkcaa
open Go.RowKit Go.Proofs.YtaakknnfebmkcaaW.PrintWords

/-- The sectors' bytes, the first k writes done. -/
def syncK (way : List (Nat × List UInt8)) (L : List UInt8) : Nat → List UInt8
  | 0 => L
  | k + 1 => splice (syncK way L k) ((way.getD k (0, [])).1 * 256) (way.getD k (0, [])).2

set_option maxHeartbeats 1000000 in
set_option maxRecDepth 100000 in
theorem sync_on (base b g n : Nat) (L : List UInt8) (A : Option Addr) (wc : Nat) (way : List (Nat × List UInt8)) (cnt arm : Int) (w : World) (hD : Dev w base b g n L (.slice A way.length wc) way cnt arm false) (hway : way.length ≤ 1000000) (h0 : 0 ≤ cnt) (h1 : cnt ≤ 1000000000000) (hoff : offB cnt arm false = false) :
    Calls Try.prog 11 #[.pointer (some ⟨b, 0, none⟩)] w fun e w' => e = .returned (.int .i64 0) ∧ Dev w' base b g n (syncK way L way.length) (.slice none 0 0) [] (cnt + 1) arm false ∧ Kept w w' (fun k => k = g ∨ k = b) := by
  have hd := hD.dev
  have hbeg := begin_any b (.slice (some ⟨g, 0, none⟩) n n) (.slice A way.length wc) cnt arm false w hd h0 h1
  rw [hoff] at hbeg
  obtain ⟨c0, c1, c2, c3, c4⟩ := dev_cells hd
  obtain ⟨Z6, hZ6, hz6, _⟩ := zero66
  have HZ6 := Aside0.mk hZ6
  have HD := Aside0.mk hD
  have hgb : g ≠ b := fun e => by have := hD.secs; rw [e, hD.dev] at this; simp at this
  have HGB := Aside0.mk hgb
  have HBEG := Aside0.mk hbeg
  clear hD hZ6 hgb hd hbeg c0 c1 c2 c3
  go_enter Try.func11, Try.ntmps11
  go_wp2_with fail
  refine HBEG.out.mono ?_
  rintro e w1 ⟨rfl, hd1, ha1⟩
  obtain ⟨c0, c1, _, _, _⟩ := dev_cells hd1
  have HDEV := Aside0.mk hd1
  have C0 := Aside0.mk c0
  have hk1 : Kept w w1 (fun k => k = g ∨ k = b) := (Kept.refl w _).at1 ha1 (.inl (.inr rfl))
  have hs1 : w1.heap[g]? = some (.cells (Lib.byteCells L).toArray 64 (0, 0)) := (ha1.block g HGB.out).trans HD.out.secs
  clear c4 hd1 ha1 c0
  go_wp2_with fail
  have hown1 : w1.ownsRow base 66 257 (.slice A way.length wc) way.length (wayCells way) := own_move HD.out.own (fun k hk => hk1.block k (own_lt HD.out.own k hk) (fun e => by
    rcases e with rfl | rfl
    · exact own_ne HD.out.own HD.out.secs (by decide) hk.symm
    · exact own_ne HD.out.own HD.out.dev (by decide) hk.symm))
  have HO := Aside0.mk hown1
  have HS1 := Aside0.mk hs1
  clear hown1 c1 hs1
  go_loopw [21] (fun x wr => ∃ k : Nat, x = .int .i64 k ∧ k ≤ way.length ∧ Kept w1 wr (fun k => k = g) ∧ wr.heap[g]? = some (.cells (Lib.byteCells (syncK way L k)).toArray 64 (0, 0)) ∧ Aside0 ((syncK way L k).length = n * 256)) (fun x _ => (way.length - (intOf x).toNat))
  case atStart => exact ⟨0, by first | rfl | go_num, Nat.zero_le _, Kept.refl _ _, HS1.out, ⟨HD.out.len⟩⟩
  case round =>
    obtain ⟨k, rfl, hk, hB, hR, hRL⟩ := hrel
    by_cases hk0 : k < way.length
    · have hHW : ∀ q ∈ way, q.2.length = 256 := fun q hq => (HD.out.each q hq).2
      obtain ⟨wg, hA, hwl, _, hrg⟩ := way_at HO.out hHW k hk0
      subst hA
      have hwg : wg ≠ g := fun e => own_ne HO.out HS1.out (by decide) (by simp [Value.ownBlock, e])
      have hq2 := HD.out.each _ (List.getElem_mem hk0)
      have hgd : way.getD k (0, []) = way[k] := by simp [List.getD_eq_getElem?_getD, hk0]
      have HRK : Aside0 (syncK way L (k + 1) = _) := ⟨syncK.eq_2 way L k⟩
      rw [hgd] at HRK
      generalize way[k] = q at hrg hq2 HRK
      obtain ⟨qa, qp⟩ := q
      simp only at hrg hq2 HRK
      obtain ⟨hqn, hq2⟩ := hq2
      have hrg2 := hB.range hrg hwl hwg
      have hwc : Aside0 ((wcells qa qp).length = 257) := ⟨by rw [wcells_length, hq2]⟩
      have hZW : Aside0 (Z6.size = (wcells qa qp).toArray.size) := ⟨by rw [HZ6.out, List.size_toArray, hwc.out]⟩
      have hIW : Aside0 ((Try.prog.info? 66).map (·.size) = some (wcells qa qp).toArray.size) := ⟨by rw [info66s, List.size_toArray, hwc.out]⟩
      have hIL : Aside0 ((Try.prog.info? 66).map (·.size) = some (wcells qa qp).length) := ⟨by rw [info66s, hwc.out]⟩
      have hPB : Aside0 ((Lib.byteCells qp).length = 256) := ⟨by rw [Lib.byteCells_length, hq2]⟩
      have HQ2 := Aside0.mk hq2
      clear hrg hHW hgd hq2
      go_wp2_with (first
        | (refine wpList_load_mid rfl 66 _ rfl wg (k * 257) rfl (wcells qa qp) _ hrg2 Try.underlying66 rfl hIL.out ?_)
        | (refine wpList_store_whole rfl 66 _ _ rfl wr.heap.size (wcells qa qp).toArray Z6 66 rfl rfl (alloc_at wr (.cells Z6 66)) hZW.out hIW.out (one_w qa qp) ?_))
      intro W3 hW3 hA3
      have hbw := hB.size
      have hglt : g < wr.heap.size := blk_lt hR
      have hB3 := (hB.alloc (.cells Z6 66)).at1 hA3 (.inr hbw)
      have hR3 : W3.heap[g]? = _ := (hA3.block _ (by omega)).trans (alloc_far hR (.cells Z6 66))
      have cq : W3.cell? ⟨wr.heap.size, 0, none⟩ = some (.int .i64 (qa : Int)) := by
        rw [cell_of_row W3 _ _ _ 66 (0, 0) hW3]
        rfl
      have hrq : W3.rangeAt wr.heap.size 1 (Lib.byteCells qp) := range_blk hW3 (fun j v hv => by
        rw [show (wcells qa qp).toArray[1 + j]? = (wcells qa qp)[1 + j]? by simp, Nat.add_comm]
        exact hv)
      have c0 := hB3.cell C0.out (fun e => HGB.out e.symm)
      have HBW := Aside0.mk hbw
      clear hW3 hA3 hR hB hrg2 hbw
      have hMl := hRL.out
      have hfit : qa * 256 + 256 ≤ (syncK way L k).length := by
        have : qa * 256 + 256 ≤ n * 256 := by omega
        omega
      generalize syncK way L k = M at hR3 hRL HRK hMl hfit
      have hwbg : wr.heap.size ≠ g := by omega
      have hi : (Try.prog.info? 64).map (·.size) = some (Lib.byteCells qp).length := by rw [info64s, hPB.out]
      have hlen := hPB.out
      have hth : W3.there g (qa * 256) 256 := fun j hj => by
        constructor
        · rw [cell_of_row W3 g _ _ 64 (0, 0) hR3]
          simp [Lib.byteCells]; omega
        · simp [World.frozen?, hR3]
      have ha4 := At1.sets W3.drew g (qa * 256) (Lib.byteCells qp)
      have s1 : (W3.drew.setCells g (qa * 256) (Lib.byteCells qp)).cell? ⟨b, 0, none⟩ = some (.slice (some ⟨g, 0, none⟩) n n) := (World.cell?_of_block (ha4.block b (fun e => HGB.out e.symm))).trans c0
      have s2 : (W3.drew.setCells g (qa * 256) (Lib.byteCells qp)).cell? ⟨wr.heap.size, 0, none⟩ = some (.int .i64 (qa : Int)) := (World.cell?_of_block (ha4.block _ hwbg)).trans cq
      have s3 : (W3.drew.setCells g (qa * 256) (Lib.byteCells qp)).rangeAt wr.heap.size 1 (Lib.byteCells qp) := World.rangeAt_setCells_apart (w := W3.drew) hrq _ _ _ (.inl hwbg)
      have s4 : (W3.drew.setCells g (qa * 256) (Lib.byteCells qp)).there g (qa * 256) 256 := World.there_setCells (w := W3.drew) hth _ _ _
      have hg4 := setCells_splice (w := W3.drew) (o := qa * 256) (vs := Lib.byteCells qp) hR3 (by rw [hPB.out, Lib.byteCells_length]; exact hfit)
      rw [splice_bytes, ← HRK.out] at hg4
      have hB4 := hB3.drew.at1 ha4 (.inl rfl)
      have hL4 : Aside0 ((syncK way L (k + 1)).length = n * 256) := ⟨by rw [HRK.out, length_splice _ _ _ (by rw [HQ2.out]; exact hfit)]; exact hMl⟩
      have HG4 := Aside0.mk hg4
      have hone := one_mem qp
      have hu := Try.underlying64
      clear hg4 hR3 hRL hMl hfit ha4
      go_wp2_with fail
      go_region_held (fun W => W.cell? ⟨b, 0, none⟩ = some (.slice (some ⟨g, 0, none⟩) n n) ∧ W.cell? ⟨wr.heap.size, 0, none⟩ = some (.int .i64 (qa : Int)) ∧ W.rangeAt wr.heap.size 1 (Lib.byteCells qp) ∧ W.there g (qa * 256) 256)
        (first | exact ⟨c0, cq, hrq, hth⟩ | exact ⟨s1, s2, s3, s4⟩) (fail)
      go_wp2
      go_roundw
      case rel => exact ⟨k + 1, by first | rfl | go_num, hk0, hB4, HG4.out, hL4⟩
      case measure => simp [intOf]; try omega
    · obtain rfl : k = way.length := by omega
      have hdw : wr.heap[b]? = _ := (hB.block b (blk_lt HDEV.out) (fun e => HGB.out e.symm)).trans HDEV.out
      obtain ⟨_, e1, _, _, _⟩ := dev_cells hdw
      have z1 := dev_thaw (o := 1) hdw
      have HDW := Aside0.mk hdw
      have HR := Aside0.mk hR
      clear hR hdw
      go_wp2
      go_ret
      have d1 := dev_set _ HDW.out 1 (.slice none 0 0)
      have k1 := At1.set wr b 1 (.slice none 0 0)
      refine ⟨rfl, ⟨d1, (k1.block g HGB.out).trans HR.out, hRL.out, HD.out.bb, HD.out.bg, own_nil _ _ _ _, HD.out.small, fun q hq => by cases hq⟩, ?_⟩
      have hk2 : Kept w wr (fun k => k = g ∨ k = b) := ⟨hB.os.trans hk1.os, hB.tape.trans hk1.tape, hB.output.trans hk1.output, Nat.le_trans hk1.size hB.size, fun i hi hn => (hB.block i (Nat.lt_of_lt_of_le hi hk1.size) (fun e => hn (.inl e))).trans (hk1.block i hi hn)⟩
      exact hk2.at1 k1 (.inl (.inr rfl))
end Go.Proofs.Ytaakknnfebmkcaa
