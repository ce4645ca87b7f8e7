/-
  RestartAny: of the writes that were on their way these are done, and one of them only with its first bytes.
-/
import Derived.Test.YtaakknnfebmkcaaRestart
import Derived.Deep.RegionHeld
set_option linter.unusedVariables false
set_option linter.unusedSimpArgs false
namespace Go.Proofs.Ytaakknnfebmkcaa
open Go.RowKit Go.Proofs.YtaakknnfebmkcaaW.PrintWords

def cutN (cut : Int) : Nat := (min (max cut 0) 256).toNat
/-- The sectors' bytes, the first k writes looked at. -/
def restK (way : List (Nat × List UInt8)) (torn : Int) (cut : Nat) (ks : List Bool) (L : List UInt8) : Nat → List UInt8
  | 0 => L
  | k + 1 => if (k : Int) = torn then splice (restK way torn cut ks L k) ((way.getD k (0, [])).1 * 256) ((way.getD k (0, [])).2.take cut)
    else if ks.getD k false = true then splice (restK way torn cut ks L k) ((way.getD k (0, [])).1 * 256) (way.getD k (0, [])).2
    else restK way torn cut ks L k

theorem Kept.refl (w : World) (ks : Nat → Prop) : Kept w w ks := ⟨rfl, rfl, rfl, Nat.le_refl _, fun _ _ _ => rfl⟩
theorem Kept.alloc {u w : World} {ks : Nat → Prop} (h : Kept u w ks) (o : Obj) : Kept u (w.alloc o) ks :=
  ⟨h.os, h.tape, h.output, by have := h.size; simp; omega, fun k hk hn => (Below.heap_alloc w o k (by have := h.size; omega)).trans (h.block k hk hn)⟩
theorem Kept.at1 {u v w : World} {ks : Nat → Prop} {b : Nat} (h : Kept u v ks) (k : At1 b v w) (hb : ks b ∨ u.heap.size ≤ b) : Kept u w ks :=
  ⟨k.os.trans h.os, k.tape.trans h.tape, k.output.trans h.output, by rw [k.size]; exact h.size, fun i hi hn => (k.block i (fun e => by
    rcases hb with hb | hb
    · exact hn (e ▸ hb)
    · omega)).trans (h.block i hi hn)⟩
theorem Kept.range {u w : World} {ks : Nat → Prop} (h : Kept u w ks) {b o : Nat} {cs : List Value} (hr : u.rangeAt b o cs) (hl : b < u.heap.size) (hn : ¬ ks b) : w.rangeAt b o cs := fun j v hv => by
  have := hr j v hv
  unfold World.cell? at this ⊢
  rw [h.block b hl hn]
  exact this
theorem Kept.cell {u w : World} {ks : Nat → Prop} (h : Kept u w ks) {a : Addr} {v : Value} (hc : u.cell? a = some v) (hn : ¬ ks a.block) : w.cell? a = some v := by
  have hl := World.block_lt_of_cell? u _ hc
  exact (World.cell?_of_block (h.block a.block hl hn)).trans hc

theorem Kept.drew {u w : World} {ks : Nat → Prop} (h : Kept u w ks) : Kept u w.drew ks := ⟨h.os, h.tape, h.output, h.size, h.block⟩
theorem splice_bytes (M : List UInt8) (o : Nat) (x : List UInt8) : splice (Lib.byteCells M) o (Lib.byteCells x) = Lib.byteCells (splice M o x) := by
  simp [splice, Lib.byteCells, List.map_take, List.map_drop]
theorem one_mem (d : List UInt8) : ∀ v ∈ Lib.byteCells d, v.oneCell' = true := by simp [Lib.byteCells, Value.oneCell']
theorem info5s : (Try.prog.info? 5).map (·.size) = some 1 := by kernel_rfl
theorem cut_if (cut : Int) : (if 256 < (if cut < 0 then 0 else cut) then 256 else if cut < 0 then 0 else cut) = ((cutN cut : Nat) : Int) := by
  unfold cutN
  split <;> split at * <;> omega
theorem cut_le (cut : Int) : cutN cut ≤ 256 := by unfold cutN; omega

theorem addr_block (a : Addr) (n : Nat) : (a.add n).block = a.block := by unfold Addr.add; split <;> rfl
theorem setCells_splice {w : World} {g o : Nat} {cur vs : List Value} {t : TypeId} (hg : w.heap[g]? = some (.cells cur.toArray t (0, 0))) (hl : o + vs.length ≤ cur.length) : (w.setCells g o vs).heap[g]? = some (.cells (splice cur o vs).toArray t (0, 0)) := by
  obtain ⟨cur', h1, _, h3⟩ := setCells_row vs o w cur.toArray hg (by simpa using hl)
  rw [h1]
  congr 2
  apply Array.toList_inj.1
  rw [h3]
  simp [splice]

set_option maxHeartbeats 1000000 in
set_option maxRecDepth 100000 in
theorem restart_any (base b g n : Nat) (L : List UInt8) (A : Option Addr) (wc : Nat) (way : List (Nat × List UInt8)) (cnt arm : Int) (off : Bool) (KA : Option Addr) (ks : List Bool) (kc : Nat) (torn cut : Int) (w : World) (hD : Dev w base b g n L (.slice A way.length wc) way cnt arm off) (hway : way.length ≤ 1000000)
    (hks : ks.length ≤ 1000000000) (hkr : 0 < ks.length → ∃ ad, KA = some ad ∧ ad.block ≠ g ∧ ∀ j, j < ks.length → w.cell? (ad.add j) = some (.bool (ks.getD j false))) :
    Calls Try.prog 12 #[.pointer (some ⟨b, 0, none⟩), .slice KA ks.length kc, .int .i64 torn, .int .i64 cut] w fun e w' => e = .returned (.int .i64 0) ∧ Dev w' base b g n (restK way torn (cutN cut) ks L way.length) (.slice none 0 0) [] cnt 0 false ∧ Kept w w' (fun k => k = g ∨ k = b) := by
  have hd := hD.dev
  obtain ⟨c0, c1, c2, c3, c4⟩ := dev_cells hd
  obtain ⟨Z6, hZ6, hz6, _⟩ := zero66
  have HZ6 := Aside0.mk hZ6
  have HD := Aside0.mk hD
  have HK := Aside0.mk hkr
  have hgb : g ≠ b := fun e => by have := hD.secs; rw [e, hD.dev] at this; simp at this
  have HGB := Aside0.mk hgb
  have C0 := Aside0.mk c0
  have HDEV := Aside0.mk hd
  clear hD hkr hZ6 hgb hd
  have hm := cut_if cut
  have hm9 := cut_le cut
  generalize cutN cut = m at hm hm9 ⊢
  go_enter Try.func12, Try.ntmps12
  go_wp2_with fail
  clear c0 c1 c2 c3 c4
  go_loopw [18] (fun x wr => ∃ k : Nat, x = .int .i64 k ∧ k ≤ way.length ∧ Kept w wr (fun k => k = g) ∧ wr.heap[g]? = some (.cells (Lib.byteCells (restK way torn m ks L k)).toArray 64 (0, 0)) ∧ Aside0 ((restK way torn m ks L k).length = n * 256)) (fun x _ => (way.length - (intOf x).toNat))
  case atStart => exact ⟨0, by first | rfl | go_num, Nat.zero_le _, Kept.refl _ _, HD.out.secs, ⟨HD.out.len⟩⟩
  case round =>
    obtain ⟨k, rfl, hk, hB, hR, hRL⟩ := hrel
    by_cases hk0 : k < way.length
    · have hHW : ∀ q ∈ way, q.2.length = 256 := fun q hq => (HD.out.each q hq).2
      obtain ⟨wg, hA, hwl, _, hrg⟩ := way_at HD.out.own hHW k hk0
      subst hA
      have hwg : wg ≠ g := fun e => own_ne HD.out.own HD.out.secs (by decide) (by simp [Value.ownBlock, e])
      have hq2 := HD.out.each _ (List.getElem_mem hk0)
      have hgd : way.getD k (0, []) = way[k] := by simp [List.getD_eq_getElem?_getD, hk0]
      have HRK : Aside0 (restK way torn m ks L (k + 1) = _) := ⟨restK.eq_2 way torn m ks L k⟩
      rw [hgd] at HRK
      generalize way[k] = q at hrg hq2 HRK
      obtain ⟨qa, qp⟩ := q
      simp only at hrg hq2 HRK
      obtain ⟨hqn, hq2⟩ := hq2
      have hrg2 := hB.range hrg hwl hwg
      have hwc : Aside0 ((wcells qa qp).length = 257) := ⟨by rw [wcells_length, hq2]⟩
      have hZW : Aside0 (Z6.size = (wcells qa qp).toArray.size) := ⟨by rw [HZ6.out, List.size_toArray, hwc.out]⟩
      have hIW : Aside0 ((Try.prog.info? 66).map (·.size) = some (wcells qa qp).toArray.size) := ⟨by rw [info66s, List.size_toArray, hwc.out]⟩
      have hIL : Aside0 ((Try.prog.info? 66).map (·.size) = some (wcells qa qp).length) := ⟨by rw [info66s, hwc.out]⟩
      have hPB : Aside0 ((Lib.byteCells qp).length = 256) := ⟨by rw [Lib.byteCells_length, hq2]⟩
      have HQ2 := Aside0.mk hq2
      clear hrg hHW hgd hq2
      go_wp2_with (first
        | (refine wpList_load_mid rfl 66 _ rfl wg (k * 257) rfl (wcells qa qp) _ hrg2 Try.underlying66 rfl hIL.out ?_)
        | (refine wpList_store_whole rfl 66 _ _ rfl wr.heap.size (wcells qa qp).toArray Z6 66 rfl rfl (alloc_at wr (.cells Z6 66)) hZW.out hIW.out (one_w qa qp) ?_))
      intro W3 hW3 hA3
      have hbw := hB.size
      have hglt : g < wr.heap.size := blk_lt hR
      have hB3 := (hB.alloc (.cells Z6 66)).at1 hA3 (.inr hbw)
      have hR3 : W3.heap[g]? = _ := (hA3.block _ (by omega)).trans (alloc_far hR (.cells Z6 66))
      have cq : W3.cell? ⟨wr.heap.size, 0, none⟩ = some (.int .i64 (qa : Int)) := by
        rw [cell_of_row W3 _ _ _ 66 (0, 0) hW3]
        rfl
      have hrq : W3.rangeAt wr.heap.size 1 (Lib.byteCells qp) := range_blk hW3 (fun j v hv => by
        rw [show (wcells qa qp).toArray[1 + j]? = (wcells qa qp)[1 + j]? by simp, Nat.add_comm]
        exact hv)
      have c0 := hB3.cell C0.out (fun e => HGB.out e.symm)
      have HBW := Aside0.mk hbw
      clear hW3 hA3 hR hB hrg2 hbw
      by_cases ht : (k : Int) = torn
      · subst ht
        have hps := HRK.out
        rw [if_pos rfl] at hps
        have HPS := Aside0.mk hps
        have hm0 : (0 : Int) ≤ (m : Int) := by omega
        have hm1 : (m : Int) ≤ 256 := by omega
        generalize hM : restK way ↑k m ks L k = M at hR3 hRL hps HPS
        have hMl := hRL.out
        have hfit : qa * 256 + m ≤ M.length := by
          have : qa * 256 + 256 ≤ n * 256 := by omega
          omega
        have HT : Aside0 ((qp.take m).length = m) := ⟨by rw [List.length_take, HQ2.out]; omega⟩
        have HFIT := Aside0.mk hfit
        have HR3 : Aside0 (W3.drew.heap[g]? = some (.cells (Lib.byteCells M).toArray 64 (0, 0))) := ⟨hR3⟩
        have hrt : Aside0 (∀ j v, (Lib.byteCells (qp.take m))[j]? = some v → W3.drew.cell? ((⟨wr.heap.size, 1, none⟩ : Addr).add j) = some v) := ⟨fun j v hv => by
          rw [Addr.add_mid]
          refine hrq j v ?_
          simp [Lib.byteCells, List.getElem?_take] at hv ⊢
          exact hv.2⟩
        have HML := Aside0.mk hMl
        clear hR3 hRL hps hMl hfit hrq
        go_wp2_with fail
        go_region_law ((refine step_copy_at (by rfl) _ _ _ _ (by rfl) 5 Try.underlying22 info5s (some ⟨g, qa * 256, none⟩) (some ⟨wr.heap.size, 1, none⟩) m _ 256 256 (by rfl) (by rfl) g (qa * 256) (Lib.byteCells M) 64 HR3.out (Lib.byteCells (qp.take m)) (by rw [Lib.byteCells_length, HT.out]; exact (Nat.min_eq_right hm9).symm) (fun _ => ⟨rfl, _, rfl, hrt.out⟩) (by rw [Lib.byteCells_length, Lib.byteCells_length, HT.out]; exact HFIT.out) (one_mem (qp.take m)) ?_; intro w4 hg4 ha4))
        all_goals
          have hB4 := hB3.drew.at1 ha4 (.inl rfl)
          rw [splice_bytes, ← HPS.out] at hg4
          have hL4 : Aside0 ((restK way ↑k m ks L (k + 1)).length = n * 256) := ⟨by rw [HPS.out, length_splice _ _ _ (by rw [HT.out]; exact HFIT.out)]; exact HML.out⟩
          clear ha4
          go_wp2
          go_roundw
          case rel => exact ⟨k + 1, by first | rfl | go_num, hk0, hB4, hg4, hL4⟩
          case measure => simp [intOf]; try omega
      · have hps := HRK.out
        rw [if_neg ht] at hps
        have ht' : ((k : Int) == torn) = false := by simp [ht]
        have HT := Aside0.mk ht
        by_cases hkk : k < ks.length
        · obtain ⟨ad, hKA, hadg, hcell⟩ := HK.out (by omega)
          subst hKA
          have hck := hB3.cell (hcell k hkk) (by rw [addr_block]; exact hadg)
          cases hbv : ks.getD k false with
          | false =>
            rw [hbv] at hck hps
            rw [if_neg (by decide)] at hps
            rw [← hps] at hR3 hRL
            clear hps hbv hcell
            go_wp2
            go_roundw
            case rel => exact ⟨k + 1, by first | rfl | go_num, hk0, hB3, hR3, hRL⟩
            case measure => simp [intOf]; try omega
          | true =>
            rw [hbv] at hck hps
            rw [if_pos rfl] at hps
            have HPS := Aside0.mk hps
            have hMl := hRL.out
            have hfit : qa * 256 + 256 ≤ (restK way torn m ks L k).length := by
              have : qa * 256 + 256 ≤ n * 256 := by omega
              omega
            clear hbv hcell hps
            generalize restK way torn m ks L k = M at hR3 hRL HPS hMl hfit
            have hwbg : wr.heap.size ≠ g := by omega
            have hi : (Try.prog.info? 64).map (·.size) = some (Lib.byteCells qp).length := by rw [info64s, hPB.out]
            have hlen := hPB.out
            have hth : W3.there g (qa * 256) 256 := fun j hj => by
              constructor
              · rw [cell_of_row W3 g _ _ 64 (0, 0) hR3]
                simp [Lib.byteCells]; omega
              · simp [World.frozen?, hR3]
            have ha4 := At1.sets W3.drew g (qa * 256) (Lib.byteCells qp)
            have s1 : (W3.drew.setCells g (qa * 256) (Lib.byteCells qp)).cell? ⟨b, 0, none⟩ = some (.slice (some ⟨g, 0, none⟩) n n) := (World.cell?_of_block (ha4.block b (fun e => HGB.out e.symm))).trans c0
            have s2 : (W3.drew.setCells g (qa * 256) (Lib.byteCells qp)).cell? ⟨wr.heap.size, 0, none⟩ = some (.int .i64 (qa : Int)) := (World.cell?_of_block (ha4.block _ hwbg)).trans cq
            have s3 : (W3.drew.setCells g (qa * 256) (Lib.byteCells qp)).rangeAt wr.heap.size 1 (Lib.byteCells qp) := World.rangeAt_setCells_apart (w := W3.drew) hrq _ _ _ (.inl hwbg)
            have s4 : (W3.drew.setCells g (qa * 256) (Lib.byteCells qp)).there g (qa * 256) 256 := World.there_setCells (w := W3.drew) hth _ _ _
            have hg4 := setCells_splice (w := W3.drew) (o := qa * 256) (vs := Lib.byteCells qp) hR3 (by rw [hPB.out, Lib.byteCells_length]; exact hfit)
            rw [splice_bytes, ← HPS.out] at hg4
            have hB4 := hB3.drew.at1 ha4 (.inl rfl)
            have hL4 : Aside0 ((restK way torn m ks L (k + 1)).length = n * 256) := ⟨by rw [HPS.out, length_splice _ _ _ (by rw [HQ2.out]; exact hfit)]; exact hMl⟩
            have HG4 := Aside0.mk hg4
            have hone := one_mem qp
            have hu := Try.underlying64
            clear hg4 hR3 hRL hMl hfit ha4
            go_wp2_with fail
            go_region_held (fun W => W.cell? ⟨b, 0, none⟩ = some (.slice (some ⟨g, 0, none⟩) n n) ∧ W.cell? ⟨wr.heap.size, 0, none⟩ = some (.int .i64 (qa : Int)) ∧ W.rangeAt wr.heap.size 1 (Lib.byteCells qp) ∧ W.there g (qa * 256) 256)
              (first | exact ⟨c0, cq, hrq, hth⟩ | exact ⟨s1, s2, s3, s4⟩) (fail)
            go_wp2
            go_roundw
            case rel => exact ⟨k + 1, by first | rfl | go_num, hk0, hB4, HG4.out, hL4⟩
            case measure => simp [intOf]; try omega
        · have hkk' : ¬ ((k : Int) < (ks.length : Int)) := by omega
          have hbv : ks.getD k false = false := by simp [List.getD_eq_getElem?_getD, List.getElem?_eq_none (show ks.length ≤ k by omega)]
          rw [hbv, if_neg (by decide)] at hps
          rw [← hps] at hR3 hRL
          clear hps hbv
          go_wp2
          go_roundw
          case rel => exact ⟨k + 1, by first | rfl | go_num, hk0, hB3, hR3, hRL⟩
          case measure => simp [intOf]; try omega
    · obtain rfl : k = way.length := by omega
      have hdw : wr.heap[b]? = _ := (hB.block b (blk_lt HDEV.out) (fun e => HGB.out e.symm)).trans HDEV.out
      obtain ⟨_, e1, _, e3, e4⟩ := dev_cells hdw
      have z1 := dev_thaw (o := 1) hdw
      have z3 := dev_thaw (o := 3) hdw
      have z4 := dev_thaw (o := 4) hdw
      have HDW := Aside0.mk hdw
      have HR := Aside0.mk hR
      clear hR hdw
      go_wp2
      go_ret
      have d1 := dev_set _ HDW.out 1 (.slice none 0 0)
      have d4 := dev_set _ d1 4 (.bool false)
      have d3 := dev_set _ d4 3 (.int .i64 0)
      have k1 := At1.set wr b 1 (.slice none 0 0)
      have k4 := k1.trans (At1.set _ b 4 (.bool false))
      have k3 := k4.trans (At1.set _ b 3 (.int .i64 0))
      refine ⟨rfl, ⟨d3, (k3.block g HGB.out).trans HR.out, hRL.out, HD.out.bb, HD.out.bg, own_nil _ _ _ _, HD.out.small, fun q hq => by cases hq⟩, ?_⟩
      exact Kept.at1 ⟨hB.os, hB.tape, hB.output, hB.size, fun i hi hn => hB.block i hi (fun e => hn (.inl e))⟩ k3 (.inl (.inr rfl))
end Go.Proofs.Ytaakknnfebmkcaa
