/-
  The reference's Hex: the same digits.
-/
import Derived.Test.YtgbknccnigfniaaHex
import Derived.Deep.RegionHeld3
import Derived.Deep.AppendLies
import Derived.StillTactics
set_option linter.unusedVariables false
set_option linter.unusedSimpArgs false
namespace Go.Proofs.Ytgbknccnigfniaa
open Go.RowKit Go.Proofs.YtgbknccnigfniaaW.PrintWords Go.Proofs.YtgbknccnigfniaaW.PrintLast Go.Proofs.YtgbknccnigfniaaW.PrintMore

theorem str_ints (l : List UInt8) : strOfNums (ints l) = ⟨l.toArray⟩ := by
  unfold strOfNums ints
  congr 2
  rw [List.map_map]
  conv => rhs; rw [← List.map_id l]
  refine List.map_congr_left fun x hx => ?_
  simp

theorem infoB : (Try.prog.info? 5).map (fun i => (i.zero, i.size, i.bytes)) = some (some (.int .u8 0), 1, 1) := by kernel_rfl

set_option maxHeartbeats 400000 in
set_option maxRecDepth 100000 in
theorem refHex_any (A : Option Addr) (c : Nat) (l : List UInt8) (w : World) (hr : Kd.C (Kd.int .u8) w A l.length (ints l)) (hl : l.length ≤ 70368744177000) :
    Calls Try.prog 16 #[.slice A l.length c] w fun e w' => e = .returned (.string ⟨(hexs l).toArray⟩) ∧ Below w.heap.size w w' := by
  have HR := Aside0.mk hr
  clear hr
  go_enter Try.func16, Try.ntmps16
  go_wp2
  go_loopw [3, 4] (fun v i wr => ∃ (k : Nat) (acc : List UInt8), i = .int .i64 (k : Int) ∧ wr.ownsRow w.heap.size 5 1 v acc.length (nums .u8 (ints acc)) ∧ Below w.heap.size w wr ∧ Aside0 (acc ++ hexs (l.drop k) = hexs l) ∧ Aside0 (acc.length = 2 * k) ∧ k ≤ l.length) (fun _ i _ => (l.length - (intOf i).toNat))
  case atStart => exact ⟨0, [], by first | rfl | go_num, own_nil _ _ _ _, Below.refl _ w, ⟨rfl⟩, ⟨rfl⟩, Nat.zero_le _⟩
  case round =>
    obtain ⟨k, acc, rfl, hI, hB, HA, HL, hk⟩ := hrel
    by_cases hk0 : k < l.length
    · have hC := c_below HR.out hB
      obtain ⟨ad, b, ea, hx, ED⟩ := at_byte hC k hk0
      cases ea
      have hb1 := b.toNat_lt
      have had : (ad.add k).block < w.heap.size := by
        obtain ⟨ad', e', hx0⟩ := Kd.at_int HR.out (k : Int) (by omega) (by omega)
        injection e' with e'
        subst e'
        have := World.block_lt_of_cell? w _ hx0
        simpa using this
      obtain ⟨i0, hi0, hz0, hz1, hz2⟩ := info_parts infoB
      obtain ⟨x, hx16⟩ : ∃ x, b.toNat / 16 = x := ⟨_, rfl⟩
      obtain ⟨y, hy16⟩ : ∃ y, b.toNat % 16 = y := ⟨_, rfl⟩
      have hxl : x < 16 := by omega
      have hyl : y < 16 := by omega
      have xl : IntKind.u8.wrap ((b.toNat : Int) / 16) < 16 := by rw [IntKind.wrap_u8]; omega
      have yl : (b.toNat : Int).tmod 16 < 16 := by rw [Int.tmod_eq_emod_of_nonneg (by omega)]; omega
      have yl0 : 0 ≤ (b.toNat : Int).tmod 16 := by rw [Int.tmod_eq_emod_of_nonneg (by omega)]; omega
      have xl0 : 0 ≤ IntKind.u8.wrap ((b.toNat : Int) / 16) := by rw [IntKind.wrap_u8]; omega
      have HX := Lib.hid hx16
      have HY := Lib.hid hy16
      clear hx16 hy16
      have hf : ∀ kk, u3.ownBlock = some kk → w.heap.size ≤ kk := own_base hI
      go_wp2_with fail
      go_region_held3 (fun w' => w'.cell? (ad.add k) = some (.int .u8 (b.toNat : Int)))
        (first
          | go_keep
          | (rw [hgrow.cell_far _ (by have := hB.size; simp; omega) (by intro h; have := hf _ h.symm; omega)]; assumption))
        ((refine step_append_lies _ (by rfl) _ _ _ (by rfl) w.heap.size 5 i0 _ 1 1 Try.underlying25 hi0 hz0 hz1 hz2 rfl (by omega) u3 _ _ (by rfl) ((hI.alloc _).drew)
            ⟨wr.heap.size, 0, none⟩ 2 2 [_, _] (by rfl) (by rfl) (World.news_of_block (cs := #[_, _]) (t := 5) (fr := (0, 0)) (heap_alloc_new wr _)) (by simp [Value.oneCell'])
            (by omega) (by unfold maxLen; have := HL.out; omega) (by have := HL.out; omega) (by simp; have := hB.size; omega) (wr.heap.size + 1) (by simp) ?_; intro gg cap w1 hown1 hgrow hat hlt))
      all_goals
        have hB1 : Below w.heap.size w w1 := (below_drew (hB.alloc hB.size (.cells #[_, _] 5))).grown hgrow (by have := hB.size; simp; omega) (fun kk hk => hf kk hk)
        have hown2 : w1.ownsRow w.heap.size 5 1 (.slice (some ⟨gg, 0, none⟩) (acc.length + 2) cap) (acc ++ [dig (b.toNat / 16), dig (b.toNat % 16)]).length (nums .u8 (ints (acc ++ [dig (b.toNat / 16), dig (b.toNat % 16)]))) := by
          have e0 : (acc ++ [dig (b.toNat / 16), dig (b.toNat % 16)]).length = acc.length + 2 := by simp
          rw [e0]
          have z1 : (IntKind.u8.wrap ((b.toNat : Int) / 16)).toNat = b.toNat / 16 := by rw [IntKind.wrap_u8]; omega
          have z2 : ((b.toNat : Int).tmod 16).toNat = b.toNat % 16 := by rw [Int.tmod_eq_emod_of_nonneg (by omega)]; omega
          have y1 : b.toNat / 16 < digs.size := by show _ < 16; omega
          have y2 : b.toNat % 16 < digs.size := by show _ < 16; omega
          have g1 : (digs[(IntKind.u8.wrap ((b.toNat : Int) / 16)).toNat]'(by rw [z1]; exact y1)) = dig (b.toNat / 16) := by rw [← digs_get _ y1]; congr 1
          have g2 : (digs[((b.toNat : Int).tmod 16).toNat]'(by rw [z2]; exact y2)) = dig (b.toNat % 16) := by rw [← digs_get _ y2]; congr 1
          have hq := hown1
          rw [show nums .u8 (ints (acc ++ [dig (b.toNat / 16), dig (b.toNat % 16)])) = nums .u8 (ints acc) ++ [.int .u8 ((dig (b.toNat / 16)).toNat : Int), .int .u8 ((dig (b.toNat % 16)).toNat : Int)] by simp [nums, ints], ← g1, ← g2]
          exact hq
        clear hown1
        go_wp2
        go_roundw
        case rel =>
          refine ⟨k + 1, acc ++ [dig (b.toNat / 16), dig (b.toNat % 16)], by first | rfl | go_num, hown2, hB1, ⟨?_⟩, ⟨by simp [HL.out]; omega⟩, by omega⟩
          rw [← HA.out, ED.out, hexs]; simp
        case measure => simp [intOf]; try omega
    · obtain rfl : k = l.length := by omega
      have e0 : acc = hexs l := by simpa [hexs] using HA.out
      subst e0
      obtain ⟨A3, c3, rfl, hC3⟩ := own_reads hI
      have hcv := own_string (P := Try.prog) Try.underlying25 Try.underlying5 Try.underlying9 hI
      go_wp2
      go_ret
      refine ⟨?_, hB⟩
      rw [← str_ints]
      rfl
end Go.Proofs.Ytgbknccnigfniaa
