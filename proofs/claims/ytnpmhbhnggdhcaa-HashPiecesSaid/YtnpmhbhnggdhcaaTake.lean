/-
  Write: a hasher takes bytes.
-/
import Derived.Test.YtnpmhbhnggdhcaaBlock
import Derived.Test.YtnpmhbhnggdhcaaFeed
import Derived.Deep.Cut
set_option linter.unusedVariables false
set_option linter.unusedSimpArgs false
namespace Go.Proofs.Ytnpmhbhnggdhcaa
open Go.RowKit Go.Proofs.YtnpmhbhnggdhcaaW.PrintWords

/-- A hasher in block b, its words in block k, that has taken l. -/
def HS (w : World) (b k : Nat) (l : List UInt8) : Prop := ∃ H part, Fed l H part ∧ w.heap[b]? = some (.cells (hblk k H.l part l.length).toArray 64 (0, 0)) ∧ w.heap[k]? = some (.cells wmade.toArray 61 (0, 0)) ∧ b ≠ k
theorem addr_block (a : Addr) (n : Nat) : (a.add n).block = a.block := by unfold Addr.add; split <;> rfl
theorem Kept.cell {u w : World} {ks : Nat → Prop} (h : Kept u w ks) {a : Addr} {v : Value} (hc : u.cell? a = some v) (hl : a.block < u.heap.size) (hn : ¬ ks a.block) : w.cell? a = some v := by
  unfold World.cell? at hc ⊢
  rw [h.block _ hl hn]
  exact hc
/-- The bytes p lie at A, all in one block, which is not b. -/
def Lies (w : World) (b : Nat) (A : Option Addr) (p : List UInt8) : Prop := 0 < p.length → ∃ ad, A = some ad ∧ ad.block ≠ b ∧ ad.block < w.heap.size ∧ ∀ j, j < p.length → w.cell? (ad.add j) = some (.int .u8 ((p.getD j 0).toNat : Int))
theorem hblk_setp (k : Nat) (H : List W32) (hH : H.length = 8) (part : List UInt8) (n i : Nat) (h : i < part.length) (c : UInt8) : (hblk k H part n).toArray.setIfInBounds (9 + i) (.int .u8 (c.toNat : Int)) = (hblk k H (part.set i c) n).toArray := by
  rw [List.setIfInBounds_toArray]
  unfold hblk
  rw [show 9 + i = (8 + i) + 1 by omega, List.set_cons_succ, List.set_append, if_neg (by rw [uc_length]; omega), uc_length, hH, show 8 + i - 8 = i by omega, List.set_append, if_pos (by rw [Lib.byteCells_length]; exact h)]
  simp [Lib.byteCells, List.map_set]
theorem hblk_setn (k : Nat) (H : List W32) (hH : H.length = 8) (part : List UInt8) (hp : part.length = 64) (n m : Nat) : (hblk k H part n).toArray.setIfInBounds 73 (.int .u64 (m : Int)) = (hblk k H part m).toArray := by
  rw [List.setIfInBounds_toArray]
  unfold hblk
  rw [List.set_cons_succ, List.set_append, if_neg (by rw [uc_length]; omega), uc_length, hH, List.set_append, if_neg (by rw [Lib.byteCells_length]; omega), Lib.byteCells_length, hp]
  rfl

set_option maxHeartbeats 1000000 in
set_option maxRecDepth 100000 in
theorem write_any (b k : Nat) (l p : List UInt8) (A : Option Addr) (cap : Nat) (w : World) (h : HS w b k l) (hA : Lies w b A p) (hl : l.length + p.length ≤ 1000000000000) :
    Calls Try.prog 12 #[.pointer (some ⟨b, 0, none⟩), .slice A p.length cap] w fun e w' => e = .returned (.tuple #[]) ∧ HS w' b k (l ++ p) ∧ Kept w w' (fun j => j = b) := by
  have HH := Lib.hid h
  have HA := Lib.hid hA
  clear h hA
  go_enter Try.func12, Try.ntmps12
  go_wp2_with fail
  go_loopw [10] (fun i wr => ∃ j : Nat, j ≤ p.length ∧ i = .int .i64 j ∧ Hid (HS wr b k (l ++ p.take j)) ∧ Hid (Kept w wr (fun j => j = b))) (fun i _ => p.length - (intOf i).toNat)
  case atStart => exact ⟨0, by omega, rfl, Lib.hid (by simpa using HH.out), Lib.hid (Kept.refl _ _)⟩
  case round =>
    obtain ⟨j, hj, rfl, hS, hK⟩ := hrel
    by_cases hlt : j < p.length
    · obtain ⟨ad, rfl, ha1, ha2, ha3⟩ := HA.out (by omega)
      have hpl : p.length ≤ 9223372036854775807 := by omega
      have cp := hK.out.cell (ha3 j hlt) (by rw [addr_block]; exact ha2) (by rw [addr_block]; exact ha1)
      obtain ⟨H, part, f, hb, hk, hbk⟩ := hS.out
      have en : (l ++ p.take j).length = l.length + j := by rw [List.length_append, List.length_take]; omega
      rw [en] at hb
      obtain ⟨n, hn⟩ : ∃ n, l.length + j = n := ⟨_, rfl⟩
      rw [hn] at hb en
      have hnb : n + 1 ≤ 1000000000000 := by omega
      have c73 := num_cell hb H.l_length f.len
      have z73 := blk_frozen hb 73
      obtain ⟨r, hr⟩ : ∃ r, n % 64 = r := ⟨_, rfl⟩
      have c9 := part_cell hb H.l_length r (by rw [f.len]; omega)
      have z9 := blk_frozen hb (9 + r)
      have et : Int.tmod (n : Int) 64 = (r : Int) := by rw [Int.tmod_eq_emod_of_nonneg (by omega)]; omega
      have em : (n : Int) % 64 = (r : Int) := by omega
      have r1 : (r : Int) < 64 := by omega
      have r2 : ¬ (r : Int) < 0 := by omega
      obtain ⟨cc, hcc⟩ : ∃ cc, p.getD j 0 = cc := ⟨_, rfl⟩
      rw [hcc] at cp
      obtain ⟨old, hold⟩ : ∃ old, part.getD r 0 = old := ⟨_, rfl⟩
      rw [hold] at c9
      have fl := f.len
      have FF := Lib.hid f
      have HB := Lib.hid hb
      have HKK := Lib.hid hk
      have EN := Lib.hid en
      have HR := Lib.hid hr
      have HN := Lib.hid hn
      have HCC := Lib.hid hcc
      clear hS f hb hk en hr hn hcc hold ha3 HA
      go_wp2_with fail
      go_still_tail 10, (by kernel_rfl)
      change wpList _ _ _ _ _ (World.drew wr)
      go_upto_region 5 with (fail)
      have hb1 := blk_set HB.out (9 + r) (.int .u8 (cc.toNat : Int))
      rw [hblk_setp k H.l H.l_length part n r (by rw [fl]; omega) cc] at hb1
      have HB1 : Hid ((wr.setCell ⟨b, 9 + r, none⟩ (.int .u8 (cc.toNat : Int))).drew.heap[b]? = some (.cells (hblk k H.l (part.set r cc) n).toArray 64 (0, 0))) := Lib.hid hb1
      have HA1 := Lib.hid (At1.set wr b (9 + r) (.int .u8 (cc.toNat : Int))).drew
      clear hb1 c73 z73 c9 z9
      generalize (wr.setCell ⟨b, 9 + r, none⟩ (.int .u8 (cc.toNat : Int))).drew = w1 at *
      have fl1 : (part.set r cc).length = 64 := by rw [List.length_set]; exact fl
      have c73 := num_cell HB1.out H.l_length fl1
      have z73 := blk_frozen HB1.out 73
      go_upto_region 6 with (fail)
      obtain ⟨m, hm⟩ : ∃ m, n + 1 = m := ⟨_, rfl⟩
      have hmi : (n : Int) + 1 = (m : Int) := by omega
      rw [hmi]
      have hb2 := blk_set HB1.out 73 (.int .u64 (m : Int))
      rw [hblk_setn k H.l H.l_length (part.set r cc) fl1 n m] at hb2
      have HB2 := Lib.hid hb2
      have HK2 := Lib.hid ((hK.out.at1 HA1.out (.inl rfl)).at1 (At1.set w1 b 73 (.int .u64 (m : Int))) (.inl rfl))
      have HKK2 := Lib.hid (((At1.set w1 b 73 (.int .u64 (m : Int))).block k (Ne.symm hbk)).trans ((HA1.out.block k (Ne.symm hbk)).trans HKK.out))
      clear hb2 c73 z73 hmi HB1 HA1 HB HKK hK em et
      generalize w1.setCell ⟨b, 73, none⟩ (.int .u64 (m : Int)) = w2 at *
      have c73 := num_cell HB2.out H.l_length fl1
      obtain ⟨q, hq⟩ : ∃ q, m % 64 = q := ⟨_, rfl⟩
      have et : Int.tmod (m : Int) 64 = (q : Int) := by rw [Int.tmod_eq_emod_of_nonneg (by omega)]; omega
      have em : (m : Int) % 64 = (q : Int) := by omega
      have hlen : (l ++ p.take (j + 1)).length = m := by rw [List.length_append, List.length_take]; have := HN.out; omega
      have happ : l ++ p.take (j + 1) = (l ++ p.take j) ++ [cc] := by
        rw [List.append_assoc]
        congr 1
        rw [← HCC.out, List.getD_eq_getElem?_getD, List.getElem?_eq_getElem hlt]
        exact List.take_succ_eq_append_getElem hlt
      have hrl : (l ++ p.take j).length % 64 = r := by rw [EN.out]; exact HR.out
      have HL := Lib.hid hlen
      have HAP := Lib.hid happ
      have HRL := Lib.hid hrl
      have hml : m ≤ 1000000000000 := by omega
      by_cases h0 : q = 0
      · subst h0
        have F2 : Hid (Fed (l ++ p.take (j + 1)) (comp H (part.set r cc)) (part.set r cc)) := Lib.hid (by rw [happ, ← hrl]; exact FF.out.step_full cc (by rw [EN.out, hm]; exact hq))
        have X := Lib.hid (block_any b k m H (part.set r cc) fl1 w2 hbk HB2.out HKK2.out)
        clear hm hq hlen happ hrl FF
        go_wp2_with fail
        refine X.out.mono ?_
        rintro e w3 ⟨rfl, h1, h2⟩
        have HS3 : Hid (HS w3 b k (l ++ p.take (j + 1))) := Lib.hid ⟨_, _, F2.out, by rw [HL.out]; exact h1, h2.at_ HKK2.out (Ne.symm hbk), hbk⟩
        have HK3 := Lib.hid (HK2.out.trans h2)
        clear h1 h2
        go_wp2_with fail
        go_roundw
        case rel => exact ⟨j + 1, by omega, by go_num, HS3, HK3⟩
        case measure => simp [intOf]; omega
      · have F2 : Hid (Fed (l ++ p.take (j + 1)) H (part.set r cc)) := Lib.hid (by rw [happ, ← hrl]; exact FF.out.step_more cc (by rw [EN.out, hm, hq]; exact h0))
        have HS3 : Hid (HS w2 b k (l ++ p.take (j + 1))) := Lib.hid ⟨_, _, F2.out, by rw [hlen]; exact HB2.out, HKK2.out, hbk⟩
        have h0' : ((q : Int) == 0) = false := by rw [beq_eq_false_iff_ne]; omega
        clear hm hq hlen happ hrl FF
        go_wp2_with fail
        go_roundw
        case rel => exact ⟨j + 1, by omega, by go_num, HS3, HK2⟩
        case measure => simp [intOf]; omega
    · have e : j = p.length := by omega
      have HS3 : Hid (HS wr b k (l ++ p)) := Lib.hid (by have := hS.out; rw [e, List.take_length] at this; exact this)
      clear hS e
      go_wp2_with fail
      go_end0
      exact ⟨rfl, HS3.out, hK.out⟩

set_option maxHeartbeats 400000 in
theorem write_nil (A : Value) (w : World) : Calls Try.prog 12 #[.pointer none, A] w fun e w' => e = .returned (.tuple #[]) ∧ w' = w := by
  go_enter Try.func12, Try.ntmps12
  go_wp2_with fail
  refine bodyPost_ret (results_none rfl _ _ _) rfl ?_
  exact ⟨rfl, rfl⟩
end Go.Proofs.Ytnpmhbhnggdhcaa
