/-
  Decode: the bytes that a text of signs stands for.
-/
import Derived.Test.YtigeljeoodhcoaaCommon
import Derived.WalkLawsBesides
set_option linter.unusedVariables false
set_option linter.unusedSimpArgs false
namespace Go.Proofs.Ytigeljeoodhcoaa
open Go.RowKit Go.Proofs.YtigeljeoodhcoaaW.PrintWords Go.Proofs.YtigeljeoodhcoaaW.PrintLast Go.Proofs.YtigeljeoodhcoaaW.PrintMore

def decL (s : ByteArray) : List UInt8 := (dec s.data.toList).getD []
def decE (s : ByteArray) : Int := if (dec s.data.toList).isSome then 0 else 3

theorem six_index (c : UInt8) : Lib.indexByte signs.data.toList c = match six c with | some v => (v : Int) | none => -1 := by
  have h : ∀ c : Fin 256, (Lib.indexByte signs.data.toList (UInt8.ofNat c.1) == (match six (UInt8.ofNat c.1) with | some v => (v : Int) | none => -1)) = true := by decide +kernel
  have := h ⟨c.toNat, c.toNat_lt⟩
  simpa using this

theorem index_any (c : UInt8) (v : Int) (h : (match six c with | some v => (v : Int) | none => -1) = v) (w : World) : Calls Try.prog 32 #[.string signs, .int .u8 (c.toNat : Int)] w fun e w' => e = .returned (.int .i64 v) ∧ w = w' := by
  refine (Try.strings_IndexByte signs (c.toNat : Int) w).mono ?_
  rintro e w' ⟨rfl, rfl⟩
  refine ⟨?_, rfl⟩
  have e1 : (c.toNat : Int).toNat.toUInt8 = c := by simp
  rw [e1, six_index, h]

theorem low_none {t : List UInt8} {c : UInt8} (hc : six c = none) (h : c ∈ t) : low t = none := by
  induction t with
  | nil => cases h
  | cons a t ih =>
    rw [low]
    rcases List.mem_cons.1 h with rfl | h
    · rw [hc]
    · rw [ih h]; cases six a <;> rfl

set_option maxHeartbeats 400000 in
set_option maxRecDepth 100000 in
theorem dec_len (s : ByteArray) (w : World) (hs : s.size ≤ 1000000) (h : lens (s.size * 5 / 8) ≠ s.size) :
    Calls Try.prog 19 #[.string s] w fun e w' => e = .returned (.tuple #[.slice none 0 0, .int .i64 3]) ∧ Drawn0 w w' := by
  obtain ⟨n, hn⟩ : ∃ n : Nat, (s.size : Int) * 5 / 8 = (n : Int) := ⟨s.size * 5 / 8, by omega⟩
  have hne : lens n ≠ s.size := by rw [show n = s.size * 5 / 8 by omega]; exact h
  have hl : lens n ≤ 1000000000 := by unfold lens; omega
  have hb : ((lens n : Int) == s.size) = false := by simp; omega
  go_enter Try.func19, Try.ntmps19
  go_wp2_with fail
  refine (len_any n _ (by omega)).mono ?_
  rintro e w1 ⟨rfl, hd⟩
  go_wp2
  go_ret2
  exact ⟨rfl, hd⟩
theorem ints_replicate (m : Nat) : List.replicate m (0 : Int) = ints (List.replicate m (0 : UInt8)) := by simp [ints]
theorem val_replicate (m : Nat) : val (List.replicate m 0) = 0 := by
  induction m with
  | zero => rfl
  | succ m ih => simp [List.replicate_succ, val, ih]

theorem or_u8 (a b : Nat) (ha : a < 256) (hb : b < 256) : bits .or .u8 (a : Int) (b : Int) = (((UInt8.ofNat (a ||| b)).toNat : Nat) : Int) := by
  rw [(bits_nat .u8 8 (by decide) wraps_u8 a b ha hb).2, UInt8.toNat_ofNat', Nat.mod_eq_of_lt (Nat.or_lt_two_pow (n := 8) ha hb)]
theorem ints_set (l : List UInt8) (i : Nat) (b : UInt8) : (ints l).set i (b.toNat : Int) = ints (l.set i b) := by simp [ints, List.map_set]
/-- a byte of the call's own row is stored. -/
theorem own_byte {w : World} {base g m cap i : Nat} {l : List UInt8} (h : w.ownsRow base 5 1 (.slice (some ⟨g, 0, none⟩) m cap) m (nums .u8 (ints l))) (b : UInt8) :
    (w.setCell ⟨g, i, none⟩ (.int .u8 (b.toNat : Int))).ownsRow base 5 1 (.slice (some ⟨g, 0, none⟩) m cap) m (nums .u8 (ints (l.set i b))) := by
  have := (own_store h (i : Int) (b.toNat : Int)).1
  rw [Int.toNat_natCast, ints_set] at this
  exact this

set_option maxHeartbeats 1000000 in
set_option maxRecDepth 100000 in
theorem dec_main (s : ByteArray) (w : World) (hs : s.size ≤ 1000000) (h : lens (s.size * 5 / 8) = s.size) :
    Calls Try.prog 19 #[.string s] w fun e w' => ∃ A c, e = .returned (.tuple #[.slice A (decL s).length c, .int .i64 (decE s)]) ∧ Own w' w.heap.size (.slice A (decL s).length c) (decL s) ∧ Below w.heap.size w w' := by
  obtain ⟨n, hn⟩ : ∃ n : Nat, (s.size : Int) * 5 / 8 = (n : Int) := ⟨s.size * 5 / 8, by omega⟩
  have hsl : s.data.toList.length = s.size := by rw [Array.length_toList]; rfl
  have hls : (lens n : Int) = (s.size : Int) := by rw [show n = s.size * 5 / 8 by omega, h]
  have hn' : n ≤ 1000000 := by omega
  have hlen : Hid (lens n = s.size) := Lib.hid (by omega)
  have hmk := print_make (P := Try.prog) 40 5 .u8 1 Try.underlying40 infoB (by decide) (n + 1) (by omega)
  have en : ((n + 1 : Nat) : Int) = (n : Int) + 1 := by omega
  rw [en] at hmk
  clear en h
  go_enter Try.func19, Try.ntmps19
  go_wp2_with fail
  refine (len_any n _ (by omega)).mono ?_
  rintro e w1 ⟨rfl, hd⟩
  go_wp2_with fail
  have hB1 := below_drawn (Below.refl w.heap.size w) hd
  have hz1 := hB1.size
  obtain ⟨g, hg⟩ : ∃ g, w1.heap.size = g := ⟨_, rfl⟩
  have ho0 := own_made w1 w.heap.size 5 .u8 (n + 1) hz1 (by omega)
  have hb0 := hB1.alloc hz1 (.cells (madeCells #[.int .u8 0] (n + 1)) 5)
  rw [ints_replicate] at ho0
  rw [hg] at ho0 ⊢
  have HN := Lib.hid hn
  have HD := Lib.hid hd
  have HLS := Lib.hid hls
  clear hmk hd hn hls hB1
  rw [hg] at hz1
  clear hg
  generalize w1.alloc (.cells (madeCells #[.int .u8 0] (n + 1)) 5) = w2 at ho0 hb0 ⊢
  clear HD
  go_loopw [24] (fun i wr => ∃ (k : Nat) (l : List UInt8), i = .int .i64 k ∧ Aside0 (l.length = n + 1) ∧ wr.ownsRow w.heap.size 5 1 (.slice (some ⟨g, 0, none⟩) (n + 1) (n + 1)) (n + 1) (nums .u8 (ints l)) ∧ Below w.heap.size w wr ∧ Aside0 (low (s.data.toList.reverse.take k) = some (val l)) ∧ k ≤ s.size) (fun i _ => (s.size - (intOf i).toNat))
  case atStart => exact ⟨0, List.replicate (n + 1) 0, by first | rfl | go_num, ⟨by simp⟩, ho0, hb0, ⟨by rw [val_replicate]; rfl⟩, Nat.zero_le _⟩
  case round =>
    obtain ⟨k, l, rfl, HL, hI, hB, HA, hk⟩ := hrel
    by_cases hk0 : k < s.size
    · obtain ⟨c, hc⟩ : ∃ c, s[s.size - 1 - k]'(by omega) = c := ⟨_, rfl⟩
      have hrk : s.data.toList.reverse.drop k = c :: s.data.toList.reverse.drop (k + 1) := by
        rw [List.drop_eq_getElem_cons (by simp; omega)]
        congr 1
        rw [List.getElem_reverse, ← hc]
        simp [hsl]
        rfl
      have HRK := Lib.hid hrk
      clear hrk
      cases h6 : six c with
      | none =>
        have hx := index_any c (-1) (by rw [h6]) wr
        have hdn : Hid (dec s.data.toList = none) := by
          refine Lib.hid ?_
          unfold dec num
          have hm : c ∈ s.data.toList.reverse := by
            rw [← List.take_append_drop k s.data.toList.reverse, HRK.out]; simp
          rw [low_none h6 hm]
          split <;> rfl
        clear h6
        go_wp2_with fail
        refine hx.mono ?_
        rintro e w3 ⟨rfl, rfl⟩
        go_wp2
        go_ret2
        have e1 : decL s = [] := by rw [decL, hdn.out]; rfl
        have e2 : decE s = 3 := by rw [decE, hdn.out]; rfl
        rw [e1, e2]
        exact ⟨none, 0, rfl, own_nil _ _ _ _, hB⟩
      | some v =>
        have hx := index_any c (v : Int) (by rw [h6]) wr
        have hv := (six_some h6).1
        have hlow : Hid (low (s.data.toList.reverse.take (k + 1)) = some (val l + 32 ^ k * v)) := by
          refine Lib.hid ?_
          have hkl : k < s.data.toList.reverse.length := by simp; omega
          have e1 : s.data.toList.reverse.take (k + 1) = s.data.toList.reverse.take k ++ [c] := by
            have := HRK.out
            rw [List.drop_eq_getElem_cons hkl] at this
            rw [List.take_succ_eq_append_getElem hkl]
            injection this with h _
            rw [h]
          rw [e1, low_snoc, HA.out, h6]
          simp only [List.length_take, List.length_reverse, hsl]
          rw [Nat.min_eq_left (by omega)]
        clear h6
        obtain ⟨i, hi⟩ : ∃ i : Nat, (k : Int) * 5 / 8 = (i : Int) := ⟨k * 5 / 8, by omega⟩
        obtain ⟨j, hj⟩ : ∃ j : Nat, (k : Int) * 5 % 8 = (j : Int) := ⟨k * 5 % 8, by omega⟩
        have hij : 5 * k = 8 * i + j := by omega
        have hj8 : j < 8 := by omega
        have hin : i < n + 1 := by have := HN.out; omega
        go_wp2_with fail
        refine hx.mono ?_
        rintro e w3 ⟨rfl, rfl⟩
        go_wp2_with fail
        simp only [hi, hj]
        obtain ⟨b, hbb⟩ : ∃ b, l.getD i 0 = b := ⟨_, rfl⟩
        have hat := own_at hI (i : Int) (by omega) (by omega)
        rw [rd_ints, Int.toNat_natCast, hbb] at hat
        have hc1 : wr.drew.cell? ⟨g, i, none⟩ = some (.int .u8 (b.toNat : Int)) := hat.1
        have hf1 : wr.drew.frozen? ⟨g, i, none⟩ = false := hat.2
        have hin' : (i : Int) < (n : Int) + 1 := by omega
        go_region
        have h2j : 2 ^ j ≤ 128 := by
          have := Nat.pow_le_pow_right (n := 2) (by decide) (show j ≤ 7 by omega)
          omega
        have hvj : v * 2 ^ j ≤ 31 * 128 := Nat.mul_le_mul (by omega) h2j
        have e1 : bits BinOp.or IntKind.u8 (b.toNat : Int) (wrap64 ((v : Int) * 2 ^ j) % 256) = (((UInt8.ofNat (b.toNat ||| (v * 2 ^ j % 256))).toNat : Nat) : Int) := by
          rw [show (v : Int) * 2 ^ j = ((v * 2 ^ j : Nat) : Int) by push_cast; rfl, wrap64_id _ (by omega) (by omega), show ((v * 2 ^ j : Nat) : Int) % 256 = ((v * 2 ^ j % 256 : Nat) : Int) by omega]
          exact or_u8 _ _ b.toNat_lt (by omega)
        rw [e1]
        obtain ⟨b1, hb1⟩ : ∃ b1, UInt8.ofNat (b.toNat ||| (v * 2 ^ j % 256)) = b1 := ⟨_, rfl⟩
        have hb1n : Hid (b1.toNat = (l.getD i 0).toNat ||| (v * 2 ^ j % 256)) := by
          refine Lib.hid ?_
          rw [← hb1, hbb, UInt8.toNat_ofNat', Nat.mod_eq_of_lt (Nat.or_lt_two_pow (n := 8) b.toNat_lt (by omega))]
        rw [hb1]
        have hI1 := own_byte (i := i) hI b1
        have hgb : w.heap.size ≤ g := hz1
        have hB1 : Below w.heap.size w (wr.setCell ⟨g, i, none⟩ (.int .u8 (b1.toNat : Int))) := hB.setCell (p := ⟨g, i, none⟩) hgb _
        clear hc1 hf1 hat hI hB hb1 e1 hbb
        generalize wr.setCell ⟨g, i, none⟩ (.int .u8 (b1.toNat : Int)) = w4 at hI1 hB1 ⊢
        have HIJ := Lib.hid hij
        have HBJ := Lib.hid hvj
        clear hi hj hij hc h2j
        by_cases hlast : i + 1 < n + 1
        · have hlast' : (i : Int) + 1 < (n : Int) + 1 := by omega
          go_wp2_with fail
          obtain ⟨b', hbb'⟩ : ∃ b', (l.set i b1).getD (i + 1) 0 = b' := ⟨_, rfl⟩
          have hat := own_at hI1 ((i + 1 : Nat) : Int) (by omega) (by omega)
          rw [rd_ints, Int.toNat_natCast, hbb'] at hat
          have hc1 : w4.drew.drew.cell? ⟨g, i + 1, none⟩ = some (.int .u8 (b'.toNat : Int)) := hat.1
          have hf1 : w4.drew.drew.frozen? ⟨g, i + 1, none⟩ = false := hat.2
          have hj8' : (j : Int) ≤ 8 := by omega
          go_region
          have e2 : bits BinOp.or IntKind.u8 (b'.toNat : Int) ((v : Int) / 2 ^ (8 - j) % 256) = (((UInt8.ofNat (b'.toNat ||| (v / 2 ^ (8 - j)))).toNat : Nat) : Int) := by
            have hd := Nat.div_le_self v (2 ^ (8 - j))
            rw [show (v : Int) / 2 ^ (8 - j) = ((v / 2 ^ (8 - j) : Nat) : Int) by push_cast; rfl, (show ∀ x : Nat, x < 256 → (x : Int) % 256 = (x : Int) by intro x hx; omega) (v / 2 ^ (8 - j)) (by omega)]
            exact or_u8 _ _ b'.toNat_lt (by omega)
          rw [e2]
          obtain ⟨b2, hb2⟩ : ∃ b2, UInt8.ofNat (b'.toNat ||| (v / 2 ^ (8 - j))) = b2 := ⟨_, rfl⟩
          have hb2n : Hid (b2.toNat = (l.getD (i + 1) 0).toNat ||| (v / 2 ^ (8 - j))) := by
            refine Lib.hid ?_
            have hd := Nat.div_le_self v (2 ^ (8 - j))
            have e3 : b' = l.getD (i + 1) 0 := by rw [← hbb', List.getD_eq_getElem?_getD, List.getElem?_set_ne (by omega), ← List.getD_eq_getElem?_getD]
            rw [← hb2, ← e3, UInt8.toNat_ofNat', Nat.mod_eq_of_lt (Nat.or_lt_two_pow (n := 8) b'.toNat_lt (by omega))]
          rw [hb2]
          have hI2 := own_byte (i := i + 1) hI1 b2
          have hB2 : Below w.heap.size w (w4.setCell ⟨g, i + 1, none⟩ (.int .u8 (b2.toNat : Int))) := hB1.setCell (p := ⟨g, i + 1, none⟩) hgb _
          clear hc1 hf1 hat hI1 hB1 hb2 e2 hbb'
          generalize w4.setCell ⟨g, i + 1, none⟩ (.int .u8 (b2.toNat : Int)) = w5 at hI2 hB2 ⊢
          go_wp2
          go_roundw
          case rel =>
            have hkl : val l < 32 ^ k := by
              have := low_lt HA.out
              rw [List.length_take, List.length_reverse, hsl, Nat.min_eq_left (by omega)] at this
              exact this
            have hlay := lay l v k i j HIJ.out hj8 (by rw [HL.out]; omega) hkl hv b1 b2 hb1n.out (fun _ => hb2n.out) (fun h => absurd (by rw [HL.out]; omega) h)
            rw [if_pos (by rw [HL.out]; omega)] at hlay
            exact ⟨k + 1, (l.set i b1).set (i + 1) b2, by first | rfl | go_num, ⟨by simp [HL.out]⟩, hI2, below_drew (below_drew hB2), ⟨by rw [hlow.out, hlay.1]⟩, by omega⟩
          case measure => simp [intOf]; try omega
        · have hlast' : ¬ (i : Int) + 1 < (n : Int) + 1 := by omega
          go_wp2
          go_roundw
          case rel =>
            have hkl : val l < 32 ^ k := by
              have := low_lt HA.out
              rw [List.length_take, List.length_reverse, hsl, Nat.min_eq_left (by omega)] at this
              exact this
            have hj2 : j ≤ 2 := by have := HN.out; have := HIJ.out; omega
            have h24 : 2 ^ j ≤ 4 := by
              have := Nat.pow_le_pow_right (n := 2) (by decide) hj2
              omega
            have hvs : v * 2 ^ j ≤ 31 * 4 := Nat.mul_le_mul (by omega) h24
            have hlay := lay l v k i j HIJ.out hj8 (by rw [HL.out]; omega) hkl hv b1 b1 hb1n.out (fun h => absurd h (by rw [HL.out]; omega)) (fun _ => by omega)
            rw [if_neg (by rw [HL.out]; omega)] at hlay
            exact ⟨k + 1, l.set i b1, by first | rfl | go_num, ⟨by simp [HL.out]⟩, hI1, below_drew hB1, ⟨by rw [hlow.out, hlay.1]⟩, by omega⟩
          case measure => simp [intOf]; try omega
    · obtain rfl : k = s.size := by omega
      have hnum : num s.data.toList = some (val l) := by
        have := HA.out
        rw [← hsl, ← List.length_reverse, List.take_length] at this
        exact this
      have hn8 : s.data.toList.length * 5 / 8 = n := by rw [hsl]; have := HN.out; omega
      obtain ⟨b, hbb⟩ : ∃ b, l.getD n 0 = b := ⟨_, rfl⟩
      have hnl : n < l.length := by rw [HL.out]; omega
      have hat := own_at hI (n : Int) (by omega) (by omega)
      rw [rd_ints, Int.toNat_natCast, hbb] at hat
      have hc1 := hat.1
      have hbl := b.toNat_lt
      have ht : l = l.take n ++ [b] := by
        have h1 : l.take (n + 1) = l.take n ++ [l[n]] := List.take_succ_eq_append_getElem hnl
        rw [List.take_of_length_le (by rw [HL.out]; omega)] at h1
        rw [← hbb, List.getD_eq_getElem?_getD, List.getElem?_eq_getElem hnl]
        exact h1
      have hvt : val l = val (l.take n) + 256 ^ n * b.toNat := by
        conv => lhs; rw [ht]
        rw [val_snoc, List.length_take, Nat.min_eq_left (by omega)]
      have hvl := val_lt (l.take n)
      rw [List.length_take, Nat.min_eq_left (by omega)] at hvl
      by_cases hb0 : b.toNat = 0
      · have hdn : Hid (dec s.data.toList = some (l.take n)) := by
          refine Lib.hid ?_
          unfold dec
          rw [hn8, hsl, if_pos hlen.out, hnum]
          simp only
          rw [hvt, hb0, Nat.mul_zero, Nat.add_zero, if_pos hvl]
          have := bytes_val (l.take n)
          rw [List.length_take, Nat.min_eq_left (by omega)] at this
          rw [this]
        obtain ⟨i5, hi5, _⟩ := info_parts infoB
        have hcut := cut_to (P := Try.prog) 40 5 .i64 Try.underlying40 hi5 (some ⟨g, 0, none⟩) (n + 1) (n + 1) (n : Int) (by omega) (by omega) (by omega)
        simp only [Int.toNat_natCast] at hcut
        have hb0' : (b.toNat : Int) = 0 := by omega
        rw [hb0'] at hc1
        have htk := own_take (m := n) hI (by omega)
        have HT : Hid (wr.ownsRow w.heap.size 5 1 (.slice (some ⟨g, 0, none⟩) n (n + 1)) n (nums .u8 (ints (l.take n)))) := by
          refine Lib.hid ?_
          have e1 : nums .u8 (ints (l.take n)) = (nums .u8 (ints l)).take (n * 1) := by simp [nums, ints, List.map_take]
          rw [e1]; exact htk
        clear htk ht hvt hnum hvl hbb hat
        go_wp2
        go_ret2
        have e1 : decL s = l.take n := by rw [decL, hdn.out]; rfl
        have e2 : decE s = 0 := by rw [decE, hdn.out]; rfl
        have e3 : (l.take n).length = n := by rw [List.length_take, Nat.min_eq_left (by omega)]
        rw [e1, e2, e3]
        refine ⟨_, _, rfl, ?_, hB⟩
        unfold Own
        rw [e3]
        exact HT.out
      · have hdn : Hid (dec s.data.toList = none) := by
          refine Lib.hid ?_
          unfold dec
          rw [hn8, hsl, if_pos hlen.out, hnum]
          simp only
          have : 256 ^ n * 1 ≤ 256 ^ n * b.toNat := Nat.mul_le_mul (Nat.le_refl _) (by omega)
          rw [if_neg (by omega)]
        have hb0' : ((b.toNat : Int) == 0) = false := by simp; omega
        clear ht hvt hnum hvl hbb hat
        go_wp2
        go_ret2
        have e1 : decL s = [] := by rw [decL, hdn.out]; rfl
        have e2 : decE s = 3 := by rw [decE, hdn.out]; rfl
        rw [e1, e2]
        exact ⟨none, 0, rfl, own_nil _ _ _ _, hB⟩
end Go.Proofs.Ytigeljeoodhcoaa
