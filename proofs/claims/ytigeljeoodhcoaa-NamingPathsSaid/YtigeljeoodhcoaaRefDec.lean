/-
  The reference's Decode: the same bytes.
-/
import Derived.Test.YtigeljeoodhcoaaDecode
import Derived.Test.YtigeljeoodhcoaaRefEnc
import Derived.Deep.QuietTactic
import Derived.BigQuiet
set_option linter.unusedVariables false
set_option linter.unusedSimpArgs false
namespace Go.Proofs.Ytigeljeoodhcoaa
open Go.RowKit Go.Proofs.YtigeljeoodhcoaaW.PrintWords Go.Proofs.YtigeljeoodhcoaaW.PrintLast Go.Proofs.YtigeljeoodhcoaaW.PrintMore

theorem dec_any (s : ByteArray) (w : World) (hs : s.size ≤ 1000000) :
    Calls Try.prog 19 #[.string s] w fun e w' => ∃ A c, e = .returned (.tuple #[.slice A (decL s).length c, .int .i64 (decE s)]) ∧ Own w' w.heap.size (.slice A (decL s).length c) (decL s) ∧ Below w.heap.size w w' := by
  by_cases h : lens (s.size * 5 / 8) = s.size
  · exact dec_main s w hs h
  · refine (dec_len s w hs h).mono ?_
    rintro e w' ⟨rfl, hd⟩
    have hsl : s.data.toList.length = s.size := by rw [Array.length_toList]; rfl
    have hdn : dec s.data.toList = none := by unfold dec; rw [hsl, if_neg h]
    have e1 : decL s = [] := by rw [decL, hdn]; rfl
    have e2 : decE s = 3 := by rw [decE, hdn]; rfl
    rw [e1, e2]
    exact ⟨none, 0, rfl, own_nil _ _ _ _, hd.below⟩

theorem infoI : (Try.prog.info? 3).map (fun i => (i.zero, i.size, i.bytes)) = some (some (.int .i64 0), 1, 8) := by kernel_rfl
/-- The sign's number, as far as it has been looked for. -/
def fnd (c : UInt8) (x : Nat) : Int := match six c with | some v => if v < x then (v : Int) else -1 | none => -1
theorem fnd_hit {c : UInt8} {x : Nat} (hx : x < 32) (h : sgn x = c) : fnd c (x + 1) = (x : Int) := by
  unfold fnd; rw [← h, six_sgn x hx]; simp
theorem fnd_miss {c : UInt8} {x : Nat} (hx : x < 32) (h : sgn x ≠ c) : fnd c (x + 1) = fnd c x := by
  unfold fnd
  cases h6 : six c with
  | none => rfl
  | some v =>
    have hv := (six_some h6).2
    have : v ≠ x := fun e => h (by rw [← e]; exact hv)
    by_cases hl : v < x
    · simp [hl, Nat.lt_succ_of_lt hl]
    · have : ¬ v < x + 1 := by omega
      simp [hl, this]
theorem sign_any (x : Nat) (hx : x < 32) (w : World) : Calls Try.prog 34 #[.int .i64 (x : Int)] w fun e w' => e = .returned (.int .u8 ((sgn x).toNat : Int)) ∧ ∃ n, w' = w.drewN n := by
  refine (PNamingPaths.staddleref02_sign.calls _ _ w (sign_f x hx)).mono ?_
  rintro e w' ⟨rfl, hd⟩
  exact ⟨rfl, hd.out⟩

set_option maxHeartbeats 400000 in
set_option maxRecDepth 100000 in
theorem refDec_len (s : ByteArray) (w : World) (hs : s.size ≤ 1000000) (h : lens (s.size * 5 / 8) ≠ s.size) :
    Calls Try.prog 21 #[.string s] w fun e w' => e = .returned (.tuple #[.slice none 0 0, .int .i64 3]) ∧ Drawn0 w w' := by
  obtain ⟨n, hn⟩ : ∃ n : Nat, (s.size : Int) * 5 / 8 = (n : Int) := ⟨s.size * 5 / 8, by omega⟩
  have hne : lens n ≠ s.size := by rw [show n = s.size * 5 / 8 by omega]; exact h
  have hl : lens n ≤ 1000000000 := by unfold lens; omega
  have hb : ((lens n : Int) == s.size) = false := by simp; omega
  go_enter Try.func21, Try.ntmps21
  go_wp2_with fail
  refine (refLen_any n _ (by omega)).mono ?_
  rintro e w1 ⟨rfl, hd⟩
  go_wp2
  go_ret2
  exact ⟨rfl, hd⟩

/-- a whole number of the call's own row is stored. -/
theorem own_word {w : World} {base g m cap i : Nat} {l : List UInt8} (h : w.ownsRow base 3 1 (.slice (some ⟨g, 0, none⟩) m cap) m (nums .i64 (ints l))) (b : UInt8) :
    (w.setCell ⟨g, i, none⟩ (.int .i64 (b.toNat : Int))).ownsRow base 3 1 (.slice (some ⟨g, 0, none⟩) m cap) m (nums .i64 (ints (l.set i b))) := by
  have := (own_store h (i : Int) (b.toNat : Int)).1
  rw [Int.toNat_natCast, ints_set_] at this
  exact this

/-- One round of the carrying. -/
theorem carry (l : List UInt8) (y : Nat) (hy : y < l.length) (q V : Nat) (hq : val (l.take y) + 256 ^ y * q = V) :
    val ((l.set y (UInt8.ofNat ((q + (l.getD y 0).toNat * 32) % 256))).take (y + 1)) + 256 ^ (y + 1) * ((q + (l.getD y 0).toNat * 32) / 256) = V + 256 ^ y * ((l.getD y 0).toNat * 32) := by
  have e1 : (l.set y (UInt8.ofNat ((q + (l.getD y 0).toNat * 32) % 256))).take (y + 1) = l.take y ++ [UInt8.ofNat ((q + (l.getD y 0).toNat * 32) % 256)] := by
    rw [List.take_succ_eq_append_getElem (by simpa using hy), List.take_set_of_le (Nat.le_refl _)]
    simp
  have ep : 256 ^ (y + 1) = 256 ^ y * 256 := Nat.pow_succ ..
  rw [e1, val_snoc, List.length_take, Nat.min_eq_left (by omega), UInt8.toNat_ofNat', ep, ← hq]
  obtain ⟨m, hm⟩ : ∃ m, 256 ^ y = m := ⟨_, rfl⟩
  obtain ⟨t, ht⟩ : ∃ t, q + (l.getD y 0).toNat * 32 = t := ⟨_, rfl⟩
  rw [hm, ht]
  have e2 : m * (t % 256 % 2 ^ 8) + m * 256 * (t / 256) = m * t := by
    rw [Nat.mul_assoc, ← Nat.mul_add]; congr 1; omega
  rw [Nat.add_assoc, e2, ← ht, Nat.mul_add]; omega

theorem take_set_val (l : List UInt8) (y : Nat) (hy : y < l.length) : val (l.take (y + 1)) = val (l.take y) + 256 ^ y * (l.getD y 0).toNat := by
  rw [List.take_succ_eq_append_getElem hy, val_snoc, List.length_take, Nat.min_eq_left (by omega), List.getD_eq_getElem?_getD, List.getElem?_eq_getElem hy]; rfl

set_option maxHeartbeats 2000000 in
set_option maxRecDepth 100000 in
theorem refDec_main (s : ByteArray) (w : World) (hs : s.size ≤ 1000000) (h : lens (s.size * 5 / 8) = s.size) :
    Calls Try.prog 21 #[.string s] w fun e w' => ∃ A c, e = .returned (.tuple #[.slice A (decL s).length c, .int .i64 (decE s)]) ∧ Own w' w.heap.size (.slice A (decL s).length c) (decL s) ∧ Below w.heap.size w w' := by
  obtain ⟨n, hn⟩ : ∃ n : Nat, (s.size : Int) * 5 / 8 = (n : Int) := ⟨s.size * 5 / 8, by omega⟩
  have hsl : s.data.toList.length = s.size := by rw [Array.length_toList]; rfl
  have hls : (lens n : Int) = (s.size : Int) := by rw [show n = s.size * 5 / 8 by omega, h]
  have hn' : n ≤ 1000000 := by omega
  have hlen : Hid (lens n = s.size) := Lib.hid (by omega)
  have hmk := print_make (P := Try.prog) 57 3 .i64 8 Try.underlying57 infoI (by decide) (n + 1) (by omega)
  have en : ((n + 1 : Nat) : Int) = (n : Int) + 1 := by omega
  rw [en] at hmk
  clear en h
  go_enter Try.func21, Try.ntmps21
  go_wp2_with fail
  refine (refLen_any n _ (by omega)).mono ?_
  rintro e w1 ⟨rfl, hd⟩
  go_wp2_with fail
  have hB1 := below_drawn (Below.refl w.heap.size w) hd
  have hz1 := hB1.size
  obtain ⟨g, hg⟩ : ∃ g, w1.heap.size = g := ⟨_, rfl⟩
  have ho0 := own_made w1 w.heap.size 3 .i64 (n + 1) hz1 (by omega)
  have hb0 := hB1.alloc hz1 (.cells (madeCells #[.int .i64 0] (n + 1)) 3)
  rw [ints_replicate] at ho0
  rw [hg] at ho0 ⊢
  have HN := Lib.hid hn
  have HLS := Lib.hid hls
  clear hmk hd hn hls hB1
  rw [hg] at hz1
  clear hg
  generalize w1.alloc (.cells (madeCells #[.int .i64 0] (n + 1)) 3) = w2 at ho0 hb0 ⊢
  go_loopw [6] (fun i wr => ∃ (k : Nat) (l : List UInt8), i = .int .i64 k ∧ Aside0 (l.length = n + 1) ∧ wr.ownsRow w.heap.size 3 1 (.slice (some ⟨g, 0, none⟩) (n + 1) (n + 1)) (n + 1) (nums .i64 (ints l)) ∧ Below w.heap.size w wr ∧ Aside0 (num (s.data.toList.take k) = some (val l)) ∧ k ≤ s.size) (fun i _ => (s.size - (intOf i).toNat))
  case atStart => exact ⟨0, List.replicate (n + 1) 0, by first | rfl | go_num, ⟨by simp⟩, ho0, hb0, ⟨by rw [val_replicate]; rfl⟩, Nat.zero_le _⟩
  case round =>
    obtain ⟨k, l, rfl, HL, hI, hB, HA, hk⟩ := hrel
    obtain ⟨wo, rfl⟩ : ∃ wo : World, wo = wr := ⟨_, rfl⟩
    by_cases hk0 : k < s.size
    · obtain ⟨c, hc⟩ : ∃ c, s[k]'(by omega) = c := ⟨_, rfl⟩
      have htk : Hid (s.data.toList.take (k + 1) = s.data.toList.take k ++ [c]) := by
        refine Lib.hid ?_
        rw [List.take_succ_eq_append_getElem (by rw [hsl]; exact hk0), ← hc]; rfl
      go_wp2_with fail
      go_loopw [7, 8] (fun v x wi => ∃ (y : Nat), x = .int .i64 y ∧ v = .int .i64 (fnd c y) ∧ Drawn0 wo wi ∧ y ≤ 32) (fun _ x _ => (32 - (intOf x).toNat))
      case atStart => exact ⟨0, by first | rfl | go_num, by unfold fnd; cases six c <;> simp, Drawn0.refl _, by omega⟩
      case round =>
        obtain ⟨y, rfl, rfl, hD, hy⟩ := hrel
        by_cases hy0 : y < 32
        · have hsg : ∀ w', Calls Try.prog 34 #[.int .i64 (y : Int)] w' fun e w'' => e = .returned (.int .u8 ((sgn y).toNat : Int)) ∧ ∃ n, w'' = w'.drewN n := sign_any y hy0
          have HSG := Lib.hid hsg
          clear hsg
          by_cases he : sgn y = c
          · have hf := Lib.hid (fnd_hit hy0 he)
            have heb : (((sgn y).toNat : Int) == (c.toNat : Int)) = true := by rw [he]; simp
            have HE := Lib.hid he
            clear he
            go_wp2_with fail
            go_quiet ((go_at_call 34; exact Calls.quiet_of (HSG.out _)))
            go_wp2
            go_roundw
            case rel => exact ⟨y + 1, by first | rfl | go_num, by rw [hf.out], hD.step _, by omega⟩
            case measure => simp [intOf]; try omega
          · have hf := Lib.hid (fnd_miss hy0 he)
            have hne : (sgn y).toNat ≠ c.toNat := fun e => he (UInt8.toNat_inj.1 e)
            have heb : (((sgn y).toNat : Int) == (c.toNat : Int)) = false := by simp; omega
            clear he hne
            go_wp2_with fail
            go_quiet ((go_at_call 34; exact Calls.quiet_of (HSG.out _)))
            go_wp2
            go_roundw
            case rel => exact ⟨y + 1, by first | rfl | go_num, by rw [hf.out], hD.step _, by omega⟩
            case measure => simp [intOf]; try omega
        · obtain rfl : y = 32 := by omega
          cases h6 : six c with
          | none =>
            have hf : fnd c 32 = -1 := by unfold fnd; rw [h6]
            have hdn : Hid (dec s.data.toList = none) := by
              refine Lib.hid ?_
              unfold dec num
              have hm : c ∈ s.data.toList.reverse := by
                rw [List.mem_reverse, ← List.take_append_drop (k + 1) s.data.toList, htk.out]; simp
              rw [low_none h6 hm]
              split <;> rfl
            clear h6
            have hB2 := below_drawn hB hD
            go_wp2
            go_ret2
            have e1 : decL s = [] := by rw [decL, hdn.out]; rfl
            have e2 : decE s = 3 := by rw [decE, hdn.out]; rfl
            rw [e1, e2]
            exact ⟨none, 0, rfl, own_nil _ _ _ _, hB2⟩
          | some v =>
            have hv := (six_some h6).1
            have hf : fnd c 32 = (v : Int) := by unfold fnd; rw [h6]; simp [hv]
            have hnum : Hid (num (s.data.toList.take (k + 1)) = some (v + 32 * val l)) := by
              refine Lib.hid ?_
              have := HA.out
              unfold num at this ⊢
              rw [htk.out, List.reverse_append, List.reverse_singleton, List.singleton_append, low, h6, this]
            clear h6
            have hB2 := below_drawn hB hD
            have hI2 : (wr).ownsRow w.heap.size 3 1 (.slice (some ⟨g, 0, none⟩) (n + 1) (n + 1)) (n + 1) (nums .i64 (ints l)) := pw_own_below hI hD.below
            clear hI hB hD
            go_wp2_with fail
            go_loopw [7, 9] (fun q x wi => ∃ (y qn : Nat) (l' : List UInt8), x = .int .i64 y ∧ q = .int .i64 qn ∧ Aside0 (l'.length = n + 1) ∧ wi.ownsRow w.heap.size 3 1 (.slice (some ⟨g, 0, none⟩) (n + 1) (n + 1)) (n + 1) (nums .i64 (ints l')) ∧ Below w.heap.size w wi ∧ Aside0 (val (l'.take y) + 256 ^ y * qn = val (l.take y) * 32 + v) ∧ Aside0 (l'.drop y = l.drop y) ∧ qn ≤ 31 ∧ y ≤ n + 1) (fun _ x _ => (n + 1 - (intOf x).toNat))
            case atStart => exact ⟨0, v, l, by first | rfl | go_num, by first | rfl | simp [hf], ⟨HL.out⟩, hI2, hB2, ⟨by simp [val]⟩, ⟨rfl⟩, by omega, Nat.zero_le _⟩
            case round =>
              clear hI2 hB2
              obtain ⟨y, qn, l', rfl, rfl, HL', hI', hB', HQ, HDR, hqn, hy⟩ := hrel
              by_cases hy1 : y < n + 1
              · obtain ⟨b, hbb⟩ : ∃ b, l'.getD y 0 = b := ⟨_, rfl⟩
                have hat := own_at hI' (y : Int) (by omega) (by omega)
                rw [rd_ints, Int.toNat_natCast, hbb] at hat
                have hc1 := hat.1
                have hf1 := hat.2
                have hbl := b.toNat_lt
                obtain ⟨b2, hb2⟩ : ∃ b2, UInt8.ofNat ((qn + b.toNat * 32) % 256) = b2 := ⟨_, rfl⟩
                have hb2n : ((qn : Int) + (b.toNat : Int) * 32) % 256 = (b2.toNat : Int) := by rw [← hb2, UInt8.toNat_ofNat']; omega
                obtain ⟨q2, hq2⟩ : ∃ q2 : Nat, ((qn : Int) + (b.toNat : Int) * 32) / 256 = (q2 : Int) := ⟨(qn + b.toNat * 32) / 256, by omega⟩
                have hq2' : Hid ((qn + b.toNat * 32) / 256 = q2) := Lib.hid (by omega)
                have hq31 : q2 ≤ 31 := by omega
                have HB2 := Lib.hid hb2
                have HBB := Lib.hid hbb
                have hI3 := own_word (i := y) hI' b2
                have hB3 : Below w.heap.size w (wr.setCell ⟨g, y, none⟩ (.int .i64 (b2.toNat : Int))) := hB'.setCell (p := ⟨g, y, none⟩) hz1 _
                have hy1' : (y : Int) < (n : Int) + 1 := by omega
                clear hb2 hbb hat
                go_wp2
                go_roundw
                case rel =>
                  have hyl : y < l'.length := by rw [HL'.out]; exact hy1
                  have hyl2 : y < l.length := by rw [HL.out]; exact hy1
                  have hgd : l.getD y 0 = b := by
                    have h1 := HDR.out
                    rw [List.drop_eq_getElem_cons hyl, List.drop_eq_getElem_cons hyl2] at h1
                    injection h1 with h1 _
                    rw [← HBB.out, List.getD_eq_getElem?_getD, List.getD_eq_getElem?_getD, List.getElem?_eq_getElem hyl, List.getElem?_eq_getElem hyl2, h1]
                  have hcar := carry l' y hyl qn _ HQ.out
                  rw [HBB.out, HB2.out, hq2'.out] at hcar
                  refine ⟨y + 1, q2, l'.set y b2, by first | rfl | go_num, by first | rfl | (simp; exact hq2), ⟨by simp [HL'.out]⟩, hI3, hB3, ⟨?_⟩, ⟨?_⟩, hq31, by omega⟩
                  · rw [hcar, take_set_val l y hyl2, hgd, Nat.add_mul, Nat.mul_assoc]; omega
                  · have h1 := HDR.out
                    rw [List.drop_eq_getElem_cons hyl, List.drop_eq_getElem_cons hyl2] at h1
                    injection h1 with _ h1
                    rw [← h1, List.drop_set_of_lt (by omega)]
                case measure => simp [intOf]; try omega
              · obtain rfl : y = n + 1 := by omega
                have hkl : val l < 32 ^ k := by
                  have := low_lt HA.out
                  rw [List.length_reverse, List.length_take, hsl, Nat.min_eq_left (by omega)] at this
                  exact this
                have hpow : 32 ^ (k + 1) ≤ 256 ^ (n + 1) := by
                  rw [show (256 : Nat) = 2 ^ 8 from rfl, show (32 : Nat) = 2 ^ 5 from rfl, ← Nat.pow_mul, ← Nat.pow_mul]
                  exact Nat.pow_le_pow_right (by decide) (by have := HN.out; omega)
                have hfull : val l' + 256 ^ (n + 1) * qn = val l * 32 + v := by
                  have := HQ.out
                  rw [List.take_of_length_le (by rw [HL'.out]; omega), List.take_of_length_le (by rw [HL.out]; omega)] at this
                  exact this
                have hq0 : qn = 0 := by
                  rcases Nat.eq_zero_or_pos qn with h0 | h0
                  · exact h0
                  · have h1 : 256 ^ (n + 1) * 1 ≤ 256 ^ (n + 1) * qn := Nat.mul_le_mul (Nat.le_refl _) h0
                    rw [Nat.pow_succ] at hpow
                    omega
                subst hq0
                have hval : Hid (v + 32 * val l = val l') := Lib.hid (by omega)
                clear hkl hpow hfull
                go_wp2
                go_roundw
                case rel => exact ⟨k + 1, l', by first | rfl | go_num, HL', hI', hB', ⟨by rw [hnum.out, hval.out]⟩, by omega⟩
                case measure => simp [intOf]; try omega
    · obtain rfl : k = s.size := by omega
      have hnum : num s.data.toList = some (val l) := by
        have := HA.out
        rw [← hsl, List.take_length] at this
        exact this
      have hn8 : s.data.toList.length * 5 / 8 = n := by rw [hsl]; have := HN.out; omega
      obtain ⟨b, hbb⟩ : ∃ b, l.getD n 0 = b := ⟨_, rfl⟩
      have hnl : n < l.length := by rw [HL.out]; omega
      have hat := own_at hI (n : Int) (by omega) (by omega)
      rw [rd_ints, Int.toNat_natCast, hbb] at hat
      have hc1 := hat.1
      have hbl := b.toNat_lt
      have ht : l = l.take n ++ [b] := by
        have h1 : l.take (n + 1) = l.take n ++ [l[n]] := List.take_succ_eq_append_getElem hnl
        rw [List.take_of_length_le (by rw [HL.out]; omega)] at h1
        rw [← hbb, List.getD_eq_getElem?_getD, List.getElem?_eq_getElem hnl]
        exact h1
      have hvt : val l = val (l.take n) + 256 ^ n * b.toNat := by
        conv => lhs; rw [ht]
        rw [val_snoc, List.length_take, Nat.min_eq_left (by omega)]
      have hvl := val_lt (l.take n)
      rw [List.length_take, Nat.min_eq_left (by omega)] at hvl
      by_cases hb0 : b.toNat = 0
      · have hdn : Hid (dec s.data.toList = some (l.take n)) := by
          refine Lib.hid ?_
          unfold dec
          rw [hn8, hsl, if_pos hlen.out, hnum]
          simp only
          rw [hvt, hb0, Nat.mul_zero, Nat.add_zero, if_pos hvl]
          have := bytes_val (l.take n)
          rw [List.length_take, Nat.min_eq_left (by omega)] at this
          rw [this]
        have hb0' : (b.toNat : Int) = 0 := by omega
        rw [hb0'] at hc1
        have hmk := print_make (P := Try.prog) 40 5 .u8 1 Try.underlying40 infoB (by decide) n (by omega)
        have HVV := Lib.hid hnl
        clear ht hvt hnum hvl hbb hat hnl
        go_wp2_with fail
        have hg2 : g < wo.heap.size := by
          have := own_lt hI g rfl
          exact this
        obtain ⟨g2, hgg⟩ : ∃ g2, wo.heap.size = g2 := ⟨_, rfl⟩
        have hp0 := own_made wo w.heap.size 5 .u8 n hB.size (by omega)
        have hBB := hB.alloc hB.size (.cells (madeCells #[.int .u8 0] n) 5)
        have hII := pw_own_below hI (below_alloc (Below.refl _ wo) (.cells (madeCells #[.int .u8 0] n) 5))
        rw [ints_replicate] at hp0
        have hz2 := hB.size
        rw [hgg] at hp0 hg2 hz2 ⊢
        clear hgg hmk hI hB hc1
        generalize wo.alloc (.cells (madeCells #[.int .u8 0] n) 5) = w4 at hp0 hBB hII ⊢
        go_loopw [11] (fun x wi => ∃ (y : Nat) (p : List UInt8), x = .int .i64 y ∧ Aside0 (p.length = n) ∧ wi.ownsRow w.heap.size 5 1 (.slice (some ⟨g2, 0, none⟩) n n) n (nums .u8 (ints p)) ∧ wi.ownsRow w.heap.size 3 1 (.slice (some ⟨g, 0, none⟩) (n + 1) (n + 1)) (n + 1) (nums .i64 (ints l)) ∧ Below w.heap.size w wi ∧ Aside0 (p.take y = l.take y) ∧ y ≤ n) (fun x _ => (n - (intOf x).toNat))
        case atStart => exact ⟨0, List.replicate n 0, by first | rfl | go_num, ⟨by simp⟩, hp0, hII, hBB, ⟨by simp⟩, Nat.zero_le _⟩
        case round =>
          clear hp0 hII hBB
          obtain ⟨y, p, rfl, HP, hP, hI', hB', HT, hy⟩ := hrel
          by_cases hy0 : y < n
          · obtain ⟨x, hx⟩ : ∃ x, l.getD y 0 = x := ⟨_, rfl⟩
            have hat := own_at hI' (y : Int) (by omega) (by omega)
            rw [rd_ints, Int.toNat_natCast, hx] at hat
            have hc1 := hat.1
            have hat2 := own_at hP (y : Int) (by omega) (by omega)
            rw [rd_ints, Int.toNat_natCast] at hat2
            have hc2 := hat2.1
            have hf2 := hat2.2
            have hxl := x.toNat_lt
            have hx256 : (x.toNat : Int) % 256 = (x.toNat : Int) := by omega
            have hyi : (y : Int) < (n : Int) + 1 := by omega
            have hP2 := own_byte (i := y) hP x
            have hgr := (own_store hP (y : Int) (x.toNat : Int)).2
            rw [Int.toNat_natCast] at hgr
            have hI2 := own_other hI' hgr (Or.inr (by simp [Value.ownBlock]; omega))
            have hB3 : Below w.heap.size w (wr.setCell ⟨g2, y, none⟩ (.int .u8 (x.toNat : Int))) := hB'.setCell (p := ⟨g2, y, none⟩) hz2 _
            have HX := Lib.hid hx
            clear hat hat2 hx hgr
            go_wp2
            go_roundw
            case rel =>
              refine ⟨y + 1, p.set y x, by first | rfl | go_num, ⟨by simp [HP.out]⟩, by first | exact hP2 | (simp only [hx256]; exact hP2), by first | exact hI2 | (simp only [hx256]; exact hI2), by first | exact hB3 | (simp only [hx256]; exact hB3), ⟨?_⟩, by omega⟩
              have hyl : y < l.length := by rw [HL.out]; omega
              rw [List.take_succ_eq_append_getElem (by simp [HP.out]; exact hy0), List.take_succ_eq_append_getElem hyl, List.take_set_of_le (Nat.le_refl _), HT.out, ← HX.out, List.getD_eq_getElem?_getD, List.getElem?_eq_getElem hyl]
              simp
            case measure => simp [intOf]; try omega
          · obtain rfl : y = n := by omega
            have hpl : Hid (p = l.take y) := by
              refine Lib.hid ?_
              have := HT.out
              rw [List.take_of_length_le (by rw [HP.out]; omega)] at this
              exact this
            go_wp2
            go_ret2
            have e1 : decL s = p := by rw [decL, hdn.out, hpl.out]; rfl
            have e2 : decE s = 0 := by rw [decE, hdn.out]; rfl
            rw [e1, e2, HP.out]
            refine ⟨_, _, rfl, ?_, hB'⟩
            unfold Own
            rw [HP.out]
            exact hP
      · have hdn : Hid (dec s.data.toList = none) := by
          refine Lib.hid ?_
          unfold dec
          rw [hn8, hsl, if_pos hlen.out, hnum]
          simp only
          have : 256 ^ n * 1 ≤ 256 ^ n * b.toNat := Nat.mul_le_mul (Nat.le_refl _) (by omega)
          rw [if_neg (by omega)]
        have hb0' : 0 < (b.toNat : Int) := by omega
        clear ht hvt hnum hvl hbb hat
        go_wp2
        go_ret2
        have e1 : decL s = [] := by rw [decL, hdn.out]; rfl
        have e2 : decE s = 3 := by rw [decE, hdn.out]; rfl
        rw [e1, e2]
        exact ⟨none, 0, rfl, own_nil _ _ _ _, hB⟩

theorem refDec_any (s : ByteArray) (w : World) (hs : s.size ≤ 1000000) :
    Calls Try.prog 21 #[.string s] w fun e w' => ∃ A c, e = .returned (.tuple #[.slice A (decL s).length c, .int .i64 (decE s)]) ∧ Own w' w.heap.size (.slice A (decL s).length c) (decL s) ∧ Below w.heap.size w w' := by
  by_cases h : lens (s.size * 5 / 8) = s.size
  · exact refDec_main s w hs h
  · refine (refDec_len s w hs h).mono ?_
    rintro e w' ⟨rfl, hd⟩
    have hsl : s.data.toList.length = s.size := by rw [Array.length_toList]; rfl
    have hdn : dec s.data.toList = none := by unfold dec; rw [hsl, if_neg h]
    have e1 : decL s = [] := by rw [decL, hdn]; rfl
    have e2 : decE s = 3 := by rw [decE, hdn]; rfl
    rw [e1, e2]
    exact ⟨none, 0, rfl, own_nil _ _ _ _, hd.below⟩
end Go.Proofs.Ytigeljeoodhcoaa
