/-
  BaseOrder: of as many bytes the signs stand as the numbers do: for any two lists of bytes the law answers true.
-/
import Derived.Test.YtgbknccnigfniaaAwake
import Derived.Test.YtgbknccnigfniaaOrderPlain
import Derived.WalkLawsBesides
import Derived.Deep.QuietTactic
import Derived.BigQuiet
set_option linter.unusedVariables false
set_option linter.unusedSimpArgs false
namespace Go.Proofs.Ytgbknccnigfniaa
open Go.RowKit Go.Proofs.YtgbknccnigfniaaW.PrintWords Go.Proofs.YtgbknccnigfniaaW.PrintLast Go.Proofs.YtgbknccnigfniaaW.PrintMore

set_option maxHeartbeats 400000 in
set_option maxRecDepth 100000 in
theorem order_out (a0 : Option Addr) (n0 c0 : Nat) (a1 : Option Addr) (n1 c1 : Nat) (w : World) (h : n0 ≠ n1 ∨ 200 < n0) (hm : n0 ≤ maxLen) (hm1 : n1 ≤ maxLen) :
    Calls Try.prog 4 #[.slice a0 n0 c0, .slice a1 n1 c1] w fun e w' => e = .returned (.bool true) ∧ Below w.heap.size w w' := by
  unfold maxLen at hm hm1
  by_cases hne : n0 = n1
  · have hgt : 200 < n0 := by omega
    clear h
    subst hne
    go_enter Try.func4, Try.ntmps4
    go_wp2_with fail
    refine (awake_any _).mono ?_
    rintro e w1 ⟨rfl, hb1⟩
    go_wp2_with fail
    refine (awake_any _).mono ?_
    rintro e w2 ⟨rfl, hb2⟩
    go_wp2
    go_ret
    exact ⟨rfl, hb1.trans (hb2.mono hb1.size)⟩
  · clear h
    have hb : ((n0 : Int) == n1) = false := by simp; omega
    go_enter Try.func4, Try.ntmps4
    go_wp2_with fail
    refine (awake_any _).mono ?_
    rintro e w1 ⟨rfl, hb1⟩
    go_wp2_with fail
    refine (awake_any _).mono ?_
    rintro e w2 ⟨rfl, hb2⟩
    go_wp2
    go_ret
    exact ⟨rfl, hb1.trans (hb2.mono hb1.size)⟩

set_option maxHeartbeats 1000000 in
set_option maxRecDepth 100000 in
theorem order_in (A0 : Option Addr) (c0 : Nat) (A1 : Option Addr) (c1 : Nat) (p q : List UInt8) (w : World) (hr0 : Kd.C (Kd.int .u8) w A0 p.length (ints p)) (hr1 : Kd.C (Kd.int .u8) w A1 q.length (ints q))
    (hc0 : p.length ≤ c0) (hc1 : q.length ≤ c1) (hpq : p.length = q.length) (hp : p.length ≤ 200) :
    Calls Try.prog 4 #[.slice A0 p.length c0, .slice A1 p.length c1] w fun e w' => e = .returned (.bool true) ∧ Below w.heap.size w w' := by
  have HR0 := Aside0.mk hr0
  have HR1 := Aside0.mk hr1
  have HPQ := Lib.hid hpq
  clear hr0 hr1 hpq
  go_enter Try.func4, Try.ntmps4
  go_wp2_with fail
  refine (awake_any _).mono ?_
  rintro e w1 ⟨rfl, hb1⟩
  go_wp2_with fail
  go_loopw [5, 6] (fun b i wr => ∃ (k : Nat), i = .int .i64 (k : Int) ∧ b = .bool (decide (val (p.take k) < val (q.take k))) ∧ Below w.heap.size w wr ∧ k ≤ p.length) (fun _ i _ => (p.length - (intOf i).toNat))
  case atStart => exact ⟨0, by first | rfl | go_num, by simp [val], hb1, Nat.zero_le _⟩
  case round =>
    obtain ⟨k, rfl, rfl, hB, hk⟩ := hrel
    by_cases hk0 : k < p.length
    · obtain ⟨ad0, b0, ea, hx0, ED0⟩ := at_byte (c_below HR0.out hB) k hk0
      obtain ⟨ad1, b1, eb, hx1, ED1⟩ := at_byte (c_below HR1.out hB) k (by have := HPQ.out; omega)
      have hkq : k < q.length := by have := HPQ.out; omega
      have hs : Hid (decide (val (p.take (k + 1)) < val (q.take (k + 1))) = if b0 = b1 then decide (val (p.take k) < val (q.take k)) else decide (b0.toNat < b1.toNat)) := by
        have t0 : p.take (k + 1) = p.take k ++ [b0] := by
          have := ED0.out
          rw [List.drop_eq_getElem_cons hk0] at this
          rw [List.take_succ_eq_append_getElem hk0]; injection this with h _; rw [h]
        have t1 : q.take (k + 1) = q.take k ++ [b1] := by
          have := ED1.out
          rw [List.drop_eq_getElem_cons hkq] at this
          rw [List.take_succ_eq_append_getElem hkq]; injection this with h _; rw [h]
        rw [t0, t1]
        exact val_lt_snoc _ _ _ _ (by have := HPQ.out; simp; omega)
      cases ea
      cases eb
      have h0 := b0.toNat_lt
      have h1 := b1.toNat_lt
      by_cases e : b0.toNat = b1.toNat
      · go_wp2_with fail
        go_quiet (fail)
        go_wp2
        go_roundw
        case rel =>
          refine ⟨k + 1, by first | rfl | go_num, ?_, pw_below_drewN hB _, by omega⟩
          rw [hs.out, if_pos (UInt8.toNat_inj.1 e)]
        case measure => simp [intOf]; omega
      · go_wp2_with fail
        go_quiet (fail)
        go_wp2_with fail
        go_quiet (fail)
        go_wp2
        go_roundw
        case rel =>
          refine ⟨k + 1, by first | rfl | go_num, ?_, pw_below_drewN hB _, by omega⟩
          rw [hs.out, if_neg (fun h => e (by rw [h]))]
          try simp
        case measure => simp [intOf]; try omega
    · obtain rfl : k = p.length := by omega
      have HE : Hid ((decide (val p < val (q.take p.length)) == Op.bytesLess (enc p) (enc q)) = true) := by
        have := HPQ.out
        rw [enc_less p q this, this, List.take_length]
        simp [Hid]
      go_wp2_with fail
      refine (encode_any A0 c0 p _ (c_below HR0.out hB) hc0 (by omega)).mono ?_
      rintro e w2 ⟨rfl, hb2⟩
      have hB2 := hB.trans (hb2.mono hB.size)
      go_wp2_with fail
      have h3 := encode_any A1 c1 q w2 (c_below HR1.out hB2) hc1 (by have := HPQ.out; omega)
      rw [← HPQ.out] at h3
      refine h3.mono ?_
      rintro e w3 ⟨rfl, hb3⟩
      have hB3 := hB2.trans (hb3.mono hB2.size)
      clear h3
      go_wp2
      go_ret
      refine ⟨?_, hB3⟩
      show Ending.returned (.bool (decide (val p < val (List.take p.length q)) == Op.bytesLess (enc p) (enc q))) = _
      rw [HE.out]

/-- The law's walk. -/
theorem walk_BaseOrder (a0 : Option Addr) (len0 cap0 : Nat) (z0 : List Int) (a1 : Option Addr) (len1 cap1 : Nat) (z1 : List Int) (w : World)
    (w0 : (a0 = none ∧ len0 = 0 ∧ cap0 = 0 ∧ z0 = []) ∨ ∃ x, a0 = some x ∧ len0 ≤ cap0 ∧ cap0 ≤ maxLen ∧ z0.length = cap0 ∧ (∀ i, i < z0.length → w.cell? (x.add i) = some (.int .u8 (z0.getD i 0))) ∧ ∀ n ∈ z0, (Lit.int .u8 n).wf = true)
    (w1 : (a1 = none ∧ len1 = 0 ∧ cap1 = 0 ∧ z1 = []) ∨ ∃ x, a1 = some x ∧ len1 ≤ cap1 ∧ cap1 ≤ maxLen ∧ z1.length = cap1 ∧ (∀ i, i < z1.length → w.cell? (x.add i) = some (.int .u8 (z1.getD i 0))) ∧ ∀ n ∈ z1, (Lit.int .u8 n).wf = true) :
    Calls Try.prog 4 #[.slice a0 len0 cap0, .slice a1 len1 cap1] w fun e w' => e = .returned (.bool true) ∧ Below w.heap.size w w' := by
  obtain ⟨p, rfl, hp, hpc, hpm⟩ := row_bytes w0
  obtain ⟨q, rfl, hq, hqc, hqm⟩ := row_bytes w1
  by_cases h : p.length ≠ q.length ∨ 200 < p.length
  · exact order_out _ _ _ _ _ _ w h hpm hqm
  · have e : q.length = p.length := by omega
    have := order_in a0 cap0 a1 cap1 p q w hp hq hpc hqc (by omega) (by omega)
    rw [← e] at this
    rw [e] at this ⊢
    exact this
end Go.Proofs.Ytgbknccnigfniaa
