/-
  BaseEncodes: any bytes in signs, and back: for any list of bytes the law answers true.
-/
import Derived.Test.YtgbknccnigfniaaDecode
import Derived.Test.YtgbknccnigfniaaRefEnc
set_option linter.unusedVariables false
set_option linter.unusedSimpArgs false
namespace Go.Proofs.Ytgbknccnigfniaa
open Go.RowKit Go.Proofs.YtgbknccnigfniaaW.PrintWords Go.Proofs.YtgbknccnigfniaaW.PrintLast Go.Proofs.YtgbknccnigfniaaW.PrintMore

theorem dec_any (s : ByteArray) (w : World) (hs : s.size ≤ 1000000) :
    Calls Try.prog 17 #[.string s] w fun e w' => ∃ A c, e = .returned (.tuple #[.slice A (decL s).length c, .int .i64 (decE s)]) ∧ Own w' w.heap.size (.slice A (decL s).length c) (decL s) ∧ Below w.heap.size w w' := by
  by_cases h : lens (s.size * 5 / 8) = s.size
  · exact dec_main s w hs h
  · refine (dec_len s w hs h).mono ?_
    rintro e w' ⟨rfl, hd⟩
    have hsl : s.data.toList.length = s.size := by rw [Array.length_toList]; rfl
    have hdn : dec s.data.toList = none := by unfold dec; rw [hsl, if_neg h]
    have e1 : decL s = [] := by rw [decL, hdn]; rfl
    have e2 : decE s = 3 := by rw [decE, hdn]; rfl
    rw [e1, e2]
    exact ⟨none, 0, rfl, own_nil _ _ _ _, hd.below⟩

theorem Own.below {w w1 : World} {base : Nat} {v : Value} {l : List UInt8} (h : Own w base v l) (hb : Below w.heap.size w w1) : Own w1 base v l := pw_own_below h hb
theorem Own.drawn {w w1 : World} {base : Nat} {v : Value} {l : List UInt8} (h : Own w base v l) (hb : Drawn0 w w1) : Own w1 base v l := pw_own_below h hb.below
/-- string(..) of a row of the call's own; of one that came in. -/
theorem conv_own {w : World} {base : Nat} {v : Value} {l : List UInt8} (h : Own w base v l) : (convert 25 9 v).run Try.prog w = .ok (.string ⟨l.toArray⟩) w := by
  have := own_string (P := Try.prog) Try.underlying25 Try.underlying5 Try.underlying9 h
  rw [str_ints] at this
  exact this
theorem conv_in {w : World} {A : Option Addr} {c : Nat} {l : List UInt8} (h : Kd.C (Kd.int .u8) w A l.length (ints l)) : (convert 25 9 (.slice A l.length c)).run Try.prog w = .ok (.string ⟨l.toArray⟩) w := by
  have := string_of_reads (P := Try.prog) (src := 25) (dst := 9) (c := c) Try.underlying25 Try.underlying5 Try.underlying9 (Kd.reads_of_C (enc := Value.int .u8) (d := (0 : Int)) (h1 := fun _ => rfl) h)
  rw [str_ints] at this
  exact this

set_option maxHeartbeats 400000 in
set_option maxRecDepth 100000 in
theorem encodes_out (a0 : Option Addr) (n0 c0 : Nat) (w : World) (h : 400 < n0) (hm : n0 ≤ maxLen) :
    Calls Try.prog 7 #[.slice a0 n0 c0] w fun e w' => e = .returned (.bool true) ∧ Below w.heap.size w w' := by
  unfold maxLen at hm
  go_enter Try.func7, Try.ntmps7
  go_wp2_with fail
  refine (awake_any _).mono ?_
  rintro e w1 ⟨rfl, hb1⟩
  go_wp2_with fail
  refine (awake_any _).mono ?_
  rintro e w2 ⟨rfl, hb2⟩
  go_wp2
  go_ret
  exact ⟨rfl, hb1.trans (hb2.mono hb1.size)⟩

set_option maxHeartbeats 1000000 in
set_option maxRecDepth 100000 in
theorem encodes_in (A0 : Option Addr) (c0 : Nat) (p : List UInt8) (w : World) (hr0 : Kd.C (Kd.int .u8) w A0 p.length (ints p)) (hc0 : p.length ≤ c0) (hp : p.length ≤ 400) :
    Calls Try.prog 7 #[.slice A0 p.length c0] w fun e w' => e = .returned (.bool true) ∧ Below w.heap.size w w' := by
  have HR0 := Aside0.mk hr0
  clear hr0
  have hel : (enc p).length = lens p.length := enc_length p
  have hle : lens p.length ≤ 1000 := by unfold lens; omega
  have back : decL ⟨(enc p).toArray⟩ = p ∧ decE ⟨(enc p).toArray⟩ = 0 := by
    unfold decL decE
    simp [dec_enc]
  have BK := Lib.hid back
  have HEL := Lib.hid hel
  clear back hel
  go_enter Try.func7, Try.ntmps7
  go_wp2_with fail
  refine (awake_any _).mono ?_
  rintro e w1 ⟨rfl, hb1⟩
  go_wp2_with fail
  refine (encode_any A0 c0 p _ (c_below HR0.out hb1) hc0 (by omega)).mono ?_
  rintro e w2 ⟨rfl, hb2⟩
  have HB2 := hb1.trans (hb2.mono hb1.size)
  go_wp2_with fail
  have h3 := dec_any ⟨(enc p).toArray⟩ w2 (by show (enc p).toArray.size ≤ _; rw [List.size_toArray, HEL.out]; omega)
  rw [BK.out.1, BK.out.2] at h3
  refine h3.mono ?_
  rintro e w3 ⟨A3, c3, rfl, ho3, hb3⟩
  have HB3 := HB2.trans (hb3.mono HB2.size)
  clear h3
  go_wp2_with fail
  refine (refEnc_any A0 c0 p _ (c_below HR0.out HB3) hc0 (by omega)).mono ?_
  rintro e w4 ⟨rfl, hb4⟩
  have HB4 := HB3.trans (hb4.mono HB3.size)
  go_wp2_with fail
  refine (len_any p.length _ (by omega)).mono ?_
  rintro e w5 ⟨rfl, hd5⟩
  have HB5 := below_drawn HB4 hd5
  have cv3 := conv_own ((ho3.below hb4).drawn hd5)
  have cv0 := conv_in (c := c0) (c_below HR0.out HB5)
  have hel := HEL.out
  go_wp2
  go_ret
  exact ⟨by first | rfl | (go_simp; done), HB5⟩

theorem walk_BaseEncodes (a0 : Option Addr) (len0 cap0 : Nat) (z0 : List Int) (w : World)
    (w0 : (a0 = none ∧ len0 = 0 ∧ cap0 = 0 ∧ z0 = []) ∨ ∃ x, a0 = some x ∧ len0 ≤ cap0 ∧ cap0 ≤ maxLen ∧ z0.length = cap0 ∧ (∀ i, i < z0.length → w.cell? (x.add i) = some (.int .u8 (z0.getD i 0))) ∧ ∀ n ∈ z0, (Lit.int .u8 n).wf = true)
    (y0 : len0 * 1 ≤ 140737488351232) :
    Calls Try.prog 7 #[.slice a0 len0 cap0] w fun e w' => e = .returned (.bool true) ∧ Below w.heap.size w w' := by
  obtain ⟨p, rfl, hp, hpc, hpm⟩ := row_bytes w0
  by_cases h : 400 < p.length
  · exact encodes_out a0 _ cap0 w h hpm
  · exact encodes_in a0 cap0 p w hp hpc (by omega)
end Go.Proofs.Ytgbknccnigfniaa
