/-
  BaseDecodes: any text as signs: for any text the law answers true.
-/
import Derived.Test.YtgbknccnigfniaaRefDec
set_option linter.unusedVariables false
set_option linter.unusedSimpArgs false
namespace Go.Proofs.Ytgbknccnigfniaa
open Go.RowKit Go.Proofs.YtgbknccnigfniaaW.PrintWords Go.Proofs.YtgbknccnigfniaaW.PrintLast Go.Proofs.YtgbknccnigfniaaW.PrintMore

set_option maxHeartbeats 400000 in
set_option maxRecDepth 100000 in
theorem decodes_out (s : ByteArray) (w : World) (h : 600 < s.size) (hm : s.size ≤ 140737488351232) :
    Calls Try.prog 8 #[.string s] w fun e w' => e = .returned (.bool true) ∧ Below w.heap.size w w' := by
  go_enter Try.func8, Try.ntmps8
  go_wp2_with fail
  refine (awake_any _).mono ?_
  rintro e w1 ⟨rfl, hb1⟩
  go_wp2_with fail
  refine (awake_any _).mono ?_
  rintro e w2 ⟨rfl, hb2⟩
  go_wp2
  go_ret
  exact ⟨rfl, hb1.trans (hb2.mono hb1.size)⟩

theorem c_of_own {w : World} {base c : Nat} {A : Option Addr} {l : List UInt8} (h : Own w base (.slice A l.length c) l) : Kd.C (Kd.int .u8) w A l.length (ints l) ∧ l.length ≤ c := by
  obtain ⟨A', c', e, hr⟩ := own_reads h
  injection e with e1 e2 e3
  subst e1
  refine ⟨Kd.C_of_reads (d := (0 : Int)) hr, ?_⟩
  rcases h.2 with ⟨hv, h0⟩ | ⟨g, cap, cur, hv, _, _, h1, _⟩
  · omega
  · injection hv with _ _ e2; omega

set_option maxHeartbeats 1000000 in
set_option maxRecDepth 100000 in
theorem decodes_in (s : ByteArray) (w : World) (h : s.size ≤ 600) :
    Calls Try.prog 8 #[.string s] w fun e w' => e = .returned (.bool true) ∧ Below w.heap.size w w' := by
  have hsl : s.data.toList.length = s.size := by rw [Array.length_toList]; rfl
  cases hd : dec s.data.toList with
  | none =>
    have e1 : decL s = [] := by rw [decL, hd]; rfl
    have e2 : decE s = 3 := by rw [decE, hd]; rfl
    have E1 := Lib.hid e1
    have E2 := Lib.hid e2
    clear e1 e2 hd
    go_enter Try.func8, Try.ntmps8
    go_wp2_with fail
    refine (awake_any _).mono ?_
    rintro e w1 ⟨rfl, hb1⟩
    go_wp2_with fail
    have h2 := dec_any s w1 (by omega)
    rw [E1.out, E2.out] at h2
    refine h2.mono ?_
    rintro e w2 ⟨A2, c2, rfl, ho2, hb2⟩
    have HB2 := hb1.trans (hb2.mono hb1.size)
    clear h2
    go_wp2_with fail
    have h3 := refDec_any s w2 (by omega)
    rw [E1.out, E2.out] at h3
    refine h3.mono ?_
    rintro e w3 ⟨A3, c3, rfl, ho3, hb3⟩
    have HB3 := HB2.trans (hb3.mono HB2.size)
    clear h3
    have cv2 := conv_own (ho2.below hb3)
    have cv3 := conv_own ho3
    simp only [List.length_nil] at cv2 cv3
    go_wp2
    go_ret
    exact ⟨by first | rfl | (go_simp; done), HB3⟩
  | some l =>
    have e1 : decL s = l := by rw [decL, hd]; rfl
    have e2 : decE s = 0 := by rw [decE, hd]; rfl
    have e3 : enc l = s.data.toList := enc_dec hd
    have hll : l.length ≤ 1000 := by
      have := congrArg List.length e3
      rw [enc_length, hsl] at this
      unfold lens at this
      omega
    have E1 := Lib.hid e1
    have E2 := Lib.hid e2
    have E3 := Lib.hid e3
    clear e1 e2 e3 hd
    go_enter Try.func8, Try.ntmps8
    go_wp2_with fail
    refine (awake_any _).mono ?_
    rintro e w1 ⟨rfl, hb1⟩
    go_wp2_with fail
    have h2 := dec_any s w1 (by omega)
    rw [E1.out, E2.out] at h2
    refine h2.mono ?_
    rintro e w2 ⟨A2, c2, rfl, ho2, hb2⟩
    have HB2 := hb1.trans (hb2.mono hb1.size)
    clear h2
    go_wp2_with fail
    have h3 := refDec_any s w2 (by omega)
    rw [E1.out, E2.out] at h3
    refine h3.mono ?_
    rintro e w3 ⟨A3, c3, rfl, ho3, hb3⟩
    have HB3 := HB2.trans (hb3.mono HB2.size)
    clear h3
    have ho2' := ho2.below hb3
    have cv2 := conv_own ho2'
    have cv3 := conv_own ho3
    obtain ⟨hC2, hc2⟩ := c_of_own ho2'
    go_wp2_with fail
    refine (encode_any A2 c2 l _ hC2 hc2 (by omega)).mono ?_
    rintro e w4 ⟨rfl, hb4⟩
    have HB4 := HB3.trans (hb4.mono HB3.size)
    clear cv2 cv3
    rw [E3.out]
    go_wp2
    go_ret
    refine ⟨?_, HB4⟩
    go_simp
    try rw [Lib.toList_data]

theorem walk_BaseDecodes (a0 : ByteArray) (w : World) (w0 : a0.size ≤ 140737488351232) :
    Calls Try.prog 8 #[.string a0] w fun e w' => e = .returned (.bool true) ∧ Below w.heap.size w w' := by
  by_cases h : 600 < a0.size
  · exact decodes_out a0 w h w0
  · exact decodes_in a0 w (by omega)
end Go.Proofs.Ytgbknccnigfniaa
