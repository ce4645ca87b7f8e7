/-
  BaseHex: bytes in digits, and back; any text as digits: the law answers true for up to 1048576 bytes of each.
-/
import Derived.Test.YtgbknccnigfniaaAwake
import Derived.Test.YtgbknccnigfniaaHexPlain
import Derived.Test.YtgbknccnigfniaaRefHex
set_option linter.unusedVariables false
set_option linter.unusedSimpArgs false
namespace Go.Proofs.Ytgbknccnigfniaa
open Go.RowKit Go.Proofs.YtgbknccnigfniaaW.PrintWords Go.Proofs.YtgbknccnigfniaaW.PrintLast Go.Proofs.YtgbknccnigfniaaW.PrintMore

def rhL (s : ByteArray) : List UInt8 := (rh s.data.toList).getD []
def rhE (s : ByteArray) : Int := if (rh s.data.toList).isSome then 0 else 3
theorem rhAns_eq (o : Option (List UInt8)) : rhAns [] o = (ints (o.getD []), if o.isSome then 0 else 3) := by cases o <;> simp [rhAns, ints]

/-- A row of bytes of the call's own. -/
def Own (w : World) (base : Nat) (v : Value) (l : List UInt8) : Prop := w.ownsRow base 5 1 v l.length (nums .u8 (ints l))
theorem own_of_kd {w : World} {base : Nat} {v : Value} {l : List UInt8} (h : Kd.R (Kd.int .u8) 5 w base (fun _ => True) v (ints l)) : Own w base v l := by
  have := Kd.own_of_R h
  rw [ints_length] at this
  exact this
theorem Own.below {w w1 : World} {base : Nat} {v : Value} {l : List UInt8} (h : Own w base v l) (hb : Below w.heap.size w w1) : Own w1 base v l := pw_own_below h hb

theorem readHex_any (s : ByteArray) (w : World) (hs : s.size ≤ 140737488351232) :
    Calls Try.prog 14 #[.string s] w fun e w' => ∃ A c, e = .returned (.tuple #[.slice A (rhL s).length c, .int .i64 (rhE s)]) ∧ Own w' w.heap.size (.slice A (rhL s).length c) (rhL s) ∧ Below w.heap.size w w' := by
  obtain ⟨k, hk⟩ := readHex_f s hs
  rw [rhAns_eq] at hk
  refine (PBaseHex.base_ReadHex.calls k s _ _ w hk).mono ?_
  rintro e w' ⟨v0, rfl, hR, hb⟩
  have ho := own_of_kd hR
  obtain ⟨A, c, rfl⟩ := own_slice ho
  exact ⟨A, c, rfl, ho, hb⟩
theorem refReadHex_any (s : ByteArray) (w : World) (hs : s.size ≤ 140737488351232) :
    Calls Try.prog 15 #[.string s] w fun e w' => ∃ A c, e = .returned (.tuple #[.slice A (rhL s).length c, .int .i64 (rhE s)]) ∧ Own w' w.heap.size (.slice A (rhL s).length c) (rhL s) ∧ Below w.heap.size w w' := by
  obtain ⟨k, hk⟩ := refReadHex_f s hs
  rw [rhAns_eq] at hk
  refine (PBaseHex.staddleref02_ReadHex.calls k s _ _ w hk).mono ?_
  rintro e w' ⟨v0, rfl, hR, hb⟩
  have ho := own_of_kd hR
  obtain ⟨A, c, rfl⟩ := own_slice ho
  exact ⟨A, c, rfl, ho, hb⟩

/-- string(..) of a row of the call's own; of one that came in. -/
theorem conv_own {w : World} {base : Nat} {v : Value} {l : List UInt8} (h : Own w base v l) : (convert 25 9 v).run Try.prog w = .ok (.string ⟨l.toArray⟩) w := by
  have := own_string (P := Try.prog) Try.underlying25 Try.underlying5 Try.underlying9 h
  rw [str_ints] at this
  exact this
theorem conv_in {w : World} {A : Option Addr} {c : Nat} {l : List UInt8} (h : Kd.C (Kd.int .u8) w A l.length (ints l)) : (convert 25 9 (.slice A l.length c)).run Try.prog w = .ok (.string ⟨l.toArray⟩) w := by
  have := string_of_reads (P := Try.prog) (src := 25) (dst := 9) (c := c) Try.underlying25 Try.underlying5 Try.underlying9 (Kd.reads_of_C (enc := Value.int .u8) (d := (0 : Int)) (h1 := fun _ => rfl) h)
  rw [str_ints] at this
  exact this

set_option maxHeartbeats 1000000 in
set_option maxRecDepth 100000 in
theorem hex_in (A0 : Option Addr) (c0 : Nat) (p : List UInt8) (s : ByteArray) (w : World) (hr0 : Kd.C (Kd.int .u8) w A0 p.length (ints p)) (hc0 : p.length ≤ c0) (hp : p.length ≤ 1048576) (hs : s.size ≤ 1048576) :
    Calls Try.prog 6 #[.slice A0 p.length c0, .string s] w fun e w' => e = .returned (.bool true) ∧ Below w.heap.size w w' := by
  have HR0 := Aside0.mk hr0
  clear hr0
  have back : rhL ⟨(hexs p).toArray⟩ = p ∧ rhE ⟨(hexs p).toArray⟩ = 0 := by
    unfold rhL rhE
    simp [rh_hexs]
  have BK := Lib.hid back
  clear back
  go_enter Try.func6, Try.ntmps6
  go_wp2_with fail
  refine (awake_any _).mono ?_
  rintro e w1 ⟨rfl, hb1⟩
  go_wp2_with fail
  refine (hex_any A0 c0 p _ (c_below HR0.out hb1) hc0 (by omega)).mono ?_
  rintro e w2 ⟨rfl, hb2⟩
  have HB2 := hb1.trans (hb2.mono hb1.size)
  go_wp2_with fail
  have h3 := readHex_any ⟨(hexs p).toArray⟩ w2 (by show (hexs p).toArray.size ≤ _; simp [hexs_length]; omega)
  rw [BK.out.1, BK.out.2] at h3
  refine h3.mono ?_
  rintro e w3 ⟨A3, c3, rfl, ho3, hb3⟩
  have HB3 := HB2.trans (hb3.mono HB2.size)
  clear h3
  go_wp2_with fail
  refine (readHex_any s w3 (by omega)).mono ?_
  rintro e w4 ⟨A4, c4, rfl, ho4, hb4⟩
  have HB4 := HB3.trans (hb4.mono HB3.size)
  go_wp2_with fail
  refine (refReadHex_any s w4 (by omega)).mono ?_
  rintro e w5 ⟨A5, c5, rfl, ho5, hb5⟩
  have HB5 := HB4.trans (hb5.mono HB4.size)
  go_wp2_with fail
  refine (refHex_any A0 c0 p _ (c_below HR0.out HB5) (by omega)).mono ?_
  rintro e w6 ⟨rfl, hb6⟩
  have HB6 := HB5.trans (hb6.mono HB5.size)
  have cv3 := conv_own (((ho3.below hb4).below hb5).below hb6)
  have cv4 := conv_own ((ho4.below hb5).below hb6)
  have cv5 := conv_own (ho5.below hb6)
  have cv0 := conv_in (c := c0) (c_below HR0.out HB6)
  go_wp2
  go_ret
  exact ⟨by first | rfl | (go_simp; done), HB6⟩

theorem walk_BaseHex (a0 : Option Addr) (len0 cap0 : Nat) (z0 : List Int) (a1 : ByteArray) (w : World)
    (w0 : (a0 = none ∧ len0 = 0 ∧ cap0 = 0 ∧ z0 = []) ∨ ∃ x, a0 = some x ∧ len0 ≤ cap0 ∧ cap0 ≤ maxLen ∧ z0.length = cap0 ∧ (∀ i, i < z0.length → w.cell? (x.add i) = some (.int .u8 (z0.getD i 0))) ∧ ∀ n ∈ z0, (Lit.int .u8 n).wf = true)
    (y0 : len0 ≤ 1048576) (w1 : a1.size ≤ 1048576) :
    Calls Try.prog 6 #[.slice a0 len0 cap0, .string a1] w fun e w' => e = .returned (.bool true) ∧ Below w.heap.size w w' := by
  obtain ⟨p, rfl, hp, hpc, hpm⟩ := row_bytes w0
  exact hex_in a0 cap0 p a1 w hp hpc y0 w1
end Go.Proofs.Ytgbknccnigfniaa
