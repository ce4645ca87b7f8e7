/-
  Hex: any bytes in digits (fewer than 2^46 of them).
-/
import Derived.Test.YtgbknccnigfniaaEncode
set_option linter.unusedVariables false
set_option linter.unusedSimpArgs false
namespace Go.Proofs.Ytgbknccnigfniaa
open Go.RowKit Go.Proofs.YtgbknccnigfniaaW.PrintWords Go.Proofs.YtgbknccnigfniaaW.PrintLast Go.Proofs.YtgbknccnigfniaaW.PrintMore

def digs : ByteArray := ⟨#[48, 49, 50, 51, 52, 53, 54, 55, 56, 57, 97, 98, 99, 100, 101, 102]⟩
def dig (n : Nat) : UInt8 := digs.data.getD n 0
theorem digs_get (v : Nat) (h : v < digs.size) : digs[v] = dig v := by
  have h' : v < digs.data.size := h
  show digs.data[v] = _
  rw [dig, Array.getD_eq_getD_getElem?, Array.getElem?_eq_getElem h']; rfl
def hexs : List UInt8 → List UInt8
  | [] => []
  | b :: l => dig (b.toNat / 16) :: dig (b.toNat % 16) :: hexs l
theorem hexs_length (l : List UInt8) : (hexs l).length = 2 * l.length := by
  induction l with
  | nil => rfl
  | cons b l ih => simp [hexs, ih]; omega

theorem byteCells_snoc (acc : List UInt8) (x : UInt8) : Lib.byteCells (acc ++ [x]) = Lib.byteCells acc ++ [.int .u8 (x.toNat : Int)] := by
  rw [Lib.byteCells_append]; rfl

theorem at_byte {w : World} {A : Option Addr} {l : List UInt8} (h : Kd.C (Kd.int .u8) w A l.length (ints l)) (k : Nat) (hk : k < l.length) :
    ∃ ad b, A = some ad ∧ w.cell? (ad.add k) = some (.int .u8 ((b : UInt8).toNat : Int)) ∧ Hid (l.drop k = b :: l.drop (k + 1)) := by
  obtain ⟨ad, ea, hx⟩ := Kd.at_int h (k : Int) (by omega) (by omega)
  rw [rd_ints, Int.toNat_natCast] at hx
  refine ⟨ad, l.getD k 0, ea, hx, Lib.hid ?_⟩
  rw [List.drop_eq_getElem_cons hk, List.getD_eq_getElem?_getD, List.getElem?_eq_getElem hk]; rfl

set_option maxHeartbeats 400000 in
set_option maxRecDepth 100000 in
theorem hex_any (A : Option Addr) (c : Nat) (l : List UInt8) (w : World) (hr : Kd.C (Kd.int .u8) w A l.length (ints l)) (hc : l.length ≤ c) (hl : l.length ≤ 70368744177664) :
    Calls Try.prog 13 #[.slice A l.length c] w fun e w' => e = .returned (.string ⟨(hexs l).toArray⟩) ∧ Below w.heap.size w w' := by
  have HR := Aside0.mk hr
  clear hr
  go_enter Try.func13, Try.ntmps13
  go_wp2
  go_loopw [5, 8] (fun _ i wr => ∃ (k : Nat) (acc : List UInt8), i = .int .i64 (k : Int) ∧ Lib.IsBuilder 38 5 w.heap.size w.heap.size (Lib.byteCells acc) wr ∧ Below w.heap.size w wr ∧ Aside0 (acc ++ hexs (l.drop k) = hexs l) ∧ Aside0 (acc.length = 2 * k) ∧ k ≤ l.length) (fun _ i _ => (l.length - (intOf i).toNat))
  case atStart => exact ⟨0, [], by first | rfl | go_num, Lib.fresh_isBuilder 38 5 w, (Below.refl _ w).alloc (Nat.le_refl _) _, ⟨rfl⟩, ⟨rfl⟩, Nat.zero_le _⟩
  case round =>
    obtain ⟨k, acc, rfl, hI, hB, HA, HL, hk⟩ := hrel
    by_cases hk0 : k < l.length
    · have hC := c_below HR.out hB
      obtain ⟨ad, b, ea, hx, ED⟩ := at_byte hC k hk0
      cases ea
      have hb1 := b.toNat_lt
      have h15 : bits BinOp.and IntKind.u8 (b.toNat : Int) 15 = (b.toNat : Int) % 16 := u8_and15 _ (by omega) (by omega)
      go_wp2_with fail
      refine (writeByte w.heap.size w.heap.size _ _ _ hI (by rw [Lib.byteCells_length, HL.out]; omega) hB.size).mono ?_
      rintro e w1 ⟨rfl, h1, hb1⟩
      have hsz : b.toNat / 16 < digs.size := by show _ < 16; omega
      have h2 : Lib.BuilderAt 38 5 w.heap.size w.heap.size (.pointer (some ⟨w.heap.size, 0, none⟩)) (Lib.byteCells acc ++ [.int .u8 ((digs[b.toNat / 16]'hsz).toNat : Int)]) w1 := h1
      rw [digs_get, ← byteCells_snoc] at h2
      have hB1 := hB.trans hb1
      clear h1 hsz
      go_wp2_with fail
      refine (writeByte w.heap.size w.heap.size _ _ _ (Or.inr h2) (by rw [Lib.byteCells_length, List.length_append, HL.out]; simp; omega) hB1.size).mono ?_
      rintro e w2 ⟨rfl, h1, hb2⟩
      have hsz : b.toNat % 16 < digs.size := by show _ < 16; omega
      have h3 : Lib.BuilderAt 38 5 w.heap.size w.heap.size (.pointer (some ⟨w.heap.size, 0, none⟩)) (Lib.byteCells (acc ++ [dig (b.toNat / 16)]) ++ [.int .u8 ((digs[b.toNat % 16]'hsz).toNat : Int)]) w2 := h1
      rw [digs_get, ← byteCells_snoc] at h3
      clear h1 hsz
      go_wp2
      go_roundw
      case rel =>
        refine ⟨k + 1, acc ++ [dig (b.toNat / 16)] ++ [dig (b.toNat % 16)], by first | rfl | go_num, Or.inr h3, hB1.trans hb2, ⟨?_⟩, ⟨by simp [HL.out]; omega⟩, by omega⟩
        rw [← HA.out, ED.out, hexs]; simp
      case measure => simp [intOf]; omega
    · obtain rfl : k = l.length := by omega
      have e0 : acc = hexs l := by simpa [hexs] using HA.out
      subst e0
      go_wp2_with fail
      refine (Try.Builder_String_any w.heap.size w.heap.size _ _ hI hB.size).mono ?_
      rintro e w1 ⟨rfl, hb1⟩
      go_wp2
      go_ret
      exact ⟨rfl, hB.trans hb1⟩
end Go.Proofs.Ytgbknccnigfniaa
