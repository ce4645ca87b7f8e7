/-
  Encode: any bytes in signs.
-/
import Derived.Test.YtigeljeoodhcoaaFive
import Derived.Test.YtigeljeoodhcoaaBuilder
import Derived.Test.YtigeljeoodhcoaaShelf
import Derived.WalkKit
import Derived.Lib.Hide
namespace Go.Proofs.Ytigeljeoodhcoaa
open Go.RowKit Go.Proofs.YtigeljeoodhcoaaW.PrintWords Go.Proofs.YtigeljeoodhcoaaW.PrintLast Go.Proofs.YtigeljeoodhcoaaW.PrintMore

theorem signs_get (v : Nat) (h : v < signs.size) : signs[v] = signs.data.getD v 0 := by
  have h' : v < signs.data.size := h
  show signs.data[v] = _
  rw [Array.getD_eq_getD_getElem?, Array.getElem?_eq_getElem h']; rfl

theorem isB_drawn {T e : TypeId} {B b : Nat} {bs : List Value} {w w' : World} (h : Lib.IsBuilder T e B b bs w) (hd : Drawn0 w w') : Lib.IsBuilder T e B b bs w' := by
  obtain ⟨n, rfl⟩ := hd
  exact h
theorem c_below {w w1 : World} {A : Option Addr} {n : Nat} {xs : List Int} (h : Kd.C (Kd.int .u8) w A n xs) (hb : Below w.heap.size w w1) : Kd.C (Kd.int .u8) w1 A n xs := Kd.C_below h hb
theorem below_drawn {B : Nat} {w w1 w2 : World} (h : Below B w w1) (hd : Drawn0 w1 w2) : Below B w w2 := by
  obtain ⟨n, rfl⟩ := hd
  exact pw_below_drewN h n

set_option maxHeartbeats 400000 in
set_option maxRecDepth 100000 in
theorem encode_any (A : Option Addr) (c : Nat) (l : List UInt8) (w : World) (hr : Kd.C (Kd.int .u8) w A l.length (ints l)) (hc : l.length ≤ c) (hl : l.length ≤ 1000000000) :
    Calls Try.prog 18 #[.slice A l.length c] w fun e w' => e = .returned (.string ⟨(enc l).toArray⟩) ∧ Below w.heap.size w w' := by
  have hle : lens l.length ≤ 2000000000 := by unfold lens; omega
  have HR := Aside0.mk hr
  clear hr
  go_enter Try.func18, Try.ntmps18
  go_wp2_with (go_at_call 28; refine (len_any l.length _ hl).mono ?_; rintro e w' ⟨rfl, hd⟩)
  have hI := isB_drawn (Lib.fresh_isBuilder 49 5 w) hd
  have hB := below_drawn ((Below.refl _ w).alloc (Nat.le_refl _) _) hd
  clear hd
  go_loopw [4] (fun i wr => ∃ (k : Nat) (acc : List UInt8), i = .int .i64 ((k : Int) - 1) ∧ Lib.IsBuilder 49 5 w.heap.size w.heap.size (Lib.byteCells acc) wr ∧ Below w.heap.size w wr ∧ Aside0 (acc ++ down (val l) k = enc l) ∧ k ≤ lens l.length) (fun i _ => (intOf i + 1).toNat)
  case atStart => exact ⟨lens l.length, [], by first | rfl | go_num, hI, hB, ⟨rfl⟩, Nat.le_refl _⟩
  case round =>
    obtain ⟨k, acc, rfl, hI, hB, HA, hk⟩ := hrel
    have hal : acc.length + k = lens l.length := by have := congrArg List.length HA.out; simpa [down_length, enc_length] using this
    by_cases hk0 : 0 < k
    · have hC := c_below HR.out hB
      obtain ⟨m, rfl⟩ : ∃ m, k = m + 1 := ⟨k - 1, by omega⟩
      have em : (((m + 1 : Nat) : Int) - 1) = (m : Int) := by omega
      rw [em]
      have hm5 : 5 * m < 8 * l.length := by have := hk; unfold lens at this; omega
      have hfive := five_any A c l m wr hC hc hm5 hl
      have hlt := Nat.mod_lt (val l / 32 ^ m) (show 0 < 32 by decide)
      obtain ⟨v, hv⟩ : ∃ v, val l / 32 ^ m % 32 = v := ⟨_, rfl⟩
      rw [hv] at hfive hlt
      have HV := Lib.hid hv
      have HF := Lib.hid hfive
      clear hv hfive
      go_wp2_with fail
      refine HF.out.mono ?_
      rintro e w' ⟨rfl, hd⟩
      have hI2 := isB_drawn hI hd
      have hB2 := below_drawn hB hd
      clear hd
      go_wp2_with fail
      refine (writeByte w.heap.size w.heap.size _ _ _ hI2 (by rw [Lib.byteCells_length]; omega) hB2.size).mono ?_
      rintro e w1 ⟨rfl, h1, hb1⟩
      go_wp2
      go_roundw
      case rel =>
        refine ⟨m, acc ++ [sgn (val l / 32 ^ m)], by first | rfl | go_num, ?_, hB2.trans hb1, ⟨?_⟩, by omega⟩
        · have e1 : sgn (val l / 32 ^ m) = signs.data.getD v 0 := by rw [sgn, HV.out]
          rw [Lib.byteCells_append]
          refine Or.inr ?_
          have e2 : Lib.byteCells [sgn (val l / 32 ^ m)] = [.int .u8 ((signs.data.getD v 0).toNat : Int)] := by rw [e1]; rfl
          rw [e2]
          have hsz : v < signs.size := hlt
          have h2 : Lib.BuilderAt 49 5 w.heap.size w.heap.size (.pointer (some ⟨w.heap.size, 0, none⟩)) (Lib.byteCells acc ++ [.int .u8 ((signs[v]'hsz).toNat : Int)]) w1 := h1
          rw [signs_get v hsz] at h2
          exact h2
        · rw [List.append_assoc]; exact HA.out
      case measure => simp [intOf]
    · obtain rfl : k = 0 := by omega
      have e0 : acc = enc l := by simpa [down] using HA.out
      subst e0
      go_wp2_with fail
      refine (Try.Builder_String_any w.heap.size w.heap.size _ _ hI hB.size).mono ?_
      rintro e w1 ⟨rfl, hb1⟩
      go_wp2
      go_ret
      exact ⟨rfl, hB.trans hb1⟩
end Go.Proofs.Ytigeljeoodhcoaa
