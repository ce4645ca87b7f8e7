/-
  Of: the digest of some bytes; Len; the document's example.
-/
import Derived.Test.YtnpmhbhnggdhcaaSum
set_option linter.unusedVariables false
set_option linter.unusedSimpArgs false
namespace Go.Proofs.Ytnpmhbhnggdhcaa
open Go.RowKit Go.Proofs.YtnpmhbhnggdhcaaW.PrintWords

/-- The bytes p lie at A. -/
def Rd (w : World) (A : Option Addr) (p : List UInt8) : Prop := 0 < p.length → ∃ ad, A = some ad ∧ ad.block < w.heap.size ∧ ∀ j, j < p.length → w.cell? (ad.add j) = some (.int .u8 ((p.getD j 0).toNat : Int))
theorem Rd.lies {w w' : World} {A : Option Addr} {p : List UInt8} (h : Rd w A p) (hk : Kept w w' (fun j => w.heap.size ≤ j)) {b : Nat} (hb : w.heap.size ≤ b) : Lies w' b A p := fun h0 => by
  obtain ⟨ad, e, h1, h2⟩ := h h0
  exact ⟨ad, e, by omega, by have := hk.size; omega, fun j hj => hk.cell (h2 j hj) (by rw [addr_block]; exact h1) (by rw [addr_block]; omega)⟩
theorem Kept.of_b {w w' : World} {B : Nat} (h : Below B w w') {ks : Nat → Prop} (hB : ∀ k, k < w.heap.size → ¬ ks k → k < B) : Kept w w' ks := ⟨h.os, h.tape, h.output, h.size, fun k hk hn => h.block k (hB k hk hn)⟩
theorem Rd.below {w w' : World} {A : Option Addr} {p : List UInt8} (h : Rd w A p) (hb : Below w.heap.size w w') : Rd w' A p := fun h0 => by
  obtain ⟨ad, e, h1, h2⟩ := h h0
  exact ⟨ad, e, by have := hb.size; omega, fun j hj => (Kept.of_below hb (fun _ => False)).cell (h2 j hj) (by rw [addr_block]; exact h1) (fun e => e)⟩
theorem HS.below {w w' : World} {b k : Nat} {l : List UInt8} (h : HS w b k l) (hb : Below w.heap.size w w') : HS w' b k l := h.kept (Kept.of_below hb (fun _ => False)) (fun e => e) (fun e => e)
theorem HS.drew {w : World} {b k : Nat} {l : List UInt8} (h : HS w b k l) : HS w.drew b k l := h
theorem new_hs (w : World) : Calls Try.prog 11 #[] w fun e w' => ∃ b k, e = .returned (.pointer (some ⟨b, 0, none⟩)) ∧ HS w' b k [] ∧ w.heap.size ≤ b ∧ w.heap.size ≤ k ∧ Below w.heap.size w w' := by
  refine (new_any w).mono ?_
  rintro e w' ⟨b, k, rfl, h1, h2, h3, h4, h5, h6⟩
  exact ⟨b, k, rfl, ⟨H8, zb 64, Fed.nil, by rw [H8_l]; exact h1, h2, Ne.symm h3⟩, h4, h5, h6⟩
theorem HS.lt {w : World} {b k : Nat} {l : List UInt8} (h : HS w b k l) : b < w.heap.size := by
  obtain ⟨_, _, _, hb, _⟩ := h
  exact blk_lt hb

theorem sz_eq {a d : List UInt8} (h : a.length = d.length) : (Lib.byteCells a).toArray.size = (Lib.byteCells d).toArray.size := by rw [List.size_toArray, List.size_toArray, Lib.byteCells_length, Lib.byteCells_length, h]
/-- An array that a call hands on lies in a block of its own. -/
theorem arr_back {w : World} {r : Nat} {d : List UInt8} {t : TypeId} {P : Program} {dd : TypeDesc} (h : w.heap[r]? = some (.cells (Lib.byteCells d).toArray t (0, 0))) (hu : P.underlying t = some dd) (hd : dd.isRow = true) (hi : (P.info? t).map (·.size) = some d.length) : (loadVar t ⟨r, 0, none⟩).run P w = .ok (.agg (Lib.byteCells d).toArray) w :=
  run_loadVar_mid w r 0 t (Lib.byteCells d) _ (range_part (o := 0) h (by rw [List.drop_zero, List.take_length])) hu hd (by rw [Lib.byteCells_length]; exact hi)

set_option maxHeartbeats 1000000 in
set_option maxRecDepth 100000 in
theorem of_any (A : Option Addr) (cap : Nat) (p : List UInt8) (w : World) (hr : Rd w A p) (hl : p.length ≤ 1000000000) :
    Calls Try.prog 9 #[.slice A p.length cap] w fun e w' => e = .returned (.agg (Lib.byteCells (digest p)).toArray) ∧ Below w.heap.size w w' := by
  have hz := zero24
  have a0 := alloc_at w (.cells (Lib.byteCells (zrs 32)).toArray 24)
  have b0 := (Below.refl w.heap.size w).alloc (Nat.le_refl _) (.cells (Lib.byteCells (zrs 32)).toArray 24)
  have z0 : (w.alloc (.cells (Lib.byteCells (zrs 32)).toArray 24)).heap.size = w.heap.size + 1 := by simp
  have HR := Lib.hid hr
  have A0 := Lib.hid a0
  have B0 := Lib.hid b0
  have Z0 := Lib.hid z0
  clear hr a0 b0 z0
  go_enter Try.func9, Try.ntmps9
  go_wp2_with fail
  generalize w.alloc (.cells (Lib.byteCells (zrs 32)).toArray 24) = w1 at *
  refine (new_hs w1).mono ?_
  rintro e w2 ⟨b, k, rfl, h2, hb2, hk2, bl2⟩
  have q1 := Z0.out
  have BB2 := Lib.hid (B0.out.trans (bl2.mono (by omega)))
  have A2 := Lib.hid (blk_below A0.out bl2)
  have X := Lib.hid (write_any b k [] p A cap w2 h2 (HR.out.lies (Kept.of_b BB2.out (fun j h1 h2 => by omega)) (by omega)) (by simp; omega))
  clear h2 bl2 q1
  go_wp2_with fail
  refine X.out.mono ?_
  rintro e w3 ⟨rfl, h3, k3⟩
  rw [List.nil_append] at h3
  have BB3 := Lib.hid (k3.below BB2.out (fun j hj => by have := Z0.out; omega) BB2.out.size)
  have A3 := Lib.hid (k3.at_ A2.out (by have := Z0.out; omega))
  have Y := Lib.hid (sum_any b k p w3 h3 (by omega))
  clear h3 k3 X
  go_wp2_with fail
  refine Y.out.mono ?_
  rintro e w4 ⟨rfl, b4⟩
  have A4 := Lib.hid (blk_below A3.out b4)
  have BB4 := Lib.hid (BB3.out.trans (b4.mono BB3.out.size))
  have HL := Lib.hid (digest_length p)
  clear b4
  go_wp2_with (refine wpList_store_whole rfl 24 _ _ rfl w.heap.size (Lib.byteCells (digest p)).toArray (Lib.byteCells (zrs 32)).toArray 24 rfl rfl A4.out (sz_eq (by rw [HL.out]; rfl)) (by rw [List.size_toArray, Lib.byteCells_length, HL.out]; exact info24) (one_bytes _) ?_; intro w5 h5 h6; have H5 := Lib.hid h5; have H6 := Lib.hid (At1.below BB4.out h6 (Nat.le_refl _)); clear h5 h6)
  exact bodyPost_ret (results_cell1 rfl _ rfl (arr_back H5.out Try.underlying24 rfl (by rw [HL.out]; exact info24))) rfl ⟨rfl, H6.out⟩

set_option maxHeartbeats 400000 in
theorem len_nil (w : World) : Calls Try.prog 16 #[.pointer none] w fun e w' => e = .returned (.int .u64 0) ∧ w' = w := by
  go_enter Try.func16, Try.ntmps16
  go_wp2
  go_ret
  exact ⟨rfl, rfl⟩
set_option maxHeartbeats 400000 in
theorem len_any (b k : Nat) (l : List UInt8) (w : World) (h : HS w b k l) : Calls Try.prog 16 #[.pointer (some ⟨b, 0, none⟩)] w fun e w' => e = .returned (.int .u64 (l.length : Int)) ∧ w' = w := by
  obtain ⟨H, part, f, hb, _⟩ := h
  have c73 := num_cell hb H.l_length f.len
  clear hb f
  go_enter Try.func16, Try.ntmps16
  go_wp2
  go_ret
  exact ⟨rfl, rfl⟩
end Go.Proofs.Ytnpmhbhnggdhcaa
