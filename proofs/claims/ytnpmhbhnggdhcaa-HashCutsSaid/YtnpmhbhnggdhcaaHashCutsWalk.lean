/-
  HashCuts: a text cut anywhere into two pieces has one digest: the walk.
-/
import Derived.Test.YtnpmhbhnggdhcaaArrEq
import Derived.Test.YtnpmhbhnggdhcaaRowBytes
set_option linter.unusedVariables false
set_option linter.unusedSimpArgs false
namespace Go.Proofs.Ytnpmhbhnggdhcaa
open Go.RowKit Go.Proofs.YtnpmhbhnggdhcaaW.PrintWords

theorem add_of_add (a : Addr) (i j : Nat) : (a.add i).add j = a.add (i + j) := by
  unfold Addr.add
  by_cases hi : i = 0 <;> by_cases hj : j = 0 <;> simp [hi, hj, Nat.add_assoc]
theorem Rd.take {w : World} {A : Option Addr} {p : List UInt8} (h : Rd w A p) (k : Nat) (hk : k ≤ p.length) : Rd w A (p.take k) := fun h0 => by
  rw [List.length_take] at h0
  obtain ⟨ad, e, h1, h2⟩ := h (by omega)
  refine ⟨ad, e, h1, fun j hj => ?_⟩
  rw [List.length_take] at hj
  rw [h2 j (by omega)]
  simp [List.getD_eq_getElem?_getD, List.getElem?_take, show j < k by omega]
theorem Rd.drop {w : World} {ad : Addr} {p : List UInt8} (h : Rd w (some ad) p) (k : Nat) (hk : k ≤ p.length) : Rd w (some (ad.add k)) (p.drop k) := fun h0 => by
  rw [List.length_drop] at h0
  obtain ⟨ad, e, h1, h2⟩ := h (by omega)
  cases e
  refine ⟨_, rfl, by rw [addr_block]; exact h1, fun j hj => ?_⟩
  rw [List.length_drop] at hj
  rw [add_of_add, h2 (k + j) (by omega)]
  simp [List.getD_eq_getElem?_getD]
theorem Rd.empty (w : World) (A : Option Addr) : Rd w A [] := fun h => absurd h (by simp)

set_option maxHeartbeats 1000000 in
set_option maxRecDepth 100000 in
theorem cuts_long (A : Option Addr) (cap : Nat) (n : Nat) (x : Int) (w : World) (hl : 20000 < n) (hm : n ≤ 140737488351232) :
    Calls Try.prog 4 #[.slice A n cap, .int .u16 x] w fun e w' => e = .returned (.bool true) ∧ Below w.heap.size w w' := by
  have hl' : (20000 : Int) < n := by omega
  go_enter Try.func4, Try.ntmps4
  go_wp2_with fail
  refine (awake_any _).mono ?_
  rintro e w1 ⟨rfl, hb1⟩
  have HB := Lib.hid hb1
  clear hb1
  go_wp2_with fail
  refine (awake_any _).mono ?_
  rintro e w2 ⟨rfl, hb2⟩
  have HB2 := Lib.hid (HB.out.trans (hb2.mono HB.out.size))
  clear hb2
  go_wp2
  go_ret
  exact ⟨rfl, HB2.out⟩

set_option maxHeartbeats 1000000 in
set_option maxRecDepth 100000 in
theorem cuts_some (ad : Addr) (cap : Nat) (p : List UInt8) (x : Nat) (w : World) (hr : Rd w (some ad) p) (hc : p.length ≤ cap) (hx : x < 65536) (hl : p.length ≤ 20000) (hcm : cap ≤ 9223372036854775807) :
    Calls Try.prog 4 #[.slice (some ad) p.length cap, .int .u16 x] w fun e w' => e = .returned (.bool true) ∧ Below w.heap.size w w' := by
  have hl' : ¬ (20000 : Int) < p.length := by omega
  obtain ⟨k, hk⟩ : ∃ k, x % (p.length + 1) = k := ⟨_, rfl⟩
  have hkl : k ≤ p.length := by
    have := Nat.mod_lt x (show 0 < p.length + 1 by omega)
    omega
  have hmod : (x : Int) % ((p.length : Int) + 1) = (k : Int) := by rw [← hk]; exact (Int.natCast_emod x (p.length + 1)).symm
  have HR := Lib.hid hr
  have HK := Lib.hid hk
  clear hr hk
  by_cases hcap : cap = k
  · subst hcap
    have HDR : Hid (p.drop cap = []) := Lib.hid (List.drop_of_length_le (by omega))
    go_enter Try.func4, Try.ntmps4
    go_wp2_with fail
    refine (awake_any _).mono ?_
    rintro e w1 ⟨rfl, hb1⟩
    have HB := Lib.hid hb1
    clear hb1
    go_wp2_with fail
    try simp only [hmod]
    clear hmod
    refine (new_hs w1).mono ?_
    rintro e w2 ⟨b, kk, rfl, h2, hb2, hk2, bl2⟩
    have z1 := HB.out.size
    have BB2 := Lib.hid (HB.out.trans (bl2.mono z1))
    have hLp : ∀ q A', Rd w A' q → ∀ W, Kept w W (fun j => w.heap.size ≤ j) → Lies W b A' q := fun q A' hq W hW => hq.lies hW (by omega)
    have hK2 : Kept w w2 (fun j => w.heap.size ≤ j) := Kept.of_b BB2.out (fun j h1 h2 => by omega)
    have X := Lib.hid (write_any b kk [] (p.take cap) (some ad) cap w2 h2 (hLp _ _ (HR.out.take cap hkl) _ hK2) (by simp; omega))
    rw [show (p.take cap).length = cap by rw [List.length_take]; omega] at X
    have HLP := Lib.hid hLp
    clear h2 bl2 hLp hK2
    go_wp2_with fail
    refine X.out.mono ?_
    rintro e w3 ⟨rfl, h3, k3⟩
    rw [List.nil_append] at h3
    have BB3 := Lib.hid (k3.below BB2.out (fun j hj => by omega) BB2.out.size)
    have X2 := Lib.hid (write_any b kk (p.take cap) [] none 0 w3 h3 (fun h => absurd h (by simp)) (by simp; omega))
    clear X h3 k3
    go_wp2_with fail
    refine X2.out.mono ?_
    rintro e w4 ⟨rfl, h4, k4⟩
    rw [List.append_nil] at h4
    have BB4 := Lib.hid (k4.below BB3.out (fun j hj => by omega) BB3.out.size)
    have X3 := Lib.hid (write_any b kk (p.take cap) [] (some ad) 0 w4 h4 (HLP.out _ _ (Rd.empty _ _) _ (Kept.of_b BB4.out (fun j h1 h2 => by omega))) (by simp; omega))
    clear X2 h4 k4
    go_wp2_with fail
    refine X3.out.mono ?_
    rintro e w5 ⟨rfl, h5, k5⟩
    rw [List.append_nil, List.take_of_length_le (by omega)] at h5
    have BB5 := Lib.hid (k5.below BB4.out (fun j hj => by omega) BB4.out.size)
    have X4 := Lib.hid (sum_any b kk p w5 h5 (by omega))
    clear X3 h5 k5 HLP
    go_wp2_with fail
    refine X4.out.mono ?_
    rintro e w6 ⟨rfl, b6⟩
    have BB6 := Lib.hid (BB5.out.trans (b6.mono BB5.out.size))
    have X5 := Lib.hid (of_any (some ad) cap p w6 (HR.out.below BB6.out) (by omega))
    clear X4 b6
    go_wp2_with fail
    refine X5.out.mono ?_
    rintro e w7 ⟨rfl, b7⟩
    have BB7 := Lib.hid (BB6.out.trans (b7.mono BB6.out.size))
    have q1 := eql32 (digest p) (digest_length p)
    have q2 := fun x y W => guard32 x y (Lib.byteCells (digest p)).toArray (Lib.byteCells (digest p)).toArray W
    clear b7 X5
    generalize (Lib.byteCells (digest p)).toArray = dg at *
    go_wp2
    go_ret
    exact ⟨rfl, BB7.out⟩
  · have hcap' : ¬ (cap : Int) = k := by omega
    have hcap2 : k < cap := by omega
    go_enter Try.func4, Try.ntmps4
    go_wp2_with fail
    refine (awake_any _).mono ?_
    rintro e w1 ⟨rfl, hb1⟩
    have HB := Lib.hid hb1
    clear hb1
    go_wp2_with fail
    try simp only [hmod]
    clear hmod
    refine (new_hs w1).mono ?_
    rintro e w2 ⟨b, kk, rfl, h2, hb2, hk2, bl2⟩
    have z1 := HB.out.size
    have BB2 := Lib.hid (HB.out.trans (bl2.mono z1))
    have hLp : ∀ q A', Rd w A' q → ∀ W, Kept w W (fun j => w.heap.size ≤ j) → Lies W b A' q := fun q A' hq W hW => hq.lies hW (by omega)
    have hK2 : Kept w w2 (fun j => w.heap.size ≤ j) := Kept.of_b BB2.out (fun j h1 h2 => by omega)
    have X := Lib.hid (write_any b kk [] (p.take k) (some ad) cap w2 h2 (hLp _ _ (HR.out.take k hkl) _ hK2) (by simp; omega))
    rw [show (p.take k).length = k by rw [List.length_take]; omega] at X
    have HLP := Lib.hid hLp
    clear h2 bl2 hLp hK2
    go_wp2_with fail
    refine X.out.mono ?_
    rintro e w3 ⟨rfl, h3, k3⟩
    rw [List.nil_append] at h3
    have BB3 := Lib.hid (k3.below BB2.out (fun j hj => by omega) BB2.out.size)
    have X2 := Lib.hid (write_any b kk (p.take k) [] none 0 w3 h3 (fun h => absurd h (by simp)) (by simp; omega))
    clear X h3 k3
    go_wp2_with fail
    refine X2.out.mono ?_
    rintro e w4 ⟨rfl, h4, k4⟩
    rw [List.append_nil] at h4
    have BB4 := Lib.hid (k4.below BB3.out (fun j hj => by omega) BB3.out.size)
    have X3 := Lib.hid (write_any b kk (p.take k) (p.drop k) (some (ad.add k)) (cap - k) w4 h4 (HLP.out _ _ (HR.out.drop k hkl) _ (Kept.of_b BB4.out (fun j h1 h2 => by omega))) (by simp; omega))
    rw [show (p.drop k).length = p.length - k by rw [List.length_drop]] at X3
    clear X2 h4 k4
    go_wp2_with fail
    refine X3.out.mono ?_
    rintro e w5 ⟨rfl, h5, k5⟩
    rw [List.take_append_drop] at h5
    have BB5 := Lib.hid (k5.below BB4.out (fun j hj => by omega) BB4.out.size)
    have X4 := Lib.hid (sum_any b kk p w5 h5 (by omega))
    clear X3 h5 k5 HLP
    go_wp2_with fail
    refine X4.out.mono ?_
    rintro e w6 ⟨rfl, b6⟩
    have BB6 := Lib.hid (BB5.out.trans (b6.mono BB5.out.size))
    have X5 := Lib.hid (of_any (some ad) cap p w6 (HR.out.below BB6.out) (by omega))
    clear X4 b6
    go_wp2_with fail
    refine X5.out.mono ?_
    rintro e w7 ⟨rfl, b7⟩
    have BB7 := Lib.hid (BB6.out.trans (b7.mono BB6.out.size))
    have q1 := eql32 (digest p) (digest_length p)
    have q2 := fun x y W => guard32 x y (Lib.byteCells (digest p)).toArray (Lib.byteCells (digest p)).toArray W
    clear b7 X5
    generalize (Lib.byteCells (digest p)).toArray = dg at *
    go_wp2
    go_ret
    exact ⟨rfl, BB7.out⟩
set_option maxHeartbeats 1000000 in
set_option maxRecDepth 100000 in
theorem cuts_nil (x : Nat) (w : World) (hx : x < 65536) :
    Calls Try.prog 4 #[.slice none 0 0, .int .u16 x] w fun e w' => e = .returned (.bool true) ∧ Below w.heap.size w w' := by
  go_enter Try.func4, Try.ntmps4
  go_wp2_with fail
  refine (awake_any _).mono ?_
  rintro e w1 ⟨rfl, hb1⟩
  have HB := Lib.hid hb1
  clear hb1
  go_wp2_with fail
  refine (new_hs w1).mono ?_
  rintro e w2 ⟨b, kk, rfl, h2, hb2, hk2, bl2⟩
  have z1 := HB.out.size
  have BB2 := Lib.hid (HB.out.trans (bl2.mono z1))
  have hLp : ∀ q A', Rd w A' q → ∀ W, Kept w W (fun j => w.heap.size ≤ j) → Lies W b A' q := fun q A' hq W hW => hq.lies hW (by omega)
  have hK2 : Kept w w2 (fun j => w.heap.size ≤ j) := Kept.of_b BB2.out (fun j h1 h2 => by omega)
  have X := Lib.hid (write_any b kk [] (([] : List UInt8)) none 0 w2 h2 (hLp _ _ (Rd.empty _ _) _ hK2) (by simp))
  have HLP := Lib.hid hLp
  clear h2 bl2 hLp hK2
  go_wp2_with fail
  refine X.out.mono ?_
  rintro e w3 ⟨rfl, h3, k3⟩
  rw [List.nil_append] at h3
  have BB3 := Lib.hid (k3.below BB2.out (fun j hj => by omega) BB2.out.size)
  have X2 := Lib.hid (write_any b kk (([] : List UInt8)) [] none 0 w3 h3 (fun h => absurd h (by simp)) (by simp))
  clear X h3 k3
  go_wp2_with fail
  refine X2.out.mono ?_
  rintro e w4 ⟨rfl, h4, k4⟩
  rw [List.append_nil] at h4
  have BB4 := Lib.hid (k4.below BB3.out (fun j hj => by omega) BB3.out.size)
  have X3 := Lib.hid (write_any b kk (([] : List UInt8)) [] none 0 w4 h4 (HLP.out _ _ (Rd.empty _ _) _ (Kept.of_b BB4.out (fun j h1 h2 => by omega))) (by simp))
  clear X2 h4 k4
  go_wp2_with fail
  refine X3.out.mono ?_
  rintro e w5 ⟨rfl, h5, k5⟩
  rw [List.append_nil] at h5
  have BB5 := Lib.hid (k5.below BB4.out (fun j hj => by omega) BB4.out.size)
  have X4 := Lib.hid (sum_any b kk [] w5 h5 (by decide))
  clear X3 h5 k5 HLP
  go_wp2_with fail
  refine X4.out.mono ?_
  rintro e w6 ⟨rfl, b6⟩
  have BB6 := Lib.hid (BB5.out.trans (b6.mono BB5.out.size))
  have X5 := Lib.hid (of_any none 0 [] w6 (Rd.empty _ _) (by decide))
  clear X4 b6
  go_wp2_with fail
  refine X5.out.mono ?_
  rintro e w7 ⟨rfl, b7⟩
  have BB7 := Lib.hid (BB6.out.trans (b7.mono BB6.out.size))
  have q1 := eql32 (digest []) (digest_length [])
  have q2 := fun x y W => guard32 x y (Lib.byteCells (digest [])).toArray (Lib.byteCells (digest [])).toArray W
  clear b7 X5
  generalize (Lib.byteCells (digest [])).toArray = dg at *
  go_wp2
  go_ret
  exact ⟨rfl, BB7.out⟩

theorem walk_HashCuts (a0 : Option Addr) (len0 cap0 : Nat) (z0 : List Int) (x : Int) (w : World)
    (w0 : (a0 = none ∧ len0 = 0 ∧ cap0 = 0 ∧ z0 = []) ∨ ∃ x, a0 = some x ∧ len0 ≤ cap0 ∧ cap0 ≤ maxLen ∧ z0.length = cap0 ∧ (∀ i, i < z0.length → w.cell? (x.add i) = some (.int .u8 (z0.getD i 0))) ∧ ∀ n ∈ z0, (Lit.int .u8 n).wf = true)
    (y0 : len0 * 1 ≤ 140737488351232) (w1 : (Lit.int .u16 x).wf = true) :
    Calls Try.prog 4 #[.slice a0 len0 cap0, .int .u16 x] w fun e w' => e = .returned (.bool true) ∧ Below w.heap.size w w' := by
  obtain ⟨p, rfl, hp, hpc, hm, hnil⟩ := row_rd w0
  have hx : 0 ≤ x ∧ x < 65536 := by simp [Lit.wf, IntKind.min, IntKind.max, IntKind.signed, IntKind.bits] at w1; omega
  obtain ⟨n, rfl⟩ := Int.eq_ofNat_of_zero_le hx.1
  by_cases hl : 20000 < p.length
  · exact cuts_long a0 cap0 p.length n w hl (by omega)
  · cases a0 with
    | none =>
      obtain ⟨h1, h2⟩ := hnil rfl
      have : p = [] := List.eq_nil_of_length_eq_zero h1
      subst this
      subst h2
      exact cuts_nil n w (by omega)
    | some ad => exact cuts_some ad cap0 p n w hp hpc (by omega) (by omega) (by unfold maxLen at hm; omega)
end Go.Proofs.Ytnpmhbhnggdhcaa
