/-
  HashApart: two hashers do not disturb each other, and a nil hasher takes nothing: the walk.
-/
import Derived.Test.YtnpmhbhnggdhcaaHashOfWalk
set_option linter.unusedVariables false
set_option linter.unusedSimpArgs false
namespace Go.Proofs.Ytnpmhbhnggdhcaa
open Go.RowKit Go.Proofs.YtnpmhbhnggdhcaaW.PrintWords

theorem OB.rd {w : World} {base : Nat} {v : Value} {l : List UInt8} (h : OB w base v l) (hb : base ≤ w.heap.size) : ∃ A c, v = .slice A l.length c ∧ Rd w A l ∧ (A = none → l.length = 0 ∧ c = 0) := by
  by_cases h0 : l.length = 0
  · rcases h.2 with ⟨e, e2⟩ | ⟨g, c, h1, e, h2⟩
    · exact ⟨none, 0, by rw [e, h0], fun h => by omega, fun _ => ⟨h0, rfl⟩⟩
    · exact ⟨_, _, e, fun h => by omega, fun h => by cases h⟩
  · obtain ⟨g, c, rfl⟩ := h.form l.length rfl (by omega)
    exact ⟨_, _, rfl, fun _ => ⟨_, rfl, own_lt h g rfl, fun j hj => by rw [add_plain]; exact OB.cell h j hj⟩, fun h => by cases h⟩
theorem HS.apart {w w' : World} {b k b' k' : Nat} {l l' : List UInt8} (h : HS w b k l) (h' : HS w b' k' l') (hne : b ≠ b') (hk : Kept w w' (fun j => j = b')) : HS w' b k l := by
  refine h.kept hk hne ?_
  obtain ⟨_, _, _, _, h2, _⟩ := h
  obtain ⟨_, _, _, h3, _, _⟩ := h'
  exact blk_ne h2 h3 (by decide)
theorem HS.grown {w w' : World} {b k : Nat} {l : List UInt8} (h : HS w b k l) {r : Option Nat} (hg : w.grownBy w' r) (hb : some b ≠ r) (hk : some k ≠ r) : HS w' b k l := by
  obtain ⟨H, part, f, h1, h2, h3⟩ := h
  exact ⟨H, part, f, blk_grown h1 hg hb, blk_grown h2 hg hk, h3⟩

set_option maxHeartbeats 1000000 in
set_option maxRecDepth 100000 in
theorem apart_long (A B : Option Addr) (ca cb : Nat) (n m : Nat) (w : World) (hl : 5000 < n + m) (hn : n ≤ 140737488351232) (hm : m ≤ 140737488351232) :
    Calls Try.prog 6 #[.slice A n ca, .slice B m cb] w fun e w' => e = .returned (.bool true) ∧ Below w.heap.size w w' := by
  have hl' : (5000 : Int) < (n : Int) + m := by omega
  go_enter Try.func6, Try.ntmps6
  go_wp2_with fail
  refine (awake_any _).mono ?_
  rintro e w1 ⟨rfl, hb1⟩
  have HB := Lib.hid hb1
  clear hb1
  go_wp2_with fail
  refine (awake_any _).mono ?_
  rintro e w2 ⟨rfl, hb2⟩
  have HB2 := Lib.hid (HB.out.trans (hb2.mono HB.out.size))
  clear hb2
  go_wp2
  go_ret
  exact ⟨rfl, HB2.out⟩

set_option maxHeartbeats 2000000 in
set_option maxRecDepth 100000 in
theorem apart_short (A B : Option Addr) (ca cb : Nat) (p q : List UInt8) (w : World) (hp : Rd w A p) (hq : Rd w B q) (hA : A = none → p.length = 0 ∧ ca = 0) (hB : B = none → q.length = 0 ∧ cb = 0) (hl : p.length + q.length ≤ 5000) :
    Calls Try.prog 6 #[.slice A p.length ca, .slice B q.length cb] w fun e w' => e = .returned (.bool true) ∧ Below w.heap.size w w' := by
  have hl' : ¬ (5000 : Int) < (p.length : Int) + q.length := by omega
  have HP := Lib.hid hp
  have HQ := Lib.hid hq
  have HA := Lib.hid hA
  have HBN := Lib.hid hB
  have z24 := zero24
  clear hp hq hA hB
  go_enter Try.func6, Try.ntmps6
  go_wp2_with fail
  refine (awake_any _).mono ?_
  rintro e w1 ⟨rfl, hb1⟩
  have B1 := Lib.hid hb1
  clear hb1
  go_wp2_with fail
  refine (new_hs w1).mono ?_
  rintro e w2 ⟨b1, k1, rfl, h1, hb1, hk1, bl⟩
  have z1 := B1.out.size
  have B2 := Lib.hid (B1.out.trans (bl.mono z1))
  have H1 := Lib.hid h1
  have z2 := B2.out.size
  have g1 := h1.lt
  clear h1 bl
  go_wp2_with fail
  refine (new_hs w2).mono ?_
  rintro e w3 ⟨b2, k2, rfl, h2, hb2, hk2, bl⟩
  have B3 := Lib.hid (B2.out.trans (bl.mono z2))
  have H1' := Lib.hid (H1.out.below bl)
  have H2 := Lib.hid h2
  have hne : b1 ≠ b2 := by omega
  clear H1 h2 bl
  go_wp2_with fail
  refine (write_any b1 k1 [] p A ca w3 H1'.out (HP.out.lies (Kept.of_b B3.out (fun j h1 h2 => by omega)) (by omega)) (by simp; omega)).mono ?_
  rintro e w4 ⟨rfl, h3, kp⟩
  rw [List.nil_append] at h3
  have H2' := Lib.hid (H2.out.apart H1'.out (Ne.symm hne) kp)
  have B4 := Lib.hid (kp.below B3.out (fun j hj => by omega) B3.out.size)
  have H1 := Lib.hid h3
  clear h3 kp H1' H2
  go_wp2_with fail
  refine (write_any b2 k2 [] q B cb w4 H2'.out (HQ.out.lies (Kept.of_b B4.out (fun j h1 h2 => by omega)) (by omega)) (by simp; omega)).mono ?_
  rintro e w5 ⟨rfl, h3, kp⟩
  rw [List.nil_append] at h3
  have H1' := Lib.hid (H1.out.apart H2'.out hne kp)
  have B5 := Lib.hid (kp.below B4.out (fun j hj => by omega) B4.out.size)
  have H2 := Lib.hid h3
  clear h3 kp H1 H2'
  go_wp2_with fail
  refine (write_nil _ _).mono ?_
  rintro e w6 ⟨rfl, rfl⟩
  go_wp2_with fail
  refine (write_any b1 k1 p q B cb _ H1'.out (HQ.out.lies (Kept.of_b B5.out (fun j h1 h2 => by omega)) (by omega)) (by omega)).mono ?_
  rintro e w7 ⟨rfl, h3, kp⟩
  have H2' := Lib.hid (H2.out.apart H1'.out (Ne.symm hne) kp)
  have B6 := Lib.hid (kp.below B5.out (fun j hj => by omega) B5.out.size)
  have H1 := Lib.hid h3
  clear h3 kp H1' H2
  obtain ⟨r, hr⟩ : ∃ r, p ++ q = r := ⟨_, rfl⟩
  have hrl : r.length = p.length + q.length := by rw [← hr, List.length_append]
  rw [hr] at H1
  have HRR := Lib.hid hr
  have HRL := Lib.hid hrl
  clear hr hrl
  go_wp2_with fail
  refine (sum_any b1 k1 r _ H1.out (by rw [HRL.out]; omega)).mono ?_
  rintro e w8 ⟨rfl, bl⟩
  have B7 := Lib.hid (B6.out.trans (bl.mono B6.out.size))
  have H2 := Lib.hid (H2'.out.below bl)
  clear bl H2' H1
  dsimp only []
  iterate 4 (first | go_values | go_skip | go_guarded | go_step | go_upon | go_back)
  refine wpList_append_b rfl _ _ rfl w8.heap.size (.slice none 0 0) [] rfl (OB.nil _ _) A ca p rfl (HP.out.below B7.out) HA.out (by simp; omega) (Nat.le_refl _) ?_
  intro v9 w9 ho hg
  have BB9 := Lib.hid ((Below.refl w8.heap.size w8).grown hg (Nat.le_refl _) (fun k hk => own_base (OB.nil w8 _) k hk))
  rw [List.nil_append] at ho
  have O9 := Lib.hid ho
  clear ho hg
  iterate 3 (first | go_values | go_skip | go_guarded | go_step | go_upon | go_back)
  refine wpList_append_b rfl _ _ rfl w8.heap.size v9 p rfl O9.out B cb q rfl (HQ.out.below (B7.out.trans (BB9.out.mono B7.out.size))) HBN.out (by omega) BB9.out.size ?_
  intro v10 w10 ho hg
  have BB10 := Lib.hid (BB9.out.grown hg BB9.out.size (fun k hk => own_base O9.out k hk))
  rw [HRR.out] at ho
  obtain ⟨A', c', rfl, hr', hn'⟩ := OB.rd ho BB10.out.size
  have R10 := Lib.hid hr'
  have N10 := Lib.hid hn'
  clear ho hg hr' hn'
  go_wp2_with fail
  have H2' := Lib.hid (H2.out.below BB10.out)
  have B8 := Lib.hid (B7.out.trans (BB10.out.mono B7.out.size))
  clear H2 O9
  refine (rsum_any A' c' r w10 R10.out N10.out (by rw [HRL.out]; omega)).mono ?_
  rintro e w11 ⟨rfl, bl⟩
  have B9 := Lib.hid (B8.out.trans (bl.mono B8.out.size))
  have H2 := Lib.hid (H2'.out.below bl)
  have q1 := eql32 (digest r) (digest_length r)
  have q2 := fun x y W => guard32 x y (Lib.byteCells (digest r)).toArray (Lib.byteCells (digest r)).toArray W
  clear bl H2'
  generalize (Lib.byteCells (digest r)).toArray = dg at *
  go_wp2_with fail
  refine (sum_any b2 k2 q _ H2.out (by omega)).mono ?_
  rintro e w12 ⟨rfl, bl⟩
  have B10 := Lib.hid (B9.out.trans (bl.mono B9.out.size))
  clear bl H2
  go_wp2_with fail
  refine (rsum_any B cb q w12 (HQ.out.below B10.out) HBN.out (by omega)).mono ?_
  rintro e w13 ⟨rfl, bl⟩
  have B11 := Lib.hid (B10.out.trans (bl.mono B10.out.size))
  have q3 := eql32 (digest q) (digest_length q)
  have q4 := fun x y W => guard32 x y (Lib.byteCells (digest q)).toArray (Lib.byteCells (digest q)).toArray W
  clear bl
  generalize (Lib.byteCells (digest q)).toArray = dq at *
  go_wp2_with fail
  refine (len_nil _).mono ?_
  rintro e w14 ⟨rfl, rfl⟩
  go_wp2_with fail
  refine (sum_nil _).mono ?_
  rintro e w15 ⟨rfl, bl⟩
  have B12 := Lib.hid (B11.out.trans (bl.mono B11.out.size))
  have q5 := eql32 (zrs 32) (by decide)
  have q6 := fun x y W => guard32 x y (Lib.byteCells (zrs 32)).toArray (Lib.byteCells (zrs 32)).toArray W
  clear bl
  generalize (Lib.byteCells (zrs 32)).toArray = zz at *
  go_wp2
  go_ret
  exact ⟨rfl, B12.out⟩
theorem walk_HashApart (a0 : Option Addr) (len0 cap0 : Nat) (z0 : List Int) (a1 : Option Addr) (len1 cap1 : Nat) (z1 : List Int) (w : World)
    (w0 : (a0 = none ∧ len0 = 0 ∧ cap0 = 0 ∧ z0 = []) ∨ ∃ x, a0 = some x ∧ len0 ≤ cap0 ∧ cap0 ≤ maxLen ∧ z0.length = cap0 ∧ (∀ i, i < z0.length → w.cell? (x.add i) = some (.int .u8 (z0.getD i 0))) ∧ ∀ n ∈ z0, (Lit.int .u8 n).wf = true)
    (y0 : len0 * 1 ≤ 140737488351232)
    (w1 : (a1 = none ∧ len1 = 0 ∧ cap1 = 0 ∧ z1 = []) ∨ ∃ x, a1 = some x ∧ len1 ≤ cap1 ∧ cap1 ≤ maxLen ∧ z1.length = cap1 ∧ (∀ i, i < z1.length → w.cell? (x.add i) = some (.int .u8 (z1.getD i 0))) ∧ ∀ n ∈ z1, (Lit.int .u8 n).wf = true)
    (y1 : len1 * 1 ≤ 140737488351232) :
    Calls Try.prog 6 #[.slice a0 len0 cap0, .slice a1 len1 cap1] w fun e w' => e = .returned (.bool true) ∧ Below w.heap.size w w' := by
  obtain ⟨p, rfl, hp, hpc, hm, hnil⟩ := row_rd w0
  obtain ⟨q, rfl, hq, hqc, hm1, hnil1⟩ := row_rd w1
  by_cases hl : 5000 < p.length + q.length
  · exact apart_long a0 a1 cap0 cap1 p.length q.length w hl (by omega) (by omega)
  · exact apart_short a0 a1 cap0 cap1 p q w hp hq hnil hnil1 (by omega)
end Go.Proofs.Ytnpmhbhnggdhcaa
