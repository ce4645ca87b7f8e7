/-
  HashPieces: what is written piece by piece has the digest of the whole: the walk.
-/
import Derived.Test.YtnpmhbhnggdhcaaHashApartWalk
set_option linter.unusedVariables false
set_option linter.unusedSimpArgs false
namespace Go.Proofs.Ytnpmhbhnggdhcaa
open Go.RowKit Go.Proofs.YtnpmhbhnggdhcaaW.PrintWords

section
variable {P : Program} {C : World → Prop} {o : Oper} {a : Act} {K : Act → Prop}
theorem wp_region_quiet_c {id : Nat} {Q : Exit → Act → World → Prop} {w : World} {l : List Oper} (hm : P.follows .mixedOrders = true) (hB : Region.lexB .any l.toArray = true) (hC : C { w with drawn := w.drawn + 1 })
    (h : wpQuiet P l.toArray C (fun a' => ∀ w', C w' → Q .normal a' w') l a) : (Code.region id l.toArray true).wp P Q a w := wp_region_quiet hm hB hC (by simpa using h)
theorem run_load_mid {W : World} (ty : TypeId) (x : Operand) (ho : o.op = .load ty x) (b : Nat) (hx : a.eval x = .pointer (some ⟨b, 0, none⟩)) (cs : List Value) (d : TypeDesc) (hc : W.rangeAt b 0 cs)
    (hu : P.underlying ty = some d) (hd : d.isRow = true) (hi : (P.info? ty).map (·.size) = some cs.length) : (execOp a.eval o).run P W = .ok (.value (.agg cs.toArray)) W := by
  unfold execOp
  simp only [ho, hx, Instr.loadAt, Instr.sureAddr, Sem.run_bind, Sem.run_pure, Result.andThen_ok, run_loadVar_mid W b 0 ty cs d hc hu hd hi]
theorem quiet_if {c : Bool} {X Y : Prop} (h : c = true) (hx : X) : if c = true then X else Y := by rw [if_pos h]; exact hx
theorem quiet_value {v : Value} (h : ∀ W, C W → (execOp a.eval o).run P W = .ok (.value v) W) (hk : K (a.put o.dst v)) : o.quiet P a C K :=
  ⟨v, fun W hW => by unfold Oper.quietAt; rw [h W hW]; exact ⟨rfl, rfl⟩, hk⟩
theorem quiet_call {v : Value} {f : FuncId} {args : Array Value} (h : ∀ W, C W → (execOp a.eval o).run P W = .ok (.enter f args) W) (hc : ∀ W, C W → Calls P f args W fun e w'' => e = .returned v ∧ C w'') (hk : K (a.put o.dst v)) : o.quiet P a C K :=
  ⟨v, fun W hW => by unfold Oper.quietAt; rw [h W hW]; exact ⟨rfl, hc W hW⟩, hk⟩
end
theorem neq32 (l : List UInt8) (hl : l.length = 32) (w : World) : (binOp .neq 24 (.agg (Lib.byteCells l).toArray) (.agg (Lib.byteCells l).toArray)).run Try.prog w = .ok (.bool false) w := by
  have := equalIn_arr (d := 9998) l Try.underlying24 Try.underlying5 (sz5 w) hl
  rw [show (9998 + 2 : Nat) = Op.maxDepth from rfl] at this
  simp [binOp, Op.equal, Sem.run_bind, this]
/-- A piece: a cell of the row of pieces, and the bytes that it points to. -/
def Piece (w : World) (v : Value) (p : List UInt8) : Prop := ∃ A c, v = .slice A p.length c ∧ Rd w A p ∧ (A = none → p.length = 0 ∧ c = 0)
/-- The pieces lie in a row. -/
def Pieces (w : World) (A : Option Addr) (n : Nat) : Prop := 0 < n → ∃ ad, A = some ad ∧ ad.block < w.heap.size ∧ ∀ i, i < n → ∃ v p, w.cell? (ad.add i) = some v ∧ Piece w v p
theorem Piece.below {w w' : World} {v : Value} {p : List UInt8} (h : Piece w v p) (hb : Below w.heap.size w w') : Piece w' v p := by
  obtain ⟨A, c, rfl, hr, hn⟩ := h
  exact ⟨A, c, rfl, hr.below hb, hn⟩
theorem Pieces.at_ {w : World} {A : Option Addr} {n : Nat} (h : Pieces w A n) (i : Nat) (hi : i < n) : ∃ ad B c p, A = some ad ∧ (∀ w', Below w.heap.size w w' → w'.cell? (ad.add i) = some (.slice B p.length c)) ∧ Rd w B p ∧ (B = none → p.length = 0 ∧ c = 0) := by
  obtain ⟨ad, rfl, hl, hp⟩ := h (by omega)
  obtain ⟨v, p, h1, ⟨B, c, rfl, h2, h3⟩⟩ := hp i hi
  exact ⟨ad, B, c, p, rfl, fun w' hb => (Kept.of_below hb (fun _ => False)).cell h1 (by rw [addr_block]; exact hl) (fun e => e), h2, h3⟩

set_option maxHeartbeats 1000000 in
set_option maxRecDepth 100000 in
theorem pieces_long (A : Option Addr) (ca : Nat) (n : Nat) (w : World) (hl : 20 < n) :
    Calls Try.prog 5 #[.slice A n ca] w fun e w' => e = .returned (.bool true) ∧ Below w.heap.size w w' := by
  have hl' : (20 : Int) < (n : Int) := by omega
  go_enter Try.func5, Try.ntmps5
  go_wp2_with fail
  refine (awake_any _).mono ?_
  rintro e w1 ⟨rfl, hb1⟩
  have HB := Lib.hid hb1
  clear hb1
  go_wp2_with fail
  refine (awake_any _).mono ?_
  rintro e w2 ⟨rfl, hb2⟩
  have HB2 := Lib.hid (HB.out.trans (hb2.mono HB.out.size))
  clear hb2
  go_wp2
  go_ret
  exact ⟨rfl, HB2.out⟩

/-- The hasher, the bytes gathered, and the reference's words. -/
structure XS (w0 wr : World) (b k y base : Nat) (v : Value) (l m : List UInt8) : Prop where
  hs : HS wr b k l
  own : OB wr base v m
  hy : wr.heap[y]? = some (.cells rw72.toArray 38 (0, 0))
  below : Below w0.heap.size w0 wr
  b0 : w0.heap.size ≤ b
  y0 : w0.heap.size ≤ y
  bb : b < base
  kb : k < base
  yb : y < base
  ob : w0.heap.size ≤ base
  le : base ≤ wr.heap.size
theorem XS.below' {w0 wr w' : World} {b k y base : Nat} {v : Value} {l m : List UInt8} (h : XS w0 wr b k y base v l m) (hb : Below wr.heap.size wr w') : XS w0 w' b k y base v l m := by
  have := h.le
  have := h.yb
  exact ⟨h.hs.below hb, own_move h.own (fun j hj => hb.block j (own_lt h.own j hj)), (hb.block y (by omega)).trans h.hy, h.below.trans (hb.mono h.below.size), h.b0, h.y0, h.bb, h.kb, h.yb, h.ob, by have := hb.size; omega⟩
theorem XS.grown {w0 wr w' : World} {b k y base : Nat} {v v' : Value} {l m l' : List UInt8} (h : XS w0 wr b k y base v l m) (ho : OB w' base v' l') (hg : wr.grownBy w' v.ownBlock) : XS w0 w' b k y base v' l l' := by
  have h1 : ∀ j, j < base → some j ≠ v.ownBlock := fun j hj e => by
    have := own_base h.own j e.symm
    omega
  refine ⟨h.hs.grown hg (h1 b h.bb) (h1 k h.kb), ho, blk_grown h.hy hg (h1 y h.yb), ?_, h.b0, h.y0, h.bb, h.kb, h.yb, h.ob, ?_⟩
  · exact h.below.grown hg h.below.size (fun j hj => by have := own_base h.own j hj; have := h.ob; omega)
  · have := hg.size
    have := h.le
    omega
theorem XS.write {w0 wr w' : World} {b k y base : Nat} {v : Value} {l m l' : List UInt8} (h : XS w0 wr b k y base v l m) (hs : HS w' b k l') (hk : Kept wr w' (fun j => j = b)) : XS w0 w' b k y base v l' m := by
  obtain ⟨_, _, _, h1, _, _⟩ := h.hs
  have hyb : y ≠ b := blk_ne h.hy h1 (by decide)
  refine ⟨hs, own_move h.own (fun j hj => ?_), hk.at_ h.hy hyb, hk.below h.below (fun j hj => ?_) h.below.size, h.b0, h.y0, h.bb, h.kb, h.yb, h.ob, ?_⟩
  · have := own_base h.own j hj
    have := h.bb
    exact hk.block j (own_lt h.own j hj) (by omega)
  · have := h.b0
    subst hj
    omega
  · have := hk.size
    have := h.le
    omega
set_option maxHeartbeats 2000000 in
set_option maxRecDepth 100000 in
theorem pieces_short (A : Option Addr) (ca : Nat) (n : Nat) (w : World) (hp : Pieces w A n) (hA : A = none → n = 0 ∧ ca = 0) (hl : n ≤ 20) :
    Calls Try.prog 5 #[.slice A n ca] w fun e w' => e = .returned (.bool true) ∧ Below w.heap.size w w' := by
  have hl' : ¬ (20 : Int) < (n : Int) := by omega
  have HP := Lib.hid hp
  have HA := Lib.hid hA
  have z38 := zero38L
  clear hp hA
  go_enter Try.func5, Try.ntmps5
  go_wp2_with fail
  refine (awake_any _).mono ?_
  rintro e w1 ⟨rfl, hb1⟩
  have B1 := Lib.hid hb1
  clear hb1
  go_wp2_with fail
  refine (new_hs w1).mono ?_
  rintro e w2 ⟨b, k, rfl, h1, hb1, hk1, bl⟩
  have z1 := B1.out.size
  have B2 := Lib.hid (B1.out.trans (bl.mono z1))
  have H1 := Lib.hid h1
  have g1 := h1.lt
  clear h1 bl
  go_wp2_with fail
  refine (rmake_any w2).mono ?_
  rintro e w3 ⟨rfl, bl⟩
  have B3 := Lib.hid (B2.out.trans (bl.mono B2.out.size))
  have H2 := Lib.hid (H1.out.below bl)
  have hbl3 : b < w3.heap.size ∧ k < w3.heap.size := by
    obtain ⟨_, _, _, h1, h2, _⟩ := H2.out
    exact ⟨blk_lt h1, blk_lt h2⟩
  clear bl H1
  go_wp2_with (refine wpList_store_whole rfl 38 _ _ rfl w3.heap.size rw72.toArray (uc z64 ++ uc z8).toArray 38 rfl rfl (alloc_at w3 _) rfl info38 one72 ?_; intro w5 h5 h6; have hs5 := h6.size; have X5 : Hid (XS w w5 b k w3.heap.size w5.heap.size (.slice none 0 0) [] []) := Lib.hid ⟨(H2.out.below ((Below.refl w3.heap.size w3).alloc (Nat.le_refl _) _)).kept (⟨h6.os, h6.tape, h6.output, Nat.le_of_eq h6.size.symm, fun j hj hn => h6.block j hn⟩ : Kept _ w5 (fun j => j = w3.heap.size)) (by omega) (by omega), OB.nil _ _, h5, At1.below (B3.out.alloc B3.out.size _) h6 B3.out.size, by have := B1.out.size; omega, B3.out.size, by simp at hs5; omega, by simp at hs5; omega, by simp at hs5; omega, by have := B3.out.size; simp at hs5; omega, Nat.le_refl _⟩; clear h5 h6 hs5)
  clear H2 hbl3 z38 B1 B2 B3 z1 g1 hb1 hk1
  generalize w3.heap.size = y at *
  generalize w5.heap.size = base at *
  have hn20 : n ≤ 20 := hl
  go_loopw [4, 6] (fun s4 s6 wr => ∃ (i : Nat) (L : List UInt8), i ≤ n ∧ s6 = .int .i64 i ∧ L.length ≤ 5000 * i ∧ Hid (XS w wr b k y base s4 L L)) (fun _ s6 _ => n - (intOf s6).toNat)
  case atStart => exact ⟨0, [], by omega, rfl, by simp, X5⟩
  case round =>
    clear X5
    obtain ⟨i, L, hi, rfl, hL, hX⟩ := hrel
    by_cases hlt : i < n
    · have hd : decide ((i : Int) < (n : Int)) = true := by rw [decide_eq_true_eq]; omega
      obtain ⟨ad, B, c, p, rfl, hcw, hr, hc⟩ := HP.out.at_ i hlt
      have hcell := hcw wr hX.out.below
      have HCW := Lib.hid hcw
      clear hcw
      have b1 : ¬ (i : Int) < 0 ∧ (i : Int) < n := by omega
      obtain ⟨b1, b2⟩ := b1
      have HR := Lib.hid hr
      have HC := Lib.hid hc
      clear hr hc
      by_cases h5 : 5000 < p.length
      · have hd5 : decide ((p.length : Int) > 5000) = true := by rw [decide_eq_true_eq]; omega
        have h5' : (5000 : Int) < (p.length : Int) := by omega
        go_wp2_with fail
        go_ret
        exact ⟨rfl, hX.out.below⟩
      · have hd5 : decide ((p.length : Int) > 5000) = false := by rw [decide_eq_false_iff_not]; omega
        have h5' : ¬ (5000 : Int) < (p.length : Int) := by omega
        have hbk := hX.out.b0
        go_wp2_with (at_builtin; fail)
        refine (write_any b k L p B c wr hX.out.hs (HR.out.lies (Kept.of_b hX.out.below (fun j h1 h2 => by omega)) hbk) (by omega)).mono ?_
        rintro e w6 ⟨rfl, h3, kp⟩
        have X6 := Lib.hid (hX.out.write h3 kp)
        have hcell6 := HCW.out w6 X6.out.below
        clear h3 kp hX
        dsimp only []
        go_upto_region 13 with (at_builtin; refine wpList_append_b rfl _ _ rfl base u4 L rfl X6.out.own B c p rfl (HR.out.below X6.out.below) HC.out (by omega) X6.out.le ?_; intro v7 w7 ho hg; have X7 := Lib.hid (X6.out.grown ho hg); clear ho hg)
        clear X6
        obtain ⟨r, hr⟩ : ∃ r, L ++ p = r := ⟨_, rfl⟩
        have hrl : r.length ≤ 5000 * (i + 1) := by rw [← hr, List.length_append]; omega
        rw [hr] at X7
        obtain ⟨A', c', rfl, hr', hn'⟩ := OB.rd X7.out.own X7.out.le
        have R7 := Lib.hid hr'
        have N7 := Lib.hid hn'
        clear hr' hn' hr
        refine wp_region_quiet_c (C := fun W => Below w7.heap.size w7 W) (by kernel_rfl) (by kernel_rfl) (Below.refl _ _).drew ?_
        (refine wpQuiet_step (fun K hK => ?_); go_simp; refine ⟨_, fun _ _ => rfl, hK _ ?_⟩; clear hK K)
        refine wpQuiet_step (fun K hK => ?_)
        go_simp
        refine ⟨_, fun W hW => ((sum_any b k r W (X7.out.hs.below hW) (by omega)).mono fun e w'' h => ⟨h.1, hW.trans (h.2.mono hW.size)⟩), hK _ ?_⟩
        clear hK K
        refine wpQuiet_step (fun K hK => ?_)
        refine quiet_if (by rfl) ?_
        refine quiet_value (v := .agg rw72.toArray) (fun W hW => ?_) (hK _ ?_)
        · exact run_load_mid 38 (.tmp 5) rfl y rfl rw72 _ (range_part (o := 0) (X7.out.below' hW).hy (by rw [List.drop_zero, List.take_length])) Try.underlying38 rfl info38
        clear hK K
        (refine wpQuiet_step (fun K hK => ?_); go_simp; refine ⟨_, fun _ _ => rfl, hK _ ?_⟩; clear hK K)
        refine wpQuiet_step (fun K hK => ?_)
        go_simp
        refine ⟨_, fun W hW => ((rof_any A' c' r W (R7.out.below hW) N7.out (by omega)).mono fun e w'' h => ⟨h.1, hW.trans (h.2.mono hW.size)⟩), hK _ ?_⟩
        clear hK K
        have q1 := neq32 (digest r) (digest_length r)
        have q2 := fun x y W => run_eqGuard_agg (P := Try.prog) W .neq 24 x y (Lib.byteCells (digest r)).toArray (Lib.byteCells (digest r)).toArray (by kernel_rfl)
        have HDR : Hid (∃ z, z = digest r) := Lib.hid ⟨_, rfl⟩
        generalize (Lib.byteCells (digest r)).toArray = dg at *
        (refine wpQuiet_step (fun K hK => ?_); go_simp; refine ⟨_, fun _ _ => rfl, hK _ ?_⟩; clear hK K)
        (refine wpQuiet_step (fun K hK => ?_); go_simp; refine ⟨_, fun _ _ => rfl, hK _ ?_⟩; clear hK K)
        (refine wpQuiet_step (fun K hK => ?_); go_simp; refine ⟨_, fun _ _ => rfl, hK _ ?_⟩; clear hK K)
        refine wpQuiet_step (fun K hK => ?_)
        go_simp
        refine ⟨_, fun W hW => ((len_any b k r W (X7.out.hs.below hW)).mono fun e w'' h => ⟨h.1, by rw [h.2]; exact hW⟩), hK _ ?_⟩
        clear hK K
        have hwr : IntKind.u64.wrap (r.length : Int) = (r.length : Int) := IntWalk.u64_in _ (by omega)
        (refine wpQuiet_step (fun K hK => ?_); go_simp; refine ⟨_, fun _ _ => rfl, hK _ ?_⟩; clear hK K)
        (refine wpQuiet_step (fun K hK => ?_); go_simp; refine ⟨_, fun _ _ => rfl, hK _ ?_⟩; clear hK K)
        (refine wpQuiet_step (fun K hK => ?_); go_simp; refine ⟨_, fun _ _ => rfl, hK _ ?_⟩; clear hK K)
        (refine wpQuiet_step (fun K hK => ?_); go_simp; refine ⟨_, fun _ _ => rfl, hK _ ?_⟩; clear hK K)
        (refine wpQuiet_step (fun K hK => ?_); go_simp; refine ⟨_, fun _ _ => rfl, hK _ ?_⟩; clear hK K)
        refine wpQuiet_nil ?_
        intro W hW
        have XW := Lib.hid (X7.out.below' hW)
        clear X7 R7 N7 q1 q2
        go_wp2_with fail
        go_roundw
        case rel => exact ⟨i + 1, r, by omega, by go_num, hrl, XW⟩
        case measure => simp [intOf]; omega
    · have hd : decide ((i : Int) < (n : Int)) = false := by rw [decide_eq_false_iff_not]; omega
      have hLl : L.length ≤ 100000 := by omega
      have hX' := hX.out
      obtain ⟨A', c', rfl, hr', hn'⟩ := OB.rd hX'.own hX'.le
      have R7 := Lib.hid hr'
      have N7 := Lib.hid hn'
      clear hr' hn' hX'
      go_upto_region 15 with (fail)
      refine wp_region_quiet_c (C := fun W => Below wr.heap.size wr W) (by kernel_rfl) (by kernel_rfl) (Below.refl _ _).drew ?_
      (refine wpQuiet_step (fun K hK => ?_); go_simp; refine ⟨_, fun _ _ => rfl, hK _ ?_⟩; clear hK K)
      refine wpQuiet_step (fun K hK => ?_)
      go_simp
      refine ⟨_, fun W hW => ((sum_any b k L W (hX.out.hs.below hW) (by omega)).mono fun e w'' h => ⟨h.1, hW.trans (h.2.mono hW.size)⟩), hK _ ?_⟩
      clear hK K
      refine wpQuiet_step (fun K hK => ?_)
      refine quiet_if (by rfl) ?_
      refine quiet_value (v := .agg rw72.toArray) (fun W hW => ?_) (hK _ ?_)
      · exact run_load_mid 38 (.tmp 5) rfl y rfl rw72 _ (range_part (o := 0) (hX.out.below' hW).hy (by rw [List.drop_zero, List.take_length])) Try.underlying38 rfl info38
      clear hK K
      (refine wpQuiet_step (fun K hK => ?_); go_simp; refine ⟨_, fun _ _ => rfl, hK _ ?_⟩; clear hK K)
      refine wpQuiet_step (fun K hK => ?_)
      go_simp
      refine ⟨_, fun W hW => ((rof_any A' c' L W (R7.out.below hW) N7.out (by omega)).mono fun e w'' h => ⟨h.1, hW.trans (h.2.mono hW.size)⟩), hK _ ?_⟩
      clear hK K
      have q1 := eql32 (digest L) (digest_length L)
      have q2 := fun x y W => guard32 x y (Lib.byteCells (digest L)).toArray (Lib.byteCells (digest L)).toArray W
      generalize (Lib.byteCells (digest L)).toArray = dg at *
      (refine wpQuiet_step (fun K hK => ?_); go_simp; refine ⟨_, fun _ _ => rfl, hK _ ?_⟩; clear hK K)
      (refine wpQuiet_step (fun K hK => ?_); go_simp; refine ⟨_, fun _ _ => rfl, hK _ ?_⟩; clear hK K)
      refine wpQuiet_nil ?_
      intro W hW
      have XW := Lib.hid (hX.out.below' hW)
      clear hX R7 N7 q1 q2
      go_wp2_with fail
      go_ret
      exact ⟨rfl, XW.out.below⟩
theorem walk_HashPieces (A : Option Addr) (n ca : Nat) (w : World) (hp : Pieces w A n) (hA : A = none → n = 0 ∧ ca = 0) :
    Calls Try.prog 5 #[.slice A n ca] w fun e w' => e = .returned (.bool true) ∧ Below w.heap.size w w' := by
  by_cases hl : 20 < n
  · exact pieces_long A ca n w hl
  · exact pieces_short A ca n w hp hA (by omega)
end Go.Proofs.Ytnpmhbhnggdhcaa
