/-
  HashFolds: a digest as 20 bytes: the walk.
-/
import Derived.Test.YtnpmhbhnggdhcaaRefFold
import Derived.Test.YtnpmhbhnggdhcaaArrEq
import Derived.Deep.RegionHeld3
set_option linter.unusedVariables false
set_option linter.unusedSimpArgs false
namespace Go.Proofs.Ytnpmhbhnggdhcaa
open Go.RowKit Go.Proofs.YtnpmhbhnggdhcaaW.PrintWords
attribute [local go_sem] xor8

structure D2 (w0 wr : World) (x : Nat) (d e f : List UInt8) : Prop where
  hd : wr.heap[w0.heap.size]? = some (.cells (Lib.byteCells d).toArray 24 (0, 0))
  he : wr.heap[w0.heap.size + 1]? = some (.cells (Lib.byteCells e).toArray 24 (0, 0))
  hf : wr.heap[x]? = some (.cells (Lib.byteCells f).toArray 24 (0, 0))
  below : Below w0.heap.size w0 wr
  far : w0.heap.size + 2 ≤ x
theorem D2.set {w0 wr : World} {x : Nat} {d e f : List UInt8} (h : D2 w0 wr x d e f) (i : Nat) (v : UInt8) : D2 w0 (wr.setCell ⟨x, i, none⟩ (.int .u8 (v.toNat : Int))) x d e (f.set i v) := by
  have k := At1.set wr x i (.int .u8 (v.toNat : Int))
  have := h.far
  exact ⟨(k.block _ (by omega)).trans h.hd, (k.block _ (by omega)).trans h.he, b_set h.hf i v, At1.below h.below k (by omega), h.far⟩
theorem D2.congr {w0 wr : World} {x : Nat} {d e f f' : List UInt8} (h : D2 w0 wr x d e f) (k : f = f') : D2 w0 wr x d e f' := k ▸ h
theorem D2.drew {w0 wr : World} {x : Nat} {d e f : List UInt8} (h : D2 w0 wr x d e f) : D2 w0 wr.drew x d e f := ⟨h.hd, h.he, h.hf, h.below.drew, h.far⟩
theorem D2.more {w0 wr w' : World} {x : Nat} {d e f : List UInt8} (h : D2 w0 wr x d e f) (hb : Below wr.heap.size wr w') : D2 w0 w' x d e f := ⟨blk_below h.hd hb, blk_below h.he hb, blk_below h.hf hb, h.below.trans (hb.mono h.below.size), h.far⟩
/-- A block of bytes. -/
def Bk (w : World) (r : Nat) (t : TypeId) (l : List UInt8) : Prop := w.heap[r]? = some (.cells (Lib.byteCells l).toArray t (0, 0))
theorem Bk.more {w w' : World} {r : Nat} {t : TypeId} {l : List UInt8} (h : Bk w r t l) (hb : Below w.heap.size w w') : Bk w' r t l := blk_below h hb
/-- An array is laid into a new block. -/
theorem below_new {w w' : World} {o : Obj} (h : At1 w.heap.size (w.alloc o) w') : Below w.heap.size w w' := At1.below ((Below.refl w.heap.size w).alloc (Nat.le_refl _) o) h (Nat.le_refl _)
theorem Bk.drew {w : World} {r : Nat} {t : TypeId} {l : List UInt8} (h : Bk w r t l) : Bk w.drew r t l := h
structure All3 (w0 w : World) (x : Nat) (d e f : List UInt8) (ya yb yc : Nat) (fd fe ff : List UInt8) : Prop where
  s : D2 w0 w x d e f
  y : Bk w ya 45 fd
  v : Bk w yb 45 fe
  u : Bk w yc 45 ff
theorem D2.drewN {w0 wr : World} {x : Nat} {d e f : List UInt8} (h : D2 w0 wr x d e f) (n : Nat) : D2 w0 (wr.drewN n) x d e f := ⟨h.hd, h.he, h.hf, ⟨h.below.os, h.below.tape, h.below.output, h.below.size, h.below.block⟩, h.far⟩
theorem All3.drewN {w0 w : World} {x : Nat} {d e f : List UInt8} {ya yb yc : Nat} {fd fe ff : List UInt8} (h : All3 w0 w x d e f ya yb yc fd fe ff) (n : Nat) : All3 w0 (w.drewN n) x d e f ya yb yc fd fe ff := ⟨h.s.drewN n, h.y, h.v, h.u⟩
theorem eql45 (l : List UInt8) (hl : l.length = 20) (w : World) : (binOp .eql 45 (.agg (Lib.byteCells l).toArray) (.agg (Lib.byteCells l).toArray)).run Try.prog w = .ok (.bool true) w := by
  rw [run_eql_struct, equalIn_arr (d := 9998) l Try.underlying45 Try.underlying5 (sz5 w) hl]
  rfl
theorem guard45 (x y : Operand) (xs ys : Array Value) (w : World) : (eqGuard .eql 45 x y (.agg xs) (.agg ys)).run Try.prog w = .ok () w :=
  run_eqGuard_agg w .eql 45 x y xs ys (by kernel_rfl)
/-- Loads of whole arrays that the walk does not open. -/
noncomputable def ld45 (a : Addr) : Sem Value := loadVar 45 a
noncomputable def ld24 (a : Addr) : Sem Value := loadVar 24 a
theorem ld45_eq (a : Addr) : loadVar 45 a = ld45 a := rfl
theorem ld24_eq (a : Addr) : loadVar 24 a = ld24 a := rfl
theorem Bk.ld45 {w : World} {r : Nat} {l : List UInt8} (h : Bk w r 45 l) (hl : l.length = 20) : (ld45 ⟨r, 0, none⟩).run Try.prog w = .ok (.agg (Lib.byteCells l).toArray) w := arr_back h Try.underlying45 rfl (by rw [hl]; exact info45)
theorem Bk.ld24 {w : World} {r : Nat} {l : List UInt8} (h : Bk w r 24 l) (hl : l.length = 32) : (ld24 ⟨r, 0, none⟩).run Try.prog w = .ok (.agg (Lib.byteCells l).toArray) w := arr_back h Try.underlying24 rfl (by rw [hl]; exact info24)
section
attribute [local go_sem ↓] ld45_eq ld24_eq

set_option maxHeartbeats 2000000 in
set_option maxRecDepth 100000 in
theorem folds_any (d e : List UInt8) (hd : d.length = 32) (he : e.length = 32) (w : World) : Calls Try.prog 7 #[.agg (Lib.byteCells d).toArray, .agg (Lib.byteCells e).toArray] w fun r w' => r = .returned (.bool true) ∧ Below w.heap.size w w' := by
  have z24 := zero24
  have z45 := zero45
  have a0 := alloc_at w (.cells (Lib.byteCells d).toArray 24)
  have s1 : (w.alloc (.cells (Lib.byteCells d).toArray 24)).heap.size = w.heap.size + 1 := by simp
  have a1 := alloc_at (w.alloc (.cells (Lib.byteCells d).toArray 24)) (.cells (Lib.byteCells e).toArray 24)
  rw [s1] at a1
  have s2 : ((w.alloc (.cells (Lib.byteCells d).toArray 24)).alloc (.cells (Lib.byteCells e).toArray 24)).heap.size = w.heap.size + 2 := by simp
  have b2 := ((Below.refl w.heap.size w).alloc (Nat.le_refl _) (.cells (Lib.byteCells d).toArray 24)).alloc (by simp) (.cells (Lib.byteCells e).toArray 24)
  have A0 := Lib.hid (alloc_far a0 (.cells (Lib.byteCells e).toArray 24))
  have A1 := Lib.hid a1
  have S2 := Lib.hid s2
  have B2 := Lib.hid b2
  have HD := Lib.hid hd
  have HE := Lib.hid he
  clear a0 a1 s1 s2 b2 hd he
  go_enter Try.func7, Try.ntmps7
  go_wp2_with fail
  generalize (w.alloc (.cells (Lib.byteCells d).toArray 24)).alloc (.cells (Lib.byteCells e).toArray 24) = w2 at *
  refine (awake_any _).mono ?_
  rintro r w3 ⟨rfl, hb3⟩
  have D3 : Hid (D2 w (w3.alloc (.cells (Lib.byteCells (zrs 32)).toArray 24)) w3.heap.size d e (xorP d e 0)) := Lib.hid ⟨alloc_far (blk_below A0.out hb3) _, alloc_far (blk_below A1.out hb3) _, by rw [xorP_zero]; exact alloc_at w3 _, (B2.out.trans (hb3.mono B2.out.size)).alloc (by have := hb3.size; have := B2.out.size; omega) _, by have := hb3.size; have := S2.out; omega⟩
  clear hb3 A0 A1 B2 S2
  go_wp2_with fail
  obtain ⟨x, hx⟩ : ∃ x, w3.heap.size = x := ⟨_, rfl⟩
  rw [hx] at D3 ⊢
  clear hx
  generalize w3.alloc (.cells (Lib.byteCells (zrs 32)).toArray 24) = w4 at *
  go_loopw [6] (fun i wr => ∃ m : Nat, m ≤ 32 ∧ i = .int .i64 m ∧ Hid (D2 w wr x d e (xorP d e m))) (fun i _ => 32 - (intOf i).toNat)
  case atStart => exact ⟨0, by omega, rfl, D3⟩
  case round =>
    clear D3
    obtain ⟨m, hm, rfl, hS⟩ := hrel
    by_cases hlt : m < 32
    · have hdc : decide ((m : Int) < 32) = true := by rw [decide_eq_true_eq]; omega
      have cd := b_cell hS.out.hd m (by rw [HD.out]; exact hlt)
      have ce := b_cell hS.out.he m (by rw [HE.out]; exact hlt)
      have cf := b_cell hS.out.hf m (by rw [xorP_length _ _ _ hm]; exact hlt)
      have zf := blk_frozen hS.out.hf m
      have hst := Lib.hid (xorP_set d e m hlt)
      generalize d.getD m 0 = x0 at *
      generalize e.getD m 0 = x1 at *
      generalize (xorP d e m).getD m 0 = x2 at *
      have b1 : ¬ (m : Int) < 0 ∧ (m : Int) < 32 := by omega
      obtain ⟨b1, b2⟩ := b1
      go_wp2_with fail
      go_still_tail 9, (by kernel_rfl)
      change wpList _ _ _ _ _ (World.drew wr)
      go_wp2_with fail
      go_roundw
      case rel => exact ⟨m + 1, by omega, by go_num, Lib.hid (((hS.out.set m (x0 ^^^ x1)).congr hst.out)).drew⟩
      case measure => simp [intOf]; omega
    · have hem : m = 32 := by omega
      have hS2 : Hid (D2 w wr x d e (xorL d e)) := Lib.hid (by rw [hem, xorP_end] at hS; exact hS.out)
      have hdc : decide ((m : Int) < 32) = false := by rw [decide_eq_false_iff_not]; omega
      have hxl := xorL_length d e
      obtain ⟨fd, hfd⟩ : ∃ fd, fd = foldL d := ⟨_, rfl⟩
      obtain ⟨fe, hfe⟩ : ∃ fe, fe = foldL e := ⟨_, rfl⟩
      obtain ⟨ff, hff⟩ : ∃ ff, ff = foldL (xorL d e) := ⟨_, rfl⟩
      have hjj : ∀ j, j < 20 → ff.getD j 0 = fd.getD j 0 ^^^ fe.getD j 0 := fun j hj => by rw [hff, hfd, hfe]; exact foldL_xor d e j hj
      have l1 : fd.length = 20 := by rw [hfd]; exact foldL_length d
      have l2 : fe.length = 20 := by rw [hfe]; exact foldL_length e
      have l3 : ff.length = 20 := by rw [hff]; exact foldL_length _
      have X1 : Hid (∀ W, Calls Try.prog 17 #[.agg (Lib.byteCells d).toArray] W fun e w' => e = .returned (.agg (Lib.byteCells fd).toArray) ∧ Below W.heap.size W w') := Lib.hid (by rw [hfd]; exact fun W => fold_any d HD.out W)
      have X2 : Hid (∀ W, Calls Try.prog 17 #[.agg (Lib.byteCells e).toArray] W fun e w' => e = .returned (.agg (Lib.byteCells fe).toArray) ∧ Below W.heap.size W w') := Lib.hid (by rw [hfe]; exact fun W => fold_any e HE.out W)
      have X3 : Hid (∀ W, Calls Try.prog 17 #[.agg (Lib.byteCells (xorL d e)).toArray] W fun e w' => e = .returned (.agg (Lib.byteCells ff).toArray) ∧ Below W.heap.size W w') := Lib.hid (by rw [hff]; exact fun W => fold_any _ hxl W)
      have X4 : Hid (∀ W, Calls Try.prog 18 #[.agg (Lib.byteCells d).toArray] W fun e w' => e = .returned (.agg (Lib.byteCells fd).toArray) ∧ Below W.heap.size W w') := Lib.hid (by rw [hfd]; exact fun W => rfold_any d HD.out W)
      have HX := Lib.hid hxl
      have HJ := Lib.hid hjj
      have L1 := Lib.hid l1
      have L2 := Lib.hid l2
      have L3 := Lib.hid l3
      clear hS hem hxl hfd hfe hff hjj l1 l2 l3
      generalize xorL d e = f at *
      go_wp2_with (refine wpList_load_part rfl 24 _ rfl w.heap.size 0 _ (Lib.byteCells d) 24 _ rfl hS2.out.hd (by rw [List.drop_zero, List.take_length]) Try.underlying24 rfl (by rw [Lib.byteCells_length, HD.out]; exact info24) ?_)
      refine (X1.out _).mono ?_
      rintro r w5 ⟨rfl, b5⟩
      have S5 := Lib.hid (hS2.out.more b5)
      clear b5 hS2
      go_wp2_with (first
        | (refine wpList_store_whole rfl 45 _ _ rfl w5.heap.size (Lib.byteCells fd).toArray (Lib.byteCells (zrs 20)).toArray 45 rfl rfl (alloc_at w5 _) (sz_eq (by rw [L1.out]; rfl)) (by rw [List.size_toArray, Lib.byteCells_length, L1.out]; exact info45) (one_bytes _) ?_; intro w6 h5 h6; have S6 := Lib.hid (S5.out.more (below_new h6)); have Y6 : Hid (Bk w6 w5.heap.size 45 fd) := Lib.hid h5; clear h5 h6)
        | (refine wpList_load_part rfl 24 _ rfl (w.heap.size + 1) 0 _ (Lib.byteCells e) 24 _ rfl S6.out.he (by rw [List.drop_zero, List.take_length]) Try.underlying24 rfl (by rw [Lib.byteCells_length, HE.out]; exact info24) ?_))
      refine (X2.out _).mono ?_
      rintro r w7 ⟨rfl, b7⟩
      have S7 := Lib.hid (S6.out.more b7)
      have Y7 := Lib.hid (Y6.out.more b7)
      clear b7 S6 S5 Y6
      generalize w5.heap.size = ya at *
      go_wp2_with (first
        | (refine wpList_store_whole rfl 45 _ _ rfl w7.heap.size (Lib.byteCells fe).toArray (Lib.byteCells (zrs 20)).toArray 45 rfl rfl (alloc_at w7 _) (sz_eq (by rw [L2.out]; rfl)) (by rw [List.size_toArray, Lib.byteCells_length, L2.out]; exact info45) (one_bytes _) ?_; intro w8 h5 h6; have S8 := Lib.hid (S7.out.more (below_new h6)); have Y8 := Lib.hid (Y7.out.more (below_new h6)); have V8 : Hid (Bk w8 w7.heap.size 45 fe) := Lib.hid h5; clear h5 h6)
        | (refine wpList_load_part rfl 24 _ rfl x 0 _ (Lib.byteCells f) 24 _ rfl S8.out.hf (by rw [List.drop_zero, List.take_length]) Try.underlying24 rfl (by rw [Lib.byteCells_length, HX.out]; exact info24) ?_))
      refine (X3.out _).mono ?_
      rintro r w9 ⟨rfl, b9⟩
      have S9 := Lib.hid (S8.out.more b9)
      have Y9 := Lib.hid (Y8.out.more b9)
      have V9 := Lib.hid (V8.out.more b9)
      clear b9 S8 Y8 V8 S7 Y7
      generalize w7.heap.size = yb at *
      go_wp2_with (refine wpList_store_whole rfl 45 _ _ rfl w9.heap.size (Lib.byteCells ff).toArray (Lib.byteCells (zrs 20)).toArray 45 rfl rfl (alloc_at w9 _) (sz_eq (by rw [L3.out]; rfl)) (by rw [List.size_toArray, Lib.byteCells_length, L3.out]; exact info45) (one_bytes _) ?_; intro w10 h5 h6; have S10 := Lib.hid (S9.out.more (below_new h6)); have Y10 := Lib.hid (Y9.out.more (below_new h6)); have V10 := Lib.hid (V9.out.more (below_new h6)); have U10 : Hid (Bk w10 w9.heap.size 45 ff) := Lib.hid h5; clear h5 h6)
      clear S9 Y9 V9 z24 z45 X1 X2 X3
      generalize w9.heap.size = yc at *
      have T10 : Hid (All3 w w10 x d e f ya yb yc fd fe ff) := Lib.hid ⟨S10.out, Y10.out, V10.out, U10.out⟩
      clear S10 Y10 V10 U10
      go_loopw [10] (fun i wr => ∃ m : Nat, m ≤ 20 ∧ i = .int .i64 m ∧ Hid (All3 w wr x d e f ya yb yc fd fe ff)) (fun i _ => 20 - (intOf i).toNat)
      case atStart => exact ⟨0, by omega, rfl, T10⟩
      case round =>
        clear T10
        obtain ⟨m, hm, rfl, hT⟩ := hrel
        by_cases hmlt : m < 20
        · have hdc : decide ((m : Int) < 20) = true := by rw [decide_eq_true_eq]; omega
          have ca := b_cell hT.out.y m (by rw [L1.out]; exact hmlt)
          have cb := b_cell hT.out.v m (by rw [L2.out]; exact hmlt)
          have cc := b_cell hT.out.u m (by rw [L3.out]; exact hmlt)
          rw [HJ.out m hmlt] at cc
          generalize fd.getD m 0 = x0 at *
          generalize fe.getD m 0 = x1 at *
          have b1 : ¬ (m : Int) < 0 ∧ (m : Int) < 20 := by omega
          obtain ⟨b1, b2⟩ := b1
          go_wp2_with fail
          go_quiet (fail)
          have hT2 := Lib.hid (hT.out.drewN nq)
          clear hT ca cb cc
          generalize wr.drewN nq = wq at *
          go_wp2_with fail
          go_roundw
          case rel => exact ⟨m + 1, by omega, by go_num, hT2⟩
          case measure => simp [intOf]; omega
        · have hdc : decide ((m : Int) < 20) = false := by rw [decide_eq_false_iff_not]; omega
          go_wp2_with fail
          have hY : Hid (Bk wr.drew ya 45 fd) := Lib.hid hT.out.y
          have hD : Hid (Bk wr.drew w.heap.size 24 d) := Lib.hid hT.out.s.hd
          have HB : Hid (Below w.heap.size w wr.drew) := Lib.hid hT.out.s.below.drew
          have l1 := hY.out.ld45 L1.out
          have l2 := hD.out.ld24 HD.out
          have q1 := eql45 fd L1.out
          have q2 := fun a b W => guard45 a b (Lib.byteCells fd).toArray (Lib.byteCells fd).toArray W
          clear hT
          refine wp_region_any (by kernel_rfl) ?_
          change wpAny _ _ _ _ _ _ _ (World.drew _)
          refine wpAny_ready (rs := [0, 1]) (by kernel_rfl) (by simp) ?_
          refine AllReady.cons rfl (fun K hK => ?_) (AllReady.cons rfl (fun K hK => ?_) AllReady.nil)
          · go_simp
            refine hK _ _ ?_
            clear hK K
            go_simp
            refine wpAny_ready (rs := [1]) (by kernel_rfl) (by simp) ?_
            refine AllReady.cons rfl (fun K hK => ?_) AllReady.nil
            · go_simp
              refine hK _ _ ?_
              clear hK K
              go_simp
              refine wpAny_ready (rs := [2]) (by kernel_rfl) (by simp) ?_
              refine AllReady.cons rfl (fun K hK => ?_) AllReady.nil
              · go_simp
                go_wp2_with ((go_at_call 18; refine (X4.out _).mono ?_; rintro r w12 ⟨rfl, b12⟩; have l3 := (hY.out.more b12).ld45 L1.out))
                go_simp
                refine wpAny_ready (rs := [3]) (by kernel_rfl) (by simp) ?_
                refine AllReady.cons rfl (fun K hK => ?_) AllReady.nil
                · go_simp
                  refine hK _ _ ?_
                  clear hK K
                  go_simp
                  refine wpAny_ready (rs := [4]) (by kernel_rfl) (by simp) ?_
                  refine AllReady.cons rfl (fun K hK => ?_) AllReady.nil
                  · go_simp
                    refine hK _ _ ?_
                    clear hK K
                    go_simp
                    refine wpAny_done (by kernel_rfl) ?_ _
                    (go_wp2; go_ret; exact ⟨rfl, HB.out.trans (b12.mono HB.out.size)⟩)
          · go_simp
            refine hK _ _ ?_
            clear hK K
            go_simp
            refine wpAny_ready (rs := [0, 2]) (by kernel_rfl) (by simp) ?_
            refine AllReady.cons rfl (fun K hK => ?_) (AllReady.cons rfl (fun K hK => ?_) AllReady.nil)
            · go_simp
              refine hK _ _ ?_
              clear hK K
              go_simp
              refine wpAny_ready (rs := [2]) (by kernel_rfl) (by simp) ?_
              refine AllReady.cons rfl (fun K hK => ?_) AllReady.nil
              · go_simp
                go_wp2_with ((go_at_call 18; refine (X4.out _).mono ?_; rintro r w12 ⟨rfl, b12⟩; have l3 := (hY.out.more b12).ld45 L1.out))
                go_simp
                refine wpAny_ready (rs := [3]) (by kernel_rfl) (by simp) ?_
                refine AllReady.cons rfl (fun K hK => ?_) AllReady.nil
                · go_simp
                  refine hK _ _ ?_
                  clear hK K
                  go_simp
                  refine wpAny_ready (rs := [4]) (by kernel_rfl) (by simp) ?_
                  refine AllReady.cons rfl (fun K hK => ?_) AllReady.nil
                  · go_simp
                    refine hK _ _ ?_
                    clear hK K
                    go_simp
                    refine wpAny_done (by kernel_rfl) ?_ _
                    (go_wp2; go_ret; exact ⟨rfl, HB.out.trans (b12.mono HB.out.size)⟩)
            · go_simp
              go_wp2_with ((go_at_call 18; refine (X4.out _).mono ?_; rintro r w12 ⟨rfl, b12⟩; have l3 := (hY.out.more b12).ld45 L1.out))
              go_simp
              refine wpAny_ready (rs := [0]) (by kernel_rfl) (by simp) ?_
              refine AllReady.cons rfl (fun K hK => ?_) AllReady.nil
              · go_simp
                refine hK _ _ ?_
                clear hK K
                go_simp
                refine wpAny_ready (rs := [3]) (by kernel_rfl) (by simp) ?_
                refine AllReady.cons rfl (fun K hK => ?_) AllReady.nil
                · go_simp
                  refine hK _ _ ?_
                  clear hK K
                  go_simp
                  refine wpAny_ready (rs := [4]) (by kernel_rfl) (by simp) ?_
                  refine AllReady.cons rfl (fun K hK => ?_) AllReady.nil
                  · go_simp
                    refine hK _ _ ?_
                    clear hK K
                    go_simp
                    refine wpAny_done (by kernel_rfl) ?_ _
                    (go_wp2; go_ret; exact ⟨rfl, HB.out.trans (b12.mono HB.out.size)⟩)
end
theorem walk_HashFolds (a0 a1 : List UInt8) (w : World) (w0 : a0.length = 32) (w1 : a1.length = 32) :
    Calls Try.prog 7 #[.agg (Lib.byteCells a0).toArray, .agg (Lib.byteCells a1).toArray] w fun e w' => e = .returned (.bool true) ∧ Below w.heap.size w w' := folds_any a0 a1 w0 w1 w
end Go.Proofs.Ytnpmhbhnggdhcaa
