/-
  block: what it does to a hasher.
-/
import Derived.Test.YtnpmhbhnggdhcaaBlockState
import Derived.StillTailTactics
import Derived.Deep.QuietTactic
import Derived.BigQuiet
set_option linter.unusedVariables false
set_option linter.unusedSimpArgs false
namespace Go.Proofs.Ytnpmhbhnggdhcaa
open Go.RowKit Go.Proofs.YtnpmhbhnggdhcaaW.PrintWords
theorem zero35 (W : World) : (zeroValue 35).run Try.prog W = .ok (.agg (uc z64).toArray) W := zero_of (by kernel_rfl) W
theorem shl8w_u (a : W32) : IntKind.u32.wrap (u a * (256 : Int)) = u (a <<< 8) := shl8_u a
theorem wrapb_u (b : UInt8) : IntKind.u32.wrap (b.toNat : Int) = u (b8 b) := by
  rw [← u_b8]
  show (b.toNat : Int) % 4294967296 = _
  have := b.toNat_lt
  omega
attribute [local go_sem] shl8w_u wrapb_u or_u and_u xor_u addw_u add_u shr3_u shr10_u shl8_u
theorem rotl25 (x : W32) (w : World) : Calls Try.prog 27 #[.int .u32 (u x), .int .i64 25] w fun e w' => e = .returned (.int .u32 (u (x.rotateLeft 25))) ∧ w' = w := rotl_any x 25 (by decide) w
theorem rotl14 (x : W32) (w : World) : Calls Try.prog 27 #[.int .u32 (u x), .int .i64 14] w fun e w' => e = .returned (.int .u32 (u (x.rotateLeft 14))) ∧ w' = w := rotl_any x 14 (by decide) w
theorem rotl15 (x : W32) (w : World) : Calls Try.prog 27 #[.int .u32 (u x), .int .i64 15] w fun e w' => e = .returned (.int .u32 (u (x.rotateLeft 15))) ∧ w' = w := rotl_any x 15 (by decide) w
theorem rotl13 (x : W32) (w : World) : Calls Try.prog 27 #[.int .u32 (u x), .int .i64 13] w fun e w' => e = .returned (.int .u32 (u (x.rotateLeft 13))) ∧ w' = w := rotl_any x 13 (by decide) w
theorem rotl26 (x : W32) (w : World) : Calls Try.prog 27 #[.int .u32 (u x), .int .i64 26] w fun e w' => e = .returned (.int .u32 (u (x.rotateLeft 26))) ∧ w' = w := rotl_any x 26 (by decide) w
theorem rotl21 (x : W32) (w : World) : Calls Try.prog 27 #[.int .u32 (u x), .int .i64 21] w fun e w' => e = .returned (.int .u32 (u (x.rotateLeft 21))) ∧ w' = w := rotl_any x 21 (by decide) w
theorem rotl7 (x : W32) (w : World) : Calls Try.prog 27 #[.int .u32 (u x), .int .i64 7] w fun e w' => e = .returned (.int .u32 (u (x.rotateLeft 7))) ∧ w' = w := rotl_any x 7 (by decide) w
theorem rotl30 (x : W32) (w : World) : Calls Try.prog 27 #[.int .u32 (u x), .int .i64 30] w fun e w' => e = .returned (.int .u32 (u (x.rotateLeft 30))) ∧ w' = w := rotl_any x 30 (by decide) w
theorem rotl19 (x : W32) (w : World) : Calls Try.prog 27 #[.int .u32 (u x), .int .i64 19] w fun e w' => e = .returned (.int .u32 (u (x.rotateLeft 19))) ∧ w' = w := rotl_any x 19 (by decide) w
theorem rotl10 (x : W32) (w : World) : Calls Try.prog 27 #[.int .u32 (u x), .int .i64 10] w fun e w' => e = .returned (.int .u32 (u (x.rotateLeft 10))) ∧ w' = w := rotl_any x 10 (by decide) w
theorem orb_u (a : W32) (b : UInt8) : bits .or .u32 (u a) (b.toNat : Int) = u (a ||| b8 b) := by rw [u_b8, or_u]

theorem index_arr {P : Program} (t e : TypeId) (n : Nat) (cs : List Value) (v : Value) (i : Nat) (h : P.underlying t = some (.array n e)) (hn : i < n) (hs : ∀ W, (sizeOf e).run P W = .ok 1 W) (ha : ∀ W, (isAgg e).run P W = .ok false W) (hv : cs[i]? = some v) (W : World) :
    (Instr.index t (.agg cs.toArray) (.int .i64 i)).run P W = .ok v W := by
  simp [Instr.index, run_underlying h, asIntOf, hn, go_sem, hs, ha, hv]
theorem hblk_partH (k : Nat) (H : List W32) (part : List UInt8) (n : Nat) : ((hblk k H part n).drop 1).take (uc H).length = uc H := by
  show (uc H ++ (Lib.byteCells part ++ [Value.int .u64 (n : Int)])).take (uc H).length = uc H
  simp
theorem zero36 (W : World) : (zeroValue 36).run Try.prog W = .ok (.agg (uc z8).toArray) W := zero_of (by kernel_rfl) W
theorem zero36L (W : World) : (zeroValue 36).run Try.prog W = .ok (.agg #[.int .u32 0, .int .u32 0, .int .u32 0, .int .u32 0, .int .u32 0, .int .u32 0, .int .u32 0, .int .u32 0]) W := zero36 W
theorem info35 : (Try.prog.info? 35).map (·.size) = some 64 := by kernel_rfl
structure RS (w0 : World) (b k x y : Nat) (H : List W32) (part : List UInt8) (n : Nat) (S : List W32) (v : V8) (w : World) : Prop where
  hb : w.heap[b]? = some (.cells (hblk k H part n).toArray 64 (0, 0))
  hk : w.heap[k]? = some (.cells wmade.toArray 61 (0, 0))
  hx : w.heap[x]? = some (.cells (uc S).toArray 35 (0, 0))
  hy : w.heap[y]? = some (.cells (uc v.l).toArray 36 (0, 0))
  kept : Kept w0 w (fun j => j = b)
  nb : b ≠ y
  nk : k ≠ y
  nx : x ≠ y
  bk : b ≠ k
  oy : w0.heap.size ≤ y
theorem RS.at1 {w0 w w' : World} {b k x y n : Nat} {H S : List W32} {v v' : V8} {part : List UInt8} (h : RS w0 b k x y H part n S v w) (e : At1 y w w') (hy : w'.heap[y]? = some (.cells (uc v'.l).toArray 36 (0, 0))) : RS w0 b k x y H part n S v' w' :=
  ⟨(e.block b h.nb).trans h.hb, (e.block k h.nk).trans h.hk, (e.block x h.nx).trans h.hx, hy, h.kept.at1 e (.inr h.oy), h.nb, h.nk, h.nx, h.bk, h.oy⟩
theorem RS.drewN {w0 w : World} {b k x y n : Nat} {H S : List W32} {v : V8} {part : List UInt8} (h : RS w0 b k x y H part n S v w) (m : Nat) : RS w0 b k x y H part n S v (w.drewN m) := ⟨h.hb, h.hk, h.hx, h.hy, h.kept.drewN m, h.nb, h.nk, h.nx, h.bk, h.oy⟩

theorem RS.cells {w0 w : World} {b k x y n : Nat} {H S : List W32} {v : V8} {part : List UInt8} (h : RS w0 b k x y H part n S v w) :
    w.cell? ⟨y, 0, none⟩ = some (.int .u32 (u v.a)) ∧ w.cell? ⟨y, 1, none⟩ = some (.int .u32 (u v.b)) ∧ w.cell? ⟨y, 2, none⟩ = some (.int .u32 (u v.c)) ∧ w.cell? ⟨y, 3, none⟩ = some (.int .u32 (u v.d)) ∧
    w.cell? ⟨y, 4, none⟩ = some (.int .u32 (u v.e)) ∧ w.cell? ⟨y, 5, none⟩ = some (.int .u32 (u v.f)) ∧ w.cell? ⟨y, 6, none⟩ = some (.int .u32 (u v.g)) ∧ w.cell? ⟨y, 7, none⟩ = some (.int .u32 (u v.h)) := by
  have f := fun i (hi : i < 8) => uc_cell h.hy i (by rw [V8.l_length]; exact hi)
  exact ⟨f 0 (by decide), f 1 (by decide), f 2 (by decide), f 3 (by decide), f 4 (by decide), f 5 (by decide), f 6 (by decide), f 7 (by decide)⟩

def HI (H v : V8) (i : Nat) : List W32 := ((H.add v).l).take i ++ H.l.drop i
theorem HI_length (H v : V8) (i : Nat) (h : i ≤ 8) : (HI H v i).length = 8 := by simp [HI, V8.l_length]; omega
theorem HI_get (H v : V8) (i : Nat) (h : i < 8) : (HI H v i).getD i 0 = H.l.getD i 0 := by
  have e : ((H.add v).l.take i).length = i := by rw [List.length_take, V8.l_length]; omega
  unfold HI
  rw [List.getD_eq_getElem?_getD, List.getElem?_append_right (by omega), e, Nat.sub_self, List.getElem?_drop, Nat.add_zero, List.getD_eq_getElem?_getD]
theorem HI_set (H v : V8) (i : Nat) (h : i < 8) : (HI H v i).set i (H.l.getD i 0 + v.l.getD i 0) = HI H v (i + 1) := by
  match i, h with
  | 0, _ => rfl
  | 1, _ => rfl
  | 2, _ => rfl
  | 3, _ => rfl
  | 4, _ => rfl
  | 5, _ => rfl
  | 6, _ => rfl
  | 7, _ => rfl
theorem HI_end (H v : V8) : HI H v 8 = (H.add v).l := rfl
theorem hblk_set (k : Nat) (H : List W32) (part : List UInt8) (n i : Nat) (h : i < H.length) (x : W32) : (hblk k H part n).toArray.setIfInBounds (1 + i) (.int .u32 (u x)) = (hblk k (H.set i x) part n).toArray := by
  rw [List.setIfInBounds_toArray]
  unfold hblk
  rw [show 1 + i = i + 1 by omega, List.set_cons_succ, List.set_append, if_pos (by rw [uc_length]; exact h), uc_set]
theorem RS.setb {w0 w : World} {b k x y n : Nat} {H S : List W32} {v : V8} {part : List UInt8} (h : RS w0 b k x y H part n S v w) (hx : b ≠ x) (i : Nat) (hi : i < H.length) (z : W32) : RS w0 b k x y (H.set i z) part n S v (w.setCell ⟨b, 1 + i, none⟩ (.int .u32 (u z))) := by
  have e := At1.set w b (1 + i) (.int .u32 (u z))
  refine ⟨?_, (e.block k (Ne.symm h.bk)).trans h.hk, (e.block x (Ne.symm hx)).trans h.hx, (e.block y (Ne.symm h.nb)).trans h.hy, h.kept.at1 e (.inl rfl), h.nb, h.nk, h.nx, h.bk, h.oy⟩
  rw [blk_set h.hb (1 + i), hblk_set k H part n i hi]
theorem RS.congrH {w0 w : World} {b k x y n : Nat} {H H' S : List W32} {v : V8} {part : List UInt8} (h : RS w0 b k x y H part n S v w) (e : H = H') : RS w0 b k x y H' part n S v w := e ▸ h

set_option maxHeartbeats 4000000 in
set_option maxRecDepth 100000 in
theorem block_any (b k n : Nat) (H : V8) (part : List UInt8) (hp : part.length = 64) (w : World) (hbk : b ≠ k) (hb : w.heap[b]? = some (.cells (hblk k H.l part n).toArray 64 (0, 0))) (hk : w.heap[k]? = some (.cells wmade.toArray 61 (0, 0))) :
    Calls Try.prog 21 #[.pointer (some ⟨b, 0, none⟩)] w fun e w' => e = .returned (.tuple #[]) ∧ w'.heap[b]? = some (.cells (hblk k (comp H part).l part n).toArray 64 (0, 0)) ∧ Kept w w' (fun j => j = b) := by
  have hz := zero35
  have hbl := blk_lt hb
  have hkl := blk_lt hk
  have B0 : BS w b k w.heap.size H.l part n (W1 part 0 0) (w.alloc (.cells (uc z64).toArray 35)) := ⟨alloc_far hb _, alloc_far hk _, alloc_at w _, (Kept.refl w _).alloc _, by omega, by omega, hbk, Nat.le_refl _⟩
  have HB0 := Lib.hid B0
  have HBK := Lib.hid hbk
  clear B0 hb hk hbk
  go_enter Try.func21, Try.ntmps21
  go_wp2_with fail
  clear hz
  generalize w.alloc (.cells (uc z64).toArray 35) = w1 at *
  obtain ⟨x, hx⟩ : ∃ x, w.heap.size = x := ⟨_, rfl⟩
  rw [hx] at HB0 ⊢
  have HX := Lib.hid hx
  clear hx hbl hkl
  go_loopw [16] (fun i wr => ∃ m : Nat, m ≤ 16 ∧ i = .int .i64 m ∧ Hid (BS w b k x H.l part n (W1 part m 0) wr)) (fun i _ => 16 - (intOf i).toNat)
  case atStart => exact ⟨0, by omega, rfl, HB0⟩
  case round =>
    obtain ⟨m, hm, rfl, hS⟩ := hrel
    by_cases hlt : m < 16
    · have hd : decide ((m : Int) < 16) = true := by rw [decide_eq_true_eq]; omega
      go_wp2_with fail
      obtain ⟨wo, rfl⟩ : ∃ wo : World, wo = wr := ⟨_, rfl⟩
      go_loopw [19] (fun i wr => ∃ j : Nat, j ≤ 4 ∧ i = .int .i64 j ∧ Hid (BS w b k x H.l part n (W1 part m j) wr)) (fun i _ => 4 - (intOf i).toNat)
      case atStart => exact ⟨0, by omega, rfl, hS⟩
      case round =>
        obtain ⟨j, hj, rfl, hT⟩ := hrel
        by_cases hjl : j < 4
        · have c1 := uc_cell hT.out.hx m (by rw [W1_length _ _ _ (by omega)]; omega)
          rw [W1_get] at c1
          obtain ⟨p4, hp4⟩ : ∃ p4, 4 * m = p4 := ⟨_, rfl⟩
          obtain ⟨q, hq⟩ : ∃ q, p4 + j = q := ⟨_, rfl⟩
          have e1 : IntKind.i64.wrap (4 * (m : Int)) = (p4 : Int) := by rw [← hp4]; exact IntWalk.i64_in _ (by omega)
          have e2 : IntKind.i64.wrap ((p4 : Int) + (j : Int)) = (q : Int) := by rw [← hq]; exact IntWalk.i64_in _ (by omega)
          have c2 := part_cell hT.out.hb H.l_length q (by omega)
          have hx : part.getD q 0 = part.getD (4 * m + j) 0 := by rw [hp4, hq]
          have HX1 := Lib.hid hx
          have z1 := blk_frozen hT.out.hx m
          have b1 : (m : Int) < 64 := by omega
          have b2 : ¬ (m : Int) < 0 := by omega
          have b3 : (q : Int) < 64 := by omega
          have b4 : ¬ (q : Int) < 0 := by omega
          clear hp4 hq hx
          generalize part.getD q 0 = xb at *
          go_wp2_with fail
          go_still_tail 17, (by kernel_rfl)
          change wpList _ _ _ _ _ (World.drew wr)
          go_wp2
          have hT2 := Lib.hid ((hT.out.setx m (wk part m j <<< 8 ||| b8 xb)).congr (ws' := W1 part m (j + 1)) (by rw [HX1.out]; exact W1_set part m j)).drew
          clear hT
          go_roundw
          case rel => exact ⟨j + 1, by omega, by go_num, hT2⟩
          case measure => simp [intOf]; omega
        · have e : j = 4 := by omega
          subst e
          have hT2 := Lib.hid (hT.out.congr (W1_next part m (by omega)))
          clear hT
          go_wp2_with fail
          exact ⟨⟨m + 1, by omega, by go_num, hT2⟩, by simp [intOf]; omega⟩
    · have e : m = 16 := by omega
      have hS2 := Lib.hid (hS.out.congr (ws' := W2 part 0) (by rw [e]; exact W1_end part))
      have hd16 : decide ((m : Int) < 16) = false := by rw [decide_eq_false_iff_not]; omega
      clear hS e
      go_wp2_with fail
      clear hd16 hlt hm
      generalize (m : Int) = m16
      go_loopw [5] (fun i wr => ∃ m : Nat, m ≤ 48 ∧ i = .int .i64 ((16 + m : Nat) : Int) ∧ Hid (BS w b k x H.l part n (W2 part m) wr)) (fun i _ => 64 - (intOf i).toNat)
      case atStart => exact ⟨0, by omega, rfl, hS2⟩
      case round =>
        clear hS2
        obtain ⟨m, hm, rfl, hS⟩ := hrel
        obtain ⟨i, hi⟩ : ∃ i, 16 + m = i := ⟨_, rfl⟩
        rw [hi]
        by_cases hlt : i < 64
        · have hl := W2_length part m hm
          have hd : decide ((i : Int) < 64) = true := by rw [decide_eq_true_eq]; omega
          have c15 := uc_cell hS.out.hx (m + 1) (by omega)
          have c2 := uc_cell hS.out.hx (m + 14) (by omega)
          have c16 := uc_cell hS.out.hx m (by omega)
          have c7 := uc_cell hS.out.hx (m + 9) (by omega)
          have cw := uc_cell hS.out.hx i (by omega)
          rw [W2_get part m _ (by omega)] at c15 c2 c16 c7
          have zw := blk_frozen hS.out.hx i
          have hnx : Hid (nextW (schedL part m) m = (schedL part m).getD m 0 + s0 ((schedL part m).getD (m + 1) 0) + (schedL part m).getD (m + 9) 0 + s1 ((schedL part m).getD (m + 14) 0)) := Lib.hid rfl
          have hS2 := Lib.hid (W2_set part m (by omega))
          rw [hi] at hS2
          generalize (schedL part m).getD (m + 1) 0 = x15 at *
          generalize (schedL part m).getD (m + 14) 0 = x2 at *
          generalize (schedL part m).getD m 0 = x16 at *
          generalize (schedL part m).getD (m + 9) 0 = x7 at *
          generalize (W2 part m).getD i 0 = xi at cw
          generalize nextW (schedL part m) m = xn at *
          have HM1 : Hid (16 + (m + 1) = i + 1) := Lib.hid (by omega)
          have hm48 : m < 48 := by omega
          obtain ⟨a15, h15⟩ : ∃ a, m + 1 = a := ⟨_, rfl⟩
          obtain ⟨a2, h2⟩ : ∃ a, m + 14 = a := ⟨_, rfl⟩
          obtain ⟨a7, h7⟩ : ∃ a, m + 9 = a := ⟨_, rfl⟩
          rw [h15] at c15
          rw [h2] at c2
          rw [h7] at c7
          have e15 : IntKind.i64.wrap ((i : Int) - 15) = (a15 : Int) := by rw [IntWalk.i64_in _ (by omega)]; omega
          have e2 : IntKind.i64.wrap ((i : Int) - 2) = (a2 : Int) := by rw [IntWalk.i64_in _ (by omega)]; omega
          have e16 : IntKind.i64.wrap ((i : Int) - 16) = (m : Int) := by rw [IntWalk.i64_in _ (by omega)]; omega
          have e7 : IntKind.i64.wrap ((i : Int) - 7) = (a7 : Int) := by rw [IntWalk.i64_in _ (by omega)]; omega
          have b1 : ¬ (a15 : Int) < 0 ∧ (a15 : Int) < 64 ∧ ¬ (a2 : Int) < 0 ∧ (a2 : Int) < 64 ∧ ¬ (a7 : Int) < 0 ∧ (a7 : Int) < 64 ∧ ¬ (m : Int) < 0 ∧ (m : Int) < 64 ∧ ¬ (i : Int) < 0 ∧ (i : Int) < 64 := by omega
          obtain ⟨b1, b2, b3, b4, b5, b6, b7, b8, b9, b10⟩ := b1
          clear hi h15 h2 h7 hl
          go_wp2_with fail
          go_quiet (fail)
          clear e15 e2
          go_wp2_with (first | (go_at_call_of 27 (Value.int IntKind.i64 25); refine (rotl25 _ _).mono ?_; rintro e w' ⟨rfl, rfl⟩) | (go_at_call_of 27 (Value.int IntKind.i64 14); refine (rotl14 _ _).mono ?_; rintro e w' ⟨rfl, rfl⟩) | (go_at_call_of 27 (Value.int IntKind.i64 15); refine (rotl15 _ _).mono ?_; rintro e w' ⟨rfl, rfl⟩) | (go_at_call_of 27 (Value.int IntKind.i64 13); refine (rotl13 _ _).mono ?_; rintro e w' ⟨rfl, rfl⟩))
          have hS' := Lib.hid (hS.out.drewN nq)
          have c16' : (wr.drewN nq).cell? ⟨x, m, none⟩ = some (.int .u32 (u x16)) := c16
          have c7' : (wr.drewN nq).cell? ⟨x, a7, none⟩ = some (.int .u32 (u x7)) := c7
          have cw' : (wr.drewN nq).cell? ⟨x, i, none⟩ = some (.int .u32 (u xi)) := cw
          have zw' : (wr.drewN nq).frozen? ⟨x, i, none⟩ = false := zw
          clear c15 c2 c16 c7 cw zw hS
          generalize wr.drewN nq = wq at *
          go_still_tail 15, (by kernel_rfl)
          change wpList _ _ _ _ _ (World.drew wq)
          go_wp2
          have hT2 : Hid (BS w b k x H.l part n (W2 part (m + 1)) (wq.setCell ⟨x, i, none⟩ (.int .u32 (u (x16 + s0 x15 + x7 + s1 x2)))).drew) := Lib.hid ((hS'.out.setx i (x16 + s0 x15 + x7 + s1 x2)).congr (by rw [← hnx.out]; exact hS2.out)).drew
          clear hS' hS2 hnx
          go_roundw
          case rel => exact ⟨m + 1, by omega, by rw [HM1.out]; go_num, hT2⟩
          case measure => simp [intOf]; omega
        · have e : m = 48 := by omega
          have hS2 := Lib.hid (hS.out.congr (ws' := schedL part 48) (by rw [e]; exact W2_end part))
          have hdi : decide ((i : Int) < 64) = false := by rw [decide_eq_false_iff_not]; omega
          have z36 := zero36
          have BN := Lib.hid hS2.out.hb
          have KN := Lib.hid hS2.out.hk
          have p0 := ptr_cell hS2.out.hb
          have hbl := blk_lt hS2.out.hb
          have hkl := blk_lt hS2.out.hk
          have hxl := blk_lt hS2.out.hx
          clear hS e hi hm
          go_wp2_with (first
            | (refine wpList_load_part rfl 36 _ rfl b 1 _ (uc H.l) 64 _ rfl BN.out (hblk_partH k H.l part n) Try.underlying36 rfl info36 ?_)
            | (refine wpList_store_whole rfl 36 _ _ rfl wr.heap.size (uc H.l).toArray (uc z8).toArray 36 rfl rfl (alloc_at wr _) rfl info36 (one_uc _) ?_; intro w5 h5 h6; have R5 : RS w b k x wr.heap.size H.l part n (schedL part 48) (rnd Kc (schedL part 48) H 0) w5 := ⟨(h6.block b (by omega)).trans (alloc_far BN.out _), (h6.block k (by omega)).trans (alloc_far KN.out _), (h6.block x (by omega)).trans (alloc_far hS2.out.hx _), h5, (hS2.out.kept.alloc _).at1 h6 (.inr hS2.out.kept.size), by omega, by omega, by omega, HBK.out, hS2.out.kept.size⟩; have p5 := ptr_cell R5.hb; have H5 := Lib.hid R5; have K5 := Lib.hid R5.hk; clear R5 h5 h6)
            | (refine wpList_load_part rfl 35 _ rfl k 3 _ (uc Kc) 61 _ rfl K5.out (wblk_partK _ _ _ _ _) Try.underlying35 rfl info35 ?_))
          have NX := Lib.hid hS2.out.nb
          clear p5 p0 K5 BN KN hS2 hbl hkl hxl z36 hdi
          generalize wr.heap.size = y at *
          go_loopw [95] (fun i wr => ∃ m : Nat, m ≤ 64 ∧ i = .int .i64 m ∧ Hid (RS w b k x y H.l part n (schedL part 48) (rnd Kc (schedL part 48) H m) wr)) (fun i _ => 64 - (intOf i).toNat)
          case atStart => exact ⟨0, by omega, rfl, H5⟩
          case round =>
            clear H5
            obtain ⟨m, hm, rfl, hR⟩ := hrel
            by_cases hlt : m < 64
            · have hix := fun W => index_arr (P := Try.prog) 35 34 64 (uc Kc) _ m Try.underlying35 hlt Try.sizeOf34 Try.isAgg34 (uc_get Kc m (by rw [Kc_length]; exact hlt)) W
              have hd : decide ((m : Int) < 64) = true := by rw [decide_eq_true_eq]; omega
              have hsl : (schedL part 48).length = 64 := schedL_length part 48
              have cS := uc_cell hR.out.hx m (by rw [hsl]; exact hlt)
              have hrn : Hid (rnd Kc (schedL part 48) H (m + 1) = round (Kc.getD m 0) ((schedL part 48).getD m 0) (rnd Kc (schedL part 48) H m)) := Lib.hid rfl
              clear hsl
              generalize rnd Kc (schedL part 48) H m = v at *
              generalize Kc.getD m 0 = kk at *
              generalize (schedL part 48).getD m 0 = sw at *
              obtain ⟨q0, q1, q2, q3, q4, q5, q6, q7⟩ := hR.out.cells
              have b1 : (m : Int) < 64 := by omega
              have b2 : ¬ (m : Int) < 0 := by omega
              go_wp2_with fail
              go_quiet (fail)
              have hR1 := Lib.hid (hR.out.drewN nq)
              have cSwq1 : (wr.drewN nq).cell? ⟨x, m, none⟩ = some (.int .u32 (u sw)) := cS
              clear hR cS q0 q1 q2 q3 q4 q5 q6 q7
              generalize wr.drewN nq = wq1 at *
              have cS := cSwq1
              clear cSwq1
              obtain ⟨q0, q1, q2, q3, q4, q5, q6, q7⟩ := hR1.out.cells
              go_wp2_with fail
              go_quiet ((first | (go_at_call_of 27 (Value.int IntKind.i64 26); exact Calls.quiet_of_same (rotl26 _ _)) | (go_at_call_of 27 (Value.int IntKind.i64 21); exact Calls.quiet_of_same (rotl21 _ _)) | (go_at_call_of 27 (Value.int IntKind.i64 7); exact Calls.quiet_of_same (rotl7 _ _))))
              have hR2 := Lib.hid (hR1.out.drewN nq)
              have cSwq2 : (wq1.drewN nq).cell? ⟨x, m, none⟩ = some (.int .u32 (u sw)) := cS
              clear hR1 cS q0 q1 q2 q3 q4 q5 q6 q7
              generalize wq1.drewN nq = wq2 at *
              have cS := cSwq2
              clear cSwq2
              obtain ⟨q0, q1, q2, q3, q4, q5, q6, q7⟩ := hR2.out.cells
              go_wp2_with fail
              go_quiet ((first | (go_at_call_of 27 (Value.int IntKind.i64 30); exact Calls.quiet_of_same (rotl30 _ _)) | (go_at_call_of 27 (Value.int IntKind.i64 19); exact Calls.quiet_of_same (rotl19 _ _)) | (go_at_call_of 27 (Value.int IntKind.i64 10); exact Calls.quiet_of_same (rotl10 _ _))))
              have hR3 := Lib.hid (hR2.out.drewN nq)
              have cSwq3 : (wq2.drewN nq).cell? ⟨x, m, none⟩ = some (.int .u32 (u sw)) := cS
              clear hR2 cS q0 q1 q2 q3 q4 q5 q6 q7
              generalize wq2.drewN nq = wq3 at *
              have cS := cSwq3
              clear cSwq3
              obtain ⟨q0, q1, q2, q3, q4, q5, q6, q7⟩ := hR3.out.cells
              have z36 := zero36L
              go_wp2_with (refine wpList_store_whole rfl 36 _ _ rfl y (uc (round kk sw v).l).toArray (uc v.l).toArray 36 rfl rfl hR3.out.hy rfl info36 (one_uc _) ?_; intro w5 h5 h6; rw [← hrn.out] at h5; have R5 := Lib.hid (hR3.out.at1 h6 h5); clear h5 h6)
              go_roundw
              case rel => exact ⟨m + 1, by omega, by go_num, R5⟩
              case measure => simp [intOf]; omega
            · have e : m = 64 := by omega
              have hRf : Hid (RS w b k x y (HI H (rnd Kc (schedL part 48) H 64) 0) part n (schedL part 48) (rnd Kc (schedL part 48) H 64) wr) := Lib.hid (by rw [e] at hR; exact hR.out)
              have hdm : decide ((m : Int) < 64) = false := by rw [decide_eq_false_iff_not]; omega
              have HC : Hid (comp H part = H.add (rnd Kc (schedL part 48) H 64)) := Lib.hid rfl
              clear hR e
              generalize rnd Kc (schedL part 48) H 64 = v at *
              generalize (schedL part 48) = S at *
              go_wp2_with fail
              clear hdm hlt hm
              generalize (m : Int) = m64
              go_loopw [171] (fun i wr => ∃ m : Nat, m ≤ 8 ∧ i = .int .i64 m ∧ Hid (RS w b k x y (HI H v m) part n S v wr)) (fun i _ => 8 - (intOf i).toNat)
              case atStart => exact ⟨0, by omega, rfl, hRf⟩
              case round =>
                clear hRf
                obtain ⟨m, hm, rfl, hR⟩ := hrel
                by_cases hlt : m < 8
                · have hd : decide ((m : Int) < 8) = true := by rw [decide_eq_true_eq]; omega
                  have ch := word_cell hR.out.hb m (by rw [HI_length H v m hm]; exact hlt)
                  have cv := uc_cell hR.out.hy m (by rw [V8.l_length]; exact hlt)
                  have zb := blk_frozen hR.out.hb (1 + m)
                  rw [HI_get H v m hlt] at ch
                  have hset := Lib.hid (HI_set H v m hlt)
                  have hln := Lib.hid (HI_length H v m hm)
                  generalize H.l.getD m 0 = xh at *
                  generalize v.l.getD m 0 = xv at *
                  have b1 : (m : Int) < 8 := by omega
                  have b2 : ¬ (m : Int) < 0 := by omega
                  go_wp2_with fail
                  go_still_tail 13, (by kernel_rfl)
                  change wpList _ _ _ _ _ (World.drew wr)
                  go_wp2
                  have hT2 := Lib.hid ((((hR.out.setb NX.out m (by rw [hln.out]; exact hlt) (xh + xv)).congrH hset.out)).drewN 1)
                  clear hR hset
                  go_roundw
                  case rel => exact ⟨m + 1, by omega, by go_num, hT2⟩
                  case measure => simp [intOf]; omega
                · have e : m = 8 := by omega
                  have hRf : Hid (RS w b k x y (H.add v).l part n S v wr) := Lib.hid (by rw [e] at hR; exact hR.out)
                  clear hR e
                  go_wp2
                  go_end0
                  exact ⟨rfl, by rw [HC.out]; exact hRf.out.hb, hRf.out.kept⟩
end Go.Proofs.Ytnpmhbhnggdhcaa
