/-
  Sum: the digest of what a hasher has taken.
-/
import Derived.Test.YtnpmhbhnggdhcaaTake
import Derived.Test.YtnpmhbhnggdhcaaPad
import Derived.Deep.LoopGhost
set_option linter.unusedVariables false
set_option linter.unusedSimpArgs false
namespace Go.Proofs.Ytnpmhbhnggdhcaa
open Go.RowKit Go.Proofs.YtnpmhbhnggdhcaaW.PrintWords

theorem zero24 (W : World) : (zeroValue 24).run Try.prog W = .ok (.agg (Lib.byteCells (zrs 32)).toArray) W := zero_of (by kernel_rfl) W
theorem info24 : (Try.prog.info? 24).map (·.size) = some 32 := by kernel_rfl
theorem info64 : (Try.prog.info? 64).map (·.size) = some 74 := by kernel_rfl
theorem one_bytes (d : List UInt8) : (Lib.byteCells d).toArray.all (·.oneCell') = true := all_oneCell_toArray (by simp [Lib.byteCells, Value.oneCell'])
theorem one_hblk (k : Nat) (H : List W32) (part : List UInt8) (n : Nat) : (hblk k H part n).toArray.all (·.oneCell') = true := by
  apply all_oneCell_toArray
  intro v hv
  unfold hblk at hv
  rcases List.mem_cons.1 hv with rfl | hv
  · rfl
  · rcases List.mem_append.1 hv with hv | hv
    · simp [uc] at hv
      obtain ⟨_, _, rfl⟩ := hv
      rfl
    · rcases List.mem_append.1 hv with hv | hv
      · simp [Lib.byteCells] at hv
        obtain ⟨_, _, rfl⟩ := hv
        rfl
      · simp at hv
        subst hv
        rfl
theorem hblk_all (k : Nat) (H : List W32) (part : List UInt8) (n : Nat) : ((hblk k H part n).drop 0).take (hblk k H part n).length = hblk k H part n := by
  rw [List.drop_zero, List.take_length]
theorem results_cell1 {fn : Func} {p : Tmp} {ty : TypeId} (h : fn.results = #[.cell p ty]) (tmps : Array Value) {P : Program} {w : World} {A : Addr} {x : Value}
    (hp : tmps.getD p undef = .pointer (some A)) (hl : (loadVar ty A).run P w = .ok x w) :
    (results fn tmps).run P w = .ok x w := by
  simp only [results, h]
  have hp : tmps[p]?.getD undef = .pointer (some A) := by simpa [Array.getD_eq_getD_getElem?] using hp
  simp [Sem.run_bind, hp, asAddr, Result.andThen, hl]

set_option maxHeartbeats 1000000 in
set_option maxRecDepth 100000 in
theorem sum_nil (w : World) : Calls Try.prog 13 #[.pointer none] w fun e w' => e = .returned (.agg (Lib.byteCells (zrs 32)).toArray) ∧ Below w.heap.size w w' := by
  have hz := zero24
  have hZ : (Lib.byteCells (zrs 32)).length = 32 := rfl
  have hO := one_bytes (zrs 32)
  generalize Lib.byteCells (zrs 32) = Z at hz hZ hO ⊢
  have HZ := Lib.hid hZ
  have h0 : ((w.alloc (.cells Z.toArray 24)).alloc (.cells Z.toArray 24)).heap[w.heap.size]? = some (.cells Z.toArray 24 (0, 0)) := alloc_far (alloc_at w _) _
  have h1 : ((w.alloc (.cells Z.toArray 24)).alloc (.cells Z.toArray 24)).heap[w.heap.size + 1]? = some (.cells Z.toArray 24 (0, 0)) := by
    have := alloc_at (w.alloc (.cells Z.toArray 24)) (.cells Z.toArray 24)
    rwa [show (w.alloc (.cells Z.toArray 24)).heap.size = w.heap.size + 1 by simp] at this
  have hB := ((Below.refl w.heap.size w).alloc (Nat.le_refl _) (.cells Z.toArray 24)).alloc (by simp) (.cells Z.toArray 24)
  have H0 := Lib.hid h0
  have H1 := Lib.hid h1
  have HB := Lib.hid hB
  have HO : Hid (Z.toArray.all (·.oneCell') = true) := Lib.hid hO
  clear hZ h0 h1 hB hO
  go_enter Try.func13, Try.ntmps13
  go_wp2_with (first
    | (refine wpList_load_part rfl 24 _ rfl (w.heap.size + 1) 0 _ Z 24 _ rfl H1.out (by rw [List.drop_zero, List.take_length]) Try.underlying24 rfl (by rw [HZ.out]; exact info24) ?_)
    | (refine wpList_store_whole rfl 24 _ _ rfl w.heap.size Z.toArray Z.toArray 24 rfl rfl H0.out rfl (by rw [List.size_toArray, HZ.out]; exact info24) HO.out ?_; intro w5 h5 h6; have H5 := Lib.hid h5; have H6 := Lib.hid (At1.below HB.out h6 (Nat.le_refl _)); clear h5 h6))
  have hl := run_loadVar_mid w5 w.heap.size 0 24 Z _ (range_part (o := 0) H5.out (by rw [List.drop_zero, List.take_length])) Try.underlying24 rfl (by rw [HZ.out]; exact info24)
  exact bodyPost_ret (results_cell1 rfl _ rfl hl) rfl ⟨rfl, H6.out⟩

structure SS (w0 wr : World) (c k : Nat) (L D : List UInt8) : Prop where
  hs : HS wr c k L
  h0 : wr.heap[w0.heap.size]? = some (.cells (Lib.byteCells (zrs 32)).toArray 24 (0, 0))
  h1 : wr.heap[w0.heap.size + 1]? = some (.cells (Lib.byteCells D).toArray 24 (0, 0))
  below : Below w0.heap.size w0 wr
  cc : c = w0.heap.size + 2
  kl : k < w0.heap.size
section
variable {w0 wr : World} {c k : Nat} {L D : List UInt8}
theorem SS.lt (h : SS w0 wr c k L D) : c < wr.heap.size := by
  obtain ⟨_, _, _, hb, _⟩ := h.hs
  exact blk_lt hb
theorem SS.kept (h : SS w0 wr c k L D) {w' : World} (hk : Kept wr w' (fun j => j = c)) {L' : List UInt8} (hs : HS w' c k L') : SS w0 w' c k L' D := by
  have e := h.cc
  exact ⟨hs, hk.at_ h.h0 (by omega), hk.at_ h.h1 (by omega), hk.below h.below (fun j hj => by omega) h.below.size, h.cc, h.kl⟩
theorem HS.kept {w w' : World} {b k : Nat} {l : List UInt8} {ks : Nat → Prop} (h : HS w b k l) (hk : Kept w w' ks) (h1 : ¬ ks b) (h2 : ¬ ks k) : HS w' b k l := by
  obtain ⟨H, part, f, hb, hk', hbk⟩ := h
  exact ⟨H, part, f, hk.at_ hb h1, hk.at_ hk' h2, hbk⟩
theorem SS.alloc (h : SS w0 wr c k L D) (o : Obj) : SS w0 (wr.alloc o) c k L D := by
  have hk := (Kept.refl wr (fun j => j = c)).alloc o
  have hk2 := (Kept.refl wr (fun _ => False)).alloc o
  exact h.kept hk (h.hs.kept hk2 (fun e => e) (fun e => e))
theorem put_any (h : SS w0 wr c k L D) (v : UInt8) (hl : L.length ≤ 100000000000) : Calls Try.prog 12 #[.pointer (some ⟨c, 0, none⟩), .slice (some ⟨wr.heap.size, 0, none⟩) 1 1] (wr.alloc (.cells #[.int .u8 (v.toNat : Int)] 5)) fun e w' => e = .returned (.tuple #[]) ∧ SS w0 w' c k (L ++ [v]) D := by
  have ha := h.alloc (.cells #[.int .u8 (v.toNat : Int)] 5)
  have hlt := h.lt
  refine (write_any c k L [v] (some ⟨wr.heap.size, 0, none⟩) 1 _ ha.hs (fun _ => ⟨_, rfl, by show wr.heap.size ≠ c; omega, by simp, fun j hj => ?_⟩) (by simp; omega)).mono ?_
  · have : j = 0 := by simpa using hj
    subst this
    rw [add_plain]
    rw [blk_cell (alloc_at wr _)]
    rfl
  · rintro e w' ⟨rfl, h1, h2⟩
    exact ⟨rfl, ha.kept h2 h1⟩
theorem put_c (h : SS w0 wr c k L D) (x : Int) (v : UInt8) (hx : x = (v.toNat : Int)) (hl : L.length ≤ 100000000000) : Calls Try.prog 12 #[.pointer (some ⟨c, 0, none⟩), .slice (some ⟨wr.heap.size, 0, none⟩) 1 1] (wr.alloc (.cells #[.int .u8 x] 5)) fun e w' => e = .returned (.tuple #[]) ∧ SS w0 w' c k (L ++ [v]) D := by
  subst hx
  exact put_any h v hl
theorem SS.num (h : SS w0 wr c k L D) : wr.cell? ⟨c, 73, none⟩ = some (.int .u64 (L.length : Int)) := by
  obtain ⟨H, part, f, hb, _⟩ := h.hs
  exact num_cell hb H.l_length f.len
theorem SS.congr {L' : List UInt8} (h : SS w0 wr c k L D) (e : L = L') : SS w0 wr c k L' D := e ▸ h
theorem SS.drew (h : SS w0 wr c k L D) : SS w0 wr.drew c k L D := ⟨h.hs, h.h0, h.h1, h.below.drew, h.cc, h.kl⟩
end

structure TS (w0 wr : World) (D : List UInt8) : Prop where
  h0 : wr.heap[w0.heap.size]? = some (.cells (Lib.byteCells (zrs 32)).toArray 24 (0, 0))
  h1 : wr.heap[w0.heap.size + 1]? = some (.cells (Lib.byteCells D).toArray 24 (0, 0))
  below : Below w0.heap.size w0 wr
theorem TS.set {w0 wr : World} {D : List UInt8} (h : TS w0 wr D) (i : Nat) (v : UInt8) : TS w0 (wr.setCell ⟨w0.heap.size + 1, i, none⟩ (.int .u8 (v.toNat : Int))) (D.set i v) := by
  have e := At1.set wr (w0.heap.size + 1) i (.int .u8 (v.toNat : Int))
  refine ⟨(e.block _ (by omega)).trans h.h0, ?_, At1.below h.below e (by omega)⟩
  rw [blk_set h.h1, List.setIfInBounds_toArray]
  simp [Lib.byteCells, List.map_set]
theorem TS.congr {w0 wr : World} {D D' : List UInt8} (h : TS w0 wr D) (e : D = D') : TS w0 wr D' := e ▸ h
theorem TS.cell {w0 wr : World} {D : List UInt8} (h : TS w0 wr D) (i : Nat) (hi : i < D.length) : wr.cell? ⟨w0.heap.size + 1, i, none⟩ = some (.int .u8 ((D.getD i 0).toNat : Int)) := by
  rw [blk_cell h.h1]
  simp [Lib.byteCells, hi]
theorem u_byte (x : W32) (k : Nat) : u x / (2 : Int) ^ k % 256 = ((byteAt x.toNat k).toNat : Int) := by
  rw [byteAt_nat]
  unfold u
  simp

set_option maxHeartbeats 2000000 in
set_option maxRecDepth 100000 in
theorem sum_any (b k : Nat) (l : List UInt8) (w : World) (h : HS w b k l) (hl : l.length ≤ 10000000000) :
    Calls Try.prog 13 #[.pointer (some ⟨b, 0, none⟩)] w fun e w' => e = .returned (.agg (Lib.byteCells (digest l)).toArray) ∧ Below w.heap.size w w' := by
  obtain ⟨H, part, f, hb, hk, hbk⟩ := h
  have z24 := zero24
  have z64 := zero64
  have hZ : (Lib.byteCells (zrs 32)).length = 32 := rfl
  have hbl := blk_lt hb
  have hkl := blk_lt hk
  have e1 : (w.alloc (.cells (Lib.byteCells (zrs 32)).toArray 24)).heap.size = w.heap.size + 1 := by simp
  have e2 : ((w.alloc (.cells (Lib.byteCells (zrs 32)).toArray 24)).alloc (.cells (Lib.byteCells (zrs 32)).toArray 24)).heap.size = w.heap.size + 2 := by simp
  have a0 := alloc_at w (.cells (Lib.byteCells (zrs 32)).toArray 24)
  have a1 := alloc_at (w.alloc (.cells (Lib.byteCells (zrs 32)).toArray 24)) (.cells (Lib.byteCells (zrs 32)).toArray 24)
  rw [e1] at a1
  have hw2b := alloc_far (alloc_far hb (.cells (Lib.byteCells (zrs 32)).toArray 24)) (.cells (Lib.byteCells (zrs 32)).toArray 24)
  have hw2k := alloc_far (alloc_far hk (.cells (Lib.byteCells (zrs 32)).toArray 24)) (.cells (Lib.byteCells (zrs 32)).toArray 24)
  have b2 := ((Below.refl w.heap.size w).alloc (Nat.le_refl _) (.cells (Lib.byteCells (zrs 32)).toArray 24)).alloc (by simp) (.cells (Lib.byteCells (zrs 32)).toArray 24)
  have A0 := Lib.hid (alloc_far a0 (.cells (Lib.byteCells (zrs 32)).toArray 24))
  have A1 := Lib.hid a1
  have E2 := Lib.hid e2
  have B2 := Lib.hid b2
  have W2b := Lib.hid hw2b
  have W2k := Lib.hid hw2k
  have F := Lib.hid f
  have HBK := Lib.hid hbk
  clear hb hk f hbk e1 e2 a0 a1 b2 hw2b hw2k hZ
  go_enter Try.func13, Try.ntmps13
  go_upto_region 4 with (fail)
  generalize (w.alloc (.cells (Lib.byteCells (zrs 32)).toArray 24)).alloc (.cells (Lib.byteCells (zrs 32)).toArray 24) = W2 at *
  have hlen : (hblk k H.l part l.length).length = 74 := hblk_length _ _ _ _ H.l_length F.out.len
  have HLEN := Lib.hid hlen
  have AZ := Lib.hid (alloc_at W2 (.cells hz.toArray 64))
  clear hlen
  obtain ⟨c, hc⟩ : ∃ c, W2.heap.size = c := ⟨_, rfl⟩
  have hcc := hc.symm.trans E2.out
  have HC := Lib.hid hc
  have HCC := Lib.hid hcc
  clear hcc
  have hll : l.length ≤ 10000000000 := hl
  go_wp2_with (first
    | (refine wpList_load_part rfl 64 _ rfl b 0 _ (hblk k H.l part l.length) 64 _ rfl W2b.out (hblk_all _ _ _ _) Try.underlying64 rfl (by rw [HLEN.out]; exact info64) ?_)
    | (refine wpList_store_whole rfl 64 _ _ rfl c (hblk k H.l part l.length).toArray hz.toArray 64 rfl rfl (by rw [← HC.out]; exact AZ.out) (by rw [List.size_toArray, List.size_toArray, HLEN.out]; rfl) (by rw [List.size_toArray, HLEN.out]; exact info64) (one_hblk _ _ _ _) ?_; intro w3 h3 h4; have S3 : SS w w3 c k l (zrs 32) := ⟨⟨H, part, F.out, h3, (h4.block k (by have := HCC.out; omega)).trans (alloc_far W2k.out _), by have := HCC.out; omega⟩, (h4.block _ (by have := HCC.out; omega)).trans (alloc_far A0.out _), (h4.block _ (by have := HCC.out; omega)).trans (alloc_far A1.out _), At1.below (B2.out.alloc (by have := HCC.out; have := HC.out; omega) _) h4 (by have := HCC.out; omega), HCC.out, hkl⟩; have c73 := num_cell h3 H.l_length F.out.len; have S3' := Lib.hid S3; clear h3 h4 S3))
  have X1 := Lib.hid (put_c S3'.out 128 128 rfl (by omega))
  clear c73 AZ HLEN
  rw [show ((l.length : Nat) : Int) * 8 = ((l.length * 8 : Nat) : Int) by omega]
  obtain ⟨v, hv⟩ : ∃ v, l.length * 8 = v := ⟨_, rfl⟩
  rw [hv]
  have HV := Lib.hid hv
  have hvl : v ≤ 100000000000 := by omega
  clear hv
  refine X1.out.mono ?_
  rintro e w4 ⟨rfl, S4⟩
  have S4' : Hid (SS w w4 c k ((l ++ [128]) ++ zrs 0) (zrs 32)) := Lib.hid (by simpa [zrs] using S4)
  clear S4 X1 S3'
  go_wp2_with fail
  go_loopg [] (padZ l.length) (fun g wr => ∃ z : Nat, z + g = padZ l.length ∧ Hid (SS w wr c k ((l ++ [128]) ++ zrs z) (zrs 32)))
  case atStart => exact ⟨0, by omega, S4'⟩
  case round =>
    obtain ⟨z, hzg, hS⟩ := hrel
    have hln : ((l ++ [128]) ++ zrs z).length = l.length + 1 + z := by simp [zrs]; omega
    have c73 := hS.out.num
    rw [hln] at c73
    obtain ⟨n, hn⟩ : ∃ n, l.length + 1 + z = n := ⟨_, rfl⟩
    rw [hn] at c73
    obtain ⟨r, hr⟩ : ∃ r, n % 64 = r := ⟨_, rfl⟩
    have et : Int.tmod (n : Int) 64 = (r : Int) := by rw [Int.tmod_eq_emod_of_nonneg (by omega)]; omega
    have em : (n : Int) % 64 = (r : Int) := by omega
    have hpz := padZ_lt l.length
    by_cases hzz : z < padZ l.length
    · have hne : r ≠ 56 := by have := padZ_more l.length z hzz; omega
      have hne' : ((r : Int) != 56) = true := by rw [bne_iff_ne]; omega
      have X := Lib.hid (put_c hS.out 0 0 rfl (by rw [hln]; omega))
      have HZ : Hid (z + gk = padZ l.length) := Lib.hid hzg
      clear hS hln hn hr hzg
      go_wp2_with fail
      refine X.out.mono ?_
      rintro e w5 ⟨rfl, S5⟩
      have S5' : Hid (SS w w5 c k ((l ++ [128]) ++ zrs (z + 1)) (zrs 32)) := Lib.hid (S5.congr (by rw [List.append_assoc]; congr 1; unfold zrs; rw [List.replicate_succ']))
      clear S5 X
      go_wp2_with fail
      go_roundg (gk - 1)
      case measure => have := HZ.out; omega
      case rel => exact ⟨z + 1, by have := HZ.out; omega, S5'⟩
    · have hze : z = padZ l.length := by omega
      subst hze
      have he : r = 56 := by have := padZ_end l.length; omega
      subst he
      have S6 : Hid (SS w wr c k (((l ++ [128]) ++ zrs (padZ l.length)) ++ (lenB v).take 0) (zrs 32)) := Lib.hid (by simpa using hS.out)
      have HLN := Lib.hid hln
      have HPAD : Hid (((l ++ [128]) ++ zrs (padZ l.length)) ++ lenB v = pad l) := Lib.hid (by rw [← HV.out]; rfl)
      have LNB : l.length + 1 + padZ l.length ≤ 100000000000 := by omega
      clear hS hzg hn hr S4' hln
      generalize ((l ++ [128]) ++ zrs (padZ l.length)) = L6 at S6 HLN HPAD
      go_wp2_with fail
      go_loopw [6] (fun i wr => ∃ j : Nat, j ≤ 8 ∧ i = .int .i64 (56 - 8 * (j : Int)) ∧ Hid (SS w wr c k (L6 ++ (lenB v).take j) (zrs 32))) (fun i _ => (intOf i + 8).toNat)
      case atStart => exact ⟨0, by omega, rfl, S6⟩
      case round =>
        clear S6
        obtain ⟨j, hj, rfl, hS⟩ := hrel
        by_cases hlt : j < 8
        · obtain ⟨up, hup⟩ : ∃ up : Nat, up = 56 - 8 * j := ⟨_, rfl⟩
          have hui : 56 - 8 * (j : Int) = (up : Int) := by omega
          rw [hui]
          have hu56 : up ≤ 56 := by omega
          have hln : (L6 ++ (lenB v).take j).length ≤ 100000000000 := by
            rw [List.length_append, List.length_take, lenB_length, HLN.out]
            have := padZ_lt l.length
            omega
          have X := Lib.hid (fun x hx => put_c hS.out x (byteAt v up) hx hln)
          have HT := Lib.hid (lenB_take v j hlt)
          have HUP := Lib.hid hup
          have HUI := Lib.hid hui
          clear hS hui hup hln
          go_wp2_with fail
          refine (X.out _ (by rw [byteAt_nat]; simp)).mono ?_
          rintro e w7 ⟨rfl, S7⟩
          have S7' : Hid (SS w w7 c k (L6 ++ (lenB v).take (j + 1)) (zrs 32)) := Lib.hid (S7.congr (by rw [HT.out, List.append_assoc, HUP.out]))
          clear S7 X
          go_wp2_with fail
          go_roundw
          case rel => exact ⟨j + 1, by omega, by have := HUP.out; refine congrArg _ ?_; omega, S7'⟩
          case measure => simp [intOf]; have := HUP.out; omega
        · have he : j = 8 := by omega
          subst he
          have S8 : Hid (SS w wr c k (pad l) (zrs 32)) := Lib.hid (hS.out.congr (by rw [← HPAD.out, List.take_of_length_le (by rw [lenB_length]; exact Nat.le_refl _)]))
          clear hS HPAD HLN HV
          obtain ⟨Hf, pf, ff, hbf, hkf, hckf⟩ := S8.out.hs
          have HW : Hid (Hf = blocksH ((pad l).length / 64) (pad l)) := Lib.hid ff.words
          have BF := Lib.hid hbf
          clear hbf hkf hckf ff
          go_wp2_with (refine wpList_load_part rfl 36 _ rfl c 1 _ (uc Hf.l) 64 _ rfl BF.out (hblk_partH k Hf.l pf _) Try.underlying36 rfl info36 ?_)
          have T0 : Hid (TS w wr (digP Hf.l (4 * 0))) := Lib.hid ⟨S8.out.h0, by rw [digP_zero]; exact S8.out.h1, S8.out.below⟩
          have HDG : Hid (digP Hf.l (4 * 8) = digest l) := Lib.hid (by unfold digest; rw [← HW.out]; exact digP_end _)
          clear S8 BF HW HCC HC W2b W2k A0 A1 E2 B2 F
          have hl8 : Hf.l.length = 8 := Hf.l_length
          generalize Hf.l = Hl at *
          have HL8 := Lib.hid hl8
          clear hl8
          go_loopw [39] (fun i wr => ∃ m : Nat, m ≤ 8 ∧ i = .int .i64 m ∧ Hid (TS w wr (digP Hl (4 * m)))) (fun i _ => 8 - (intOf i).toNat)
          case atStart => exact ⟨0, by omega, rfl, T0⟩
          case round =>
            clear T0
            obtain ⟨m, hm, rfl, hT⟩ := hrel
            by_cases hmlt : m < 8
            · have hd : decide ((m : Int) < 8) = true := by rw [decide_eq_true_eq]; omega
              have hix := fun W => index_arr (P := Try.prog) 36 34 8 (uc Hl) _ m Try.underlying36 hmlt Try.sizeOf34 Try.isAgg34 (uc_get Hl m (by rw [HL8.out]; exact hmlt)) W
              obtain ⟨xw, hxw⟩ : ∃ xw, Hl.getD m 0 = xw := ⟨_, rfl⟩
              rw [hxw] at hix
              have HXW := Lib.hid hxw
              clear hxw
              go_wp2_with fail
              obtain ⟨wo, rfl⟩ : ∃ wo : World, wo = wr := ⟨_, rfl⟩
              go_loopw [43] (fun i wr => ∃ j : Nat, j ≤ 4 ∧ i = .int .i64 j ∧ Hid (TS w wr (digP Hl (4 * m + j)))) (fun i _ => 4 - (intOf i).toNat)
              case atStart => exact ⟨0, by omega, rfl, hT⟩
              case round =>
                clear hT
                obtain ⟨j, hj, rfl, hU⟩ := hrel
                by_cases hjlt : j < 4
                · obtain ⟨sh, hsh⟩ : ∃ sh : Nat, sh = 24 - 8 * j := ⟨_, rfl⟩
                  have hsi : 24 - 8 * (j : Int) = (sh : Int) := by omega
                  have hs24 : sh ≤ 24 := by omega
                  have hx0 := u_nonneg xw
                  have hst : Hid ((digP Hl (4 * m + j)).set (4 * m + j) (byteAt xw.toNat sh) = digP Hl (4 * m + (j + 1))) := Lib.hid (by
                    have := digP_set Hl (4 * m + j) (by omega)
                    rw [show (4 * m + j) / 4 = m by omega, show (4 * m + j) % 4 = j by omega, HXW.out, ← hsh] at this
                    exact this)
                  have ct := hU.out.cell (4 * m + j) (by rw [digP_length _ _ (by omega)]; omega)
                  have zt := blk_frozen hU.out.h1 (4 * m + j)
                  generalize (digP Hl (4 * m + j)).getD (4 * m + j) 0 = od at ct
                  clear hsh
                  go_wp2_with fail
                  refine ⟨⟨j + 1, by omega, by go_num, Lib.hid ?_⟩, by simp [intOf]; omega⟩
                  rw [u_byte]
                  exact (hU.out.set _ _).congr hst.out
                · have he : j = 4 := by omega
                  have hU2 : Hid (TS w wr (digP Hl (4 * (m + 1)))) := Lib.hid (hU.out.congr (by rw [he, show 4 * (m + 1) = 4 * m + 4 by omega]))
                  clear hU he
                  go_wp2_with fail
                  exact ⟨⟨m + 1, by omega, by go_num, hU2⟩, by simp [intOf]; omega⟩
            · have he : m = 8 := by omega
              have hT2 : Hid (TS w wr (digest l)) := Lib.hid (hT.out.congr (by rw [he]; exact HDG.out))
              clear hT he HDG
              have hdl : (Lib.byteCells (digest l)).length = 32 := by rw [Lib.byteCells_length, digest_length]
              have HDL := Lib.hid hdl
              clear hdl
              go_wp2_with (first
                | (refine wpList_load_part rfl 24 _ rfl (w.heap.size + 1) 0 _ (Lib.byteCells (digest l)) 24 _ rfl hT2.out.h1 (by rw [List.drop_zero, List.take_length]) Try.underlying24 rfl (by rw [HDL.out]; exact info24) ?_)
                | (refine wpList_store_whole rfl 24 _ _ rfl w.heap.size (Lib.byteCells (digest l)).toArray (Lib.byteCells (zrs 32)).toArray 24 rfl rfl hT2.out.h0 (by rw [List.size_toArray, List.size_toArray, HDL.out]; rfl) (by rw [List.size_toArray, HDL.out]; exact info24) (one_bytes _) ?_; intro w9 h5 h6; have H5 := Lib.hid h5; have H6 := Lib.hid (At1.below hT2.out.below h6 (Nat.le_refl _)); clear h5 h6))
              have hl9 := run_loadVar_mid w9 w.heap.size 0 24 (Lib.byteCells (digest l)) _ (range_part (o := 0) H5.out (by rw [List.drop_zero, List.take_length])) Try.underlying24 rfl (by rw [HDL.out]; exact info24)
              exact bodyPost_ret (results_cell1 rfl _ rfl hl9) rfl ⟨rfl, H6.out⟩
end Go.Proofs.Ytnpmhbhnggdhcaa
