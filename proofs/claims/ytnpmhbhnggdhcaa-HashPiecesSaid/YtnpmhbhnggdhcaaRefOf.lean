/-
  The reference's Of: the digest of some bytes.
-/
import Derived.Test.YtnpmhbhnggdhcaaOfMain
set_option linter.unusedVariables false
set_option linter.unusedSimpArgs false
namespace Go.Proofs.Ytnpmhbhnggdhcaa
open Go.RowKit Go.Proofs.YtnpmhbhnggdhcaaW.PrintWords
attribute [local go_sem] shl8w_u shl16w_u shl24w_u wrapb_u or_u and_u xor_u addw_u add_u shr3_u shr10_u not_u
set_option maxHeartbeats 8000000 in
set_option maxRecDepth 100000 in
theorem rof_any (A : Option Addr) (cap : Nat) (p : List UInt8) (w : World) (hr : Rd w A p) (hc : A = none → p.length = 0 ∧ cap = 0) (hl : p.length ≤ 1000000000) :
    Calls Try.prog 15 #[.agg rw72.toArray, .slice A p.length cap] w fun e w' => e = .returned (.agg (Lib.byteCells (digest p)).toArray) ∧ Below w.heap.size w w' := by
  have z24 := zero24
  have a0 := alloc_at w (.cells rw72.toArray 38)
  have s1 : (w.alloc (.cells rw72.toArray 38)).heap.size = w.heap.size + 1 := by simp
  have a1 := alloc_at (w.alloc (.cells rw72.toArray 38)) (.cells (Lib.byteCells (zrs 32)).toArray 24)
  rw [s1] at a1
  have b2 := ((Below.refl w.heap.size w).alloc (Nat.le_refl _) (.cells rw72.toArray 38)).alloc (by simp) (.cells (Lib.byteCells (zrs 32)).toArray 24)
  have S1 : Hid (OS w ((w.alloc (.cells rw72.toArray 38)).alloc (.cells (Lib.byteCells (zrs 32)).toArray 24)) (.slice none 0 0) []) := Lib.hid ⟨alloc_far a0 _, a1, OB.nil _ _, b2⟩
  have HR := Lib.hid hr
  have HC := Lib.hid hc
  clear a0 s1 a1 b2 hr hc
  go_enter Try.func15, Try.ntmps15
  go_upto_region 2 with (fail)
  generalize (w.alloc (.cells rw72.toArray 38)).alloc (.cells (Lib.byteCells (zrs 32)).toArray 24) = w1 at *
  go_upto_region 3 with (at_builtin; refine wpList_append_b rfl _ _ rfl w.heap.size (.slice none 0 0) [] rfl S1.out.own A cap p rfl (HR.out.below S1.out.below) HC.out (by simp; omega) S1.out.below.size ?_; intro v2 w2 ho2 hg2; have S2 := Lib.hid (S1.out.grown ho2 hg2); clear ho2 hg2)
  have S2' := Lib.hid (S2.out.congr (List.nil_append p))
  clear S2 S1
  go_upto_region 4 with (at_builtin; refine wpList_append_b rfl _ _ rfl w.heap.size v2 (p) rfl (S2'.out.alloc _).own (some ⟨w2.heap.size, 0, none⟩) 1 [128] rfl (rd_new w2 _ 128 rfl) (fun h => by cases h) (by simp; omega) (S2'.out.alloc _).below.size ?_; intro v3 w3 ho2 hg2; have S3 := Lib.hid ((S2'.out.alloc _).grown ho2 hg2); clear ho2 hg2)
  have S3' : Hid (OS w w3 v3 ((p ++ [128]) ++ zrs 0)) := Lib.hid (S3.out.congr (by simp [zrs]))
  clear S3 S2'
  go_wp2_with fail
  have hpl : p.length ≤ 1000000000 := hl
  go_loopg [5] (padZ p.length) (fun g s5 wr => ∃ z : Nat, z + g = padZ p.length ∧ Hid (OS w wr s5 ((p ++ [128]) ++ zrs z)))
  case atStart => exact ⟨0, by omega, S3'⟩
  case round =>
    clear S3'
    obtain ⟨z, hzg, hS⟩ := hrel
    have hpz := padZ_lt p.length
    obtain ⟨n, hn⟩ : ∃ n, p.length + 1 + z = n := ⟨_, rfl⟩
    have hln : ((p ++ [128]) ++ zrs z).length = n := by simp [zrs]; omega
    obtain ⟨g, c, rfl⟩ := hS.out.own.form n hln (by omega)
    obtain ⟨r, hrr⟩ : ∃ r, n % 64 = r := ⟨_, rfl⟩
    have em : (n : Int) % 64 = (r : Int) := by omega
    have hnb : n ≤ 2000000000 := by omega
    have hn1 : 1 ≤ n := by omega
    by_cases hzz : z < padZ p.length
    · have hne : r ≠ 56 := by have := padZ_more p.length z hzz; omega
      have hne' : ((r : Int) != 56) = true := by rw [bne_iff_ne]; omega
      have HZ : Hid (z + gk = padZ p.length) := Lib.hid hzg
      have HLN := Lib.hid hln
      clear hln hn hrr hzg
      go_wp2_with (at_builtin; refine wpList_append_b rfl _ _ rfl w.heap.size (.slice (some ⟨g, 0, none⟩) n c) ((p ++ [128]) ++ zrs z) rfl (hS.out.alloc _).own (some ⟨wr.heap.size, 0, none⟩) 1 [0] rfl (rd_new wr _ 0 rfl) (fun h => by cases h) (by rw [HLN.out]; simp; omega) (hS.out.alloc _).below.size ?_; intro v5 w5 ho2 hg2; have S5 := Lib.hid ((hS.out.alloc _).grown ho2 hg2); clear ho2 hg2)
      have S5' : Hid (OS w w5 v5 ((p ++ [128]) ++ zrs (z + 1))) := Lib.hid (S5.out.congr (by rw [List.append_assoc]; congr 1; unfold zrs; rw [List.replicate_succ']))
      clear S5 hS
      go_roundg (gk - 1)
      case measure => have := HZ.out; omega
      case rel => exact ⟨z + 1, by have := HZ.out; omega, S5'⟩
    · have hze : z = padZ p.length := by omega
      subst hze
      have he : r = 56 := by have := padZ_end p.length; omega
      subst he
      obtain ⟨v8, hv8⟩ : ∃ v8, p.length * 8 = v8 := ⟨_, rfl⟩
      have S6 : Hid (OS w wr (.slice (some ⟨g, 0, none⟩) n c) (((p ++ [128]) ++ zrs (padZ p.length)) ++ (lenB v8).take 0)) := Lib.hid (by simpa using hS.out)
      have HLN := Lib.hid hln
      have HPAD : Hid (((p ++ [128]) ++ zrs (padZ p.length)) ++ lenB v8 = pad p) := Lib.hid (by rw [← hv8]; rfl)
      have hvi : (p.length : Int) * 8 = (v8 : Int) := by omega
      clear hS hzg hn hrr hln hv8
      generalize ((p ++ [128]) ++ zrs (padZ p.length)) = L6 at S6 HLN HPAD
      go_wp2_with fail
      clear em
      go_loopw [5, 6] (fun s5 i wr => ∃ j : Nat, j ≤ 8 ∧ i = .int .i64 j ∧ Hid (OS w wr s5 (L6 ++ (lenB v8).take j))) (fun _ i _ => 8 - (intOf i).toNat)
      case atStart => exact ⟨0, by omega, rfl, S6⟩
      case round =>
        clear S6
        obtain ⟨j, hj, rfl, hS⟩ := hrel
        obtain ⟨n2, hn2⟩ : ∃ n2, n + j = n2 := ⟨_, rfl⟩
        have hln : (L6 ++ (lenB v8).take j).length = n2 := by rw [List.length_append, HLN.out, List.length_take, lenB_length]; omega
        obtain ⟨g2, c2, rfl⟩ := hS.out.own.form n2 hln (by omega)
        have hn2b : n2 ≤ 2000000010 := by omega
        by_cases hlt : j < 8
        · have hdj : decide ((j : Int) < 8) = true := by rw [decide_eq_true_eq]; omega
          obtain ⟨sh, hsh⟩ : ∃ sh : Nat, sh = 56 - 8 * j := ⟨_, rfl⟩
          have hsi : 56 - 8 * (j : Int) = (sh : Int) := by omega
          have hs56 : sh ≤ 56 := by omega
          have HT : Hid ((lenB v8).take (j + 1) = (lenB v8).take j ++ [byteAt v8 sh]) := Lib.hid (by rw [hsh]; exact lenB_take v8 j hlt)
          have hv0 : 0 ≤ (v8 : Int) := by omega
          have HLN2 := Lib.hid hln
          have hbb : Hid (((v8 : Int) / 2 ^ sh % 256) = ((byteAt v8 sh).toNat : Int)) := Lib.hid (by rw [byteAt_nat]; simp)
          clear hsh hln hn2
          go_wp2_with (at_builtin; go_must (refine wpList_append_b rfl _ _ rfl w.heap.size (.slice (some ⟨g2, 0, none⟩) n2 c2) (L6 ++ (lenB v8).take j) rfl (hS.out.alloc _).own (some ⟨wr.heap.size, 0, none⟩) 1 [byteAt v8 sh] rfl (rd_new wr _ (byteAt v8 sh) hbb.out) (fun h => by cases h) (by rw [HLN2.out]; simp; omega) (hS.out.alloc _).below.size ?_); intro v7 w7 ho2 hg2; have S7 := Lib.hid ((hS.out.alloc _).grown ho2 hg2); clear ho2 hg2)
          have S7' : Hid (OS w w7 v7 (L6 ++ (lenB v8).take (j + 1))) := Lib.hid (S7.out.congr (by rw [HT.out, List.append_assoc]))
          clear S7 hS
          go_roundw
          case rel => exact ⟨j + 1, by omega, by go_num, S7'⟩
          case measure => simp [intOf]; omega
        · have he8 : j = 8 := by omega
          have S8 : Hid (OS w wr (.slice (some ⟨g2, 0, none⟩) n2 c2) (pad p)) := Lib.hid (hS.out.congr (by rw [← HPAD.out, he8, List.take_of_length_le (by rw [lenB_length]; exact Nat.le_refl _)]))
          have hpn : (pad p).length = n2 := by rw [← HPAD.out, List.length_append, HLN.out, lenB_length]; omega
          have hdj : decide ((j : Int) < 8) = false := by rw [decide_eq_false_iff_not]; omega
          have HPN := Lib.hid hpn
          clear hS he8 hln hn2 hpn HPAD HLN
          have z36 := zero36
          have hsz := S8.out.h1
          have hrl := blk_lt hsz
          clear hsz
          go_wp2_with (first
            | (refine wpList_load_part rfl 36 _ rfl w.heap.size 64 _ (uc Hc) 38 _ rfl S8.out.h0 rw72_part Try.underlying36 rfl info36 ?_)
            | (refine wpList_store_whole rfl 36 _ _ rfl wr.heap.size (uc Hc).toArray (uc z8).toArray 36 rfl rfl (alloc_at wr _) rfl info36 (one_uc _) ?_; intro w9 h5 h6; have P9 : Hid (PS w w9 wr.heap.size (.slice (some ⟨g2, 0, none⟩) n2 c2) (pad p) (blocksH 0 (pad p)).l) := Lib.hid ⟨(S8.out.alloc _).at1 h6 (by omega) (fun e => by have := own_lt S8.out.own _ e; omega), h5, by omega⟩; clear h5 h6))
          clear S8 hrl z36 hdj
          generalize wr.heap.size = hB at *
          obtain ⟨N, hN⟩ : ∃ N, n2 = 64 * N := ⟨n2 / 64, by have := padZ_end p.length; have := HPN.out; rw [pad_length] at this; omega⟩
          have hle : n2 ≤ 3000000000 := by omega
          have HN := Lib.hid hN
          clear hN
          refine main_loop HN.out hle HPN.out P9.out ?_
          clear P9
          intros
          rename_i w3 hQ3
          have hP := Lib.hid hQ3
          clear hQ3
          have hDG : digB (blocksH N (pad p)).l = digest p := by unfold digest; rw [HPN.out, HN.out, Nat.mul_div_cancel_left _ (by decide)]
          have HDG : Hid (digP (blocksH N (pad p)).l 32 = digest p) := Lib.hid ((digP_end _).trans hDG)
          clear hDG
          have hl8 : (blocksH N (pad p)).l.length = 8 := V8.l_length _
          generalize (blocksH N (pad p)).l = Hl at *
          go_upto_region 42 with (fail)
          have hrh := blk_lt hP.out.hh
          have hrf := hP.out.far
          have U0 : US w (w3.alloc (.cells (Lib.byteCells (zrs 32)).toArray 24)) hB Hl w3.heap.size (digP Hl 0) := ⟨alloc_far hP.out.os.h1 _, alloc_far hP.out.hh _, by rw [digP_zero]; exact alloc_at w3 _, (hP.out.os.alloc _).below, by omega⟩
          clear hP hrh hrf
          generalize w3.alloc (.cells (Lib.byteCells (zrs 32)).toArray 24) = w4 at *
          generalize w3.heap.size = o at *
          refine out_loop hl8 U0 ?_
          clear U0
          intros
          rename_i w5 hU5
          have hT2 : Hid (US w w5 hB Hl o (digest p)) := Lib.hid (by rw [HDG.out] at hU5; exact hU5)
          clear hU5 hl8 HDG
          have hdl : (Lib.byteCells (digest p)).length = 32 := by rw [Lib.byteCells_length, digest_length]
          have HDL := Lib.hid hdl
          clear hdl
          go_wp2_with (first
            | (refine wpList_load_part rfl 24 _ rfl o 0 _ (Lib.byteCells (digest p)) 24 _ rfl hT2.out.ho (by rw [List.drop_zero, List.take_length]) Try.underlying24 rfl (by rw [HDL.out]; exact info24) ?_)
            | (refine wpList_store_whole rfl 24 _ _ rfl (w.heap.size + 1) (Lib.byteCells (digest p)).toArray (Lib.byteCells (zrs 32)).toArray 24 rfl rfl hT2.out.h1 (by rw [List.size_toArray, List.size_toArray, HDL.out]; rfl) (by rw [List.size_toArray, HDL.out]; exact info24) (one_bytes _) ?_; intro w9 h5 h6; have H5 := Lib.hid h5; have H6 := Lib.hid (At1.below hT2.out.below h6 (by omega)); clear h5 h6))
          have hl9 := run_loadVar_mid w9 (w.heap.size + 1) 0 24 (Lib.byteCells (digest p)) _ (range_part (o := 0) H5.out (by rw [List.drop_zero, List.take_length])) Try.underlying24 rfl (by rw [HDL.out]; exact info24)
          exact bodyPost_ret (results_cell1 rfl _ rfl hl9) rfl ⟨rfl, H6.out⟩
end Go.Proofs.Ytnpmhbhnggdhcaa
