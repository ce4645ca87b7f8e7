/-
  SectorTorn: of one torn write over another one the first bytes are new, the others old: the walk.
-/
import Derived.Test.YtaakknnfebmkcaaTornState
set_option linter.unusedVariables false
set_option linter.unusedSimpArgs false
namespace Go.Proofs.Ytaakknnfebmkcaa
open Go.RowKit Go.Proofs.YtaakknnfebmkcaaW.PrintWords

theorem St.congrL {w0 : World} {base H b g pa pb : Nat} {a f : List UInt8} {w : World} {L L' : List UInt8} {wv : Value} {way : List (Nat × List UInt8)} {cnt : Int} (h : St w0 base H b g pa pb a f w L wv way cnt) (e : L = L') : St w0 base H b g pa pb a f w L' wv way cnt := e ▸ h
theorem take_a (m f : List UInt8) (hm : m.length = 256) (hf : f.length = 256) : ((m ++ f).drop (0 * 256)).take 256 = m := by
  rw [show 0 * 256 = 0 from rfl, List.drop_zero, List.take_append_of_le_length (by omega), List.take_of_length_le (by omega)]
theorem take_b (m f : List UInt8) (hm : m.length = 256) (hf : f.length = 256) : ((m ++ f).drop (1 * 256)).take 256 = f := by
  rw [show 1 * 256 = 256 from rfl, List.drop_append_of_le_length (by omega), List.drop_of_length_le (l := m) (by omega), List.nil_append, List.take_of_length_le (by omega)]
theorem take_c (m f : List UInt8) (hm : m.length = 256) (hf : f.length = 256) : ((f ++ m).drop (1 * 256)).take 256 = m := take_b f m hf hm
theorem take_d (m f : List UInt8) (hm : m.length = 256) (hf : f.length = 256) : ((f ++ m).drop (0 * 256)).take 256 = f := take_a f m hf hm

set_option maxHeartbeats 2000000 in
set_option maxRecDepth 100000 in
theorem torn_any (which : Bool) (A : Option Addr) (c : Nat) (l : List UInt8) (A2 : Option Addr) (c2 : Nat) (l2 : List UInt8) (cut : Int) (w : World) (hr : Kd.C (Kd.int .u8) w A l.length (ints l)) (hc : l.length ≤ c) (hl : l.length ≤ 140737488351232)
    (hr2 : Kd.C (Kd.int .u8) w A2 l2.length (ints l2)) (hc2 : l2.length ≤ c2) (hl2 : l2.length ≤ 140737488351232) :
    Calls Try.prog 3 #[.slice A l.length c, .slice A2 l2.length c2, .int .i64 cut, .bool which] w fun e w' => e = .returned (.bool true) ∧ Below w.heap.size w w' := by
  have HC := Aside0.mk hr
  have HC2 := Aside0.mk hr2
  clear hr hr2
  cases which
  all_goals
    go_enter Try.func3, Try.ntmps3
    go_wp2_with fail
    refine (awake_any _).mono ?_
    rintro e w1 ⟨rfl, hb1⟩
    go_wp2_with fail
    refine (new_in 2 w1 (by decide) (by decide)).mono ?_
    rintro e w2 ⟨b, g, rfl, hD, hb2⟩
    have HB2 := hb1.trans (hb2.mono hb1.size)
    go_wp2_with fail
    refine (whole_any A c l w2 (Kd.C_below HC.out HB2) hc (by omega)).mono ?_
    rintro e w3 ⟨pa, pc, rfl, ho3, hrg3, hb3⟩
    have HB3 := HB2.trans (hb3.mono HB2.size)
    go_wp2_with fail
    refine (whole_any A2 c2 l2 w3 (Kd.C_below HC2.out HB3) hc2 (by omega)).mono ?_
    rintro e w4 ⟨pb, pc2, rfl, ho4, hrg4, hb4⟩
    have HB4 := HB3.trans (hb4.mono HB3.size)
    have hpl := own_lt ho3 pa rfl
    have hpl2 := own_lt ho4 pb rfl
    have hpb := own_base ho4 pb rfl
    have hpa := own_base ho3 pa rfl
    have hbl := blk_lt hD.dev
    have hgl := blk_lt hD.secs
    have z1 := hb1.size
    have z2 := hb2.size
    have z3 := hb3.size
    have z4 := hb4.size
    have hbb := hD.bb
    have hbg := hD.bg
    have P : Pl w w1.heap.size w4.heap.size b g pa pb (wholeL l) (wholeL l2) := ⟨by omega, by omega, by omega, by omega, by omega, by omega, by omega, by omega, by omega, by omega, by omega, by omega, wholeL_length l, wholeL_length l2⟩
    have S4 : St w w1.heap.size w4.heap.size b g pa pb (wholeL l) (wholeL l2) w4 (zb (2 * 256)) (.slice none 0 0) [] 0 := ⟨(hD.below hb3).below hb4, range_below hrg3 hb4 hpl, hrg4, HB4, Nat.le_refl _, fun k e => by simp [Value.ownBlock] at e⟩
    clear HB2 HB3 HB4 ho3 ho4 hb1 hb2 hb3 hb4 hrg3 hrg4 hD HC HC2
    have hz : (zb (2 * 256)).length = 512 := List.length_replicate
    generalize zb (2 * 256) = Z at S4 hz
    generalize wholeL l = a at *
    generalize wholeL l2 = f at *
    have HP := Aside0.mk P
    have HZ := Aside0.mk hz
    have la := Aside0.mk P.la
    have lf := Aside0.mk P.lf
    clear hz
    generalize w4.heap.size = H at *
    generalize w1.heap.size = base at *
    have X1 := Aside0.mk (write_st P S4 0 (by decide) pa a (.inl ⟨rfl, rfl⟩) pc (by decide) (by decide) (by decide))
    clear S4 P
    go_wp2_with fail
    refine X1.out.mono ?_
    rintro e w5 ⟨g5, c5, rfl, S5⟩
    rw [List.nil_append] at S5
    have X2 := Aside0.mk (write_st HP.out S5 1 (by decide) pa a (.inl ⟨rfl, rfl⟩) pc (by decide) (by decide) (by simp))
    clear S5 X1
    go_wp2_with fail
    refine X2.out.mono ?_
    rintro e w6 ⟨g6, c6, rfl, S6⟩
    have X3 := Aside0.mk (sync_st (way := [(0, a)] ++ [(1, a)]) HP.out S6 (by decide) (by decide) (by simp))
    clear S6 X2
    go_wp2_with fail
    refine X3.out.mono ?_
    rintro e w7 ⟨rfl, S7⟩
    replace S7 : St w base H b g pa pb a f w7 (a ++ a) (.slice none 0 0) [] 3 := by
      rw [← sync_two a Z la.out HZ.out]
      exact S7
    have X4 := Aside0.mk (write_st HP.out S7 0 (by decide) pb f (.inr ⟨rfl, rfl⟩) pc2 (by decide) (by decide) (by decide))
    clear S7 X3
    go_wp2_with fail
    refine X4.out.mono ?_
    rintro e w8 ⟨g8, c8, rfl, S8⟩
    rw [List.nil_append] at S8
    have X5 := Aside0.mk (write_st HP.out S8 1 (by decide) pb f (.inr ⟨rfl, rfl⟩) pc2 (by decide) (by decide) (by simp))
    clear S8 X4
    go_wp2_with fail
    refine X5.out.mono ?_
    rintro e w9 ⟨g9, c9, rfl, S9⟩
    have S9' := Aside0.mk S9
    clear S9 X5
    go_wp2_with fail
  · have hp9 := blk_lt S9'.out.dev.dev
    have S9a := Aside0.mk (S9'.out.more ((Below.refl _ w9).alloc (Nat.le_refl _) (.cells #[.bool true, .bool true] 4)) HP.out)
    have hgz := blk_lt S9'.out.dev.secs
    have X6 := Aside0.mk (restart_st (way := [(0, f)] ++ [(1, f)]) HP.out S9a.out (by simp) [true, true] (by decide) w9.heap.size 2 0 cut (by omega) (fun j hj => by
      rw [cell_of_row _ _ _ _ 4 (0, 0) (alloc_at w9 _)]
      match j, hj with
      | 0, _ => rfl
      | 1, _ => rfl))
    clear hp9 hgz
    refine X6.out.mono ?_
    rintro e w10 ⟨rfl, S10⟩
    have em := rest_one a f la.out lf.out (cutN cut) (cut_le cut)
    replace S10 := S10.congrL em
    have lm : (List.take (cutN cut) f ++ List.drop (cutN cut) a).length = 256 := by
      have e1 := la.out
      have e2 := lf.out
      have e3 := cut_le cut
      simp
      omega
    have hm := mix_get a f la.out lf.out cut
    have H10 := Aside0.mk S10
    have LM := Aside0.mk lm
    have HM := Aside0.mk hm
    clear S10 X6 em lm hm S9a S9'
    generalize List.take (cutN cut) f ++ List.drop (cutN cut) a = m at *
    have X7 := Aside0.mk (read_st HP.out H10.out 0 (by decide))
    have X8 : Aside0 (∀ W, St w base H b g pa pb a f W (m ++ f) (.slice none 0 0) [] (3 + 1 + 1) → Calls Try.prog 13 #[.pointer (some ⟨b, 0, none⟩), .int .i64 ((1 : Nat) : Int)] W fun e w' => e = .returned (.tuple #[.slice (some ⟨W.heap.size, 0, none⟩) 256 256, .int .i64 0]) ∧ w'.rangeAt W.heap.size 0 (Lib.byteCells (((m ++ f).drop (1 * 256)).take 256)) ∧ W.heap.size < w'.heap.size ∧ Below W.heap.size W w' ∧ St w base H b g pa pb a f w' (m ++ f) (.slice none 0 0) [] (3 + 1 + 1)) := ⟨fun W hW => read_st HP.out hW 1 (by decide)⟩
    go_wp2_with fail
    refine X7.out.mono ?_
    rintro e w11 ⟨rfl, rp, zp, bp, S11⟩
    have H11 := Aside0.mk S11
    have RP : Aside0 (w11.rangeAt w10.heap.size 0 (Lib.byteCells m)) := ⟨by
      have e := take_a m f LM.out lf.out
      rwa [e] at rp⟩
    clear S11 rp bp X7
    go_wp2_with fail
    refine (X8.out _ H11.out).mono ?_
    rintro e w12 ⟨rfl, rq, zq, bq, S12⟩
    have RP' := Aside0.mk (range_below RP.out bq zp)
    have RQ : Aside0 (w12.rangeAt w11.heap.size 0 (Lib.byteCells f)) := ⟨by
      have e := take_b m f LM.out lf.out
      rwa [e] at rq⟩
    have cq := conv_range (n := 256) (c := 256) RQ.out lf.out (by decide)
    have cf := conv_range (n := 256) (c := pc2) S12.rb lf.out (by decide)
    have RA := Aside0.mk S12.ra
    have RF := Aside0.mk S12.rb
    have HB := Aside0.mk S12.below
    clear S12 rq bq X8 RP H11 H10
    generalize w10.heap.size = pp at *
    generalize w11.heap.size = qq at *
    have lx := LM.out
    have lxa := la.out
    have lxf := lf.out
    go_wp2_with fail
    go_loop [18] (fun i => ∃ k : Nat, k ≤ 256 ∧ i = .int .i64 k) (fun i => 256 - (intOf i).toNat)
    case atStart => exact ⟨0, by omega, rfl⟩
    case round =>
      obtain ⟨k, hk, rfl⟩ := hrel
      by_cases hlt : k < 256
      · have c1 := range_cell RA.out k (by omega)
        have c2 := range_cell RF.out k (by omega)
        have c3 := range_cell RP'.out k (by omega)
        rw [HM.out k hlt] at c3
        by_cases hcut : (k : Int) < cut
        · rw [if_pos hcut] at c3
          generalize f.getD k 0 = xf at *
          generalize a.getD k 0 = xa at *
          go_wp2
          go_round
          case rel => exact ⟨k + 1, by omega, by go_num⟩
          case measure => simp [intOf]; omega
        · rw [if_neg hcut] at c3
          generalize f.getD k 0 = xf at *
          generalize a.getD k 0 = xa at *
          go_wp2
          go_round
          case rel => exact ⟨k + 1, by omega, by go_num⟩
          case measure => simp [intOf]; omega
      · go_wp2
        go_ret
        exact ⟨rfl, HB.out⟩
  · have hp9 := blk_lt S9'.out.dev.dev
    have S9a := Aside0.mk (S9'.out.more ((Below.refl _ w9).alloc (Nat.le_refl _) (.cells #[.bool true, .bool true] 4)) HP.out)
    have hgz := blk_lt S9'.out.dev.secs
    have X6 := Aside0.mk (restart_st (way := [(0, f)] ++ [(1, f)]) HP.out S9a.out (by simp) [true, true] (by decide) w9.heap.size 2 1 cut (by omega) (fun j hj => by
      rw [cell_of_row _ _ _ _ 4 (0, 0) (alloc_at w9 _)]
      match j, hj with
      | 0, _ => rfl
      | 1, _ => rfl))
    clear hp9 hgz
    refine X6.out.mono ?_
    rintro e w10 ⟨rfl, S10⟩
    have em := rest_two a f la.out lf.out (cutN cut) (cut_le cut)
    replace S10 := S10.congrL em
    have lm : (List.take (cutN cut) f ++ List.drop (cutN cut) a).length = 256 := by
      have e1 := la.out
      have e2 := lf.out
      have e3 := cut_le cut
      simp
      omega
    have hm := mix_get a f la.out lf.out cut
    have H10 := Aside0.mk S10
    have LM := Aside0.mk lm
    have HM := Aside0.mk hm
    clear S10 X6 em lm hm S9a S9'
    generalize List.take (cutN cut) f ++ List.drop (cutN cut) a = m at *
    have X7 := Aside0.mk (read_st HP.out H10.out 1 (by decide))
    have X8 : Aside0 (∀ W, St w base H b g pa pb a f W (f ++ m) (.slice none 0 0) [] (3 + 1 + 1) → Calls Try.prog 13 #[.pointer (some ⟨b, 0, none⟩), .int .i64 ((0 : Nat) : Int)] W fun e w' => e = .returned (.tuple #[.slice (some ⟨W.heap.size, 0, none⟩) 256 256, .int .i64 0]) ∧ w'.rangeAt W.heap.size 0 (Lib.byteCells (((f ++ m).drop (0 * 256)).take 256)) ∧ W.heap.size < w'.heap.size ∧ Below W.heap.size W w' ∧ St w base H b g pa pb a f w' (f ++ m) (.slice none 0 0) [] (3 + 1 + 1)) := ⟨fun W hW => read_st HP.out hW 0 (by decide)⟩
    go_wp2_with fail
    refine X7.out.mono ?_
    rintro e w11 ⟨rfl, rp, zp, bp, S11⟩
    have H11 := Aside0.mk S11
    have RP : Aside0 (w11.rangeAt w10.heap.size 0 (Lib.byteCells m)) := ⟨by
      have e := take_c m f LM.out lf.out
      rwa [e] at rp⟩
    clear S11 rp bp X7
    go_wp2_with fail
    refine (X8.out _ H11.out).mono ?_
    rintro e w12 ⟨rfl, rq, zq, bq, S12⟩
    have RP' := Aside0.mk (range_below RP.out bq zp)
    have RQ : Aside0 (w12.rangeAt w11.heap.size 0 (Lib.byteCells f)) := ⟨by
      have e := take_d m f LM.out lf.out
      rwa [e] at rq⟩
    have cq := conv_range (n := 256) (c := 256) RQ.out lf.out (by decide)
    have cf := conv_range (n := 256) (c := pc2) S12.rb lf.out (by decide)
    have RA := Aside0.mk S12.ra
    have RF := Aside0.mk S12.rb
    have HB := Aside0.mk S12.below
    clear S12 rq bq X8 RP H11 H10
    generalize w10.heap.size = pp at *
    generalize w11.heap.size = qq at *
    have lx := LM.out
    have lxa := la.out
    have lxf := lf.out
    go_wp2_with fail
    go_loop [18] (fun i => ∃ k : Nat, k ≤ 256 ∧ i = .int .i64 k) (fun i => 256 - (intOf i).toNat)
    case atStart => exact ⟨0, by omega, rfl⟩
    case round =>
      obtain ⟨k, hk, rfl⟩ := hrel
      by_cases hlt : k < 256
      · have c1 := range_cell RA.out k (by omega)
        have c2 := range_cell RF.out k (by omega)
        have c3 := range_cell RP'.out k (by omega)
        rw [HM.out k hlt] at c3
        by_cases hcut : (k : Int) < cut
        · rw [if_pos hcut] at c3
          generalize f.getD k 0 = xf at *
          generalize a.getD k 0 = xa at *
          go_wp2
          go_round
          case rel => exact ⟨k + 1, by omega, by go_num⟩
          case measure => simp [intOf]; omega
        · rw [if_neg hcut] at c3
          generalize f.getD k 0 = xf at *
          generalize a.getD k 0 = xa at *
          go_wp2
          go_round
          case rel => exact ⟨k + 1, by omega, by go_num⟩
          case measure => simp [intOf]; omega
      · go_wp2
        go_ret
        exact ⟨rfl, HB.out⟩

theorem walk_SectorTorn (a0 : Option Addr) (len0 cap0 : Nat) (z0 : List Int) (a1 : Option Addr) (len1 cap1 : Nat) (z1 : List Int) (cut : Int) (which : Bool) (w : World)
    (w0 : (a0 = none ∧ len0 = 0 ∧ cap0 = 0 ∧ z0 = []) ∨ ∃ x, a0 = some x ∧ len0 ≤ cap0 ∧ cap0 ≤ maxLen ∧ z0.length = cap0 ∧ (∀ i, i < z0.length → w.cell? (x.add i) = some (.int .u8 (z0.getD i 0))) ∧ ∀ n ∈ z0, (Lit.int .u8 n).wf = true)
    (y0 : len0 * 1 ≤ 140737488351232)
    (w1 : (a1 = none ∧ len1 = 0 ∧ cap1 = 0 ∧ z1 = []) ∨ ∃ x, a1 = some x ∧ len1 ≤ cap1 ∧ cap1 ≤ maxLen ∧ z1.length = cap1 ∧ (∀ i, i < z1.length → w.cell? (x.add i) = some (.int .u8 (z1.getD i 0))) ∧ ∀ n ∈ z1, (Lit.int .u8 n).wf = true)
    (y1 : len1 * 1 ≤ 140737488351232) (w2 : (Lit.int .i64 cut).wf = true) :
    Calls Try.prog 3 #[.slice a0 len0 cap0, .slice a1 len1 cap1, .int .i64 cut, .bool which] w fun e w' => e = .returned (.bool true) ∧ Below w.heap.size w w' := by
  obtain ⟨p, rfl, hp, hpc, _, _⟩ := row_bytes w0
  obtain ⟨q, rfl, hq, hqc, _, _⟩ := row_bytes w1
  exact torn_any which a0 cap0 p a1 cap1 q cut w hp hpc (by omega) hq hqc (by omega)
end Go.Proofs.Ytaakknnfebmkcaa
