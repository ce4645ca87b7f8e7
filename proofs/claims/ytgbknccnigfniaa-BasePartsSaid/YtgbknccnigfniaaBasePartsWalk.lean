/-
  BaseParts: bytes behind a number of fives stand ahead of them: for any two lists of bytes the law answers true.
-/
import Derived.Test.YtgbknccnigfniaaAwake
import Derived.Test.YtgbknccnigfniaaPartsPlain
import Derived.WalkLawsBesides
import Derived.Deep.RegionWith
set_option linter.unusedVariables false
set_option linter.unusedSimpArgs false
namespace Go.Proofs.Ytgbknccnigfniaa
open Go.RowKit Go.Proofs.YtgbknccnigfniaaW.PrintWords Go.Proofs.YtgbknccnigfniaaW.PrintLast Go.Proofs.YtgbknccnigfniaaW.PrintMore

set_option maxHeartbeats 400000 in
set_option maxRecDepth 100000 in
theorem parts_out (a0 : Option Addr) (n0 c0 : Nat) (a1 : Option Addr) (n1 c1 : Nat) (w : World) (h : 300 < n0 + n1) (hm : n0 ≤ 140737488351232) (hm1 : n1 ≤ 140737488351232) :
    Calls Try.prog 5 #[.slice a0 n0 c0, .slice a1 n1 c1] w fun e w' => e = .returned (.bool true) ∧ Below w.heap.size w w' := by
  go_enter Try.func5, Try.ntmps5
  go_wp2_with fail
  refine (awake_any _).mono ?_
  rintro e w1 ⟨rfl, hb1⟩
  go_wp2_with fail
  refine (awake_any _).mono ?_
  rintro e w2 ⟨rfl, hb2⟩
  go_wp2
  go_ret
  exact ⟨rfl, hb1.trans (hb2.mono hb1.size)⟩

theorem r_of_c {w : World} {A : Option Addr} {n : Nat} {xs : List Int} (h : Kd.C (Kd.int .u8) w A n xs) : ReadsInt w .u8 A n xs := Kd.reads_of_C (enc := Value.int .u8) (d := (0 : Int)) (h1 := fun _ => rfl) h
theorem c_of_r {w : World} {A : Option Addr} {n : Nat} {xs : List Int} (h : ReadsInt w .u8 A n xs) : Kd.C (Kd.int .u8) w A n xs := Kd.C_of_reads (d := (0 : Int)) h
theorem ints_take (l : List UInt8) (k : Nat) : (ints l).take k = ints (l.take k) := by simp [ints, List.map_take]
theorem ints_append (l m : List UInt8) : ints l ++ ints m = ints (l ++ m) := by simp [ints]
/-- The first bytes of what came in. -/
theorem c_take {w : World} {A : Option Addr} {l : List UInt8} (h : Kd.C (Kd.int .u8) w A l.length (ints l)) (k : Nat) (hk : k ≤ l.length) : Kd.C (Kd.int .u8) w A k (ints (l.take k)) := by
  have := (r_of_c h).take_ k hk
  rw [ints_take] at this
  exact c_of_r this
/-- A row of the call's own is read. -/
theorem c_own {w : World} {base n : Nat} {v : Value} {l : List UInt8} (h : w.ownsRow base 5 1 v n (nums .u8 (ints l))) : ∃ A c, v = .slice A n c ∧ Kd.C (Kd.int .u8) w A n (ints l) ∧ n ≤ c := by
  obtain ⟨A, c, e, hr⟩ := own_reads h
  refine ⟨A, c, e, c_of_r hr, ?_⟩
  rcases h.2 with ⟨hv, h0⟩ | ⟨g, cap, cur, hv, _, _, h1, _⟩
  · omega
  · rw [hv] at e; injection e with _ _ e2; omega

theorem infoB : (Try.prog.info? 5).map (fun i => (i.zero, i.size, i.bytes)) = some (some (.int .u8 0), 1, 1) := by kernel_rfl

set_option maxHeartbeats 1000000 in
set_option maxRecDepth 100000 in
theorem parts_in (A0 : Option Addr) (c0 : Nat) (A1 : Option Addr) (c1 : Nat) (p q : List UInt8) (w : World) (hr0 : Kd.C (Kd.int .u8) w A0 p.length (ints p)) (hr1 : Kd.C (Kd.int .u8) w A1 q.length (ints q))
    (hc0 : p.length ≤ c0) (hc1 : q.length ≤ c1) (hpq : p.length + q.length ≤ 300) :
    Calls Try.prog 5 #[.slice A0 p.length c0, .slice A1 q.length c1] w fun e w' => e = .returned (.bool true) ∧ Below w.heap.size w w' := by
  have HR0 := Aside0.mk hr0
  have HR1 := Aside0.mk hr1
  clear hr0 hr1
  obtain ⟨K, hK⟩ : ∃ K : Nat, (p.length : Int) - (p.length : Int) % 5 = (K : Int) := ⟨p.length - p.length % 5, by omega⟩
  have hKp : K ≤ p.length := by omega
  obtain ⟨i5, hi5, _⟩ := info_parts infoB
  have hcut := cut_to (P := Try.prog) 25 5 .i64 Try.underlying25 hi5 A0 p.length c0 (K : Int) (by omega) (by omega) hc0
  simp only [Int.toNat_natCast] at hcut
  go_enter Try.func5, Try.ntmps5
  go_wp2_with fail
  refine (awake_any _).mono ?_
  rintro e w1 ⟨rfl, hb1⟩
  have hC0 := c_below HR0.out hb1
  have hC1 := c_below HR1.out hb1
  have hT0 := c_take hC0 K hKp
  go_wp2_with (at_builtin; refine print_append_row (w0 := w) w.heap.size rfl (.tmp 24) (.tmp 27) 25 5 .u8 1 rfl Try.underlying25 infoB (by decide) (.slice none 0 0) [] (ints (p.take K)) A0 K c0 rfl rfl (own_nil _ _ _ _) (r_of_c hT0) hb1 hb1.size ?_ ?_)
  · simp; omega
  · intro v2 w2 ho2 hb2 hg2 hat2
    have hC1' := c_below HR1.out hb2
    go_wp2_with (at_builtin; refine print_append_row (w0 := w) w.heap.size rfl (.tmp 29) (.tmp 30) 25 5 .u8 1 rfl Try.underlying25 infoB (by decide) v2 (ints (p.take K)) (ints q) A1 q.length c1 rfl rfl ho2 (r_of_c hC1') hb2 hb2.size ?_ ?_)
    · simp [ints_length]; omega
    · intro v3 w3 ho3 hb3 hg3 hat3
      obtain ⟨pq, hpq'⟩ : ∃ pq, p.take K ++ q = pq := ⟨_, rfl⟩
      have hlen : pq.length ≤ 300 := by rw [← hpq']; simp; omega
      have hn : (ints (p.take K)).length + (ints q).length = pq.length := by rw [ints_length, ints_length, ← hpq', List.length_append]
      rw [hn, ints_append, hpq'] at ho3
      have HPQ := Lib.hid hpq'
      clear hpq' hn
      obtain ⟨A3, c3, rfl, hC3, hc3⟩ := c_own ho3
      have hC0' := c_below (c_take HR0.out K hKp) hb3
      have hC1'' := c_below HR1.out hb3
      have hK5 : (p.take K).length % 5 = 0 := by simp; omega
      have hTl : (p.take K).length = K := by simp; omega
      have E3 : Hid (∀ W, Below w3.heap.size w3 W → Calls Try.prog 12 #[.slice A3 pq.length c3] W fun e w' => e = .returned (.string ⟨(enc pq).toArray⟩) ∧ Below w3.heap.size w3 w') := Lib.hid fun W hW => by
        refine (encode_any A3 c3 pq W (c_below hC3 hW) hc3 (by omega)).mono ?_
        rintro e w' ⟨rfl, hb⟩
        exact ⟨rfl, hW.trans (hb.mono hW.size)⟩
      have Eq' : Hid (∀ W, Below w3.heap.size w3 W → Calls Try.prog 12 #[.slice A1 q.length c1] W fun e w' => e = .returned (.string ⟨(enc q).toArray⟩) ∧ Below w3.heap.size w3 w') := Lib.hid fun W hW => by
        refine (encode_any A1 c1 q W (c_below hC1'' hW) hc1 (by omega)).mono ?_
        rintro e w' ⟨rfl, hb⟩
        exact ⟨rfl, hW.trans (hb.mono hW.size)⟩
      have Ep : Hid (∀ W, Below w3.heap.size w3 W → Calls Try.prog 12 #[.slice A0 K c0] W fun e w' => e = .returned (.string ⟨(enc (p.take K)).toArray⟩) ∧ Below w3.heap.size w3 w') := Lib.hid fun W hW => by
        have := encode_any A0 c0 (p.take K) W (by rw [hTl]; exact c_below hC0' hW) (by omega) (by omega)
        rw [hTl] at this
        refine this.mono ?_
        rintro e w' ⟨rfl, hb⟩
        exact ⟨rfl, hW.trans (hb.mono hW.size)⟩
      have hs1 : (enc q).length ≤ 600 := by rw [enc_length]; unfold lens; omega
      have hs2 : (enc (p.take K)).length ≤ 600 := by rw [enc_length]; unfold lens; omega
      have hsum : (enc q).length + (enc (p.take K)).length ≤ 9223372036854775807 := by omega
      have hd3 : Below w3.heap.size w3 w3.drew := below_drew (Below.refl _ _)
      go_wp2_with fail
      go_region_with (first
        | ((with_reducible refine (E3.out _ ?_).mono ?_); assumption; rintro e w' ⟨rfl, hb⟩)
        | ((with_reducible refine (Eq'.out _ ?_).mono ?_); assumption; rintro e w' ⟨rfl, hb⟩)
        | ((with_reducible refine (Ep.out _ ?_).mono ?_); assumption; rintro e w' ⟨rfl, hb⟩))
      go_wp2
      go_ret
      refine ⟨?_, ?_⟩
      · go_simp
        rw [ByteArray.mk_append_mk, Lib.toList_data, ← HPQ.out, enc_parts _ _ hK5]
      · exact hb3.trans ((by assumption : Below w3.heap.size w3 _).mono hb3.size)

/-- The law's walk. -/
theorem walk_BaseParts (a0 : Option Addr) (len0 cap0 : Nat) (z0 : List Int) (a1 : Option Addr) (len1 cap1 : Nat) (z1 : List Int) (w : World)
    (w0 : (a0 = none ∧ len0 = 0 ∧ cap0 = 0 ∧ z0 = []) ∨ ∃ x, a0 = some x ∧ len0 ≤ cap0 ∧ cap0 ≤ maxLen ∧ z0.length = cap0 ∧ (∀ i, i < z0.length → w.cell? (x.add i) = some (.int .u8 (z0.getD i 0))) ∧ ∀ n ∈ z0, (Lit.int .u8 n).wf = true)
    (y0 : len0 * 1 ≤ 140737488351232)
    (w1 : (a1 = none ∧ len1 = 0 ∧ cap1 = 0 ∧ z1 = []) ∨ ∃ x, a1 = some x ∧ len1 ≤ cap1 ∧ cap1 ≤ maxLen ∧ z1.length = cap1 ∧ (∀ i, i < z1.length → w.cell? (x.add i) = some (.int .u8 (z1.getD i 0))) ∧ ∀ n ∈ z1, (Lit.int .u8 n).wf = true)
    (y1 : len1 * 1 ≤ 140737488351232) :
    Calls Try.prog 5 #[.slice a0 len0 cap0, .slice a1 len1 cap1] w fun e w' => e = .returned (.bool true) ∧ Below w.heap.size w w' := by
  obtain ⟨p, rfl, hp, hpc, hpm⟩ := row_bytes w0
  obtain ⟨q, rfl, hq, hqc, hqm⟩ := row_bytes w1
  by_cases h : 300 < p.length + q.length
  · exact parts_out _ _ _ _ _ _ w h (by omega) (by omega)
  · exact parts_in a0 cap0 a1 cap1 p q w hp hq hpc hqc (by omega)
end Go.Proofs.Ytgbknccnigfniaa
