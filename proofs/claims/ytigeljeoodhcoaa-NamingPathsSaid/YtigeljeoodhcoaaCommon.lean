/-
  Small words that the walks share: bytes that came in, bytes of the call's own, and the reference's number of signs.
-/
import Derived.Test.YtigeljeoodhcoaaEncode
import Derived.WalkLawsBesides
set_option linter.unusedVariables false
set_option linter.unusedSimpArgs false
namespace Go.Proofs.Ytigeljeoodhcoaa
open Go.RowKit Go.Proofs.YtigeljeoodhcoaaW.PrintWords Go.Proofs.YtigeljeoodhcoaaW.PrintLast Go.Proofs.YtigeljeoodhcoaaW.PrintMore

theorem byteCells_snoc (acc : List UInt8) (x : UInt8) : Lib.byteCells (acc ++ [x]) = Lib.byteCells acc ++ [.int .u8 (x.toNat : Int)] := by
  rw [Lib.byteCells_append]; rfl

theorem at_byte {w : World} {A : Option Addr} {l : List UInt8} (h : Kd.C (Kd.int .u8) w A l.length (ints l)) (k : Nat) (hk : k < l.length) :
    ∃ ad b, A = some ad ∧ w.cell? (ad.add k) = some (.int .u8 ((b : UInt8).toNat : Int)) ∧ Hid (l.drop k = b :: l.drop (k + 1)) := by
  obtain ⟨ad, ea, hx⟩ := Kd.at_int h (k : Int) (by omega) (by omega)
  rw [rd_ints, Int.toNat_natCast] at hx
  refine ⟨ad, l.getD k 0, ea, hx, Lib.hid ?_⟩
  rw [List.drop_eq_getElem_cons hk, List.getD_eq_getElem?_getD, List.getElem?_eq_getElem hk]; rfl

theorem c_lit (W : World) (l : List UInt8) (hl : l.length ≤ 1000) : Kd.C (Kd.int .u8) (W.alloc (.cells (Lib.byteCells l).toArray 5)) (some ⟨W.heap.size, 0, none⟩) l.length (ints l) := by
  refine Kd.C_of_reads (d := 0) ⟨ints_length l, by omega, fun _ => ⟨_, rfl, fun j hj => ?_⟩⟩
  have e : (⟨W.heap.size, 0, none⟩ : Addr).add j = ⟨W.heap.size, j, none⟩ := add_plain _ _
  rw [e]
  have hh : (W.alloc (.cells (Lib.byteCells l).toArray 5)).heap[W.heap.size]? = some (.cells (Lib.byteCells l).toArray 5 (0, 0)) := by
    show (W.heap.push _)[W.heap.size]? = _
    simp
  rw [Lib.cell_of_heap hh]
  simp [Lib.byteCells, ints, hj, List.getD_eq_getElem?_getD]

/-- A slice of bytes that came in. -/
theorem row_bytes {w : World} {a : Option Addr} {len cap : Nat} {zs : List Int} (h : (a = none ∧ len = 0 ∧ cap = 0 ∧ zs = []) ∨ ∃ x, a = some x ∧ len ≤ cap ∧ cap ≤ maxLen ∧ zs.length = cap ∧ (∀ i, i < zs.length → w.cell? (x.add i) = some (.int .u8 (zs.getD i 0))) ∧ ∀ n ∈ zs, (Lit.int .u8 n).wf = true) :
    ∃ l : List UInt8, len = l.length ∧ Kd.C (Kd.int .u8) w a l.length (ints l) ∧ l.length ≤ cap ∧ l.length ≤ maxLen := by
  obtain ⟨xs, e, h1, h2, h3, h4⟩ := ReadsInt.ofRowC h
  have hx : ints (xs.map fun x => x.toNat.toUInt8) = xs := by
    unfold ints
    rw [List.map_map]
    conv => rhs; rw [← List.map_id xs]
    refine List.map_congr_left fun x hx => ?_
    have h5 := h3 x hx
    have : 0 ≤ x ∧ x ≤ 255 := by simp [Lit.wf, IntKind.min, IntKind.max, IntKind.bits, IntKind.signed] at h5; omega
    simp only [Function.comp_apply, id_eq]
    have e : x.toNat.toUInt8.toNat = x.toNat := by
      show (UInt8.ofNat x.toNat).toNat = x.toNat
      rw [UInt8.toNat_ofNat']; omega
    rw [e]; omega
  refine ⟨xs.map fun x => x.toNat.toUInt8, by simpa using e, ?_, by simpa using h4, by simpa using h2⟩
  rw [hx, List.length_map]
  exact Kd.C_of_reads (d := 0) h1
theorem c_drawn {w w1 : World} {A : Option Addr} {n : Nat} {xs : List Int} (h : Kd.C (Kd.int .u8) w A n xs) (hd : Drawn0 w w1) : Kd.C (Kd.int .u8) w1 A n xs := Kd.C_below h hd.below

theorem refLen_loop (n : Nat) (hn : n ≤ 1000000000) (d : Nat) : ∀ (k j : Nat), j ≤ lens n → lens n = j + d → d < k → 0 < n → PNamingPaths.staddleref02_Len.l0 k (n : Int) (j : Int) = some ((lens n : Nat) : Int) := by
  induction d with
  | zero =>
    intro k j h0 h1 h2 h3
    obtain ⟨k, rfl⟩ : ∃ m, k = m + 1 := ⟨k - 1, by omega⟩
    simp only [PNamingPaths.staddleref02_Len.l0]
    unfold lens at h1
    rw [if_pos (by omega), wrap64_id ((j : Int) * 5) (by omega) (by omega), wrap64_id ((n : Int) * 8) (by omega) (by omega), if_neg (by omega)]
    unfold lens; congr 2; omega
  | succ d ih =>
    intro k j h0 h1 h2 h3
    obtain ⟨k, rfl⟩ : ∃ m, k = m + 1 := ⟨k - 1, by omega⟩
    simp only [PNamingPaths.staddleref02_Len.l0]
    have h4 := h1
    unfold lens at h4
    rw [if_pos (by omega), wrap64_id ((j : Int) * 5) (by omega) (by omega), wrap64_id ((n : Int) * 8) (by omega) (by omega), if_pos (by omega), wrap64_id ((j : Int) + 1) (by omega) (by omega)]
    exact ih k (j + 1) (by omega) (by omega) (by omega) h3

theorem refLen_f (n : Nat) (hn : n ≤ 1000000000) : ∃ k, PNamingPaths.staddleref02_Len.f k (n : Int) = some ((lens n : Nat) : Int) := by
  by_cases h : n = 0
  · subst h; exact ⟨1, rfl⟩
  · exact ⟨lens n + 1, refLen_loop n hn (lens n) _ 0 (by omega) (by omega) (by omega) (by omega)⟩

theorem refLen_any (n : Nat) (w : World) (hn : n ≤ 1000000000) :
    Calls Try.prog 33 #[.int .i64 (n : Int)] w fun e w' => e = .returned (.int .i64 ((lens n : Nat) : Int)) ∧ Drawn0 w w' := by
  obtain ⟨k, hk⟩ := refLen_f n hn
  exact PNamingPaths.staddleref02_Len.calls k _ _ w hk
theorem str_ints (l : List UInt8) : strOfNums (ints l) = ⟨l.toArray⟩ := by
  unfold strOfNums ints
  congr 2
  rw [List.map_map]
  conv => rhs; rw [← List.map_id l]
  refine List.map_congr_left fun x hx => ?_
  simp

theorem infoB : (Try.prog.info? 5).map (fun i => (i.zero, i.size, i.bytes)) = some (some (.int .u8 0), 1, 1) := by kernel_rfl

theorem r_of_c {w : World} {A : Option Addr} {n : Nat} {xs : List Int} (h : Kd.C (Kd.int .u8) w A n xs) : ReadsInt w .u8 A n xs := Kd.reads_of_C (enc := Value.int .u8) (d := (0 : Int)) (h1 := fun _ => rfl) h
theorem c_of_r {w : World} {A : Option Addr} {n : Nat} {xs : List Int} (h : ReadsInt w .u8 A n xs) : Kd.C (Kd.int .u8) w A n xs := Kd.C_of_reads (d := (0 : Int)) h
theorem ints_take (l : List UInt8) (k : Nat) : (ints l).take k = ints (l.take k) := by simp [ints, List.map_take]
theorem ints_append (l m : List UInt8) : ints l ++ ints m = ints (l ++ m) := by simp [ints]
/-- The first bytes of what came in. -/
theorem c_take {w : World} {A : Option Addr} {l : List UInt8} (h : Kd.C (Kd.int .u8) w A l.length (ints l)) (k : Nat) (hk : k ≤ l.length) : Kd.C (Kd.int .u8) w A k (ints (l.take k)) := by
  have := (r_of_c h).take_ k hk
  rw [ints_take] at this
  exact c_of_r this
/-- A row of the call's own is read. -/
theorem c_own {w : World} {base n : Nat} {v : Value} {l : List UInt8} (h : w.ownsRow base 5 1 v n (nums .u8 (ints l))) : ∃ A c, v = .slice A n c ∧ Kd.C (Kd.int .u8) w A n (ints l) ∧ n ≤ c := by
  obtain ⟨A, c, e, hr⟩ := own_reads h
  refine ⟨A, c, e, c_of_r hr, ?_⟩
  rcases h.2 with ⟨hv, h0⟩ | ⟨g, cap, cur, hv, _, _, h1, _⟩
  · omega
  · rw [hv] at e; injection e with _ _ e2; omega

/-- A row of bytes of the call's own. -/
def Own (w : World) (base : Nat) (v : Value) (l : List UInt8) : Prop := w.ownsRow base 5 1 v l.length (nums .u8 (ints l))
theorem own_of_kd {w : World} {base : Nat} {v : Value} {l : List UInt8} (h : Kd.R (Kd.int .u8) 5 w base (fun _ => True) v (ints l)) : Own w base v l := by
  have := Kd.own_of_R h
  rw [ints_length] at this
  exact this
theorem Own.below {w w1 : World} {base : Nat} {v : Value} {l : List UInt8} (h : Own w base v l) (hb : Below w.heap.size w w1) : Own w1 base v l := pw_own_below h hb

/-- string(..) of a row of the call's own; of one that came in. -/
theorem conv_own {w : World} {base : Nat} {v : Value} {l : List UInt8} (h : Own w base v l) : (convert 40 9 v).run Try.prog w = .ok (.string ⟨l.toArray⟩) w := by
  have := own_string (P := Try.prog) Try.underlying40 Try.underlying5 Try.underlying9 h
  rw [str_ints] at this
  exact this
theorem conv_in {w : World} {A : Option Addr} {c : Nat} {l : List UInt8} (h : Kd.C (Kd.int .u8) w A l.length (ints l)) : (convert 40 9 (.slice A l.length c)).run Try.prog w = .ok (.string ⟨l.toArray⟩) w := by
  have := string_of_reads (P := Try.prog) (src := 40) (dst := 9) (c := c) Try.underlying40 Try.underlying5 Try.underlying9 (Kd.reads_of_C (enc := Value.int .u8) (d := (0 : Int)) (h1 := fun _ => rfl) h)
  rw [str_ints] at this
  exact this

theorem Own.drawn {w w1 : World} {base : Nat} {v : Value} {l : List UInt8} (h : Own w base v l) (hb : Drawn0 w w1) : Own w1 base v l := pw_own_below h hb.below
theorem c_of_own {w : World} {base c : Nat} {A : Option Addr} {l : List UInt8} (h : Own w base (.slice A l.length c) l) : Kd.C (Kd.int .u8) w A l.length (ints l) ∧ l.length ≤ c := by
  obtain ⟨A', c', e, hr⟩ := own_reads h
  injection e with e1 e2 e3
  subst e1
  refine ⟨Kd.C_of_reads (d := (0 : Int)) hr, ?_⟩
  rcases h.2 with ⟨hv, h0⟩ | ⟨g, cap, cur, hv, _, _, h1, _⟩
  · omega
  · injection hv with _ _ e2; omega


end Go.Proofs.Ytigeljeoodhcoaa
