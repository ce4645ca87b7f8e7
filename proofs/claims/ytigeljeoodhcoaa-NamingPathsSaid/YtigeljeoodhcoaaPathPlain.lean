/-
  PathPlain: which texts are paths; the path of a digest and a name is one, and tells both.
-/
import Derived.Test.YtigeljeoodhcoaaParseSome
set_option linter.unusedVariables false
set_option linter.unusedSimpArgs false
namespace Go.Proofs.Ytigeljeoodhcoaa
open Go.RowKit Go.Proofs.YtigeljeoodhcoaaW.PrintWords Go.Proofs.YtigeljeoodhcoaaW.PrintLast Go.Proofs.YtigeljeoodhcoaaW.PrintMore

def pathB (s : ByteArray) : Bool := decide (34 ≤ s.size) && decide (bt s 32 = 45) && nameB (s.extract 33 s.size) && (dec (s.extract 0 32).data.toList).isSome
theorem dec_length {s l : List UInt8} (h : dec s = some l) : l.length = s.length * 5 / 8 := by
  unfold dec at h
  split at h
  · cases hn : num s with
    | none => simp [hn] at h
    | some x =>
      simp only [hn] at h
      split at h
      · injection h with h
        rw [← h, bytes_length]
      · cases h
  · cases h
theorem pathB_len {s : ByteArray} (h : pathB s = true) : (decL (s.extract 0 32)).length = 20 := by
  unfold pathB at h
  simp only [Bool.and_eq_true, decide_eq_true_eq, Option.isSome_iff_exists] at h
  obtain ⟨⟨⟨h1, h2⟩, h3⟩, l, h4⟩ := h
  rw [decL, h4]
  have := dec_length h4
  have e : (s.extract 0 32).data.toList.length = 32 := by
    have : (s.extract 0 32).data.toList.length = (s.extract 0 32).size := by rw [Array.length_toList]; rfl
    rw [this, head_size s (by omega)]
  rw [e] at this
  exact this

theorem parse_bad (s : ByteArray) (w : World) (hs : s.size ≤ 140737488351232) (h : pathB s = false) :
    Calls Try.prog 12 #[.string s] w fun e w' => e = .returned (.tuple #[.agg zc, .string ⟨#[]⟩, .int .i64 4]) ∧ Below w.heap.size w w' := by
  by_cases h1 : s.size < 34
  · exact parse_short s w h1
  by_cases h2 : bt s 32 = 45
  · by_cases h3 : nameB (s.extract 33 s.size) = true
    · refine parse_none s w h1 hs h2 h3 ?_
      have : (dec (s.extract 0 32).data.toList).isSome = false := by
        unfold pathB at h
        rw [decide_eq_true (show 34 ≤ s.size by omega), decide_eq_true h2, h3] at h
        simpa using h
      rw [decE, this]
      rfl
    · exact parse_name s w h1 hs h2 (by simpa using h3)
  · exact parse_dash s w h1 h2
theorem parse_good (s : ByteArray) (w : World) (hs : s.size ≤ 140737488351232) (h : pathB s = true) :
    Calls Try.prog 12 #[.string s] w fun e w' => e = .returned (.tuple #[.agg (Lib.byteCells (decL (s.extract 0 32))).toArray, .string (s.extract 33 s.size), .int .i64 0]) ∧ Below w.heap.size w w' := by
  have hl := pathB_len h
  unfold pathB at h
  simp only [Bool.and_eq_true, decide_eq_true_eq] at h
  obtain ⟨⟨⟨h1, h2⟩, h3⟩, h4⟩ := h
  exact parse_some s w (by omega) hs h2 h3 (by rw [decE, h4]; rfl) _ rfl hl

theorem is_any (s : ByteArray) (w : World) (hs : s.size ≤ 140737488351232) :
    Calls Try.prog 14 #[.string s] w fun e w' => e = .returned (.bool (pathB s)) ∧ Below w.heap.size w w' := by
  cases hp : pathB s
  · go_enter Try.func14, Try.ntmps14
    go_wp2_with fail
    refine (parse_bad s w hs hp).mono ?_
    rintro e w1 ⟨rfl, hb⟩
    go_wp2_with (refine wpList_store_whole rfl 24 (.tmp 3) _ rfl w1.heap.size zc zc 24 rfl rfl (alloc_at w1 (.cells zc 24)) rfl info24z zc_one ?_)
    intro W hb4 hA
    have hB3 := hA.below (hb.alloc hb.size _) hb.size
    go_wp2
    go_ret
    exact ⟨rfl, hB3⟩
  · have hl := pathB_len hp
    go_enter Try.func14, Try.ntmps14
    go_wp2_with fail
    refine (parse_good s w hs hp).mono ?_
    rintro e w1 ⟨rfl, hb⟩
    have hi : (Try.prog.info? 24).map (·.size) = some (Lib.byteCells (decL (s.extract 0 32))).toArray.size := by rw [info24, arr_size, hl]
    have hz : zc.size = (Lib.byteCells (decL (s.extract 0 32))).toArray.size := by rw [arr_size, hl]; rfl
    have ho := one_arr (decL (s.extract 0 32))
    generalize (Lib.byteCells (decL (s.extract 0 32))).toArray = cs at *
    go_wp2_with (refine wpList_store_whole rfl 24 (.tmp 3) _ rfl w1.heap.size cs zc 24 rfl rfl (alloc_at w1 (.cells zc 24)) hz hi ho ?_)
    intro W hb4 hA
    have hB3 := hA.below (hb.alloc hb.size _) hb.size
    go_wp2
    go_ret
    exact ⟨rfl, hB3⟩

/-! A path's parts. -/
theorem path_head (d : List UInt8) (s : ByteArray) (hd : d.length = 20) : (⟨(pathL d s).toArray⟩ : ByteArray).extract 0 32 = ⟨(enc d).toArray⟩ := by
  have hel : (enc d).length = 32 := by rw [enc_length, hd]; decide
  apply ByteArray.ext
  apply Array.toList_inj.1
  simp [pathL, ByteArray.data_extract, List.extract_eq_take_drop, hel]
theorem path_tail (d : List UInt8) (s : ByteArray) (hd : d.length = 20) : (⟨(pathL d s).toArray⟩ : ByteArray).extract 33 (⟨(pathL d s).toArray⟩ : ByteArray).size = s := by
  have hel : (enc d).length = 32 := by rw [enc_length, hd]; decide
  apply ByteArray.ext
  apply Array.toList_inj.1
  have : (⟨(pathL d s).toArray⟩ : ByteArray).size = 33 + s.data.toList.length := by
    show (pathL d s).toArray.size = _
    simp [pathL, hel]; omega
  rw [this]
  have e1 : List.drop 33 (enc d) = [] := List.drop_eq_nil_of_le (by omega)
  simp [pathL, ByteArray.data_extract, List.extract_eq_take_drop, hel, List.drop_append, e1]
  exact List.take_of_length_le (by rw [Array.length_toList]; exact Nat.le_refl _)
theorem path_size (d : List UInt8) (s : ByteArray) (hd : d.length = 20) : (⟨(pathL d s).toArray⟩ : ByteArray).size = 33 + s.size := by
  have hel : (enc d).length = 32 := by rw [enc_length, hd]; decide
  show (pathL d s).toArray.size = _
  have : s.size = s.data.toList.length := by rw [Array.length_toList]; rfl
  rw [this]
  simp [pathL, hel]; omega
theorem path_dash (d : List UInt8) (s : ByteArray) (hd : d.length = 20) : bt (⟨(pathL d s).toArray⟩ : ByteArray) 32 = 45 := by
  have hel : (enc d).length = 32 := by rw [enc_length, hd]; decide
  have hz := path_size d s hd
  have : (32 : Int).toNat < (⟨(pathL d s).toArray⟩ : ByteArray).size := by rw [hz]; show 32 < _; omega
  rw [bt, dif_pos this]
  have e : (⟨(pathL d s).toArray⟩ : ByteArray)[(32 : Int).toNat]'this = 45 := by
    show (pathL d s).toArray[32]'_ = 45
    simp [pathL, List.getElem_append, hel]
  rw [e]
  rfl
theorem pathB_path (d : List UInt8) (s : ByteArray) (hd : d.length = 20) (hn : nameB s = true) : pathB ⟨(pathL d s).toArray⟩ = true := by
  have h1 := (nameB_size hn).1
  rw [pathB, path_head d s hd, path_tail d s hd, path_dash d s hd, path_size d s hd, hn]
  simp [dec_enc]
  omega
theorem decL_path (d : List UInt8) (s : ByteArray) (hd : d.length = 20) : decL ((⟨(pathL d s).toArray⟩ : ByteArray).extract 0 32) = d := by
  rw [path_head d s hd, decL]
  simp [dec_enc]
end Go.Proofs.Ytigeljeoodhcoaa
