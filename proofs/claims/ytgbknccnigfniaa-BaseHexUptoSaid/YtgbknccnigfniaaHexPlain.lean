/-
  Plain: digits and back: both readers of digits answer by one plain function; it takes back what Hex writes.
-/
import Derived.Test.YtgbknccnigfniaaHex
import Derived.Test.YtgbknccnigfniaaPBaseHexx1
set_option linter.unusedVariables false
set_option linter.unusedSimpArgs false
namespace Go.Proofs.Ytgbknccnigfniaa
open Go.RowKit Go.Proofs.YtgbknccnigfniaaW.PrintWords Go.Proofs.YtgbknccnigfniaaW.PrintLast Go.Proofs.YtgbknccnigfniaaW.PrintMore

/-- The number of a digit; below 0: it is none. -/
def hv (c : Int) : Int := if 48 ≤ c ∧ c ≤ 57 then c - 48 else if 97 ≤ c ∧ c ≤ 102 then c - 97 + 10 else -1
def rh : List UInt8 → Option (List UInt8)
  | [] => some []
  | [_] => none
  | a :: b :: t => if hv a.toNat < 0 then none else if hv b.toNat < 0 then none else (rh t).map ((hv a.toNat * 16 + hv b.toNat).toNat.toUInt8 :: ·)
def rhAns (acc : List UInt8) : Option (List UInt8) → List Int × Int
  | some t => (ints (acc ++ t), 0)
  | none => ([], 3)

theorem hv_range (c : Int) : -1 ≤ hv c ∧ hv c ≤ 15 := by unfold hv; split; omega; split <;> omega
theorem bt_list (s : ByteArray) (i : Nat) : bt s (i : Int) = ((s.data.toList.getD i 0).toNat : Int) := by
  unfold bt
  simp only [Int.toNat_natCast, List.getD_eq_getElem?_getD]
  split
  · rename_i h
    rw [List.getElem?_eq_getElem (by rw [Array.length_toList]; exact h)]
    rfl
  · rename_i h
    rw [List.getElem?_eq_none (by rw [Array.length_toList]; exact Nat.le_of_not_lt h)]
    rfl

theorem digit_f (k : Nat) (hk : 1 ≤ k) (c : Int) (h0 : 0 ≤ c) (h1 : c ≤ 255) : PBaseHex.base_digit.f k c = some (hv c) := by
  obtain ⟨k, rfl⟩ : ∃ m, k = m + 1 := ⟨k - 1, by omega⟩
  unfold PBaseHex.base_digit.f hv
  simp only [PBaseHex.base_digit.j0]
  by_cases a : 48 ≤ c <;> by_cases b : c ≤ 57 <;> by_cases d : 97 ≤ c <;> by_cases e : c ≤ 102 <;> simp [a, b, d, e] <;> omega

theorem byte_or (a b : Int) (ha0 : 0 ≤ a) (ha : a ≤ 15) (hb0 : 0 ≤ b) (hb : b ≤ 15) : (Go.bits .or .i64 (wrap64 (a * 16)) b) % 256 = (((a * 16 + b).toNat.toUInt8).toNat : Int) := by
  rw [wrap64_id _ (by omega) (by omega), bits_join .i64 32 (by decide) (fun n h0 h1 => by rw [IntKind.wrap_i64]; omega) 4 _ _ (by omega) (by omega) (by omega) hb0 (by omega) (by omega)]
  show _ = ((UInt8.ofNat (a * 16 + b).toNat).toNat : Int)
  rw [UInt8.toNat_ofNat']
  omega

theorem ints_snoc (acc : List UInt8) (x : UInt8) : ints acc ++ [(x.toNat : Int)] = ints (acc ++ [x]) := by simp [ints]

theorem drop2 (l : List UInt8) (i : Nat) (h : i + 1 < l.length) : l.drop i = l.getD i 0 :: l.getD (i + 1) 0 :: l.drop (i + 2) := by
  rw [List.drop_eq_getElem_cons (by omega), List.drop_eq_getElem_cons h, List.getD_eq_getElem?_getD, List.getD_eq_getElem?_getD, List.getElem?_eq_getElem h, List.getElem?_eq_getElem (show i < l.length by omega)]
  rfl

theorem readHex_loop (s : ByteArray) (hs : s.size ≤ 140737488351232) (hev : s.size % 2 = 0) (d : Nat) : ∀ (k i : Nat) (acc : List UInt8), s.size = i + 2 * d → acc.length ≤ i → d + 1 < k →
    PBaseHex.base_ReadHex.l0 k s (ints acc) (i : Int) = some (rhAns acc (rh (s.data.toList.drop i))) := by
  have hsl : s.data.toList.length = s.size := by rw [Array.length_toList]; rfl
  induction d with
  | zero =>
    intro k i acc h0 h1 h2
    obtain ⟨k, rfl⟩ : ∃ m, k = m + 1 := ⟨k - 1, by omega⟩
    simp only [PBaseHex.base_ReadHex.l0]
    rw [if_neg (by omega), List.drop_eq_nil_of_le (by omega)]
    simp [rh, rhAns]
  | succ d ih =>
    intro k i acc h0 h1 h2
    obtain ⟨k, rfl⟩ : ∃ m, k = m + 1 := ⟨k - 1, by omega⟩
    simp only [PBaseHex.base_ReadHex.l0]
    have e1 : wrap64 ((i : Int) + 1) = ((i + 1 : Nat) : Int) := by rw [wrap64_id _ (by omega) (by omega)]; omega
    have e2 : wrap64 ((i : Int) + 2) = ((i + 2 : Nat) : Int) := by rw [wrap64_id _ (by omega) (by omega)]; omega
    have ba := (s.data.toList.getD i 0).toNat_lt
    have bb := (s.data.toList.getD (i + 1) 0).toNat_lt
    rw [if_pos (by omega), if_pos (by omega), bt_list, digit_f k (by omega) _ (by omega) (by omega), Option.bind_some, e1, if_pos (by omega), if_pos (by omega), bt_list, digit_f k (by omega) _ (by omega) (by omega), Option.bind_some]
    rw [drop2 _ i (by omega), rh]
    have ra := hv_range ((s.data.toList.getD i 0).toNat : Int)
    have rb := hv_range ((s.data.toList.getD (i + 1) 0).toNat : Int)
    by_cases ca : hv ((s.data.toList.getD i 0).toNat : Int) < 0
    · rw [if_pos ca, if_pos ca]; rfl
    · rw [if_neg ca, if_neg ca]
      by_cases cb : hv ((s.data.toList.getD (i + 1) 0).toNat : Int) < 0
      · rw [if_pos cb, if_pos cb]; rfl
      · rw [if_neg cb, if_neg cb, if_pos (by rw [ints_length]; omega), byte_or _ _ (by omega) (by omega) (by omega) (by omega), ints_snoc, e2]
        rw [ih k (i + 2) _ (by omega) (by simp; omega) (by omega)]
        cases rh (List.drop (i + 2) s.data.toList) <;> simp [rhAns]

theorem rh_odd : ∀ (l : List UInt8), l.length % 2 = 1 → rh l = none
  | [], h => by simp at h
  | [_], _ => rfl
  | a :: b :: t, h => by
    rw [rh, rh_odd t (by simp at h; omega)]
    simp

theorem readHex_f (s : ByteArray) (hs : s.size ≤ 140737488351232) : ∃ k, PBaseHex.base_ReadHex.f k s = some (rhAns [] (rh s.data.toList)) := by
  have hsl : s.data.toList.length = s.size := by rw [Array.length_toList]; rfl
  by_cases h : s.size % 2 = 1
  · refine ⟨1, ?_⟩
    unfold PBaseHex.base_ReadHex.f
    rw [if_pos (by omega), rh_odd _ (by omega)]
    rfl
  · refine ⟨s.size / 2 + 2, ?_⟩
    unfold PBaseHex.base_ReadHex.f
    rw [if_neg (by omega)]
    exact readHex_loop s hs (by omega) (s.size / 2) _ 0 [] (by omega) (by simp) (by omega)

/-- one sign more of a pair. -/
theorem ref_sign (s : ByteArray) (hs : s.size ≤ 140737488351232) (k i j : Nat) (acc : List Int) (v : Int) (hj : j < i + 2) (hjs : j < s.size) (hi : i ≤ s.size) (h0 : 0 ≤ v) (h1 : v ≤ 255) :
    PBaseHex.staddleref02_ReadHex.l1 (k + 2) s acc (i : Int) v (j : Int) = if hv (bt s (j : Int)) < 0 then some ([], 3) else PBaseHex.staddleref02_ReadHex.l1 k s acc (i : Int) (v * 16 + hv (bt s (j : Int))) ((j + 1 : Nat) : Int) := by
  have hb := bt_range s (j : Int)
  have e1 : wrap64 ((j : Int) + 1) = ((j + 1 : Nat) : Int) := by rw [wrap64_id _ (by omega) (by omega)]; omega
  have e2 : wrap64 ((i : Int) + 2) = ((i + 2 : Nat) : Int) := by rw [wrap64_id _ (by omega) (by omega)]; omega
  simp only [PBaseHex.staddleref02_ReadHex.l1, PBaseHex.staddleref02_ReadHex.j2]
  rw [e1, e2, if_pos (by omega), if_pos (by omega), if_pos (by omega)]
  obtain ⟨c, hc⟩ : ∃ c, bt s (j : Int) = c := ⟨_, rfl⟩
  rw [hc] at hb ⊢
  rw [wrap64_id (v * 16) (by omega) (by omega), wrap64_id c (by omega) (by omega), wrap64_id (v * 16 + c) (by omega) (by omega), wrap64_id (v * 16 + c - 48) (by omega) (by omega), wrap64_id (v * 16 + c - 97) (by omega) (by omega), wrap64_id (v * 16 + c - 97 + 10) (by omega) (by omega)]
  by_cases a : 48 ≤ c
  · by_cases b : c ≤ 57
    · rw [show hv c = c - 48 by simp [hv, a, b], if_pos a, if_pos (by simp [b]), if_neg (by omega)]
      congr 1; omega
    · rw [if_pos a, if_neg (by simp [b])]
      by_cases d : 97 ≤ c
      · by_cases e : c ≤ 102
        · rw [show hv c = c - 97 + 10 by simp [hv, b, d, e], if_pos d, if_pos e, if_neg (by omega)]
          congr 1; omega
        · rw [show hv c = -1 by simp [hv, b, e], if_pos d, if_neg e, if_pos (by omega)]
      · rw [show hv c = -1 by simp [hv, b, d], if_neg d, if_pos (by omega)]
  · rw [show hv c = -1 by simp [hv, a]; omega, if_neg a, if_neg (by simp), if_neg (by omega), if_pos (by omega)]

theorem refReadHex_loop (s : ByteArray) (hs : s.size ≤ 140737488351232) (d : Nat) : ∀ (k i : Nat) (acc : List UInt8), i ≤ s.size → s.size / 2 = i / 2 + d → i % 2 = 0 → acc.length ≤ i → 6 * d + 1 < k →
    PBaseHex.staddleref02_ReadHex.l0 k s (ints acc) (i : Int) = some (rhAns acc (rh (s.data.toList.drop i))) := by
  have hsl : s.data.toList.length = s.size := by rw [Array.length_toList]; rfl
  induction d with
  | zero =>
    intro k i acc hi h0 he h1 h2
    obtain ⟨k, rfl⟩ : ∃ m, k = m + 1 := ⟨k - 1, by omega⟩
    simp only [PBaseHex.staddleref02_ReadHex.l0]
    have e1 : wrap64 ((i : Int) + 1) = ((i + 1 : Nat) : Int) := by rw [wrap64_id _ (by omega) (by omega)]; omega
    rw [e1, if_neg (by omega)]
    by_cases ho : s.size % 2 = 1
    · rw [if_pos (by omega), rh_odd _ (by rw [List.length_drop, hsl]; omega)]; rfl
    · rw [if_neg (by omega), List.drop_eq_nil_of_le (by omega)]; simp [rh, rhAns]
  | succ d ih =>
    intro k i acc hi h0 he h1 h2
    obtain ⟨k, rfl⟩ : ∃ m, k = m + 6 := ⟨k - 6, by omega⟩
    have e1 : wrap64 ((i : Int) + 1) = ((i + 1 : Nat) : Int) := by rw [wrap64_id _ (by omega) (by omega)]; omega
    have e2 : wrap64 ((i : Int) + 2) = ((i + 2 : Nat) : Int) := by rw [wrap64_id _ (by omega) (by omega)]; omega
    show (if _ < _ then PBaseHex.staddleref02_ReadHex.l1 (k + 3 + 2) _ _ _ _ _ else _) = _
    rw [e1, if_pos (by omega)]
    have r0 := ref_sign s hs (k + 3) i i (ints acc) 0 (by omega) (by omega) hi (by omega) (by omega)
    rw [r0]
    have ra := hv_range (bt s (i : Int))
    rw [drop2 _ i (by omega), rh, ← bt_list, ← bt_list]
    by_cases ca : hv (bt s (i : Int)) < 0
    · rw [if_pos ca, if_pos ca]; rfl
    · rw [if_neg ca, if_neg ca]
      rw [ref_sign s hs (k + 1) i (i + 1) (ints acc) _ (by omega) (by omega) hi (by omega) (by omega)]
      have rb := hv_range (bt s ((i + 1 : Nat) : Int))
      by_cases cb : hv (bt s ((i + 1 : Nat) : Int)) < 0
      · rw [if_pos cb, if_pos cb]; rfl
      · rw [if_neg cb, if_neg cb]
        simp only [PBaseHex.staddleref02_ReadHex.l1]
        rw [e2, if_neg (by omega), if_pos (by rw [ints_length]; omega)]
        have eb : ((0 * 16 + hv (bt s (i : Int))) * 16 + hv (bt s ((i + 1 : Nat) : Int))) % 256 = (((hv (bt s (i : Int)) * 16 + hv (bt s ((i + 1 : Nat) : Int))).toNat.toUInt8).toNat : Int) := by
          show _ = ((UInt8.ofNat (hv (bt s (i : Int)) * 16 + hv (bt s ((i + 1 : Nat) : Int))).toNat).toNat : Int)
          rw [UInt8.toNat_ofNat']; omega
        rw [eb, ints_snoc, ih k (i + 2) _ (by omega) (by omega) (by omega) (by simp; omega) (by omega)]
        cases rh (List.drop (i + 2) s.data.toList) <;> simp [rhAns]

theorem refReadHex_f (s : ByteArray) (hs : s.size ≤ 140737488351232) : ∃ k, PBaseHex.staddleref02_ReadHex.f k s = some (rhAns [] (rh s.data.toList)) := by
  refine ⟨6 * (s.size / 2) + 2, ?_⟩
  have := refReadHex_loop s hs (s.size / 2) (6 * (s.size / 2) + 2) 0 [] (by omega) (by omega) (by omega) (by simp) (by omega)
  exact this

/-- Back from digits. -/
theorem dig_hv : ∀ b : UInt8, hv ((dig (b.toNat / 16)).toNat : Int) = b.toNat / 16 ∧ hv ((dig (b.toNat % 16)).toNat : Int) = ((b.toNat % 16 : Nat) : Int) := by
  have h : ∀ n : Fin 16, hv ((dig n.1).toNat : Int) = (n.1 : Int) := by decide +kernel
  intro b
  have := b.toNat_lt
  exact ⟨h ⟨b.toNat / 16, by omega⟩, h ⟨b.toNat % 16, by omega⟩⟩
theorem rh_hexs (l : List UInt8) : rh (hexs l) = some l := by
  induction l with
  | nil => rfl
  | cons b l ih =>
    obtain ⟨h1, h2⟩ := dig_hv b
    have := b.toNat_lt
    rw [hexs, rh, h1, h2, if_neg (by omega), if_neg (by omega), ih]
    simp only [Option.map_some]
    congr 2
    have e : ((b.toNat : Int) / 16 * 16 + ((b.toNat % 16 : Nat) : Int)).toNat = b.toNat := by omega
    rw [e]
    exact UInt8.ofNat_toNat

end Go.Proofs.Ytgbknccnigfniaa
