/-
  Plain: what a text of signs stands for.
-/
import Derived.Test.YtgbknccnigfniaaPartsPlain
set_option linter.unusedVariables false
set_option linter.unusedSimpArgs false
namespace Go.Proofs.Ytgbknccnigfniaa
open Go.RowKit Go.Proofs.YtgbknccnigfniaaW.PrintWords

/-- The number of a sign, if it is one. -/
def six (c : UInt8) : Option Nat := signs.data.toList.idxOf? c
theorem six_fin : ∀ c : Fin 256, (match six (UInt8.ofNat c.1) with | some v => decide (v < 32) && decide (sgn v = UInt8.ofNat c.1) | none => true) = true := by decide +kernel
theorem six_some {c : UInt8} {v : Nat} (h : six c = some v) : v < 32 ∧ sgn v = c := by
  have := six_fin ⟨c.toNat, c.toNat_lt⟩
  simp only [UInt8.ofNat_toNat, h] at this
  simpa using this
theorem six_sgn (v : Nat) (h : v < 32) : six (sgn v) = some v := by
  have : ∀ v : Fin 32, six (sgn v.1) = some v.1 := by decide +kernel
  exact this ⟨v, h⟩
theorem six_none {c : UInt8} (h : six c = none) (v : Nat) (hv : v < 32) : sgn v ≠ c := by
  intro e
  rw [← e, six_sgn v hv] at h
  cases h

/-- What the last signs stand for: the text is given the last sign first. -/
def low : List UInt8 → Option Nat
  | [] => some 0
  | c :: t => match six c, low t with
    | some v, some x => some (v + 32 * x)
    | _, _ => none
/-- What a text stands for, the highest sign first. -/
def num (s : List UInt8) : Option Nat := low s.reverse

theorem low_lt : ∀ {t : List UInt8} {x : Nat}, low t = some x → x < 32 ^ t.length
  | [], x, h => by simp [low] at h; subst h; simp
  | c :: t, x, h => by
    rw [low] at h
    cases hc : six c with
    | none => simp [hc] at h
    | some v =>
      cases ht : low t with
      | none => simp [hc, ht] at h
      | some y =>
        simp [hc, ht] at h
        have := low_lt ht
        have := (six_some hc).1
        rw [List.length_cons, Nat.pow_succ]
        omega
theorem low_append (a b : List UInt8) : low (a ++ b) = match low a, low b with
    | some x, some y => some (x + 32 ^ a.length * y)
    | _, _ => none := by
  induction a with
  | nil => cases h : low b <;> simp [low, h]
  | cons c a ih =>
    rw [List.cons_append, low, ih, low]
    cases six c <;> cases low a <;> cases low b <;> simp
    rw [Nat.pow_succ, Nat.mul_add, Nat.mul_comm (32 ^ a.length) 32, Nat.mul_assoc]; omega
theorem low_snoc (a : List UInt8) (c : UInt8) : low (a ++ [c]) = match low a, six c with
    | some x, some v => some (x + 32 ^ a.length * v)
    | _, _ => none := by
  rw [low_append]
  have e : low [c] = six c := by rw [low]; cases six c <;> simp [low]
  rw [e]

/-- signs of what signs stand for. -/
theorem down_num : ∀ {s : List UInt8} {x : Nat}, num s = some x → down x s.length = s
  | [], x, _ => rfl
  | c :: t, x, h => by
    unfold num at h
    rw [List.reverse_cons, low_snoc] at h
    cases ht : low t.reverse with
    | none => simp [ht] at h
    | some y =>
      cases hc : six c with
      | none => simp [ht, hc] at h
      | some v =>
        simp [ht, hc] at h
        have hy := low_lt ht
        rw [List.length_reverse] at hy
        obtain ⟨hv, hs⟩ := six_some hc
        have hd := down_num (s := t) (x := y) ht
        rw [List.length_cons, down, ← h]
        have hp := Nat.pow_pos (n := t.length) (show 0 < 32 by decide)
        rw [Nat.add_mul_div_left _ _ hp, Nat.div_eq_of_lt hy, Nat.zero_add, hs]
        congr 1
        rw [← down_mod (y + _) t.length _ (Nat.le_refl _), Nat.add_mul_mod_self_left, Nat.mod_eq_of_lt hy, hd]
theorem num_down (v k : Nat) : num (down v k) = some (v % 32 ^ k) := by
  induction k with
  | zero => simp [num, down, low, Nat.mod_one]
  | succ k ih =>
    unfold num at ih ⊢
    rw [down, List.reverse_cons, low_snoc, ih]
    rw [← sgn_mod, six_sgn _ (Nat.mod_lt _ (by decide))]
    simp only [List.length_reverse, down_length]
    rw [Nat.pow_succ, Nat.mod_mul]

/-- so many bytes of a number. -/
def bytes (v : Nat) : Nat → List UInt8
  | 0 => []
  | n + 1 => UInt8.ofNat (v % 256) :: bytes (v / 256) n
theorem bytes_length (v n : Nat) : (bytes v n).length = n := by
  induction n generalizing v with
  | zero => rfl
  | succ n ih => simp [bytes, ih]
theorem val_bytes (v n : Nat) : val (bytes v n) = v % 256 ^ n := by
  induction n generalizing v with
  | zero => simp [bytes, val, Nat.mod_one]
  | succ n ih =>
    have e : 256 ^ (n + 1) = 256 * 256 ^ n := by rw [Nat.pow_succ, Nat.mul_comm]
    rw [bytes, val, ih, UInt8.toNat_ofNat', e, Nat.mod_mul]
    omega
theorem bytes_val (l : List UInt8) : bytes (val l) l.length = l := by
  induction l with
  | nil => rfl
  | cons b l ih =>
    have := b.toNat_lt
    rw [List.length_cons, bytes, val]
    have e1 : (b.toNat + 256 * val l) % 256 = b.toNat := by omega
    have e2 : (b.toNat + 256 * val l) / 256 = val l := by omega
    rw [e1, e2, ih, UInt8.ofNat_toNat]

/-- The bytes that a text stands for, if it stands for any. -/
def dec (s : List UInt8) : Option (List UInt8) :=
  if lens (s.length * 5 / 8) = s.length then
    match num s with
    | some x => if x < 256 ^ (s.length * 5 / 8) then some (bytes x (s.length * 5 / 8)) else none
    | none => none
  else none

theorem dec_enc (l : List UInt8) : dec (enc l) = some l := by
  have e1 : (enc l).length * 5 / 8 = l.length := by rw [enc_length]; unfold lens; omega
  unfold dec
  rw [e1, enc_length, if_pos rfl]
  have e2 : num (enc l) = some (val l) := by
    unfold enc
    rw [num_down, Nat.mod_eq_of_lt (val_lt_lens l)]
  rw [e2]
  simp only
  rw [if_pos (val_lt l), bytes_val]
theorem enc_dec {s l : List UInt8} (h : dec s = some l) : enc l = s := by
  unfold dec at h
  split at h
  · rename_i hl
    cases hn : num s with
    | none => simp [hn] at h
    | some x =>
      simp only [hn] at h
      split at h
      · rename_i hx
        injection h with h
        subst h
        unfold enc
        rw [bytes_length, val_bytes, Nat.mod_eq_of_lt hx, hl, down_num hn]
      · cases h
  · cases h

theorem val_set (l : List UInt8) (i : Nat) (h : i < l.length) (b : UInt8) : val (l.set i b) + (l.getD i 0).toNat * 256 ^ i = val l + b.toNat * 256 ^ i := by
  induction l generalizing i with
  | nil => simp at h
  | cons a l ih =>
    cases i with
    | zero => simp [val]; omega
    | succ i =>
      simp at h
      have := ih i h
      simp only [List.set_cons_succ, val, List.getD_cons_succ]
      rw [Nat.pow_succ, ← Nat.mul_assoc, ← Nat.mul_assoc]
      omega
theorem get_val (l : List UInt8) (i : Nat) (h : i < l.length) : (l.getD i 0).toNat = val l / 256 ^ i % 256 := by
  have ed : l.drop i = l.getD i 0 :: l.drop (i + 1) := by
    rw [List.drop_eq_getElem_cons h, List.getD_eq_getElem?_getD, List.getElem?_eq_getElem h]; rfl
  have := (l.getD i 0).toNat_lt
  rw [val_div, ed, val]; omega

/-- One sign is laid over what is there: the byte that it begins in, and the next one. -/
theorem lay (l : List UInt8) (v k i j : Nat) (hk : 5 * k = 8 * i + j) (hj : j < 8) (hi : i < l.length) (hl : val l < 32 ^ k) (hv : v < 32) (b c : UInt8)
    (hb : b.toNat = (l.getD i 0).toNat ||| (v * 2 ^ j % 256)) (hc : i + 1 < l.length → c.toNat = (l.getD (i + 1) 0).toNat ||| (v / 2 ^ (8 - j))) (hend : ¬ i + 1 < l.length → v * 2 ^ j < 256) :
    val (if i + 1 < l.length then (l.set i b).set (i + 1) c else l.set i b) = val l + 32 ^ k * v ∧ (i + 1 < l.length → (l.getD (i + 1) 0).toNat = 0) := by
  have e32 : 32 ^ k = 256 ^ i * 2 ^ j := by
    rw [show (32 : Nat) = 2 ^ 5 from rfl, show (256 : Nat) = 2 ^ 8 from rfl, ← Nat.pow_mul, ← Nat.pow_mul, ← Nat.pow_add, hk]
  have hp := Nat.pow_pos (n := i) (show 0 < 256 by decide)
  have hai : val l / 256 ^ i < 2 ^ j := by rw [Nat.div_lt_iff_lt_mul hp, Nat.mul_comm, ← e32]; exact hl
  have h2j : 2 ^ j ≤ 128 := by
    have := Nat.pow_le_pow_right (n := 2) (by decide) (show j ≤ 7 by omega)
    omega
  have ga : (l.getD i 0).toNat = val l / 256 ^ i := by rw [get_val l i hi, Nat.mod_eq_of_lt (by omega)]
  have gb : i + 1 < l.length → (l.getD (i + 1) 0).toNat = 0 := by
    intro h
    rw [get_val l (i + 1) h, Nat.pow_succ, ← Nat.div_div_eq_div_mul, Nat.div_eq_of_lt (by omega : val l / 256 ^ i < 256)]
  refine ⟨?_, gb⟩
  obtain ⟨a, ha⟩ : ∃ a, val l / 256 ^ i = a := ⟨_, rfl⟩
  rw [ha] at hai ga
  have hor : a ||| (v * 2 ^ j % 256) = v * 2 ^ j % 256 + a := by
    have hm : v * 2 ^ j % 256 = 2 ^ j * (v % 2 ^ (8 - j)) := by
      have e8 : (256 : Nat) = 2 ^ j * 2 ^ (8 - j) := by rw [← Nat.pow_add, show j + (8 - j) = 8 by omega]
      conv => lhs; rw [e8, Nat.mul_comm v, Nat.mul_mod_mul_left]
    rw [hm, Nat.or_comm, ← Nat.two_pow_add_eq_or_of_lt hai]
  have hb' : b.toNat = v * 2 ^ j % 256 + a := by rw [hb, ga, hor]
  have s1 := val_set l i hi b
  rw [hb', ga] at s1
  have s1' : val (l.set i b) = val l + (v * 2 ^ j % 256) * 256 ^ i := by
    rw [Nat.add_mul] at s1; omega
  by_cases h : i + 1 < l.length
  · rw [if_pos h]
    have hc' : c.toNat = v * 2 ^ j / 256 := by
      rw [hc h, gb h, Nat.zero_or]
      have e8 : (256 : Nat) = 2 ^ j * 2 ^ (8 - j) := by rw [← Nat.pow_add, show j + (8 - j) = 8 by omega]
      rw [e8, Nat.mul_comm v, Nat.mul_div_mul_left _ _ (Nat.two_pow_pos j)]
    have s2 := val_set (l.set i b) (i + 1) (by simpa using h) c
    have g2 : ((l.set i b).getD (i + 1) 0).toNat = 0 := by
      rw [List.getD_eq_getElem?_getD, List.getElem?_set_ne (by omega), ← List.getD_eq_getElem?_getD]; exact gb h
    rw [g2, Nat.zero_mul, Nat.add_zero, s1', hc', Nat.pow_succ] at s2
    rw [s2, e32, Nat.add_assoc]
    congr 1
    obtain ⟨m, hm⟩ : ∃ m, 256 ^ i = m := ⟨_, rfl⟩
    rw [hm]
    have : v * 2 ^ j = v * 2 ^ j % 256 + 256 * (v * 2 ^ j / 256) := by omega
    calc v * 2 ^ j % 256 * m + v * 2 ^ j / 256 * (m * 256) = (v * 2 ^ j % 256 + 256 * (v * 2 ^ j / 256)) * m := by rw [Nat.add_mul, Nat.mul_comm m 256, ← Nat.mul_assoc, Nat.mul_comm (v * 2 ^ j / 256) 256]
      _ = v * 2 ^ j * m := by rw [← this]
      _ = m * 2 ^ j * v := by rw [Nat.mul_comm m, Nat.mul_assoc, Nat.mul_assoc, Nat.mul_comm v, Nat.mul_assoc]
  · rw [if_neg h, s1', e32, Nat.mod_eq_of_lt (hend h)]
    congr 1
    ac_rfl

end Go.Proofs.Ytgbknccnigfniaa
