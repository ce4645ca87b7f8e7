/-
  Plain facts on base 32: bytes as one number, the signs of it, and back. No program in sight.
-/
import Derived.Test.YtigeljeoodhcoaaWWords
namespace Go.Proofs.Ytigeljeoodhcoaa
open Go.RowKit Go.Proofs.YtigeljeoodhcoaaW.PrintWords
set_option linter.unusedVariables false
set_option linter.unusedSimpArgs false

/-- Bytes as whole numbers. -/
def ints (l : List UInt8) : List Int := l.map fun b => (b.toNat : Int)
theorem ints_length (l : List UInt8) : (ints l).length = l.length := by simp [ints]
/-- Bytes as one number, the lowest first. -/
def val : List UInt8 → Nat
  | [] => 0
  | b :: l => b.toNat + 256 * val l
def signs : ByteArray := ⟨#[48, 49, 50, 51, 52, 53, 54, 55, 56, 57, 97, 98, 99, 100, 102, 103, 104, 105, 106, 107, 108, 109, 110, 112, 113, 114, 115, 118, 119, 120, 121, 122]⟩
def sgn (n : Nat) : UInt8 := signs.data.getD (n % 32) 0
/-- The signs of v, the k lowest of them, the highest first. -/
def down (v : Nat) : Nat → List UInt8
  | 0 => []
  | k + 1 => sgn (v / 32 ^ k) :: down v k
/-- How many signs n bytes have. -/
def lens (n : Nat) : Nat := (8 * n + 4) / 5
def enc (l : List UInt8) : List UInt8 := down (val l) (lens l.length)

theorem down_length (v k : Nat) : (down v k).length = k := by
  induction k with
  | zero => rfl
  | succ k ih => simp [down, ih]
theorem enc_length (l : List UInt8) : (enc l).length = lens l.length := down_length _ _

theorem rd_ints (l : List UInt8) (i : Nat) : rd (ints l) (i : Int) = ((l.getD i 0).toNat : Int) := by
  unfold rd ints
  simp only [Int.toNat_natCast, List.getD_eq_getElem?_getD, List.getElem?_map]
  cases l[i]? <;> simp

theorem val_lt (l : List UInt8) : val l < 256 ^ l.length := by
  induction l with
  | nil => simp [val]
  | cons b l ih =>
    have := b.toNat_lt
    simp only [val, List.length_cons, Nat.pow_succ]
    omega
theorem val_div (l : List UInt8) (i : Nat) : val l / 256 ^ i = val (l.drop i) := by
  induction i generalizing l with
  | zero => simp
  | succ i ih =>
    cases l with
    | nil => simp [val]
    | cons b l =>
      have hb := b.toNat_lt
      simp only [val, List.drop_succ_cons, ← ih]
      rw [Nat.pow_succ, Nat.mul_comm (256 ^ i) 256, ← Nat.div_div_eq_div_mul]
      congr 1
      omega

/-- Five bits of two bytes and what is behind them. -/
theorem two_bytes (a b r j : Nat) (ha : a < 256) (_hb : b < 256) (hj : j < 8) :
    ((a / 2 ^ j ||| b * 2 ^ (8 - j)) &&& 31) = (a + 256 * (b + 256 * r)) / 2 ^ j % 32 := by
  have hor : (a / 2 ^ j ||| b * 2 ^ (8 - j)) = b * 2 ^ (8 - j) + a / 2 ^ j := by
    have h1 : a / 2 ^ j < 2 ^ (8 - j) := by
      rw [Nat.div_lt_iff_lt_mul (Nat.two_pow_pos _), ← Nat.pow_add]
      have : 8 - j + j = 8 := by omega
      rw [this]; omega
    rw [Nat.or_comm, Nat.mul_comm, ← Nat.two_pow_add_eq_or_of_lt h1]
  rw [hor, show (31 : Nat) = 2 ^ 5 - 1 from rfl, Nat.and_two_pow_sub_one_eq_mod]
  match j, hj with
  | 0, _ => simp; omega
  | 1, _ => simp; omega
  | 2, _ => simp; omega
  | 3, _ => simp; omega
  | 4, _ => simp; omega
  | 5, _ => simp; omega
  | 6, _ => simp; omega
  | 7, _ => simp; omega
theorem one_byte (a j : Nat) : (a / 2 ^ j &&& 31) = a / 2 ^ j % 32 := by
  rw [show (31 : Nat) = 2 ^ 5 - 1 from rfl, Nat.and_two_pow_sub_one_eq_mod]

theorem val_at (l : List UInt8) (at_ : Nat) : val l / 2 ^ at_ = val (l.drop (at_ / 8)) / 2 ^ (at_ % 8) := by
  rw [← val_div, Nat.div_div_eq_div_mul, show (256 : Nat) = 2 ^ 8 from rfl, ← Nat.pow_mul, ← Nat.pow_add]
  congr 2
  omega

theorem sgn_mod (n : Nat) : sgn (n % 32) = sgn n := by simp [sgn]

theorem wrap64_id (x : Int) (h0 : -9223372036854775808 ≤ x) (h1 : x ≤ 9223372036854775807) : wrap64 x = x := by unfold wrap64; omega



theorem val_snoc (l : List UInt8) (b : UInt8) : val (l ++ [b]) = val l + 256 ^ l.length * b.toNat := by
  induction l with
  | nil => simp [val]
  | cons a l ih => simp only [List.cons_append, val, ih, List.length_cons, Nat.pow_succ, Nat.mul_add]; rw [Nat.mul_comm (256 ^ l.length) 256, Nat.mul_assoc]; omega

/-- one byte more. -/
theorem val_lt_snoc (p q : List UInt8) (a b : UInt8) (h : p.length = q.length) :
    decide (val (p ++ [a]) < val (q ++ [b])) = if a = b then decide (val p < val q) else decide (a.toNat < b.toNat) := by
  rw [val_snoc, val_snoc, ← h]
  have hp := val_lt p
  have hq := val_lt q
  rw [← h] at hq
  by_cases e : a = b
  · subst e; rw [if_pos rfl]; congr 1; simp
  · rw [if_neg e]
    have hab : a.toNat ≠ b.toNat := fun h => e (UInt8.toNat_inj.1 h)
    obtain ⟨m, hm⟩ : ∃ m, 256 ^ p.length = m := ⟨_, rfl⟩
    rw [hm] at hp hq ⊢
    rcases Nat.lt_or_ge a.toNat b.toNat with h1 | h1
    · have : m * (a.toNat + 1) ≤ m * b.toNat := Nat.mul_le_mul (Nat.le_refl _) h1
      rw [Nat.mul_add] at this
      rw [decide_eq_true (by omega), decide_eq_true h1]
    · have h2 : b.toNat + 1 ≤ a.toNat := by omega
      have : m * (b.toNat + 1) ≤ m * a.toNat := Nat.mul_le_mul (Nat.le_refl _) h2
      rw [Nat.mul_add] at this
      rw [decide_eq_false (by omega), decide_eq_false (by omega)]

theorem sgn_lt (a b : Nat) (ha : a < 32) (hb : b < 32) : (sgn a < sgn b ↔ a < b) ∧ (sgn a = sgn b ↔ a = b) := by
  have h : ∀ a : Fin 32, ∀ b : Fin 32, (sgn a.1 < sgn b.1 ↔ a.1 < b.1) ∧ (sgn a.1 = sgn b.1 ↔ a.1 = b.1) := by decide +kernel
  exact h ⟨a, ha⟩ ⟨b, hb⟩

theorem down_less (v w k : Nat) : Op.bytesLess (down v k) (down w k) = decide (v % 32 ^ k < w % 32 ^ k) := by
  induction k with
  | zero => simp [down, Op.bytesLess, Nat.mod_one]
  | succ k ih =>
    simp only [down, Op.bytesLess, ih]
    rw [← sgn_mod (v / 32 ^ k), ← sgn_mod (w / 32 ^ k)]
    obtain ⟨h1, h2⟩ := sgn_lt (v / 32 ^ k % 32) (w / 32 ^ k % 32) (Nat.mod_lt _ (by decide)) (Nat.mod_lt _ (by decide))
    rw [Bool.eq_iff_iff]
    simp only [Bool.or_eq_true, Bool.and_eq_true, decide_eq_true_eq, beq_iff_eq, h1, h2]
    rw [Nat.pow_succ, Nat.mod_mul, Nat.mod_mul]
    have hv := Nat.mod_lt v (Nat.pow_pos (n := k) (show 0 < 32 by decide))
    have hw := Nat.mod_lt w (Nat.pow_pos (n := k) (show 0 < 32 by decide))
    obtain ⟨m, hm⟩ : ∃ m, 32 ^ k = m := ⟨_, rfl⟩
    rw [hm] at hv hw ⊢
    obtain ⟨x, hx⟩ : ∃ x, v / m % 32 = x := ⟨_, rfl⟩
    obtain ⟨y, hy⟩ : ∃ y, w / m % 32 = y := ⟨_, rfl⟩
    rw [hx, hy]
    constructor
    · rintro (h | ⟨h, h'⟩)
      · have : m * (x + 1) ≤ m * y := Nat.mul_le_mul (Nat.le_refl _) h
        rw [Nat.mul_add] at this; omega
      · subst h; omega
    · intro h
      rcases Nat.lt_trichotomy x y with h3 | h3 | h3
      · exact .inl h3
      · subst h3; exact .inr ⟨rfl, by omega⟩
      · have : m * (y + 1) ≤ m * x := Nat.mul_le_mul (Nat.le_refl _) h3
        rw [Nat.mul_add] at this; omega

theorem val_lt_lens (l : List UInt8) : val l < 32 ^ lens l.length := by
  refine Nat.lt_of_lt_of_le (val_lt l) ?_
  rw [show (256 : Nat) = 2 ^ 8 from rfl, show (32 : Nat) = 2 ^ 5 from rfl, ← Nat.pow_mul, ← Nat.pow_mul]
  exact Nat.pow_le_pow_right (by decide) (by unfold lens; omega)

theorem enc_less (p q : List UInt8) (h : p.length = q.length) : Op.bytesLess (enc p) (enc q) = decide (val p < val q) := by
  unfold enc
  rw [← h, down_less, Nat.mod_eq_of_lt (val_lt_lens p), Nat.mod_eq_of_lt (by rw [h]; exact val_lt_lens q)]



theorem val_append (a b : List UInt8) : val (a ++ b) = val a + 256 ^ a.length * val b := by
  induction a with
  | nil => simp [val]
  | cons x a ih => simp only [List.cons_append, val, ih, List.length_cons, Nat.pow_succ, Nat.mul_add]; rw [Nat.mul_comm (256 ^ a.length) 256, Nat.mul_assoc]; omega

theorem down_split (v m j : Nat) : down v (m + j) = down (v / 32 ^ j) m ++ down v j := by
  induction m with
  | zero => simp [down]
  | succ m ih =>
    rw [show m + 1 + j = (m + j) + 1 by omega, down, ih, down, List.cons_append, Nat.div_div_eq_div_mul, ← Nat.pow_add, Nat.add_comm j m]

theorem down_mod (v k : Nat) : ∀ j, j ≤ k → down (v % 32 ^ k) j = down v j := by
  intro j
  induction j with
  | zero => intro _; rfl
  | succ j ih =>
    intro hj
    rw [down, down, ih (by omega)]
    congr 1
    rw [← sgn_mod, ← sgn_mod (v / 32 ^ j)]
    congr 1
    obtain ⟨d, rfl⟩ : ∃ d, k = j + 1 + d := ⟨k - (j + 1), by omega⟩
    have e : 32 ^ (j + 1 + d) = 32 ^ j * (32 * 32 ^ d) := by rw [Nat.pow_add, Nat.pow_succ, Nat.mul_assoc]
    rw [e, Nat.mod_mul_right_div_self, Nat.mod_mul_right_mod]

theorem enc_parts (a b : List UInt8) (h : a.length % 5 = 0) : enc (a ++ b) = enc b ++ enc a := by
  obtain ⟨m, hm⟩ : ∃ m, a.length = 5 * m := ⟨a.length / 5, by omega⟩
  have e1 : lens (a ++ b).length = lens b.length + lens a.length := by rw [List.length_append]; unfold lens; omega
  have e2 : 256 ^ a.length = 32 ^ lens a.length := by
    rw [show (256 : Nat) = 2 ^ 8 from rfl, show (32 : Nat) = 2 ^ 5 from rfl, ← Nat.pow_mul, ← Nat.pow_mul]
    congr 1; unfold lens; omega
  unfold enc
  rw [e1, down_split, val_append, e2]
  have hlt := val_lt_lens a
  have hp := Nat.pow_pos (n := lens a.length) (show 0 < 32 by decide)
  rw [Nat.add_mul_div_left _ _ hp, Nat.div_eq_of_lt hlt, Nat.zero_add]
  congr 1
  rw [← down_mod (val a + _) (lens a.length) _ (Nat.le_refl _), Nat.add_mul_mod_self_left, Nat.mod_eq_of_lt hlt]



/-- The number of a sign, if it is one. -/
def six (c : UInt8) : Option Nat := signs.data.toList.idxOf? c
theorem six_fin : ∀ c : Fin 256, (match six (UInt8.ofNat c.1) with | some v => decide (v < 32) && decide (sgn v = UInt8.ofNat c.1) | none => true) = true := by decide +kernel
theorem six_some {c : UInt8} {v : Nat} (h : six c = some v) : v < 32 ∧ sgn v = c := by
  have := six_fin ⟨c.toNat, c.toNat_lt⟩
  simp only [UInt8.ofNat_toNat, h] at this
  simpa using this
theorem six_sgn (v : Nat) (h : v < 32) : six (sgn v) = some v := by
  have : ∀ v : Fin 32, six (sgn v.1) = some v.1 := by decide +kernel
  exact this ⟨v, h⟩
theorem six_none {c : UInt8} (h : six c = none) (v : Nat) (hv : v < 32) : sgn v ≠ c := by
  intro e
  rw [← e, six_sgn v hv] at h
  cases h

/-- What the last signs stand for: the text is given the last sign first. -/
def low : List UInt8 → Option Nat
  | [] => some 0
  | c :: t => match six c, low t with
    | some v, some x => some (v + 32 * x)
    | _, _ => none
/-- What a text stands for, the highest sign first. -/
def num (s : List UInt8) : Option Nat := low s.reverse

theorem low_lt : ∀ {t : List UInt8} {x : Nat}, low t = some x → x < 32 ^ t.length
  | [], x, h => by simp [low] at h; subst h; simp
  | c :: t, x, h => by
    rw [low] at h
    cases hc : six c with
    | none => simp [hc] at h
    | some v =>
      cases ht : low t with
      | none => simp [hc, ht] at h
      | some y =>
        simp [hc, ht] at h
        have := low_lt ht
        have := (six_some hc).1
        rw [List.length_cons, Nat.pow_succ]
        omega
theorem low_append (a b : List UInt8) : low (a ++ b) = match low a, low b with
    | some x, some y => some (x + 32 ^ a.length * y)
    | _, _ => none := by
  induction a with
  | nil => cases h : low b <;> simp [low, h]
  | cons c a ih =>
    rw [List.cons_append, low, ih, low]
    cases six c <;> cases low a <;> cases low b <;> simp
    rw [Nat.pow_succ, Nat.mul_add, Nat.mul_comm (32 ^ a.length) 32, Nat.mul_assoc]; omega
theorem low_snoc (a : List UInt8) (c : UInt8) : low (a ++ [c]) = match low a, six c with
    | some x, some v => some (x + 32 ^ a.length * v)
    | _, _ => none := by
  rw [low_append]
  have e : low [c] = six c := by rw [low]; cases six c <;> simp [low]
  rw [e]

/-- signs of what signs stand for. -/
theorem down_num : ∀ {s : List UInt8} {x : Nat}, num s = some x → down x s.length = s
  | [], x, _ => rfl
  | c :: t, x, h => by
    unfold num at h
    rw [List.reverse_cons, low_snoc] at h
    cases ht : low t.reverse with
    | none => simp [ht] at h
    | some y =>
      cases hc : six c with
      | none => simp [ht, hc] at h
      | some v =>
        simp [ht, hc] at h
        have hy := low_lt ht
        rw [List.length_reverse] at hy
        obtain ⟨hv, hs⟩ := six_some hc
        have hd := down_num (s := t) (x := y) ht
        rw [List.length_cons, down, ← h]
        have hp := Nat.pow_pos (n := t.length) (show 0 < 32 by decide)
        rw [Nat.add_mul_div_left _ _ hp, Nat.div_eq_of_lt hy, Nat.zero_add, hs]
        congr 1
        rw [← down_mod (y + _) t.length _ (Nat.le_refl _), Nat.add_mul_mod_self_left, Nat.mod_eq_of_lt hy, hd]
theorem num_down (v k : Nat) : num (down v k) = some (v % 32 ^ k) := by
  induction k with
  | zero => simp [num, down, low, Nat.mod_one]
  | succ k ih =>
    unfold num at ih ⊢
    rw [down, List.reverse_cons, low_snoc, ih]
    rw [← sgn_mod, six_sgn _ (Nat.mod_lt _ (by decide))]
    simp only [List.length_reverse, down_length]
    rw [Nat.pow_succ, Nat.mod_mul]

/-- so many bytes of a number. -/
def bytes (v : Nat) : Nat → List UInt8
  | 0 => []
  | n + 1 => UInt8.ofNat (v % 256) :: bytes (v / 256) n
theorem bytes_length (v n : Nat) : (bytes v n).length = n := by
  induction n generalizing v with
  | zero => rfl
  | succ n ih => simp [bytes, ih]
theorem val_bytes (v n : Nat) : val (bytes v n) = v % 256 ^ n := by
  induction n generalizing v with
  | zero => simp [bytes, val, Nat.mod_one]
  | succ n ih =>
    have e : 256 ^ (n + 1) = 256 * 256 ^ n := by rw [Nat.pow_succ, Nat.mul_comm]
    rw [bytes, val, ih, UInt8.toNat_ofNat', e, Nat.mod_mul]
    omega
theorem bytes_val (l : List UInt8) : bytes (val l) l.length = l := by
  induction l with
  | nil => rfl
  | cons b l ih =>
    have := b.toNat_lt
    rw [List.length_cons, bytes, val]
    have e1 : (b.toNat + 256 * val l) % 256 = b.toNat := by omega
    have e2 : (b.toNat + 256 * val l) / 256 = val l := by omega
    rw [e1, e2, ih, UInt8.ofNat_toNat]

/-- The bytes that a text stands for, if it stands for any. -/
def dec (s : List UInt8) : Option (List UInt8) :=
  if lens (s.length * 5 / 8) = s.length then
    match num s with
    | some x => if x < 256 ^ (s.length * 5 / 8) then some (bytes x (s.length * 5 / 8)) else none
    | none => none
  else none

theorem dec_enc (l : List UInt8) : dec (enc l) = some l := by
  have e1 : (enc l).length * 5 / 8 = l.length := by rw [enc_length]; unfold lens; omega
  unfold dec
  rw [e1, enc_length, if_pos rfl]
  have e2 : num (enc l) = some (val l) := by
    unfold enc
    rw [num_down, Nat.mod_eq_of_lt (val_lt_lens l)]
  rw [e2]
  simp only
  rw [if_pos (val_lt l), bytes_val]
theorem enc_dec {s l : List UInt8} (h : dec s = some l) : enc l = s := by
  unfold dec at h
  split at h
  · rename_i hl
    cases hn : num s with
    | none => simp [hn] at h
    | some x =>
      simp only [hn] at h
      split at h
      · rename_i hx
        injection h with h
        subst h
        unfold enc
        rw [bytes_length, val_bytes, Nat.mod_eq_of_lt hx, hl, down_num hn]
      · cases h
  · cases h

theorem val_set (l : List UInt8) (i : Nat) (h : i < l.length) (b : UInt8) : val (l.set i b) + (l.getD i 0).toNat * 256 ^ i = val l + b.toNat * 256 ^ i := by
  induction l generalizing i with
  | nil => simp at h
  | cons a l ih =>
    cases i with
    | zero => simp [val]; omega
    | succ i =>
      simp at h
      have := ih i h
      simp only [List.set_cons_succ, val, List.getD_cons_succ]
      rw [Nat.pow_succ, ← Nat.mul_assoc, ← Nat.mul_assoc]
      omega
theorem get_val (l : List UInt8) (i : Nat) (h : i < l.length) : (l.getD i 0).toNat = val l / 256 ^ i % 256 := by
  have ed : l.drop i = l.getD i 0 :: l.drop (i + 1) := by
    rw [List.drop_eq_getElem_cons h, List.getD_eq_getElem?_getD, List.getElem?_eq_getElem h]; rfl
  have := (l.getD i 0).toNat_lt
  rw [val_div, ed, val]; omega

/-- One sign is laid over what is there: the byte that it begins in, and the next one. -/
theorem lay (l : List UInt8) (v k i j : Nat) (hk : 5 * k = 8 * i + j) (hj : j < 8) (hi : i < l.length) (hl : val l < 32 ^ k) (hv : v < 32) (b c : UInt8)
    (hb : b.toNat = (l.getD i 0).toNat ||| (v * 2 ^ j % 256)) (hc : i + 1 < l.length → c.toNat = (l.getD (i + 1) 0).toNat ||| (v / 2 ^ (8 - j))) (hend : ¬ i + 1 < l.length → v * 2 ^ j < 256) :
    val (if i + 1 < l.length then (l.set i b).set (i + 1) c else l.set i b) = val l + 32 ^ k * v ∧ (i + 1 < l.length → (l.getD (i + 1) 0).toNat = 0) := by
  have e32 : 32 ^ k = 256 ^ i * 2 ^ j := by
    rw [show (32 : Nat) = 2 ^ 5 from rfl, show (256 : Nat) = 2 ^ 8 from rfl, ← Nat.pow_mul, ← Nat.pow_mul, ← Nat.pow_add, hk]
  have hp := Nat.pow_pos (n := i) (show 0 < 256 by decide)
  have hai : val l / 256 ^ i < 2 ^ j := by rw [Nat.div_lt_iff_lt_mul hp, Nat.mul_comm, ← e32]; exact hl
  have h2j : 2 ^ j ≤ 128 := by
    have := Nat.pow_le_pow_right (n := 2) (by decide) (show j ≤ 7 by omega)
    omega
  have ga : (l.getD i 0).toNat = val l / 256 ^ i := by rw [get_val l i hi, Nat.mod_eq_of_lt (by omega)]
  have gb : i + 1 < l.length → (l.getD (i + 1) 0).toNat = 0 := by
    intro h
    rw [get_val l (i + 1) h, Nat.pow_succ, ← Nat.div_div_eq_div_mul, Nat.div_eq_of_lt (by omega : val l / 256 ^ i < 256)]
  refine ⟨?_, gb⟩
  obtain ⟨a, ha⟩ : ∃ a, val l / 256 ^ i = a := ⟨_, rfl⟩
  rw [ha] at hai ga
  have hor : a ||| (v * 2 ^ j % 256) = v * 2 ^ j % 256 + a := by
    have hm : v * 2 ^ j % 256 = 2 ^ j * (v % 2 ^ (8 - j)) := by
      have e8 : (256 : Nat) = 2 ^ j * 2 ^ (8 - j) := by rw [← Nat.pow_add, show j + (8 - j) = 8 by omega]
      conv => lhs; rw [e8, Nat.mul_comm v, Nat.mul_mod_mul_left]
    rw [hm, Nat.or_comm, ← Nat.two_pow_add_eq_or_of_lt hai]
  have hb' : b.toNat = v * 2 ^ j % 256 + a := by rw [hb, ga, hor]
  have s1 := val_set l i hi b
  rw [hb', ga] at s1
  have s1' : val (l.set i b) = val l + (v * 2 ^ j % 256) * 256 ^ i := by
    rw [Nat.add_mul] at s1; omega
  by_cases h : i + 1 < l.length
  · rw [if_pos h]
    have hc' : c.toNat = v * 2 ^ j / 256 := by
      rw [hc h, gb h, Nat.zero_or]
      have e8 : (256 : Nat) = 2 ^ j * 2 ^ (8 - j) := by rw [← Nat.pow_add, show j + (8 - j) = 8 by omega]
      rw [e8, Nat.mul_comm v, Nat.mul_div_mul_left _ _ (Nat.two_pow_pos j)]
    have s2 := val_set (l.set i b) (i + 1) (by simpa using h) c
    have g2 : ((l.set i b).getD (i + 1) 0).toNat = 0 := by
      rw [List.getD_eq_getElem?_getD, List.getElem?_set_ne (by omega), ← List.getD_eq_getElem?_getD]; exact gb h
    rw [g2, Nat.zero_mul, Nat.add_zero, s1', hc', Nat.pow_succ] at s2
    rw [s2, e32, Nat.add_assoc]
    congr 1
    obtain ⟨m, hm⟩ : ∃ m, 256 ^ i = m := ⟨_, rfl⟩
    rw [hm]
    have : v * 2 ^ j = v * 2 ^ j % 256 + 256 * (v * 2 ^ j / 256) := by omega
    calc v * 2 ^ j % 256 * m + v * 2 ^ j / 256 * (m * 256) = (v * 2 ^ j % 256 + 256 * (v * 2 ^ j / 256)) * m := by rw [Nat.add_mul, Nat.mul_comm m 256, ← Nat.mul_assoc, Nat.mul_comm (v * 2 ^ j / 256) 256]
      _ = v * 2 ^ j * m := by rw [← this]
      _ = m * 2 ^ j * v := by rw [Nat.mul_comm m, Nat.mul_assoc, Nat.mul_assoc, Nat.mul_comm v, Nat.mul_assoc]
  · rw [if_neg h, s1', e32, Nat.mod_eq_of_lt (hend h)]
    congr 1
    ac_rfl



end Go.Proofs.Ytigeljeoodhcoaa
