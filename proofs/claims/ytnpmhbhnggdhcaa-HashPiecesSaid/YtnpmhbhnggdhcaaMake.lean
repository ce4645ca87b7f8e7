/-
  make: the words of the rounds are laid.
-/
import Derived.Test.YtnpmhbhnggdhcaaPrime
import Derived.Test.YtnpmhbhnggdhcaaMem
import Derived.Deep.RegionWith
set_option linter.unusedVariables false
set_option linter.unusedSimpArgs false
namespace Go.Proofs.Ytnpmhbhnggdhcaa
open Go.RowKit Go.Proofs.YtnpmhbhnggdhcaaW.PrintWords

/-- Words as cells. -/
def uc (l : List W32) : List Value := l.map fun x => .int .u32 (u x)
theorem uc_length (l : List W32) : (uc l).length = l.length := by simp [uc]
theorem uc_set (l : List W32) (i : Nat) (x : W32) : (uc l).set i (.int .u32 (u x)) = uc (l.set i x) := by simp [uc, List.map_set]
theorem uc_get (l : List W32) (i : Nat) (h : i < l.length) : (uc l)[i]? = some (.int .u32 (u (l.getD i 0))) := by simp [uc, h]
/-- The block of the words. -/
def wblk (c0 c1 c2 : Value) (K H : List W32) : List Value := c0 :: c1 :: c2 :: (uc K ++ uc H)
theorem wblk_K (c0 c1 c2 : Value) (K H : List W32) (n : Nat) (h : n < K.length) (x : W32) : (wblk c0 c1 c2 K H).toArray.setIfInBounds (n + 3) (.int .u32 (u x)) = (wblk c0 c1 c2 (K.set n x) H).toArray := by
  rw [List.setIfInBounds_toArray]
  unfold wblk
  rw [List.set_cons_succ, List.set_cons_succ, List.set_cons_succ, List.set_append, if_pos (by rw [uc_length]; exact h), uc_set]
theorem wblk_H (c0 c1 c2 : Value) (K H : List W32) (n : Nat) (hK : K.length = 64) (x : W32) : (wblk c0 c1 c2 K H).toArray.setIfInBounds (n + 67) (.int .u32 (u x)) = (wblk c0 c1 c2 K (H.set n x)).toArray := by
  rw [List.setIfInBounds_toArray]
  unfold wblk
  rw [show n + 67 = (n + 64) + 3 by omega, List.set_cons_succ, List.set_cons_succ, List.set_cons_succ, List.set_append, if_neg (by rw [uc_length, hK]; omega), uc_length, hK, show n + 64 - 64 = n by omega, uc_set]
theorem wblk_size (c0 c1 c2 : Value) (K H : List W32) (hK : K.length = 64) (hH : H.length = 8) : (wblk c0 c1 c2 K H).length = 75 := by
  simp [wblk, uc_length, hK, hH]

def Kp (p : Nat) : List W32 := (primesTo p).map (rt 3) ++ List.replicate (64 - (primesTo p).length) 0
def Hp (p : Nat) : List W32 := ((primesTo p).take 8).map (rt 2) ++ List.replicate (8 - (primesTo p).length) 0
theorem Kp_length (p : Nat) (h : (primesTo p).length ≤ 64) : (Kp p).length = 64 := by simp [Kp]; omega
theorem Hp_length (p : Nat) : (Hp p).length = 8 := by simp [Hp]; omega
theorem Kp_succ (p : Nat) (hp : 2 ≤ p) (h : (primesTo p).length < 64) (hq : primeN p = true) : (Kp p).set (primesTo p).length (rt 3 p) = Kp (p + 1) := by
  unfold Kp
  rw [primesTo_succ p hp, if_pos hq, List.map_append, List.length_append]
  have e : 64 - (primesTo p).length = (63 - (primesTo p).length) + 1 := by omega
  rw [e, List.replicate_succ, List.set_append, if_neg (by simp)]
  rw [show 63 - (primesTo p).length = 64 - ((primesTo p).length + 1) by omega]
  simp
theorem Kp_same (p : Nat) (hp : 2 ≤ p) (hq : primeN p = false) : Kp (p + 1) = Kp p ∧ Hp (p + 1) = Hp p ∧ (primesTo (p + 1)).length = (primesTo p).length := by
  unfold Kp Hp
  rw [primesTo_succ p hp, hq]
  simp
theorem Hp_succ (p : Nat) (hp : 2 ≤ p) (h : (primesTo p).length < 8) (hq : primeN p = true) : (Hp p).set (primesTo p).length (rt 2 p) = Hp (p + 1) := by
  unfold Hp
  rw [primesTo_succ p hp, if_pos hq, List.length_append]
  have e : 8 - (primesTo p).length = (7 - (primesTo p).length) + 1 := by omega
  have e2 : (primesTo p ++ [p]).take 8 = primesTo p ++ [p] := List.take_of_length_le (by simp; omega)
  have e3 : (primesTo p).take 8 = primesTo p := List.take_of_length_le (by omega)
  rw [e, e2, e3, List.replicate_succ, List.set_append, if_neg (by simp)]
  rw [show 7 - (primesTo p).length = 8 - ((primesTo p).length + 1) by omega]
  simp
theorem Hp_far (p : Nat) (hp : 2 ≤ p) (h : 8 ≤ (primesTo p).length) (hq : primeN p = true) : Hp (p + 1) = Hp p := by
  unfold Hp
  rw [primesTo_succ p hp, if_pos hq, List.length_append, List.take_append_of_le_length h]
  simp
  omega
theorem len_succ (p : Nat) (hp : 2 ≤ p) (hq : primeN p = true) : (primesTo (p + 1)).length = (primesTo p).length + 1 := by
  rw [primesTo_succ p hp, if_pos hq]
  simp
theorem Kp_end : Kp 312 = Kc := by
  unfold Kp
  rw [primes_all, words_K]
  simp
theorem Hp_end : Hp 312 = Hc := by
  unfold Hp
  rw [primes_all, words_H]
  simp
theorem Kp_two : Kp 2 = List.replicate 64 0 := by decide +kernel
theorem Hp_two : Hp 2 = List.replicate 8 0 := by decide +kernel
theorem len_le (p : Nat) (h : p ≤ 312) : (primesTo p).length ≤ 64 := by
  rcases Nat.lt_or_ge p 312 with h1 | h1
  · exact Nat.le_of_lt (primes_few p h1)
  · have : p = 312 := by omega
    subst this
    rw [primes_all]
    exact Nat.le_refl _

theorem wrap_p (p : Nat) (h : p ≤ 400) : IntKind.u64.wrap (p : Int) = (p : Int) := by show (p : Int) % 18446744073709551616 = p; omega
theorem blk_one {w : World} {b m : Nat} {c0 c1 c2 : Value} {K H : List W32} (h : w.heap[b]? = some (.cells (wblk c0 c1 c2 K H).toArray 61 (0, 0))) (hm : m < K.length) (x : W32) :
    (w.setCell ⟨b, 3 + m, none⟩ (.int .u32 (u x))).heap[b]? = some (.cells (wblk c0 c1 c2 (K.set m x) H).toArray 61 (0, 0)) := by
  rw [blk_set h (3 + m), Nat.add_comm, wblk_K _ _ _ _ _ _ hm]
theorem blk_oneH {w : World} {b m : Nat} {c0 c1 c2 : Value} {K H : List W32} (h : w.heap[b]? = some (.cells (wblk c0 c1 c2 K H).toArray 61 (0, 0))) (hK : K.length = 64) (x : W32) :
    (w.setCell ⟨b, 67 + m, none⟩ (.int .u32 (u x))).heap[b]? = some (.cells (wblk c0 c1 c2 K (H.set m x)).toArray 61 (0, 0)) := by
  rw [blk_set h (67 + m), Nat.add_comm, wblk_H _ _ _ _ _ _ hK]
theorem blk_some {w : World} {b : Nat} {c0 c1 c2 : Value} {K H : List W32} (h : w.heap[b]? = some (.cells (wblk c0 c1 c2 K H).toArray 61 (0, 0))) (hK : K.length = 64) (hH : H.length = 8) (j : Nat) (hj : j < 75) : ∃ v, w.cell? ⟨b, j, none⟩ = some v := by
  rw [cell_of_row _ _ _ _ 61 (0, 0) h]
  exact ⟨_, Array.getElem?_eq_getElem (by rw [List.size_toArray, wblk_size _ _ _ _ _ hK hH]; exact hj)⟩

set_option maxHeartbeats 1000000 in
set_option maxRecDepth 100000 in
theorem make_any (b : Nat) (c0 c1 c2 : Value) (w : World) (hb : w.heap[b]? = some (.cells (wblk c0 c1 c2 (List.replicate 64 0) (List.replicate 8 0)).toArray 61 (0, 0))) :
    Calls Try.prog 20 #[.pointer (some ⟨b, 0, none⟩)] w fun e w' => e = .returned (.tuple #[]) ∧ w'.heap[b]? = some (.cells (wblk c0 c1 c2 Kc Hc).toArray 61 (0, 0)) ∧ At1 b w w' := by
  rw [← Kp_two, ← Hp_two] at hb
  have HB := Lib.hid hb
  clear hb
  go_enter Try.func20, Try.ntmps20
  go_wp2_with fail
  go_loopw [2, 3] (fun n x wr => ∃ p m : Nat, 2 ≤ p ∧ p ≤ 312 ∧ Hid ((primesTo p).length = m) ∧ n = .int .i64 m ∧ x = .int .i64 p ∧ Hid (wr.heap[b]? = some (.cells (wblk c0 c1 c2 (Kp p) (Hp p)).toArray 61 (0, 0))) ∧ Hid (At1 b w wr)) (fun _ x _ => 312 - (intOf x).toNat)
  case atStart => exact ⟨2, 0, by omega, by omega, Lib.hid (by decide +kernel), rfl, rfl, HB, Lib.hid (At1.refl _ _)⟩
  case round =>
    obtain ⟨p, m, h1, h2, h3, rfl, rfl, h4, h5⟩ := hrel
    by_cases hm : m < 64
    · have hlt : p < 312 := by
        rcases Nat.lt_or_ge p 312 with h | h
        · exact h
        · have : p = 312 := by omega
          subst this
          have := h3.out
          rw [primes_all] at this
          omega
      have HP := Lib.hid (prime_any p (by omega))
      go_wp2_with fail
      refine (HP.out _).mono ?_
      rintro e w1 ⟨rfl, rfl⟩
      cases hq : primeN p
      · obtain ⟨e1, e2, e3⟩ := Kp_same p h1 hq
        rw [← e1, ← e2] at h4
        rw [← e3] at h3
        clear e1 e2 e3 hq
        go_wp2
        go_roundw
        case rel => exact ⟨p + 1, m, by omega, by omega, h3, rfl, by go_num, h4, h5⟩
        case measure => simp [intOf]; omega
      · have hml := h3.out
        have kl := Kp_length p (len_le p h2)
        have hl := Hp_length p
        have hcell : ∀ j, j < 75 → ∃ v, w1.cell? ⟨b, j, none⟩ = some v := fun j hj => by
          rw [cell_of_row _ _ _ _ 61 (0, 0) h4.out]
          exact ⟨_, Array.getElem?_eq_getElem (by rw [List.size_toArray, wblk_size _ _ _ _ _ kl hl]; exact hj)⟩
        have hfz : ∀ j, w1.frozen? ⟨b, j, none⟩ = false := fun j => by simp [World.frozen?, h4.out]
        obtain ⟨v1, g1⟩ := hcell (3 + m) (by omega)
        have z1 := hfz (3 + m)
        have eK := Kp_succ p h1 (by rw [hml]; exact hm) hq
        have eL := len_succ p h1 hq
        rw [hml] at eK eL
        have R2 := Lib.hid (root_any p 2 (.inl rfl))
        have R3 := Lib.hid (root_any p 3 (.inr rfl))
        have EK := Lib.hid eK
        have EL := Lib.hid eL
        have HM := Lib.hid hml
        have KL := Lib.hid kl
        have HL := Lib.hid hl
        by_cases h8 : m < 8
        · obtain ⟨v2, g2⟩ := hcell (67 + m) (by omega)
          have z2 := hfz (67 + m)
          have eH := Hp_succ p h1 (by rw [hml]; exact h8) hq
          rw [hml] at eH
          have EH := Lib.hid eH
          clear eH eK eL hml kl hl hcell hfz hq HP
          have hw : IntKind.u64.wrap (p : Int) = (p : Int) := wrap_p p (by omega)
          go_wp2_with fail
          go_region_with ((go_at_call 26; refine (R2.out _).mono ?_; rintro e w' ⟨rfl, rfl⟩))
          go_wp2_with fail
          have h6 : Hid ((w1.setCell ⟨b, 67 + m, none⟩ (.int .u32 (u (rt 2 p)))).drew.heap[b]? = some (.cells (wblk c0 c1 c2 (Kp p) (Hp (p + 1))).toArray 61 (0, 0))) := Lib.hid (by rw [← EH.out]; exact blk_oneH h4.out KL.out _)
          have h7 : Hid (At1 b w (w1.setCell ⟨b, 67 + m, none⟩ (.int .u32 (u (rt 2 p)))).drew) := Lib.hid (h5.out.trans (At1.set _ b _ _)).drew
          clear g1 z1 g2 z2 h4 h5 R2
          generalize (w1.setCell ⟨b, 67 + m, none⟩ (.int .u32 (u (rt 2 p)))).drew = W1 at *
          obtain ⟨v1, g1⟩ := blk_some h6.out KL.out (Hp_length _) (3 + m) (by omega)
          have z1 := blk_frozen h6.out (3 + m)
          go_region_with ((go_at_call 26; refine (R3.out _).mono ?_; rintro e w' ⟨rfl, rfl⟩))
          go_wp2
          go_roundw
          case rel => exact ⟨p + 1, m + 1, by omega, by omega, EL, by go_num, by go_num, Lib.hid (by rw [← EK.out]; exact blk_one h6.out (by rw [KL.out]; exact hm) _), Lib.hid (h7.out.trans (At1.set _ b _ _)).drew⟩
          case measure => simp [intOf]; omega
        · have eH := Hp_far p h1 (by rw [hml]; omega) hq
          have EH := Lib.hid eH
          clear eH eK eL hml kl hl hcell hfz hq HP
          have hw : IntKind.u64.wrap (p : Int) = (p : Int) := wrap_p p (by omega)
          go_wp2_with fail
          go_region_with ((go_at_call 26; refine (R3.out _).mono ?_; rintro e w' ⟨rfl, rfl⟩))
          go_wp2
          go_roundw
          case rel => exact ⟨p + 1, m + 1, by omega, by omega, EL, by go_num, by go_num, Lib.hid (by rw [← EK.out, EH.out]; exact blk_one h4.out (by rw [KL.out]; exact hm) _), Lib.hid (h5.out.trans (At1.set _ b _ _)).drew⟩
          case measure => simp [intOf]; omega
    · have e : p = 312 := by
        rcases Nat.lt_or_ge p 312 with h | h
        · have := primes_few p h
          have := h3.out
          omega
        · omega
      have H4 := h4.out
      rw [e, Kp_end, Hp_end] at H4
      have H4' := Lib.hid H4
      clear H4 e
      go_wp2
      go_end0
      exact ⟨rfl, H4'.out, h5.out⟩
end Go.Proofs.Ytnpmhbhnggdhcaa
