/-
  Plain: what a hasher holds when it has taken a text.
-/
import Derived.Test.YtnpmhbhnggdhcaaSched
namespace Go.Proofs.Ytnpmhbhnggdhcaa

def blocksH : Nat → List UInt8 → V8
  | 0, _ => H8
  | m + 1, l => comp (blocksH m l) ((l.drop (64 * m)).take 64)
theorem blocksH_append (m : Nat) (l x : List UInt8) (h : 64 * m ≤ l.length) : blocksH m (l ++ x) = blocksH m l := by
  induction m with
  | zero => rfl
  | succ m ih =>
    unfold blocksH
    rw [ih (by omega), List.drop_append_of_le_length (by omega), List.take_append_of_le_length (by rw [List.length_drop]; omega)]
structure Fed (l : List UInt8) (H : V8) (part : List UInt8) : Prop where
  len : part.length = 64
  words : H = blocksH (l.length / 64) l
  rest : ∀ j, j < l.length % 64 → part.getD j 0 = l.getD (64 * (l.length / 64) + j) 0
theorem Fed.nil : Fed [] H8 (List.replicate 64 0) := ⟨List.length_replicate, rfl, fun j hj => absurd hj (by simp)⟩
theorem getD_set (l : List UInt8) (i j : Nat) (c : UInt8) (hi : i < l.length) : (l.set i c).getD j 0 = if j = i then c else l.getD j 0 := by
  by_cases h : j = i
  · subst h
    rw [if_pos rfl, List.getD_eq_getElem?_getD, List.getElem?_set_self hi]
    rfl
  · rw [if_neg h, List.getD_eq_getElem?_getD, List.getElem?_set_ne (Ne.symm h), List.getD_eq_getElem?_getD]
theorem getD_snoc (l : List UInt8) (c : UInt8) (j : Nat) : (l ++ [c]).getD j 0 = if j < l.length then l.getD j 0 else if j = l.length then c else 0 := by
  rw [List.getD_eq_getElem?_getD]
  by_cases h : j < l.length
  · rw [if_pos h, List.getElem?_append_left h, List.getD_eq_getElem?_getD]
  · rw [if_neg h, List.getElem?_append_right (by omega)]
    by_cases e : j = l.length
    · subst e; simp
    · rw [if_neg e]
      have : j - l.length ≠ 0 := by omega
      simp [this]
theorem Fed.step_more {l : List UInt8} {H : V8} {part : List UInt8} (f : Fed l H part) (c : UInt8) (h : (l.length + 1) % 64 ≠ 0) : Fed (l ++ [c]) H (part.set (l.length % 64) c) := by
  have hd : (l.length + 1) / 64 = l.length / 64 := by omega
  have hm : (l.length + 1) % 64 = l.length % 64 + 1 := by omega
  refine ⟨by rw [List.length_set]; exact f.len, ?_, fun j hj => ?_⟩
  · rw [List.length_append, List.length_singleton, hd, blocksH_append _ _ _ (by omega)]
    exact f.words
  · rw [List.length_append, List.length_singleton] at hj ⊢
    rw [hm] at hj
    rw [hd, getD_set _ _ _ _ (by rw [f.len]; omega), getD_snoc]
    by_cases e : j = l.length % 64
    · subst e
      rw [if_pos rfl, if_neg (by omega), if_pos (by omega)]
    · rw [if_neg e, if_pos (by omega)]
      exact f.rest j (by omega)
theorem Fed.step_full {l : List UInt8} {H : V8} {part : List UInt8} (f : Fed l H part) (c : UInt8) (h : (l.length + 1) % 64 = 0) : Fed (l ++ [c]) (comp H (part.set (l.length % 64) c)) (part.set (l.length % 64) c) := by
  have hd : (l.length + 1) / 64 = l.length / 64 + 1 := by omega
  have hm : l.length % 64 = 63 := by omega
  refine ⟨by rw [List.length_set]; exact f.len, ?_, fun j hj => ?_⟩
  · rw [List.length_append, List.length_singleton, hd]
    unfold blocksH
    rw [blocksH_append _ _ _ (by omega), f.words]
    congr 1
    apply List.ext_getElem
    · rw [List.length_set, f.len, List.length_take, List.length_drop, List.length_append, List.length_singleton]
      omega
    · intro j h1 h2
      rw [List.length_set, f.len] at h1
      have e1 := getD_set part (l.length % 64) j c (by rw [f.len]; omega)
      have e2 := getD_snoc l c (64 * (l.length / 64) + j)
      rw [List.getElem_take, List.getElem_drop]
      rw [List.getD_eq_getElem?_getD, List.getElem?_eq_getElem (by rw [List.length_set, f.len]; exact h1)] at e1
      rw [List.getD_eq_getElem?_getD, List.getElem?_eq_getElem (by rw [List.length_append, List.length_singleton]; omega)] at e2
      simp only [Option.getD_some] at e1 e2
      rw [e1, e2]
      by_cases e : j = l.length % 64
      · subst e
        rw [if_pos rfl, if_neg (by omega), if_pos (by omega)]
      · rw [if_neg e, if_pos (by omega)]
        exact f.rest j (by omega)
  · rw [List.length_append, List.length_singleton, h] at hj
    omega
end Go.Proofs.Ytnpmhbhnggdhcaa
