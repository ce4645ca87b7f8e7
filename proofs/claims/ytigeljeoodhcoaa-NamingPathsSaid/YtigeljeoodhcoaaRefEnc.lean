/-
  The reference's Encode: the same signs.
-/
import Derived.Test.YtigeljeoodhcoaaCommon
set_option linter.unusedVariables false
set_option linter.unusedSimpArgs false
namespace Go.Proofs.Ytigeljeoodhcoaa
open Go.RowKit Go.Proofs.YtigeljeoodhcoaaW.PrintWords Go.Proofs.YtigeljeoodhcoaaW.PrintLast Go.Proofs.YtigeljeoodhcoaaW.PrintMore

/-- Numbers, the highest first. -/
def big : List Nat → Nat
  | [] => 0
  | a :: t => a * 256 ^ t.length + big t
/-- Divided by 32, a rest ahead of it. -/
def divs : Nat → List Nat → List Nat × Nat
  | r, [] => ([], r)
  | r, a :: t => ((r * 256 + a) / 32 :: (divs ((r * 256 + a) % 32) t).1, (divs ((r * 256 + a) % 32) t).2)
theorem divs_length (r : Nat) (t : List Nat) : (divs r t).1.length = t.length := by
  induction t generalizing r with
  | nil => rfl
  | cons a t ih => simp [divs, ih]
theorem divs_big (r : Nat) (t : List Nat) : big (divs r t).1 * 32 + (divs r t).2 = r * 256 ^ t.length + big t := by
  induction t generalizing r with
  | nil => simp [divs, big]
  | cons a t ih =>
    have h := ih ((r * 256 + a) % 32)
    simp only [divs, big, divs_length, List.length_cons, Nat.pow_succ]
    obtain ⟨m, hm⟩ : ∃ m, 256 ^ t.length = m := ⟨_, rfl⟩
    rw [hm] at h ⊢
    have e : (r * 256 + a) / 32 * m * 32 + (r * 256 + a) % 32 * m = r * (m * 256) + a * m := by
      have : (r * 256 + a) = (r * 256 + a) / 32 * 32 + (r * 256 + a) % 32 := by omega
      calc _ = ((r * 256 + a) / 32 * 32 + (r * 256 + a) % 32) * m := by rw [Nat.add_mul]; congr 1; ac_rfl
        _ = (r * 256 + a) * m := by rw [← this]
        _ = _ := by rw [Nat.add_mul]; congr 1; ac_rfl
    rw [Nat.add_mul]
    omega
theorem divs_small (r : Nat) (t : List Nat) (hr : r < 32) (ht : ∀ a ∈ t, a < 256) : (∀ a ∈ (divs r t).1, a < 256) ∧ (divs r t).2 < 32 := by
  induction t generalizing r with
  | nil => exact ⟨fun a h => by simp [divs] at h, hr⟩
  | cons a t ih =>
    have ha := ht a List.mem_cons_self
    have h := ih ((r * 256 + a) % 32) (by omega) (fun b hb => ht b (List.mem_cons_of_mem _ hb))
    refine ⟨fun b hb => ?_, h.2⟩
    simp only [divs, List.mem_cons] at hb
    rcases hb with rfl | hb
    · omega
    · exact h.1 b hb

def nats (l : List Nat) : List Int := l.map fun n : Nat => (n : Int)
theorem nats_length (l : List Nat) : (nats l).length = l.length := by simp [nats]
theorem rd_mid (d : List Nat) (a : Nat) (t : List Nat) : rd (nats (d ++ a :: t)) (d.length : Int) = (a : Int) := by
  unfold rd nats
  simp [List.getD_eq_getElem?_getD]
theorem set_mid (d : List Nat) (a b : Nat) (t : List Nat) : (nats (d ++ a :: t)).set d.length (b : Int) = nats (d ++ b :: t) := by
  unfold nats
  simp [List.map_append, List.set_append]

theorem enc_inner (x6 : List Int) (x7 : Int) (t : List Nat) : ∀ (d : List Nat) (r k : Nat), r < 32 → (∀ a ∈ t, a < 256) → d.length + t.length ≤ 1000000 →
    PNamingPaths.staddleref02_Encode.l2 (k + t.length) (nats (d ++ t)) x6 x7 (r : Int) (d.length : Int) = PNamingPaths.staddleref02_Encode.l2 k (nats (d ++ (divs r t).1)) x6 x7 ((divs r t).2 : Int) ((d.length + t.length : Nat) : Int) := by
  induction t with
  | nil => intro d r k _ _ _; simp [divs]
  | cons a t ih =>
    intro d r k hr ht hl
    have ha := ht a List.mem_cons_self
    rw [List.length_cons, show k + (t.length + 1) = (k + t.length) + 1 by omega]
    conv => lhs; simp only [PNamingPaths.staddleref02_Encode.l2]
    rw [if_pos (by rw [nats_length]; simp; omega), if_pos (by omega), rd_mid]
    have e1 : wrap64 (wrap64 ((r : Int) * 256) + (a : Int)) = ((r * 256 + a : Nat) : Int) := by rw [wrap64_id ((r : Int) * 256) (by omega) (by omega), wrap64_id _ (by omega) (by omega)]; omega
    have e2 : wrap64 (Int.tdiv ((r * 256 + a : Nat) : Int) 32) = (((r * 256 + a) / 32 : Nat) : Int) := by rw [Int.tdiv_eq_ediv_of_nonneg (by omega), wrap64_id _ (by omega) (by omega)]; omega
    have e3 : Int.tmod ((r * 256 + a : Nat) : Int) 32 = (((r * 256 + a) % 32 : Nat) : Int) := by rw [Int.tmod_eq_emod_of_nonneg (by omega)]; omega
    have e4 : wrap64 ((d.length : Int) + 1) = ((d ++ [(r * 256 + a) / 32]).length : Int) := by rw [wrap64_id _ (by simp at hl; omega) (by simp at hl; omega)]; simp
    rw [e1, e2, e3, e4, Int.toNat_natCast, set_mid]
    have := ih (d ++ [(r * 256 + a) / 32]) ((r * 256 + a) % 32) k (by omega) (fun b hb => ht b (List.mem_cons_of_mem _ hb)) (by simp at hl ⊢; omega)
    have ec : (d ++ [(r * 256 + a) / 32]).length + t.length = d.length + (t.length + 1) := by simp; omega
    rw [show d ++ (r * 256 + a) / 32 :: t = (d ++ [(r * 256 + a) / 32]) ++ t by simp, this, ec]
    simp only [divs, List.append_assoc, List.singleton_append]

theorem sign_f (r : Nat) (hr : r < 32) : PNamingPaths.staddleref02_sign.f (r : Int) = some ((sgn r).toNat : Int) := by
  unfold PNamingPaths.staddleref02_sign.f
  rw [if_pos (by omega), if_pos (by omega)]
  have h : ∀ r : Fin 32, bt (⟨#[48, 49, 50, 51, 52, 53, 54, 55, 56, 57, 97, 98, 99, 100, 102, 103, 104, 105, 106, 107, 108, 109, 110, 112, 113, 114, 115, 118, 119, 120, 121, 122]⟩ : ByteArray) ((r.1 : Nat) : Int) = ((sgn r.1).toNat : Int) := by decide +kernel
  exact congrArg some (h ⟨r, hr⟩)

theorem ints_set_ (l : List UInt8) (i : Nat) (b : UInt8) : (ints l).set i (b.toNat : Int) = ints (l.set i b) := by simp [ints, List.map_set]
theorem set_zero (m : Nat) (x : UInt8) (l : List UInt8) : (ints (List.replicate (m + 1) 0 ++ l)).set m (x.toNat : Int) = ints (List.replicate m 0 ++ x :: l) := by
  rw [ints_set_]
  congr 1
  rw [List.replicate_succ', List.append_assoc, List.set_append]
  simp

theorem enc_outer (V n : Nat) (m : Nat) : ∀ (t k : Nat) (x : List Nat), n = t + m → (∀ a ∈ x, a < 256) → x.length ≤ 500000 → n ≤ 1000000 → big x = V / 32 ^ t →
    PNamingPaths.staddleref02_Encode.l1 (k + 1 + m * (x.length + 2)) (nats x) (ints (List.replicate m 0 ++ down V t)) ((m : Int) - 1) = some ⟨(down V n).toArray⟩ := by
  induction m with
  | zero =>
    intro t k x hn hx hl hnl hb
    simp only [PNamingPaths.staddleref02_Encode.l1, Nat.zero_mul, Nat.add_zero]
    rw [if_neg (by omega)]
    rw [show n = t by omega]
    simp only [List.replicate_zero, List.nil_append]
    rw [str_ints]
  | succ m ih =>
    intro t k x hn hx hl hnl hb
    rw [show k + 1 + (m + 1) * (x.length + 2) = ((k + 1 + m * (x.length + 2)) + 1 + x.length) + 1 by rw [Nat.add_mul]; omega]
    simp only [PNamingPaths.staddleref02_Encode.l1]
    have hin := enc_inner (ints (List.replicate (m + 1) 0 ++ down V t)) (((m + 1 : Nat) : Int) - 1) x [] 0 ((k + 1 + m * (x.length + 2)) + 1) (by omega) hx (by simp; omega)
    simp only [List.nil_append, List.length_nil, Nat.zero_add] at hin
    have hd := divs_big 0 x
    obtain ⟨hs1, hs2⟩ := divs_small 0 x (by omega) hx
    rw [Nat.zero_mul, Nat.zero_add, hb] at hd
    have hr : (divs 0 x).2 = V / 32 ^ t % 32 := by omega
    have hq : big (divs 0 x).1 = V / 32 ^ (t + 1) := by rw [Nat.pow_succ, ← Nat.div_div_eq_div_mul]; omega
    rw [if_pos (by omega)]
    rw [show ((0 : Nat) : Int) = 0 from rfl] at hin
    rw [hin]
    simp only [PNamingPaths.staddleref02_Encode.l2]
    have e0 : ((m + 1 : Nat) : Int) - 1 = (m : Int) := by omega
    rw [if_neg (by rw [nats_length, divs_length]; omega), sign_f _ hs2, Option.bind_some, e0, if_pos (by omega), if_pos (by rw [ints_length]; simp; omega), Int.toNat_natCast, set_zero, wrap64_id _ (by omega) (by omega)]
    have := ih (t + 1) k (divs 0 x).1 (by omega) hs1 (by rw [divs_length]; exact hl) hnl hq
    rw [divs_length] at this
    rw [hr, sgn_mod]
    exact this

theorem enc_gather (l : List UInt8) (hl : l.length ≤ 400000) (d : Nat) : ∀ (k : Nat) (acc : List Nat), d ≤ l.length → acc = ((l.drop d).map (·.toNat)).reverse →
    PNamingPaths.staddleref02_Encode.l0 (k + d) (ints l) (nats acc) ((d : Int) - 1) = PNamingPaths.staddleref02_Encode.l0 k (ints l) (nats (l.map (·.toNat)).reverse) (-1) := by
  induction d with
  | zero => intro k acc _ h; subst h; simp
  | succ d ih =>
    intro k acc hd h
    rw [show k + (d + 1) = (k + d) + 1 by omega]
    conv => lhs; simp only [PNamingPaths.staddleref02_Encode.l0]
    have e0 : ((d + 1 : Nat) : Int) - 1 = (d : Int) := by omega
    have hlen : acc.length ≤ l.length := by subst h; simp
    rw [e0, if_pos (by omega), if_pos (by omega), if_pos (by rw [ints_length]; omega), if_pos (by rw [nats_length]; omega), rd_ints, wrap64_id ((l.getD d 0).toNat : Int) (by omega) (by have := (l.getD d 0).toNat_lt; omega), wrap64_id _ (by omega) (by omega)]
    have e1 : nats acc ++ [((l.getD d 0).toNat : Int)] = nats (acc ++ [(l.getD d 0).toNat]) := by simp [nats]
    rw [e1]
    refine ih k _ (by omega) ?_
    have ed : l.drop d = l.getD d 0 :: l.drop (d + 1) := by
      rw [List.drop_eq_getElem_cons (by omega), List.getD_eq_getElem?_getD, List.getElem?_eq_getElem (by omega)]; rfl
    rw [ed, h]
    simp

theorem big_rev (l : List UInt8) : big (l.map (·.toNat)).reverse = val l := by
  have h : ∀ (a : List Nat) (x : Nat), big (a ++ [x]) = x + 256 * big a := by
    intro a x
    induction a with
    | nil => simp [big]
    | cons b a ih => simp only [List.cons_append, big, ih, List.length_append, List.length_cons, List.length_nil, Nat.pow_succ, Nat.zero_add, Nat.mul_add, Nat.pow_zero]; rw [← Nat.mul_assoc, Nat.mul_comm (b * 256 ^ a.length) 256]; omega
  induction l with
  | nil => rfl
  | cons b l ih => rw [List.map_cons, List.reverse_cons, h, ih, val]

theorem refEnc_f (l : List UInt8) (hl : l.length ≤ 400000) : ∃ k, PNamingPaths.staddleref02_Encode.f k (ints l) = some ⟨(enc l).toArray⟩ := by
  obtain ⟨kl, hkl⟩ := refLen_f l.length (by omega)
  have hle : lens l.length ≤ 1000000 := by unfold lens; omega
  refine ⟨(kl + (1 + lens l.length * ((l.map (·.toNat)).reverse.length + 2)) + 1) + l.length, ?_⟩
  unfold PNamingPaths.staddleref02_Encode.f
  rw [ints_length, wrap64_id _ (by omega) (by omega)]
  have := enc_gather l hl l.length (kl + (1 + lens l.length * ((l.map (·.toNat)).reverse.length + 2)) + 1) [] (Nat.le_refl _) (by simp)
  rw [show ([] : List Int) = nats [] from rfl, this]
  simp only [PNamingPaths.staddleref02_Encode.l0]
  have hk2 : PNamingPaths.staddleref02_Len.f (kl + (1 + lens l.length * ((l.map (·.toNat)).reverse.length + 2))) (l.length : Int) = some ((lens l.length : Nat) : Int) :=
    at_rounds (PNamingPaths.staddleref02_Len.mono _) (by omega) hkl
  rw [if_neg (by omega), ints_length, hk2, Option.bind_some, if_pos (by omega), Int.toNat_natCast, if_pos (by omega), wrap64_id _ (by omega) (by omega)]
  have ho := enc_outer (val l) (lens l.length) (lens l.length) 0 kl (l.map (·.toNat)).reverse (by omega) (fun a ha => by simp at ha; obtain ⟨b, _, rfl⟩ := ha; exact b.toNat_lt) (by simp; omega) (by omega) (by rw [big_rev]; simp)
  rw [show (List.replicate (lens l.length) (0 : Int)) = ints (List.replicate (lens l.length) 0 ++ down (val l) 0) by simp [ints, down]]
  rw [show kl + (1 + lens l.length * ((l.map (·.toNat)).reverse.length + 2)) = kl + 1 + lens l.length * ((l.map (·.toNat)).reverse.length + 2) by omega]
  exact ho

theorem refEnc_any (A : Option Addr) (c : Nat) (l : List UInt8) (w : World) (hr : Kd.C (Kd.int .u8) w A l.length (ints l)) (hc : l.length ≤ c) (hl : l.length ≤ 400000) :
    Calls Try.prog 20 #[.slice A l.length c] w fun e w' => e = .returned (.string ⟨(enc l).toArray⟩) ∧ Below w.heap.size w w' := by
  obtain ⟨k, hk⟩ := refEnc_f l hl
  have h := PNamingPaths.staddleref02_Encode.calls k A c (ints l) _ w (by rw [ints_length]; exact hr) (by rw [ints_length]; exact hc) hk
  rw [ints_length] at h
  exact h

end Go.Proofs.Ytigeljeoodhcoaa
