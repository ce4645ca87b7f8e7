/-
  A device of two sectors, and two texts of 256 bytes beside it: what each call leaves.
-/
import Derived.Test.YtaakknnfebmkcaaSectorKeepsWalk
set_option linter.unusedVariables false
set_option linter.unusedSimpArgs false
namespace Go.Proofs.Ytaakknnfebmkcaa
open Go.RowKit Go.Proofs.YtaakknnfebmkcaaW.PrintWords

/-- Where things lie. -/
structure Pl (w0 : World) (base H b g pa pb : Nat) (a f : List UInt8) : Prop where
  hb : w0.heap.size ≤ b
  hg : w0.heap.size ≤ g
  bH : b < H
  gH : g < H
  paH : pa < H
  pbH : pb < H
  ab : pa ≠ b
  ag : pa ≠ g
  fb : pb ≠ b
  fg : pb ≠ g
  wH : w0.heap.size ≤ H
  bs : base ≤ H
  la : a.length = 256
  lf : f.length = 256
/-- How things are. -/
structure St (w0 : World) (base H b g pa pb : Nat) (a f : List UInt8) (w : World) (L : List UInt8) (wv : Value) (way : List (Nat × List UInt8)) (cnt : Int) : Prop where
  dev : Dev w base b g 2 L wv way cnt 0 false
  ra : w.rangeAt pa 0 (Lib.byteCells a)
  rb : w.rangeAt pb 0 (Lib.byteCells f)
  below : Below w0.heap.size w0 w
  size : H ≤ w.heap.size
  far : ∀ k, wv.ownBlock = some k → H ≤ k
section
variable {w0 : World} {base H b g pa pb : Nat} {a f : List UInt8} {w : World} {L : List UInt8} {wv : Value} {way : List (Nat × List UInt8)} {cnt : Int}
theorem St.kept (p : Pl w0 base H b g pa pb a f) (h : St w0 base H b g pa pb a f w L wv way cnt) {w' : World} {ks : Nat → Prop} (hk : Kept w w' ks) (hks : ∀ k, ks k → k = b ∨ k = g ∨ H ≤ k) {L' : List UInt8} {wv' : Value} {way' : List (Nat × List UInt8)} {cnt' : Int}
    (hd : Dev w' base b g 2 L' wv' way' cnt' 0 false) (hf : ∀ k, wv'.ownBlock = some k → H ≤ k) : St w0 base H b g pa pb a f w' L' wv' way' cnt' := by
  have hs := h.size
  have h1 := p.paH
  have h2 := p.pbH
  have h3 := p.ab
  have h4 := p.ag
  have h5 := p.fb
  have h6 := p.fg
  have h7 := p.hb
  have h8 := p.hg
  have h9 := p.wH
  refine ⟨hd, hk.range h.ra (by omega) (fun e => ?_), hk.range h.rb (by omega) (fun e => ?_), hk.below h.below (fun k e => ?_) h.below.size, Nat.le_trans hs hk.size, hf⟩
  · have := hks _ e; omega
  · have := hks _ e; omega
  · have := hks _ e; omega
theorem St.more (h : St w0 base H b g pa pb a f w L wv way cnt) {w' : World} (hb : Below w.heap.size w w') (p : Pl w0 base H b g pa pb a f) : St w0 base H b g pa pb a f w' L wv way cnt :=
  ⟨h.dev.below hb, range_below h.ra hb (by have := p.paH; have := h.size; omega), range_below h.rb hb (by have := p.pbH; have := h.size; omega), h.below.trans (hb.mono h.below.size), Nat.le_trans h.size hb.size, h.far⟩

theorem offB_none (c : Int) : offB c 0 false = false := by simp [offB]
theorem write_st (p : Pl w0 base H b g pa pb a f) (h : St w0 base H b g pa pb a f w L wv way cnt) (i : Nat) (hi : i < 2) (q : Nat) (d : List UInt8) (hq : q = pa ∧ d = a ∨ q = pb ∧ d = f) (cap : Nat) (h0 : 0 ≤ cnt) (h1 : cnt ≤ 1000) (hw : way.length ≤ 1000) :
    Calls Try.prog 10 #[.pointer (some ⟨b, 0, none⟩), .int .i64 i, .slice (some ⟨q, 0, none⟩) 256 cap] w fun e w' => ∃ gg cc, e = .returned (.int .i64 0) ∧ St w0 base H b g pa pb a f w' L (.slice (some ⟨gg, 0, none⟩) (way.length + 1) cc) (way ++ [(i, d)]) (cnt + 1) := by
  have hs := h.size
  have e1 := p.paH
  have e2 := p.pbH
  have e3 := p.ab
  have e5 := p.fb
  have e6 := p.bs
  have hr : w.rangeAt q 0 (Lib.byteCells d) ∧ d.length = 256 ∧ q < H ∧ q ≠ b := by
    rcases hq with ⟨rfl, rfl⟩ | ⟨rfl, rfl⟩
    · exact ⟨h.ra, p.la, e1, e3⟩
    · exact ⟨h.rb, p.lf, e2, e5⟩
  obtain ⟨r1, r2, r3, r4⟩ := hr
  refine (write_on base b g 2 L wv way cnt 0 i q 0 cap d w h.dev hi h0 (by omega) r2 r1 r4 (fun e => by have := h.far _ e; omega) (by omega) (by omega) (by omega)).mono ?_
  rintro e w' ⟨gg, cc, rfl, hd, hk, hg⟩
  rw [offB_none] at hd ⊢
  refine ⟨gg, cc, rfl, h.kept p hk (fun k e => ?_) hd (fun k e => ?_)⟩
  · rcases e with e | e
    · exact .inl e
    · exact .inr (.inr (h.far _ e))
  · have : gg = k := by simpa [Value.ownBlock] using e
    subst this
    rcases hg with e | e
    · exact h.far _ e
    · omega
theorem sync_st {A : Option Addr} {wc : Nat} (p : Pl w0 base H b g pa pb a f) (h : St w0 base H b g pa pb a f w L (.slice A way.length wc) way cnt) (h0 : 0 ≤ cnt) (h1 : cnt ≤ 1000) (hw : way.length ≤ 1000) :
    Calls Try.prog 11 #[.pointer (some ⟨b, 0, none⟩)] w fun e w' => e = .returned (.int .i64 0) ∧ St w0 base H b g pa pb a f w' (syncK way L way.length) (.slice none 0 0) [] (cnt + 1) := by
  refine (sync_on base b g 2 L A wc way cnt 0 w h.dev (by omega) h0 (by omega) (offB_none _)).mono ?_
  rintro e w' ⟨rfl, hd, hk⟩
  exact ⟨rfl, h.kept p hk (fun k e => by rcases e with e | e <;> simp [e]) hd (fun k e => by simp [Value.ownBlock] at e)⟩
theorem restart_st {A : Option Addr} {wc : Nat} (p : Pl w0 base H b g pa pb a f) (h : St w0 base H b g pa pb a f w L (.slice A way.length wc) way cnt) (hw : way.length ≤ 1000) (ks : List Bool) (hks : ks.length ≤ 1000) (kb kc : Nat) (torn cut : Int) (hkb : kb ≠ g)
    (hkr : ∀ j, j < ks.length → w.cell? ⟨kb, j, none⟩ = some (.bool (ks.getD j false))) :
    Calls Try.prog 12 #[.pointer (some ⟨b, 0, none⟩), .slice (some ⟨kb, 0, none⟩) ks.length kc, .int .i64 torn, .int .i64 cut] w fun e w' => e = .returned (.int .i64 0) ∧ St w0 base H b g pa pb a f w' (restK way torn (cutN cut) ks L way.length) (.slice none 0 0) [] cnt := by
  refine (restart_any base b g 2 L A wc way cnt 0 false _ ks kc torn cut w h.dev (by omega) (by omega) (fun _ => ⟨_, rfl, hkb, fun j hj => ?_⟩)).mono ?_
  · rw [add_plain]
    exact hkr j hj
  rintro e w' ⟨rfl, hd, hk⟩
  exact ⟨rfl, h.kept p hk (fun k e => by rcases e with e | e <;> simp [e]) hd (fun k e => by simp [Value.ownBlock] at e)⟩
theorem read_st (p : Pl w0 base H b g pa pb a f) (h : St w0 base H b g pa pb a f w L (.slice none 0 0) [] cnt) (i : Nat) (hi : i < 2) :
    Calls Try.prog 13 #[.pointer (some ⟨b, 0, none⟩), .int .i64 i] w fun e w' => e = .returned (.tuple #[.slice (some ⟨w.heap.size, 0, none⟩) 256 256, .int .i64 0]) ∧ w'.rangeAt w.heap.size 0 (Lib.byteCells ((L.drop (i * 256)).take 256)) ∧ w.heap.size < w'.heap.size ∧ Below w.heap.size w w' ∧ St w0 base H b g pa pb a f w' L (.slice none 0 0) [] cnt := by
  refine (read_on base b g 2 L none 0 [] cnt 0 i w h.dev hi (by decide)).mono ?_
  rintro e w' ⟨rfl, hp, hb⟩
  exact ⟨rfl, range_blk hp (fun j v hv => by simpa [pick] using hv), blk_lt hp, hb, h.more hb p⟩
end

theorem sync_two (a z : List UInt8) (ha : a.length = 256) (hz : z.length = 512) : syncK ([(0, a)] ++ [(1, a)]) z 2 = a ++ a := by
  simp [syncK, splice, ha, hz]
theorem rest_one (a f : List UInt8) (ha : a.length = 256) (hf : f.length = 256) (c : Nat) (hc : c ≤ 256) : restK ([(0, f)] ++ [(1, f)]) 0 c [true, true] (a ++ a) 2 = (f.take c ++ a.drop c) ++ f := by
  have e1 : List.drop 256 (a ++ a) = a := by rw [List.drop_append_of_le_length (by omega), List.drop_of_length_le (by omega)]; rfl
  have e2 : List.drop c (a ++ a) = a.drop c ++ a := by rw [List.drop_append_of_le_length (by omega)]
  have e3 : min c 256 = c := by omega
  have e4 : (f.take c).length = c := by rw [List.length_take]; omega
  have e5 : (List.drop c a).length = 256 - c := by rw [List.length_drop, ha]
  have e6 : List.take 256 (f.take c ++ (a.drop c ++ a)) = f.take c ++ a.drop c := by
    rw [← List.append_assoc, List.take_append_of_le_length (by simp; omega), List.take_of_length_le (by simp; omega)]
  have e7 : List.drop 512 (f.take c ++ (a.drop c ++ a)) = [] := List.drop_of_length_le (by simp; omega)
  simp [restK, splice, e3, hf, e2, e6, e7]
theorem rest_two (a f : List UInt8) (ha : a.length = 256) (hf : f.length = 256) (c : Nat) (hc : c ≤ 256) : restK ([(0, f)] ++ [(1, f)]) 1 c [true, true] (a ++ a) 2 = f ++ (f.take c ++ a.drop c) := by
  have e1 : List.drop 256 (a ++ a) = a := by rw [List.drop_append_of_le_length (by omega), List.drop_of_length_le (by omega)]; rfl
  have e3 : min c 256 = c := by omega
  have e4 : List.take 256 (f ++ a) = f := by rw [List.take_append_of_le_length (by omega), List.take_of_length_le (by omega)]
  have e5 : List.drop (256 + c) (f ++ a) = a.drop c := by rw [← List.drop_drop, List.drop_append_of_le_length (by omega), List.drop_of_length_le (l := f) (by omega)]; rfl
  simp [restK, splice, e3, hf, e1, e4, e5]
theorem mix_get (a f : List UInt8) (ha : a.length = 256) (hf : f.length = 256) (cut : Int) (i : Nat) (hi : i < 256) : (f.take (cutN cut) ++ a.drop (cutN cut)).getD i 0 = if (i : Int) < cut then f.getD i 0 else a.getD i 0 := by
  have hc := cut_le cut
  have hl : (f.take (cutN cut)).length = cutN cut := by rw [List.length_take]; omega
  by_cases h : (i : Int) < cut
  · have : i < cutN cut := by unfold cutN; omega
    rw [if_pos h]
    simp [List.getD_eq_getElem?_getD, List.getElem?_append, hl, this, show i < f.length by omega]
  · have : ¬ i < cutN cut := by unfold cutN; omega
    rw [if_neg h]
    simp only [List.getD_eq_getElem?_getD, List.getElem?_append, hl, this, if_false, List.getElem?_drop]
    rw [show cutN cut + (i - cutN cut) = i by omega]
end Go.Proofs.Ytaakknnfebmkcaa
