/-
  'HashPieces' holds, whatever its arguments are: the law answers true, and what was there reads as it did. No condition.
-/
import Derived.Test.YtnpmhbhnggdhcaaRows
import Derived.Test.YtnpmhbhnggdhcaaHashPiecesWalk
import Derived.Test.YtnpmhbhnggdhcaaWSized
import Derived.WalkKit
import Derived.Deep.Slices
import Derived.ProofKit
import Derived.OpenShut
import Derived.ShutString
import Derived.ChangeOld
import Derived.Below
import Derived.SizedLaws
import Derived.JoinedCond
namespace Go.Proofs.Ytnpmhbhnggdhcaa.hashPieces
open Go.ChangeShapes Go.WideShapes Go.ChangeAt Go.RowKit
open Go.ChangeMaps (open_string shut_string)
set_option linter.unusedVariables false
set_option linter.unusedSimpArgs false
theorem own : ownKnob Try.prog.godebug = none := by kernel_rfl
theorem laidOut : laidOutB Try.prog = true := by kernel_rfl
def IsRow (k : IntKind) (w : World) (a : Option Addr) (len cap : Nat) (zs : List Int) : Prop :=
  (a = none ∧ len = 0 ∧ cap = 0 ∧ zs = []) ∨
  ∃ x, a = some x ∧ len ≤ cap ∧ cap ≤ maxLen ∧ zs.length = cap ∧ (∀ i, i < zs.length → w.cell? (x.add i) = some (.int k (zs.getD i 0))) ∧ ∀ n ∈ zs, (Lit.int k n).wf = true
set_option maxRecDepth 100000 in
theorem lifted (os : Os) (started : os.Started) (H : Type) (enc : TypeId × Value → H) :
    ReturnsInHanded {} Try.checked os 5 .any (Rows.hashPiecesSpec.pre6 enc Try.prog Try.f5 Rows.hashPiecesRow.domain false) (Rows.hashPiecesSpec.post enc Try.prog Try.f5 false true false false) := by
  refine returnsInHanded_of_change_sized (C := Try.checked) own started (by kernel_rfl) Try.func5
    (ChangeSpec.witness6 (enc := enc) (C := Try.checked) false ⟨#[], #[.slice none 0 0], []⟩ 8 (by kernel_rfl) (by kernel_rfl) (by kernel_rfl) (by kernel_rfl)) ?_
  intro W base args ds gs before hval0 hW hcnd hsz0 _
  have hsz : (DataW.weightsEach Try.prog (Try.f5.params.toList ++ Rows.hashPiecesSpec.plain.varTypes Try.prog) (ds ++ gs)).all (· ≤ reachBytes) = true := hsz0
  have hval : ∀ (j : Nat) t v, Try.f5.params[j]? = some t → args[j]? = some v → Value.okWide Try.prog W .any base t v := hval0
  have hW' := hW
  obtain ⟨p, q, hA0, hV, rfl, hfz, hnd⟩ := hW
  have hA : DataW.TrodAll enc Try.prog W 0 (fun _ => true) true Try.f5.params.toList args.toList ds p := hA0
  rw [Try.params5] at hA hval hsz
  obtain ⟨v0, vs0, d0, ds0, p0, q0, hargs, rfl, rfl, h0, r0⟩ := trodAll_cons hA
  obtain ⟨rfl, rfl, rfl⟩ := trodAll_nil r0
  obtain rfl : args = #[v0] := by cases args; simp_all
  obtain ⟨rfl, rfl⟩ := trodVars_none hV
  obtain ⟨a0, len0, cap0, rfl⟩ := okWide_slice Try.underlying33 (hval 0 33 v0 rfl rfl)
  have k0 := h0
  have lt0 : ∀ x ∈ p0, x.block < W.heap.size := by obtain ⟨m, hm⟩ := k0; exact DataW.trod_lt m _ _ _ hm
  obtain ⟨w0, w1⟩ : Pieces W a0 len0 ∧ (a0 = none → len0 = 0 ∧ cap0 = 0) := by
    obtain ⟨fuel, hf⟩ := h0
    rcases Go.Deep.open_slice1 Try.underlying33 (by kernel_rfl) hf with ⟨hcs, _⟩ | ⟨x, l, c, mm, n, V, D, Pl, hcs, _, hl, hm, hmm, _, hx⟩
    · simp [Value.cells] at hcs
      obtain ⟨rfl, rfl, rfl⟩ := hcs
      exact ⟨fun h => absurd h (by omega), fun _ => ⟨rfl, rfl⟩⟩
    · simp [Value.cells] at hcs
      obtain ⟨rfl, rfl, rfl⟩ := hcs
      have hmc : mm = cap0 := by simpa using hmm
      refine ⟨fun h0 => ⟨x, rfl, ?_, fun i hi => ?_⟩, fun e => by cases e⟩
      · have h4 := (hx 0 (by omega)).1
        rw [show x.add 0 = x by simp [Addr.add]] at h4
        unfold World.cell? at h4
        by_cases hb : x.block < W.heap.size
        · exact hb
        · rw [Array.getElem?_eq_none (by omega)] at h4
          simp at h4
      · obtain ⟨h4, h5⟩ := hx i (by omega)
        rcases open_ints Try.underlying22 Try.underlying5 (by kernel_rfl) h5 with ⟨hcs, _⟩ | ⟨x', l', c', zs, hcs, _, hl', hm', hz, _, hcell, hwz⟩
        · have hv : V i = .slice none 0 0 := by simpa using hcs
          exact ⟨_, [], h4, none, 0, hv, fun h => absurd h (by simp), fun _ => ⟨rfl, rfl⟩⟩
        · have hv : V i = .slice (some x') l' c' := by simpa using hcs
          obtain ⟨p, hpl, hr, _, _, hn⟩ := row_rd (w := W) (a := some x') (len := l') (cap := c') (zs := zs) (.inr ⟨x', rfl, hl', hm', by simpa using hz, hcell, hwz⟩)
          subst hpl
          exact ⟨_, p, h4, some x', c', hv, hr, hn⟩
  clear hA0 hval0 hsz0 hsz
  refine (walk_HashPieces a0 len0 cap0 W w0 w1).mono fun e W' ⟨he, bel⟩ => ?_
  subst he
  exact ⟨_, rfl, _, _, _, [], _, [], hW', trodAll_mk1 (shut_bool Try.underlying4 _), (trodAll_cons_mk (Below.trod laidOut (by kernel_rfl) (of_decide_eq_true (by kernel_rfl)) k0 bel lt0) trodAll_mk0), rfl, bel.frame _, fun h => by cases h⟩
theorem over : Rows.hashPiecesRow.holds Try.pinned (OpenSpec.ofChange Rows.hashPiecesSpec) :=
  OpenClaim.holds_of_wide 5 Try.f5 rfl rfl rfl rfl rfl rfl rfl ⟨rfl, rfl, rfl, rfl, rfl⟩ rfl rfl rfl rfl rfl (by kernel_rfl) Try.func5 (by kernel_rfl)
    (of_decide_eq_true (by kernel_rfl)) (by unfold Func.isWrapper; first | (rw [if_pos (by decide +kernel)]; kernel_rfl) | (rw [if_neg (by decide +kernel)]; exact ⟨rfl, rfl⟩))
    (fun os started H enc _ => lifted os started H enc)
theorem proved : Rows.HashPiecesSaid := over
#print axioms proved
end Go.Proofs.Ytnpmhbhnggdhcaa.hashPieces
