/-
  NamingNames: for any text the law answers true.
-/
import Derived.Test.YtigeljeoodhcoaaAwake
set_option linter.unusedVariables false
set_option linter.unusedSimpArgs false
namespace Go.Proofs.Ytigeljeoodhcoaa
open Go.RowKit Go.Proofs.YtigeljeoodhcoaaW.PrintWords Go.Proofs.YtigeljeoodhcoaaW.PrintLast Go.Proofs.YtigeljeoodhcoaaW.PrintMore

set_option maxHeartbeats 400000 in
set_option maxRecDepth 100000 in
theorem walk_NamingNames (s : ByteArray) (w : World) (hs : s.size ≤ 140737488351232) : Calls Try.prog 3 #[.string s] w fun e w' => e = .returned (.bool true) ∧ Below w.heap.size w w' := by
  obtain ⟨b, hb⟩ : ∃ b, nameB s = b := ⟨_, rfl⟩
  go_enter Try.func3, Try.ntmps3
  go_wp2_with fail
  refine (awake_any _).mono ?_
  rintro e w1 ⟨rfl, hb1⟩
  go_wp2_with fail
  have h1 := name_any s w1 hs
  rw [hb] at h1
  refine h1.mono ?_
  rintro e w2 ⟨rfl, hd2⟩
  have HB := below_drawn hb1 hd2
  clear h1
  go_wp2_with fail
  have h1 := refName_any s w2 hs
  rw [hb] at h1
  refine h1.mono ?_
  rintro e w3 ⟨rfl, hd3⟩
  have HB3 := below_drawn HB hd3
  clear h1
  go_wp2
  go_ret
  exact ⟨by first | rfl | (go_simp; done), HB3⟩
end Go.Proofs.Ytigeljeoodhcoaa
