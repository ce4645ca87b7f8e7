/-
  SectorErrs: the walk.
-/
import Derived.Test.YtaakknnfebmkcaaErrs
set_option linter.unusedVariables false
set_option linter.unusedSimpArgs false
namespace Go.Proofs.Ytaakknnfebmkcaa
open Go.RowKit Go.Proofs.YtaakknnfebmkcaaW.PrintWords

set_option maxHeartbeats 1000000 in
set_option maxRecDepth 100000 in
theorem errs_out (m : Nat) (i : Int) (A : Option Addr) (len cap : Nat) (w : World) (hl : len ≤ 1000) (h1 : 1 ≤ m) (h8 : m ≤ 8192) (hi : ¬ (0 ≤ i ∧ i < m)) :
    Calls Try.prog 6 #[.int .i64 m, .int .i64 i, .slice A len cap] w fun e w' => e = .returned (.bool true) ∧ Below w.heap.size w w' := by
  have HI := Aside0.mk hi
  clear hi
  go_enter Try.func6, Try.ntmps6
  go_wp2_with fail
  refine (awake_any _).mono ?_
  rintro e w1 ⟨rfl, hb1⟩
  go_wp2_with fail
  refine (read_nil i _).mono ?_
  rintro e w' ⟨rfl, rfl⟩
  go_wp2_with fail
  refine (write_nil i _ _).mono ?_
  rintro e w' ⟨rfl, rfl⟩
  go_wp2_with fail
  refine (sync_nil _).mono ?_
  rintro e w' ⟨rfl, rfl⟩
  go_wp2_with fail
  refine (arm_nil i _).mono ?_
  rintro e w' ⟨rfl, rfl⟩
  go_wp2_with fail
  refine (restart_nil _ i i _).mono ?_
  rintro e w' ⟨rfl, rfl⟩
  go_wp2_with fail
  refine (len_nil _).mono ?_
  rintro e w' ⟨rfl, rfl⟩
  go_wp2_with fail
  refine (ops_nil _).mono ?_
  rintro e w' ⟨rfl, rfl⟩
  go_wp2_with fail
  refine (way_nil _).mono ?_
  rintro e w' ⟨rfl, rfl⟩
  go_wp2_with fail
  refine (on_nil _).mono ?_
  rintro e w' ⟨rfl, rfl⟩
  go_wp2_with fail
  refine (new_in m _ h1 h8).mono ?_
  rintro e w2 ⟨b, g, rfl, hD, hb2⟩
  have HB2 := hb1.trans (hb2.mono hb1.size)
  have HR := Aside0.mk (read_out b g m _ _ _ _ i w2 hD.dev HI.out)
  have HW := Aside0.mk (write_out b g m _ _ _ _ i (.slice A len cap) w2 hD.dev HI.out)
  clear hD hb2
  go_wp2_with fail
  refine HR.out.mono ?_
  rintro e w' ⟨rfl, rfl⟩
  go_wp2_with fail
  refine HW.out.mono ?_
  rintro e w' ⟨rfl, rfl⟩
  by_cases hi0 : i < 0
  · go_wp2
    go_ret
    exact ⟨by first | rfl | (go_simp; done), HB2⟩
  · have hi1 : (m : Int) ≤ i := by have := HI.out; omega
    go_wp2
    go_ret
    exact ⟨by first | rfl | (go_simp; done), HB2⟩

set_option maxHeartbeats 1000000 in
set_option maxRecDepth 100000 in
theorem errs_form (m i : Nat) (A : Option Addr) (len cap : Nat) (w : World) (hl : len ≤ 1000) (h1 : 1 ≤ m) (h8 : m ≤ 8192) (hi : i < m) (h256 : len ≠ 256) :
    Calls Try.prog 6 #[.int .i64 m, .int .i64 i, .slice A len cap] w fun e w' => e = .returned (.bool true) ∧ Below w.heap.size w w' := by
  have h256' : (len : Int) ≠ 256 := by omega
  go_enter Try.func6, Try.ntmps6
  go_wp2_with fail
  refine (awake_any _).mono ?_
  rintro e w1 ⟨rfl, hb1⟩
  go_wp2_with fail
  refine (read_nil i _).mono ?_
  rintro e w' ⟨rfl, rfl⟩
  go_wp2_with fail
  refine (write_nil i _ _).mono ?_
  rintro e w' ⟨rfl, rfl⟩
  go_wp2_with fail
  refine (sync_nil _).mono ?_
  rintro e w' ⟨rfl, rfl⟩
  go_wp2_with fail
  refine (arm_nil i _).mono ?_
  rintro e w' ⟨rfl, rfl⟩
  go_wp2_with fail
  refine (restart_nil _ i i _).mono ?_
  rintro e w' ⟨rfl, rfl⟩
  go_wp2_with fail
  refine (len_nil _).mono ?_
  rintro e w' ⟨rfl, rfl⟩
  go_wp2_with fail
  refine (ops_nil _).mono ?_
  rintro e w' ⟨rfl, rfl⟩
  go_wp2_with fail
  refine (way_nil _).mono ?_
  rintro e w' ⟨rfl, rfl⟩
  go_wp2_with fail
  refine (on_nil _).mono ?_
  rintro e w' ⟨rfl, rfl⟩
  go_wp2_with fail
  refine (new_in m _ h1 h8).mono ?_
  rintro e w2 ⟨b, g, rfl, hD, hb2⟩
  have HB2 := hb1.trans (hb2.mono hb1.size)
  have HR := Aside0.mk (read_on _ b g m _ none 0 [] 0 0 i w2 hD hi (by decide))
  have HD := Aside0.mk hD
  clear hD hb2
  go_wp2_with fail
  refine HR.out.mono ?_
  rintro e w3 ⟨rfl, _, hb3⟩
  have HB3 := HB2.trans (hb3.mono HB2.size)
  have hD3 := HD.out.below hb3
  have HW := Aside0.mk (write_form b g m _ _ _ _ i A len cap w3 hD3.dev ⟨by omega, by omega⟩ h256)
  have HL := Aside0.mk (len_any b g m _ _ _ _ w3 hD3.dev)
  clear hD3 hb3
  go_wp2_with fail
  refine HW.out.mono ?_
  rintro e w' ⟨rfl, rfl⟩
  go_wp2_with fail
  refine HL.out.mono ?_
  rintro e w' ⟨rfl, rfl⟩
  go_wp2
  go_ret
  exact ⟨by first | rfl | (go_simp; done), HB3⟩

set_option maxHeartbeats 1000000 in
set_option maxRecDepth 100000 in
theorem errs_full (m i : Nat) (pb po cap : Nat) (p : List UInt8) (w : World) (h1 : 1 ≤ m) (h8 : m ≤ 8192) (hi : i < m) (hp : p.length = 256) (hr : w.rangeAt pb po (Lib.byteCells p)) (hpl : pb < w.heap.size) :
    Calls Try.prog 6 #[.int .i64 m, .int .i64 i, .slice (some ⟨pb, po, none⟩) 256 cap] w fun e w' => e = .returned (.bool true) ∧ Below w.heap.size w w' := by
  have HRG := Aside0.mk hr
  clear hr
  go_enter Try.func6, Try.ntmps6
  go_wp2_with fail
  refine (awake_any _).mono ?_
  rintro e w1 ⟨rfl, hb1⟩
  go_wp2_with fail
  refine (read_nil i _).mono ?_
  rintro e w' ⟨rfl, rfl⟩
  go_wp2_with fail
  refine (write_nil i _ _).mono ?_
  rintro e w' ⟨rfl, rfl⟩
  go_wp2_with fail
  refine (sync_nil _).mono ?_
  rintro e w' ⟨rfl, rfl⟩
  go_wp2_with fail
  refine (arm_nil i _).mono ?_
  rintro e w' ⟨rfl, rfl⟩
  go_wp2_with fail
  refine (restart_nil _ i i _).mono ?_
  rintro e w' ⟨rfl, rfl⟩
  go_wp2_with fail
  refine (len_nil _).mono ?_
  rintro e w' ⟨rfl, rfl⟩
  go_wp2_with fail
  refine (ops_nil _).mono ?_
  rintro e w' ⟨rfl, rfl⟩
  go_wp2_with fail
  refine (way_nil _).mono ?_
  rintro e w' ⟨rfl, rfl⟩
  go_wp2_with fail
  refine (on_nil _).mono ?_
  rintro e w' ⟨rfl, rfl⟩
  go_wp2_with fail
  refine (new_in m _ h1 h8).mono ?_
  rintro e w2 ⟨b, g, rfl, hD, hb2⟩
  have HB2 := hb1.trans (hb2.mono hb1.size)
  have HR := Aside0.mk (read_on _ b g m _ none 0 [] 0 0 i w2 hD hi (by decide))
  have HD := Aside0.mk hD
  clear hD hb2
  go_wp2_with fail
  refine HR.out.mono ?_
  rintro e w3 ⟨rfl, _, hb3⟩
  have HB3 := HB2.trans (hb3.mono HB2.size)
  have hD3 := HD.out.below hb3
  have hrg3 := range_below HRG.out HB3 hpl
  have hws := hb1.size
  have hwr := write_on _ b g m _ _ [] 0 0 i pb po cap p w3 hD3 hi (by decide) (by decide) hp hrg3 (by have := HD.out.bb; omega) (by simp [Value.ownBlock]) (by have := HB3.size; omega) (by decide) (by have := HB2.size; have := hb3.size; have := blk_lt HD.out.dev; have := HD.out.bb; omega)
  rw [show offB 0 0 false = false from rfl] at hwr
  have HW := Aside0.mk hwr
  clear hwr hrg3 hb3
  go_wp2_with fail
  refine HW.out.mono ?_
  rintro e w4 ⟨gg, cc, rfl, hD4, hk4, hg4⟩
  have HB4 : Below w.heap.size w w4 := hk4.below HB3 (fun k hk => by
    rcases hk with rfl | hk
    · have := hD3.bb; omega
    · simp [Value.ownBlock] at hk) HB3.size
  have HL := Aside0.mk (len_any b g m _ _ _ _ w4 hD4.dev)
  clear hD4 hk4 hg4 hD3
  go_wp2_with fail
  refine HL.out.mono ?_
  rintro e w' ⟨rfl, rfl⟩
  go_wp2
  go_ret
  exact ⟨by first | rfl | (go_simp; done), HB4⟩
end Go.Proofs.Ytaakknnfebmkcaa
