/-
  SectorKeeps: what is handed in may be written over behind the call, and so may what is told: the walk.
-/
import Derived.Test.YtaakknnfebmkcaaSync
import Derived.Deep.RegionWith
set_option linter.unusedVariables false
set_option linter.unusedSimpArgs false
namespace Go.Proofs.Ytaakknnfebmkcaa
open Go.RowKit Go.Proofs.YtaakknnfebmkcaaW.PrintWords

theorem Dev.at1 {w w' : World} {base b g n : Nat} {L : List UInt8} {wv : Value} {way : List (Nat × List UInt8)} {cnt arm : Int} {off : Bool} (h : Dev w base b g n L wv way cnt arm off) {k : Nat} (hk : At1 k w w') (hb : b ≠ k) (hg : g ≠ k) (hw : wv.ownBlock ≠ some k) : Dev w' base b g n L wv way cnt arm off :=
  ⟨(hk.block b hb).trans h.dev, (hk.block g hg).trans h.secs, h.len, h.bb, h.bg, own_move h.own (fun j hj => hk.block j (fun e => hw (by rw [hj, e]))), h.small, h.each⟩
theorem range_cell {w : World} {b : Nat} {l : List UInt8} (h : w.rangeAt b 0 (Lib.byteCells l)) (j : Nat) (hj : j < l.length) : w.cell? ⟨b, j, none⟩ = some (.int .u8 ((l.getD j 0).toNat : Int)) := by
  have := h j (.int .u8 ((l.getD j 0).toNat : Int)) (by simp [Lib.byteCells, hj, List.getD_eq_getElem?_getD])
  rwa [Nat.zero_add] at this

theorem arr_cell {W : World} {b i : Nat} {l : List UInt8} {t : TypeId} (hb : W.heap[b]? = some (.cells (Lib.byteCells l).toArray t (0, 0))) (hi : i < l.length) :
    W.cell? ⟨b, i, none⟩ = some (.int .u8 ((l.getD i 0).toNat : Int)) ∧ W.frozen? ⟨b, i, none⟩ = false := by
  constructor
  · rw [cell_of_row W b i _ t (0, 0) hb]
    simp [Lib.byteCells, hi, List.getD_eq_getElem?_getD]
  · simp [World.frozen?, hb]
theorem str_ints (l : List UInt8) : strOfNums (ints l) = ⟨l.toArray⟩ := by
  unfold strOfNums ints
  congr 2
  rw [List.map_map]
  conv => rhs; rw [← List.map_id l]
  refine List.map_congr_left fun x hx => ?_
  simp
theorem conv_range {W : World} {b n c : Nat} {l : List UInt8} (h : W.rangeAt b 0 (Lib.byteCells l)) (hl : l.length = n) (hm0 : n ≤ 1000000) : (convert 22 9 (.slice (some ⟨b, 0, none⟩) n c)).run Try.prog W = .ok (.string ⟨l.toArray⟩) W := by
  subst hl
  have hm : l.length ≤ 9223372036854775807 := by omega
  have hr : ReadsInt W .u8 (some ⟨b, 0, none⟩) l.length (ints l) := ⟨ints_length l, hm, fun _ => ⟨_, rfl, fun j hj => by
    rw [add_plain]
    have := range_cell h j hj
    rw [this]
    simp [ints, hj, List.getD_eq_getElem?_getD]⟩⟩
  have := string_of_reads (P := Try.prog) (src := 22) (dst := 9) (c := c) Try.underlying22 Try.underlying5 Try.underlying9 hr
  rw [str_ints] at this
  exact this
theorem splice_any (l Z : List UInt8) (h : l.length = 256) (hZ : Z.length = 256) : ((splice Z (0 * 256) l).drop (0 * 256)).take 256 = l := by
  have e : Z.drop 256 = [] := List.drop_eq_nil_of_le (Nat.le_of_eq hZ)
  simp [splice, h, e, List.take_of_length_le (Nat.le_of_eq h)]
theorem splice_all (l : List UInt8) (h : l.length = 256) : ((splice (zb (1 * 256)) (0 * 256) l).drop (0 * 256)).take 256 = l := splice_any l _ h List.length_replicate

set_option maxHeartbeats 1000000 in
set_option maxRecDepth 100000 in
theorem keeps_any (A : Option Addr) (c : Nat) (l : List UInt8) (w : World) (hr : Kd.C (Kd.int .u8) w A l.length (ints l)) (hc : l.length ≤ c) (hl : l.length ≤ 140737488351232) :
    Calls Try.prog 4 #[.slice A l.length c] w fun e w' => e = .returned (.bool true) ∧ Below w.heap.size w w' := by
  have HC := Aside0.mk hr
  clear hr
  go_enter Try.func4, Try.ntmps4
  go_wp2_with fail
  refine (awake_any _).mono ?_
  rintro e w1 ⟨rfl, hb1⟩
  go_wp2_with fail
  refine (new_in 1 w1 (by decide) (by decide)).mono ?_
  rintro e w2 ⟨b, g, rfl, hD, hb2⟩
  have HB2 := hb1.trans (hb2.mono hb1.size)
  go_wp2_with fail
  refine (whole_any A c l w2 (Kd.C_below HC.out HB2) hc (by omega)).mono ?_
  rintro e w3 ⟨pa, pc, rfl, ho3, hrg3, hb3⟩
  have HB3 := HB2.trans (hb3.mono HB2.size)
  have hD3 := hD.below hb3
  have hpa : w2.heap.size ≤ pa := own_base ho3 pa rfl
  have hpl := own_lt ho3 pa rfl
  have hbl := blk_lt hD.dev
  have hgl := blk_lt hD.secs
  have hwr := write_on _ b g 1 _ _ [] 0 0 0 pa 0 pc (wholeL l) w3 hD3 (by decide) (by decide) (by decide) (wholeL_length _) hrg3 (by omega) (by simp [Value.ownBlock]) hpl (by decide) (by have := hb2.size; have := hb3.size; omega)
  have HW := Aside0.mk hwr
  have H3 := Aside0.mk hrg3
  clear hwr hD hb3 hD3 hrg3
  go_wp2_with fail
  refine HW.out.mono ?_
  rintro e w4 ⟨gg, cc, rfl, hD4, hk4, hg4⟩
  have hgg : w3.heap.size ≤ gg := by
    rcases hg4 with h | h
    · simp [Value.ownBlock] at h
    · exact h
  have hx4 := range_cell (hk4.range H3.out hpl (fun e => by
    rcases e with e | e
    · omega
    · simp [Value.ownBlock] at e)) 0 (by rw [wholeL_length]; decide)
  obtain ⟨x0, hx0⟩ : ∃ x, (wholeL l).getD 0 0 = x := ⟨_, rfl⟩
  rw [hx0] at hx4
  clear hx0
  obtain ⟨cs3, hcs3⟩ := own_typed ho3 pa rfl
  have hth4 : w4.frozen? ⟨pa, 0, none⟩ = false := dev_thaw ((hk4.block pa hpl (fun e => by
    rcases e with e | e
    · omega
    · simp [Value.ownBlock] at e)).trans hcs3)
  have HB4 : Below w.heap.size w w4 := hk4.below HB3 (fun k hk => by
    rcases hk with rfl | hk
    · have := hD4.bb; have := hb1.size; omega
    · simp [Value.ownBlock] at hk) HB3.size
  have z4 := hk4.size
  have zg := own_lt hD4.own gg rfl
  have zw5 : ∀ v, (w4.setCell ⟨pa, 0, none⟩ v).heap.size = w4.heap.size := fun v => (At1.set w4 pa 0 v).size
  have ZW5 := Aside0.mk (zw5 (.int .u8 (bits .xor .u8 (x0.toNat : Int) 1)))
  clear zw5
  clear hk4 hg4 hcs3 ho3
  obtain ⟨v5, hv5⟩ : ∃ v : Value, v = .int .u8 (bits .xor .u8 (x0.toNat : Int) 1) := ⟨_, rfl⟩
  have hD5 := hD4.at1 (At1.set w4 pa 0 v5) (by omega) (by omega) (by simp [Value.ownBlock]; omega)
  have HB5 := (At1.set w4 pa 0 v5).below HB4 (by have := HB2.size; omega)
  have R5 := Aside0.mk (read_on _ b g 1 _ (some ⟨gg, 0, none⟩) cc [(0, wholeL l)] 1 0 0 _ hD5 (by decide) (by simp))
  have D5 := Aside0.mk hD5
  clear hD5 hD4
  subst hv5
  go_wp2_with fail
  refine R5.out.mono ?_
  rintro e w6 ⟨rfl, hp6, hb6⟩
  generalize w4.setCell ⟨pa, 0, none⟩ (.int .u8 (bits .xor .u8 (x0.toNat : Int) 1)) = w5 at *
  have HB6 := HB5.trans (hb6.mono HB5.size)
  have hD6 := D5.out.below hb6
  have z2 := HB2.size
  have z3 := HB3.size
  have z5 : w3.heap.size ≤ w5.heap.size := by have := ZW5.out; omega
  have hwl := wholeL_length l
  have hp6' : w6.heap[w5.heap.size]? = some (.cells (Lib.byteCells (wholeL l)).toArray 64 (0, 0)) := hp6
  have c61lt := blk_lt hp6'
  obtain ⟨c61, z61⟩ := arr_cell (i := 1) hp6' (by omega)
  obtain ⟨x1, hx1⟩ : ∃ x, (wholeL l).getD 1 0 = x := ⟨_, rfl⟩
  rw [hx1] at c61
  clear hx1
  obtain ⟨v7, hv7⟩ : ∃ v : Value, v = .int .u8 (bits .xor .u8 (x1.toNat : Int) 1) := ⟨_, rfl⟩
  have hD7 := hD6.at1 (At1.set w6 w5.heap.size 1 v7) (by omega) (by omega) (by have := ZW5.out; simp [Value.ownBlock]; omega)
  have HB7 := (At1.set w6 w5.heap.size 1 v7).below HB6 (by omega)
  have R7 := Aside0.mk (read_on _ b g 1 _ (some ⟨gg, 0, none⟩) cc [(0, wholeL l)] 1 0 0 _ hD7 (by decide) (by simp))
  have D7 := Aside0.mk hD7
  clear hD6 hD7 hp6 hp6'
  have ZW7 := Aside0.mk (At1.set w6 w5.heap.size 1 v7).size
  have zl6 := c61lt
  subst hv7
  go_wp2_with fail
  refine R7.out.mono ?_
  rintro e w8 ⟨rfl, hp8, hb8⟩
  generalize w6.setCell ⟨w5.heap.size, 1, none⟩ (.int .u8 (bits .xor .u8 (x1.toNat : Int) 1)) = w7 at *
  have HB8 := HB7.trans (hb8.mono HB7.size)
  have hD8 := D7.out.below hb8
  have S8 := Aside0.mk (sync_on _ b g 1 _ (some ⟨gg, 0, none⟩) cc [(0, wholeL l)] 1 0 w8 hD8 (by simp) (by decide) (by decide) rfl)
  have hp8' : w8.heap[w7.heap.size]? = some (.cells (Lib.byteCells (wholeL l)).toArray 64 (0, 0)) := hp8
  clear hD8 hp8
  go_wp2_with fail
  refine S8.out.mono ?_
  rintro e w9 ⟨rfl, hD9, hk9⟩
  have hbg : b < w2.heap.size ∧ g < w2.heap.size := ⟨hbl, hgl⟩
  have hp9 : w9.heap[w7.heap.size]? = some (.cells (Lib.byteCells (wholeL l)).toArray 64 (0, 0)) := (hk9.block _ (blk_lt hp8') (by have := ZW7.out; omega)).trans hp8'
  have HB9 : Below w.heap.size w w9 := hk9.below HB8 (fun k hk => by
    have := hb1.size
    rcases hk with rfl | rfl
    · have := hD9.bg; omega
    · have := hD9.bb; omega) HB8.size
  obtain ⟨c92, z92⟩ := arr_cell (i := 2) hp9 (by omega)
  obtain ⟨x2, hx2⟩ : ∃ x, (wholeL l).getD 2 0 = x := ⟨_, rfl⟩
  rw [hx2] at c92
  clear hx2
  obtain ⟨v10, hv10⟩ : ∃ v : Value, v = .int .u8 (bits .xor .u8 (x2.toNat : Int) 1) := ⟨_, rfl⟩
  have hD10 := hD9.at1 (At1.set w9 w7.heap.size 2 v10) (by have := ZW7.out; omega) (by have := ZW7.out; omega) (by simp [Value.ownBlock])
  have HB10 := (At1.set w9 w7.heap.size 2 v10).below HB9 (by have := ZW7.out; omega)
  have R10 := Aside0.mk (read_on _ b g 1 _ none 0 [] 2 0 0 _ hD10 (by decide) (by decide))
  clear hD9 hD10 hp9 hp8' hk9
  subst hv10
  go_wp2_with fail
  refine R10.out.mono ?_
  rintro e w11 ⟨rfl, hp11, hb11⟩
  generalize w9.setCell ⟨w7.heap.size, 2, none⟩ (.int .u8 (bits .xor .u8 (x2.toNat : Int) 1)) = w10 at *
  have HB11 := HB10.trans (hb11.mono HB10.size)
  have hp11' : w11.heap[w10.heap.size]? = some (.cells (Lib.byteCells (wholeL l)).toArray 64 (0, 0)) := by
    have e := splice_all (wholeL l) hwl
    rw [← e]
    exact hp11
  clear hp11
  go_wp2_with fail
  have hrx : w11.drew.rangeAt w10.heap.size 0 (Lib.byteCells (wholeL l)) := range_blk (o := 0) (ds := Lib.byteCells (wholeL l)) hp11' (fun j v hv => by simpa using hv)
  have hxl : w10.heap.size < w11.drew.heap.size := blk_lt hp11'
  have cv0 := conv_range (n := 256) (c := 256) hrx hwl (by decide)
  have HRX := Aside0.mk hrx
  have HXL := Aside0.mk hxl
  have HWL := Aside0.mk hwl
  have HWH := Aside0.mk (whole_any A c l w11.drew (Kd.C_below HC.out HB11.drew) hc (by omega))
  clear hrx hxl hp11' hwl
  have HB11' := Aside0.mk HB11
  clear HC HB2 HB3 HB4 HB5 HB6 HB7 HB8 HB9 HB10 HB11 hb1 hb2 hb6 hb8 hb11 HW H3 R5 R7 R10 D5 D7 S8 ZW5 ZW7 hpa hpl hbl hgl hgg z4 zg z2 z3 z5 zl6 hbg c61 z61 c92 z92 hx4 hth4 c61lt
  generalize wholeL l = L at *
  generalize w10.heap.size = pb at *
  refine wp_region_any (by kernel_rfl) ?_
  change wpAny _ _ _ _ _ _ _ (World.drew _)
  refine wpAny_take (i := 0) (v := ?_) rfl (by kernel_rfl) (by kernel_rfl) (by kernel_rfl) (fun _ _ _ h => h) (Or.inl ⟨by rfl, ?_⟩) ?_
  rotate_left
  focus ((intro w; go_simp); try with_reducible rfl)
  go_simp
  refine wpAny_take (i := 1) (v := ?_) rfl (by kernel_rfl) (by kernel_rfl) (by kernel_rfl) (fun _ _ _ h => h) (Or.inl ⟨by rfl, ?_⟩) ?_
  rotate_left
  focus ((intro w; go_simp); try with_reducible rfl)
  go_simp
  refine wpAny_take (i := 2) (v := ?_) rfl (by kernel_rfl) (by kernel_rfl) (by kernel_rfl) (fun _ _ _ h => h) (Or.inl ⟨by rfl, ?_⟩) ?_
  rotate_left
  focus ((intro w; go_simp); try with_reducible rfl)
  go_simp
  refine wpAny_take (i := 3) (v := ?_) rfl (by kernel_rfl) (by kernel_rfl) (by kernel_rfl) (fun _ _ _ h => h) (Or.inl ⟨by rfl, ?_⟩) ?_
  rotate_left
  focus ((intro w; go_simp); try with_reducible rfl)
  go_simp
  refine wpAny_take (i := 4) (v := ?_) rfl (by kernel_rfl) (by kernel_rfl) (by kernel_rfl) (fun _ _ _ h => h) (Or.inl ⟨by rfl, ?_⟩) ?_
  rotate_left
  focus ((intro w; go_simp); try with_reducible rfl)
  go_simp
  refine wpAny_take (i := 5) (v := ?_) rfl (by kernel_rfl) (by kernel_rfl) (by kernel_rfl) (fun _ _ _ h => h) (Or.inl ⟨by rfl, ?_⟩) ?_
  rotate_left
  focus ((intro w; go_simp); try with_reducible rfl)
  go_simp
  refine wpAny_take (i := 6) (v := ?_) rfl (by kernel_rfl) (by kernel_rfl) (by kernel_rfl) (fun _ _ _ h => h) (Or.inl ⟨by rfl, ?_⟩) ?_
  rotate_left
  focus ((intro w; go_simp); try with_reducible rfl)
  go_simp
  refine wpAny_take (i := 7) (v := ?_) rfl (by kernel_rfl) (by kernel_rfl) (by kernel_rfl) (fun _ _ _ h => h) (Or.inl ⟨by rfl, ?_⟩) ?_
  rotate_left
  focus ((intro w; go_simp); try with_reducible rfl)
  go_simp
  refine wpAny_take (i := 8) (v := ?_) rfl (by kernel_rfl) (by kernel_rfl) (by kernel_rfl) (fun _ _ _ h => h) (Or.inl ⟨by rfl, ?_⟩) ?_
  rotate_left
  focus ((intro w; go_simp); try with_reducible rfl)
  go_simp
  refine wpAny_take (i := 9) (v := ?_) rfl (by kernel_rfl) (by kernel_rfl) (by kernel_rfl) (fun _ _ _ h => h) (Or.inl ⟨by rfl, ?_⟩) ?_
  rotate_left
  focus ((intro w; go_simp); try with_reducible rfl)
  go_simp
  refine wpAny_take (i := 10) (v := ?_) rfl (by kernel_rfl) (by kernel_rfl) (by kernel_rfl) (fun _ _ _ h => h) (Or.inl ⟨by rfl, ?_⟩) ?_
  rotate_left
  focus ((intro w; go_simp); try with_reducible rfl)
  go_simp
  refine wpAny_take (i := 11) (v := ?_) rfl (by kernel_rfl) (by kernel_rfl) (by kernel_rfl) (fun _ _ _ h => h) (Or.inl ⟨by rfl, ?_⟩) ?_
  rotate_left
  focus ((intro w; go_simp); try with_reducible rfl)
  go_simp
  refine wpAny_take (i := 12) (v := ?_) rfl (by kernel_rfl) (by kernel_rfl) (by kernel_rfl) (fun _ _ _ h => h) (Or.inl ⟨by rfl, ?_⟩) ?_
  rotate_left
  focus ((intro w; go_simp); try with_reducible rfl)
  go_simp
  refine wpAny_take (i := 13) (v := ?_) rfl (by kernel_rfl) (by kernel_rfl) (by kernel_rfl) (fun _ _ _ h => h) (Or.inl ⟨by rfl, ?_⟩) ?_
  rotate_left
  focus ((intro w; go_simp); try with_reducible rfl)
  go_simp
  refine wpAny_take (i := 14) (v := ?_) rfl (by kernel_rfl) (by kernel_rfl) (by kernel_rfl) (fun _ _ _ h => h) (Or.inl ⟨by rfl, ?_⟩) ?_
  rotate_left
  focus ((intro w; go_simp); try with_reducible rfl)
  go_simp
  refine wpAny_take (i := 15) (v := ?_) rfl (by kernel_rfl) (by kernel_rfl) (by kernel_rfl) (fun _ _ _ h => h) (Or.inl ⟨by rfl, ?_⟩) ?_
  rotate_left
  focus ((intro w; go_simp); try with_reducible rfl)
  go_simp
  refine wpAny_take (i := 17) (v := ?_) rfl (by kernel_rfl) (by kernel_rfl) (by kernel_rfl) (fun _ _ _ h => h) (Or.inl ⟨by rfl, ?_⟩) ?_
  rotate_left
  focus ((intro w; go_simp); try with_reducible rfl)
  go_simp
  refine wpAny_ready (rs := [16, 18]) (by kernel_rfl) (by simp) ?_
  refine AllReady.cons rfl (fun K hK => ?_) (AllReady.cons rfl (fun K hK => ?_) AllReady.nil)
  · go_simp
    refine hK _ _ ?_
    clear hK K
    go_simp
    refine wpAny_ready (rs := [18]) (by kernel_rfl) (by simp) ?_
    refine AllReady.cons rfl (fun K hK => ?_) AllReady.nil
    · go_simp
      go_wp2_with ((go_at_call 9; refine HWH.out.mono ?_; rintro e w12 ⟨xb, xc, rfl, ho12, hrg12, hb12⟩; have cv1 := conv_range (n := 256) (c := 256) (range_below HRX.out hb12 HXL.out) HWL.out (by decide); have cv2 := conv_range (n := 256) (c := xc) hrg12 HWL.out (by decide); clear ho12 hrg12))
      go_simp
      refine wpAny_ready (rs := [19]) (by kernel_rfl) (by simp) ?_
      refine AllReady.cons rfl (fun K hK => ?_) AllReady.nil
      · go_simp
        refine hK _ _ ?_
        clear hK K
        go_simp
        refine wpAny_take (i := 20) (v := ?_) rfl (by kernel_rfl) (by kernel_rfl) (by kernel_rfl) (fun _ _ _ h => h) (Or.inl ⟨by rfl, ?_⟩) ?_
        rotate_left
        focus ((intro w; go_simp); try with_reducible rfl)
        go_simp
        refine wpAny_take (i := 21) (v := ?_) rfl (by kernel_rfl) (by kernel_rfl) (by kernel_rfl) (fun _ _ _ h => h) (Or.inl ⟨by rfl, ?_⟩) ?_
        rotate_left
        focus ((intro w; go_simp); try with_reducible rfl)
        go_simp
        refine wpAny_take (i := 22) (v := ?_) rfl (by kernel_rfl) (by kernel_rfl) (by kernel_rfl) (fun _ _ _ h => h) (Or.inl ⟨by rfl, ?_⟩) ?_
        rotate_left
        focus ((intro w; go_simp); try with_reducible rfl)
        go_simp
        refine wpAny_done (by kernel_rfl) ?_ _
        (have HB12 := HB11'.out.drew.trans (hb12.mono HB11'.out.size); go_wp2; go_ret; exact ⟨rfl, HB12⟩)
  · go_simp
    go_wp2_with ((go_at_call 9; refine HWH.out.mono ?_; rintro e w12 ⟨xb, xc, rfl, ho12, hrg12, hb12⟩; have cv1 := conv_range (n := 256) (c := 256) (range_below HRX.out hb12 HXL.out) HWL.out (by decide); have cv2 := conv_range (n := 256) (c := xc) hrg12 HWL.out (by decide); clear ho12 hrg12))
    go_simp
    refine wpAny_ready (rs := [16, 19]) (by kernel_rfl) (by simp) ?_
    refine AllReady.cons rfl (fun K hK => ?_) (AllReady.cons rfl (fun K hK => ?_) AllReady.nil)
    · go_simp
      refine hK _ _ ?_
      clear hK K
      go_simp
      refine wpAny_ready (rs := [19]) (by kernel_rfl) (by simp) ?_
      refine AllReady.cons rfl (fun K hK => ?_) AllReady.nil
      · go_simp
        refine hK _ _ ?_
        clear hK K
        go_simp
        refine wpAny_take (i := 20) (v := ?_) rfl (by kernel_rfl) (by kernel_rfl) (by kernel_rfl) (fun _ _ _ h => h) (Or.inl ⟨by rfl, ?_⟩) ?_
        rotate_left
        focus ((intro w; go_simp); try with_reducible rfl)
        go_simp
        refine wpAny_take (i := 21) (v := ?_) rfl (by kernel_rfl) (by kernel_rfl) (by kernel_rfl) (fun _ _ _ h => h) (Or.inl ⟨by rfl, ?_⟩) ?_
        rotate_left
        focus ((intro w; go_simp); try with_reducible rfl)
        go_simp
        refine wpAny_take (i := 22) (v := ?_) rfl (by kernel_rfl) (by kernel_rfl) (by kernel_rfl) (fun _ _ _ h => h) (Or.inl ⟨by rfl, ?_⟩) ?_
        rotate_left
        focus ((intro w; go_simp); try with_reducible rfl)
        go_simp
        refine wpAny_done (by kernel_rfl) ?_ _
        (have HB12 := HB11'.out.drew.trans (hb12.mono HB11'.out.size); go_wp2; go_ret; exact ⟨rfl, HB12⟩)
    · go_simp
      refine hK _ _ ?_
      clear hK K
      go_simp
      refine wpAny_ready (rs := [16]) (by kernel_rfl) (by simp) ?_
      refine AllReady.cons rfl (fun K hK => ?_) AllReady.nil
      · go_simp
        refine hK _ _ ?_
        clear hK K
        go_simp
        refine wpAny_take (i := 20) (v := ?_) rfl (by kernel_rfl) (by kernel_rfl) (by kernel_rfl) (fun _ _ _ h => h) (Or.inl ⟨by rfl, ?_⟩) ?_
        rotate_left
        focus ((intro w; go_simp); try with_reducible rfl)
        go_simp
        refine wpAny_take (i := 21) (v := ?_) rfl (by kernel_rfl) (by kernel_rfl) (by kernel_rfl) (fun _ _ _ h => h) (Or.inl ⟨by rfl, ?_⟩) ?_
        rotate_left
        focus ((intro w; go_simp); try with_reducible rfl)
        go_simp
        refine wpAny_take (i := 22) (v := ?_) rfl (by kernel_rfl) (by kernel_rfl) (by kernel_rfl) (fun _ _ _ h => h) (Or.inl ⟨by rfl, ?_⟩) ?_
        rotate_left
        focus ((intro w; go_simp); try with_reducible rfl)
        go_simp
        refine wpAny_done (by kernel_rfl) ?_ _
        (have HB12 := HB11'.out.drew.trans (hb12.mono HB11'.out.size); go_wp2; go_ret; exact ⟨rfl, HB12⟩)

theorem walk_SectorKeeps (a0 : Option Addr) (len0 cap0 : Nat) (z0 : List Int) (w : World)
    (w0 : (a0 = none ∧ len0 = 0 ∧ cap0 = 0 ∧ z0 = []) ∨ ∃ x, a0 = some x ∧ len0 ≤ cap0 ∧ cap0 ≤ maxLen ∧ z0.length = cap0 ∧ (∀ i, i < z0.length → w.cell? (x.add i) = some (.int .u8 (z0.getD i 0))) ∧ ∀ n ∈ z0, (Lit.int .u8 n).wf = true)
    (y0 : len0 * 1 ≤ 140737488351232) :
    Calls Try.prog 4 #[.slice a0 len0 cap0] w fun e w' => e = .returned (.bool true) ∧ Below w.heap.size w w' := by
  obtain ⟨p, rfl, hp, hpc, _, _⟩ := row_bytes w0
  exact keeps_any a0 cap0 p w hp hpc (by omega)
end Go.Proofs.Ytaakknnfebmkcaa
