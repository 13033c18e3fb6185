/- utf.First at a byte below 128, and the terminal's put of a rune of width 1, by hand; no condition beyond the forms. -/
import Derived.Test.YtaicpljgijjenaaGreatDoorHandMove
namespace Go.Proofs.YtaicpljgijjenaaGreatDoor.Hand
open Go.RowKit Go.Proofs.YtaicpljgijjenaaGreatDoorW.PrintWords Go.Proofs.YtaicpljgijjenaaGreatDoorW.PrintLast Go.Proofs.YtaicpljgijjenaaGreatDoorW.PrintMore Go.Proofs.YtaicpljgijjenaaGreatDoor.PVtP
attribute [local go_sem] max2_int min2_int max_two min_two max_three min_three max_four min_four
set_option linter.unusedVariables false
set_option linter.unusedSimpArgs false

set_option maxHeartbeats 1000000 in
set_option maxRecDepth 100000 in
theorem first_calls2 (ab o c : Nat) (a : Int) (w : World) (ha : w.cell? ⟨ab, o, none⟩ = some (.int .u8 a)) (hc : 2 ≤ c) (ha0 : 0 ≤ a) (ha1 : a < 128) :
    Calls Tryz.prog 35 #[.slice (some ⟨ab, o, none⟩) 2 c] w fun e w' => e = .returned (.tuple #[.int .i32 a, .int .i64 1]) ∧ Below w.heap.size w w' := by
  have hbg : utf_begins.f 9 a = some (1, 0, 0) := by unfold utf_begins.f; rw [if_pos ha1]
  have hwr : IntKind.i32.wrap a = a := by rw [i32_w]; unfold wrap32; omega
  have hc1 : 1 ≤ c := by omega
  go_enter Tryz.func35, Tryz.ntmps35
  go_wp2_with (first
    | (go_at_call 42; refine (utf_begins.calls 9 a 1 0 0 _ hbg).mono ?_; rintro e w2 ⟨rfl, hB⟩; have HB := Aside0.mk hB; have HA2 := Aside0.mk ((hB.cell (p := ⟨ab, o, none⟩) (World.block_lt_of_cell? _ _ ha)).trans ha); clear hB ha)
    | ((with_reducible refine gate_dst (N := 4) rfl ?_); refine box_event ?hg (N := 4) ?hd (cs := #[.int .i64 0, .int .u8 0, .int .u8 0]) (t := 84) ?hr ?_; (case hd => rfl); (case hg => rfl); (case hr => first | (go_simp; done) | (go_simp; rfl)); intro g1 hg1 w1 hbox1 hb1; have BK1 := Aside0.mk hbox1; have HB1 := Aside0.mk (below_step HB.out hb1); have HG1 := Aside0.mk (show w.heap.size ≤ g1 from by rw [hg1]; exact HB.out.size); have ha := ((hb1.cell (p := ⟨ab, o, none⟩) (World.block_lt_of_cell? _ _ HA2.out)).trans HA2.out); have hne1 := (show ¬ g1 = ab from by rw [hg1]; exact Nat.ne_of_gt (World.block_lt_of_cell? _ _ HA2.out)); have hne2 := (show ¬ ab = g1 from fun e => hne1 e.symm); have hcq0 : w1.cell? ⟨g1, 0, none⟩ = some (.int .i64 0) := (blk_cell hbox1 0).trans rfl; have hcq1 : w1.cell? ⟨g1, 1, none⟩ = some (.int .u8 0) := (blk_cell hbox1 1).trans rfl; have hcq2 : w1.cell? ⟨g1, 2, none⟩ = some (.int .u8 0) := (blk_cell hbox1 2).trans rfl; have hfq0 := blk_frozen hbox1 0; have hfq1 := blk_frozen hbox1 1; have hfq2 := blk_frozen hbox1 2; clear hbox1 hb1 hg1))
  obtain ⟨W, hW⟩ : ∃ W, W = (((w1.setCell ⟨g1, 0, none⟩ (.int .i64 1)).setCell ⟨g1, 1, none⟩ (.int .u8 0)).setCell ⟨g1, 2, none⟩ (.int .u8 0)) := ⟨_, rfl⟩
  have hBW := Aside0.mk (show Below w.heap.size w W from by rw [hW]; exact below_set (below_set (below_set HB1.out HG1.out) HG1.out) HG1.out)
  have hKW := Aside0.mk (show W.heap[g1]? = some (.cells #[.int .i64 1, .int .u8 0, .int .u8 0] 84 (0, 0)) from by rw [hW]; exact blk_put (cs := #[.int .i64 1, .int .u8 0, .int .u8 0]) (blk_put (cs := #[.int .i64 1, .int .u8 0, .int .u8 0]) (blk_put (cs := #[.int .i64 0, .int .u8 0, .int .u8 0]) BK1.out 0 _ rfl) 1 _ rfl) 2 _ rfl)
  have hAW := Aside0.mk (show W.cell? ⟨ab, o, none⟩ = some (.int .u8 a) from by rw [hW]; exact cell_far (cell_far (cell_far ha hne2) hne2) hne2)
  rw [← hW]
  clear hW hcq0 hcq1 hcq2 hfq0 hfq1 hfq2 ha
  have hz : ((2 : Int) == 0) = false := by rfl
  go_loopg [26] 1 (fun gg v26 w' => v26 = .int .i64 0 ∧ Aside0 (w' = W))
  case atStart => exact ⟨rfl, ⟨rfl⟩⟩
  case round =>
    obtain ⟨rfl, hw⟩ := hrel
    obtain rfl := hw.out
    have hc0 : wr.cell? ⟨g1, 0, none⟩ = some (.int .i64 1) := (blk_cell hKW.out 0).trans rfl
    have ha' := hAW.out
    go_wp2
    go_ret2
    exact ⟨rfl, hBW.out⟩

set_option maxHeartbeats 1000000 in
set_option maxRecDepth 100000 in
theorem first_calls1 (ab o c : Nat) (a : Int) (w : World) (ha : w.cell? ⟨ab, o, none⟩ = some (.int .u8 a)) (hc : 1 ≤ c) (ha0 : 0 ≤ a) (ha1 : a < 128) :
    Calls Tryz.prog 35 #[.slice (some ⟨ab, o, none⟩) 1 c] w fun e w' => e = .returned (.tuple #[.int .i32 a, .int .i64 1]) ∧ Below w.heap.size w w' := by
  have hbg : utf_begins.f 9 a = some (1, 0, 0) := by unfold utf_begins.f; rw [if_pos ha1]
  have hwr : IntKind.i32.wrap a = a := by rw [i32_w]; unfold wrap32; omega
  have hc1 : 1 ≤ c := by omega
  rcases (by omega : c = 1 ∨ 2 ≤ c) with rfl | hc2
  · go_enter Tryz.func35, Tryz.ntmps35
    go_wp2_with (first
      | (go_at_call 42; refine (utf_begins.calls 9 a 1 0 0 _ hbg).mono ?_; rintro e w2 ⟨rfl, hB⟩; have HB := Aside0.mk hB; have HA2 := Aside0.mk ((hB.cell (p := ⟨ab, o, none⟩) (World.block_lt_of_cell? _ _ ha)).trans ha); clear hB ha)
      | ((with_reducible refine gate_dst (N := 4) rfl ?_); refine box_event ?hg (N := 4) ?hd (cs := #[.int .i64 0, .int .u8 0, .int .u8 0]) (t := 84) ?hr ?_; (case hd => rfl); (case hg => rfl); (case hr => first | (go_simp; done) | (go_simp; rfl)); intro g1 hg1 w1 hbox1 hb1; have BK1 := Aside0.mk hbox1; have HB1 := Aside0.mk (below_step HB.out hb1); have HG1 := Aside0.mk (show w.heap.size ≤ g1 from by rw [hg1]; exact HB.out.size); have ha := ((hb1.cell (p := ⟨ab, o, none⟩) (World.block_lt_of_cell? _ _ HA2.out)).trans HA2.out); have hne1 := (show ¬ g1 = ab from by rw [hg1]; exact Nat.ne_of_gt (World.block_lt_of_cell? _ _ HA2.out)); have hne2 := (show ¬ ab = g1 from fun e => hne1 e.symm); have hcq0 : w1.cell? ⟨g1, 0, none⟩ = some (.int .i64 0) := (blk_cell hbox1 0).trans rfl; have hcq1 : w1.cell? ⟨g1, 1, none⟩ = some (.int .u8 0) := (blk_cell hbox1 1).trans rfl; have hcq2 : w1.cell? ⟨g1, 2, none⟩ = some (.int .u8 0) := (blk_cell hbox1 2).trans rfl; have hfq0 := blk_frozen hbox1 0; have hfq1 := blk_frozen hbox1 1; have hfq2 := blk_frozen hbox1 2; clear hbox1 hb1 hg1))
    obtain ⟨W, hW⟩ : ∃ W, W = (((w1.setCell ⟨g1, 0, none⟩ (.int .i64 1)).setCell ⟨g1, 1, none⟩ (.int .u8 0)).setCell ⟨g1, 2, none⟩ (.int .u8 0)) := ⟨_, rfl⟩
    have hBW := Aside0.mk (show Below w.heap.size w W from by rw [hW]; exact below_set (below_set (below_set HB1.out HG1.out) HG1.out) HG1.out)
    have hKW := Aside0.mk (show W.heap[g1]? = some (.cells #[.int .i64 1, .int .u8 0, .int .u8 0] 84 (0, 0)) from by rw [hW]; exact blk_put (cs := #[.int .i64 1, .int .u8 0, .int .u8 0]) (blk_put (cs := #[.int .i64 1, .int .u8 0, .int .u8 0]) (blk_put (cs := #[.int .i64 0, .int .u8 0, .int .u8 0]) BK1.out 0 _ rfl) 1 _ rfl) 2 _ rfl)
    have hAW := Aside0.mk (show W.cell? ⟨ab, o, none⟩ = some (.int .u8 a) from by rw [hW]; exact cell_far (cell_far (cell_far ha hne2) hne2) hne2)
    rw [← hW]
    clear hW hcq0 hcq1 hcq2 hfq0 hfq1 hfq2 ha
    have hz : ((1 : Int) == 0) = false := by rfl
    go_loopg [26] 1 (fun gg v26 w' => v26 = .int .i64 0 ∧ Aside0 (w' = W))
    case atStart => exact ⟨rfl, ⟨rfl⟩⟩
    case round =>
      obtain ⟨rfl, hw⟩ := hrel
      obtain rfl := hw.out
      have hc0 : wr.cell? ⟨g1, 0, none⟩ = some (.int .i64 1) := (blk_cell hKW.out 0).trans rfl
      have ha' := hAW.out
      go_wp2
      go_ret2
      exact ⟨rfl, hBW.out⟩
  · go_enter Tryz.func35, Tryz.ntmps35
    go_wp2_with (first
      | (go_at_call 42; refine (utf_begins.calls 9 a 1 0 0 _ hbg).mono ?_; rintro e w2 ⟨rfl, hB⟩; have HB := Aside0.mk hB; have HA2 := Aside0.mk ((hB.cell (p := ⟨ab, o, none⟩) (World.block_lt_of_cell? _ _ ha)).trans ha); clear hB ha)
      | ((with_reducible refine gate_dst (N := 4) rfl ?_); refine box_event ?hg (N := 4) ?hd (cs := #[.int .i64 0, .int .u8 0, .int .u8 0]) (t := 84) ?hr ?_; (case hd => rfl); (case hg => rfl); (case hr => first | (go_simp; done) | (go_simp; rfl)); intro g1 hg1 w1 hbox1 hb1; have BK1 := Aside0.mk hbox1; have HB1 := Aside0.mk (below_step HB.out hb1); have HG1 := Aside0.mk (show w.heap.size ≤ g1 from by rw [hg1]; exact HB.out.size); have ha := ((hb1.cell (p := ⟨ab, o, none⟩) (World.block_lt_of_cell? _ _ HA2.out)).trans HA2.out); have hne1 := (show ¬ g1 = ab from by rw [hg1]; exact Nat.ne_of_gt (World.block_lt_of_cell? _ _ HA2.out)); have hne2 := (show ¬ ab = g1 from fun e => hne1 e.symm); have hcq0 : w1.cell? ⟨g1, 0, none⟩ = some (.int .i64 0) := (blk_cell hbox1 0).trans rfl; have hcq1 : w1.cell? ⟨g1, 1, none⟩ = some (.int .u8 0) := (blk_cell hbox1 1).trans rfl; have hcq2 : w1.cell? ⟨g1, 2, none⟩ = some (.int .u8 0) := (blk_cell hbox1 2).trans rfl; have hfq0 := blk_frozen hbox1 0; have hfq1 := blk_frozen hbox1 1; have hfq2 := blk_frozen hbox1 2; clear hbox1 hb1 hg1))
    obtain ⟨W, hW⟩ : ∃ W, W = (((w1.setCell ⟨g1, 0, none⟩ (.int .i64 1)).setCell ⟨g1, 1, none⟩ (.int .u8 0)).setCell ⟨g1, 2, none⟩ (.int .u8 0)) := ⟨_, rfl⟩
    have hBW := Aside0.mk (show Below w.heap.size w W from by rw [hW]; exact below_set (below_set (below_set HB1.out HG1.out) HG1.out) HG1.out)
    have hKW := Aside0.mk (show W.heap[g1]? = some (.cells #[.int .i64 1, .int .u8 0, .int .u8 0] 84 (0, 0)) from by rw [hW]; exact blk_put (cs := #[.int .i64 1, .int .u8 0, .int .u8 0]) (blk_put (cs := #[.int .i64 1, .int .u8 0, .int .u8 0]) (blk_put (cs := #[.int .i64 0, .int .u8 0, .int .u8 0]) BK1.out 0 _ rfl) 1 _ rfl) 2 _ rfl)
    have hAW := Aside0.mk (show W.cell? ⟨ab, o, none⟩ = some (.int .u8 a) from by rw [hW]; exact cell_far (cell_far (cell_far ha hne2) hne2) hne2)
    rw [← hW]
    clear hW hcq0 hcq1 hcq2 hfq0 hfq1 hfq2 ha
    have hz : ((1 : Int) == 0) = false := by rfl
    go_loopg [26] 1 (fun gg v26 w' => v26 = .int .i64 0 ∧ Aside0 (w' = W))
    case atStart => exact ⟨rfl, ⟨rfl⟩⟩
    case round =>
      obtain ⟨rfl, hw⟩ := hrel
      obtain rfl := hw.out
      have hc0 : wr.cell? ⟨g1, 0, none⟩ = some (.int .i64 1) := (blk_cell hKW.out 0).trans rfl
      have ha' := hAW.out
      go_wp2
      go_ret2
      exact ⟨rfl, hBW.out⟩

theorem Tm.facts {w : World} {base p g cap : Nat} {row col sty : Int} {x y : S41} {wt : Value} (h : Tm w base p g cap row col sty x y wt) :
    (w.cell? ⟨g, 0, none⟩ = some (.int .i32 x.f0) ∧ w.cell? ⟨g, 1, none⟩ = some (.int .i64 x.f1) ∧ w.cell? ⟨g, 2, none⟩ = some (.int .i32 y.f0) ∧ w.cell? ⟨g, 3, none⟩ = some (.int .i64 y.f1)) ∧
    (w.frozen? ⟨g, 0, none⟩ = false ∧ w.frozen? ⟨g, 1, none⟩ = false ∧ w.frozen? ⟨g, 2, none⟩ = false ∧ w.frozen? ⟨g, 3, none⟩ = false) ∧
    (w.cell? ⟨p, 0, none⟩ = some (.int .i64 1) ∧ w.cell? ⟨p, 1, none⟩ = some (.int .i64 2) ∧ w.cell? ⟨p, 2, none⟩ = some (.slice (some ⟨g, 0, none⟩) 2 cap) ∧ w.cell? ⟨p, 3, none⟩ = some (.int .i64 row) ∧ w.cell? ⟨p, 4, none⟩ = some (.int .i64 col) ∧ w.cell? ⟨p, 5, none⟩ = some (.int .i64 sty)) ∧
    w.frozen? ⟨p, 4, none⟩ = false ∧ ¬ g = p ∧ ¬ p = g := by
  obtain ⟨ce0, hl0, hM0, hcc0, hfr0⟩ := Kd.R_elem h.rr z41 0 (by decide) (by decide)
  obtain rfl := k41_openM hM0
  obtain ⟨ce1, hl1, hM1, hcc1, hfr1⟩ := Kd.R_elem h.rr z41 1 (by decide) (by decide)
  obtain rfl := k41_openM hM1
  exact ⟨⟨hcc0 0 _ rfl, hcc0 1 _ rfl, hcc1 0 _ rfl, hcc1 1 _ rfl⟩, ⟨hfr0 0, hfr0 1, hfr1 0, hfr1 1⟩, ⟨(blk_cell h.bp 0).trans rfl, (blk_cell h.bp 1).trans rfl, (blk_cell h.bp 2).trans rfl, (blk_cell h.bp 3).trans rfl, (blk_cell h.bp 4).trans rfl, (blk_cell h.bp 5).trans rfl⟩, blk_frozen h.bp 4, h.ne, h.ne.symm⟩
/-- A cell of the grid is written. -/
theorem Tm.put {w : World} {base p g cap : Nat} {row col sty : Int} {x y : S41} {wt : Value} (h : Tm w base p g cap row col sty x y wt) (i : Nat) (hi : i < 2) (u : S41) :
    Tm ((w.setCell ⟨g, i * 2, none⟩ (.int .i32 u.f0)).setCell ⟨g, i * 2 + 1, none⟩ (.int .i64 u.f1)) base p g cap row col sty (if i = 0 then u else x) (if i = 0 then y else u) wt := by
  have h0 : (0 : Int) ≤ (i : Int) := by omega
  have h1 : (i : Int) < (2 : Nat) := by omega
  obtain ⟨ce, hcl, hM, hcc, _⟩ := Kd.R_elem h.rr z41 (i : Int) h0 h1
  obtain rfl := k41_openM hM
  have hs := (Kd.R_seg h.rr (i : Int) h0 h1 hcl hcc (j := 0) (seg := [.int .i32 u.f0, .int .i64 u.f1]) (by show 0 + 2 ≤ 2; omega) (x' := u) (okp := fun k => k ≠ p ∧ k ≠ g) (k41_mkM _ _ _ u) (fun k hk => hk)).1
  have hr : Kd.R k41 41 ((w.setCell ⟨g, i * 2, none⟩ (.int .i32 u.f0)).setCell ⟨g, i * 2 + 1, none⟩ (.int .i64 u.f1)) base (fun k => k ≠ p) (.slice (some ⟨g, 0, none⟩) 2 cap) ([x, y].set i u) := hs
  refine ⟨blk_far (blk_far h.bp h.ne.symm _) h.ne.symm _, ?_, h.ge⟩
  rcases (by omega : i = 0 ∨ i = 1) with rfl | rfl
  · exact hr
  · exact hr

theorem wid97 : width_Of.f 97 = some 1 := by kernel_rfl
theorem odd97 : vt_odd.f 97 = some false := by kernel_rfl
set_option maxHeartbeats 1000000 in
set_option maxRecDepth 100000 in
theorem put_calls0 {base p g cap : Nat} {wt : Value} (w : World) (h : Tm w base p g cap 0 0 0 ⟨32, 0⟩ ⟨32, 0⟩ wt) :
    Calls Tryz.prog 36 #[.pointer (some ⟨p, 0, none⟩), .int .i32 97] w fun e w' => e = .returned (.tuple #[]) ∧ Tm w' base p g cap 0 1 0 ⟨97, 0⟩ ⟨32, 0⟩ wt ∧ Fr p g w w' := by
  have HT := Aside0.mk h
  clear h
  go_enter Tryz.func36, Tryz.ntmps36
  go_wp2_with (go_at_call 19; refine (width_Of.calls 97 1 _ wid97).mono ?_; rintro e w1 ⟨rfl, hb1⟩; have HT1 := Aside0.mk (HT.out.below hb1); have HF1 := Aside0.mk (Fr.of_below (p := p) (g := g) hb1); clear hb1)
  refine start_ (n := 16) (S := fun w' => w'.cell? ⟨p, 1, none⟩ = some (.int .i64 2) ∧ w'.cell? ⟨p, 4, none⟩ = some (.int .i64 0) ∧ Tm w' base p g cap 0 0 0 ⟨32, 0⟩ ⟨32, 0⟩ wt ∧ Fr p g w w') (ds := []) #[false, false, false, false, false, false, false, false, false, false, false, false, false, false, false, false] (by kernel_rfl) rfl rfl ⟨((blk_cell (HT1.out.drew).bp 1).trans rfl), ((blk_cell (HT1.out.drew).bp 4).trans rfl), HT1.out.drew, HF1.out.drew⟩ (fun hHeld => ?_)
  refine pure_ (i := 0) (N := some 10) (v := ?_) (a' := ?_) #[true, false, false, false, false, false, false, false, false, false, false, false, false, false, false, false] rfl rfl (by kernel_rfl) (fun _ _ _ h => h) (Or.inl ⟨by rfl, ?_⟩) ?_ ?_
  rotate_left
  · intro w'
    go_simp
    with_reducible rfl
  rotate_left
  · simp only [Act.put, List.setIfInBounds_toArray, List.set_cons_zero, List.set_cons_succ, i64_w, i32_w]
    rfl
  refine one_ (i := 1) (N := some 11) #[true, true, false, false, false, false, false, false, false, false, false, false, false, false, false, false] rfl rfl (by kernel_rfl) (by decide) (fun K hK => ?_)
  obtain ⟨q0, q1, q2, q3⟩ := hHeld
  refine goes_ Tryz.func18 (by kernel_rfl) rfl #[.int .i32 97] (by rfl) rfl rfl (by simp only [List.map_toArray, List.map_cons, List.map_nil]; rfl) ?_
  with_reducible refine (vt_odd.calls 97 false _ odd97).mono ?_
  rintro e w3 ⟨rfl, hb⟩
  refine ⟨_, rfl, ?_⟩
  have q4 := q2.below hb
  have q5 := q3.trans (Fr.of_below hb)
  refine hK.out _ _ ⟨((blk_cell (q4).bp 1).trans rfl), ((blk_cell (q4).bp 4).trans rfl), q4, q5⟩ (fun hHeld => ?_)
  clear hK K
  refine norm_ (a' := ?_) ?_ ?_
  rotate_left
  · show Act.put _ (some 11) _ = _
    simp only [Act.put, List.setIfInBounds_toArray, List.set_cons_zero, List.set_cons_succ, i64_w, i32_w]
    rfl
  refine pure_ (i := 2) (N := some 12) (v := ?_) (a' := ?_) #[true, true, true, false, false, false, false, false, false, false, false, false, false, false, false, false] rfl rfl (by kernel_rfl) (fun _ _ _ h => h) (Or.inl ⟨by rfl, ?_⟩) ?_ ?_
  rotate_left
  · intro w'
    go_simp
    with_reducible rfl
  rotate_left
  · simp only [Act.put, List.setIfInBounds_toArray, List.set_cons_zero, List.set_cons_succ, i64_w, i32_w]
    rfl
  refine pure_ (i := 3) (N := some 13) (v := ?_) (a' := ?_) #[true, true, true, true, false, false, false, false, false, false, false, false, false, false, false, false] rfl rfl (by kernel_rfl) (fun _ _ _ h => h) (Or.inl ⟨by rfl, ?_⟩) ?_ ?_
  rotate_left
  · intro w'
    go_simp
    with_reducible rfl
  rotate_left
  · simp only [Act.put, List.setIfInBounds_toArray, List.set_cons_zero, List.set_cons_succ, i64_w, i32_w]
    rfl
  refine pure_ (i := 4) (N := some 14) (v := ?_) (a' := ?_) #[true, true, true, true, true, false, false, false, false, false, false, false, false, false, false, false] rfl rfl (by kernel_rfl) (fun _ _ _ h => h) (Or.inl ⟨by rfl, ?_⟩) ?_ ?_
  rotate_left
  · intro w'
    go_simp
    with_reducible rfl
  rotate_left
  · simp only [Act.put, List.setIfInBounds_toArray, List.set_cons_zero, List.set_cons_succ, i64_w, i32_w]
    rfl
  refine pure_ (i := 5) (N := some 15) (v := ?_) (a' := ?_) #[true, true, true, true, true, true, false, false, false, false, false, false, false, false, false, false] rfl rfl (by kernel_rfl) (fun _ _ _ h => h) (Or.inl ⟨by rfl, ?_⟩) ?_ ?_
  rotate_left
  · intro w'
    go_simp
    with_reducible rfl
  rotate_left
  · simp only [Act.put, List.setIfInBounds_toArray, List.set_cons_zero, List.set_cons_succ, i64_w, i32_w]
    rfl
  refine pure_ (i := 6) (N := some 16) (v := ?_) (a' := ?_) #[true, true, true, true, true, true, true, false, false, false, false, false, false, false, false, false] rfl rfl (by kernel_rfl) (fun _ _ _ h => h) (Or.inl ⟨by rfl, ?_⟩) ?_ ?_
  rotate_left
  · intro w'
    go_simp
    with_reducible rfl
  rotate_left
  · simp only [Act.put, List.setIfInBounds_toArray, List.set_cons_zero, List.set_cons_succ, i64_w, i32_w]
    rfl
  refine pure_ (i := 7) (N := some 17) (v := ?_) (a' := ?_) #[true, true, true, true, true, true, true, true, false, false, false, false, false, false, false, false] rfl rfl (by kernel_rfl) (fun _ _ _ h => h) (Or.inl ⟨by rfl, ?_⟩) ?_ ?_
  rotate_left
  · intro w'
    go_simp
    with_reducible rfl
  rotate_left
  · simp only [Act.put, List.setIfInBounds_toArray, List.set_cons_zero, List.set_cons_succ, i64_w, i32_w]
    rfl
  refine pure_ (i := 9) (N := some 19) (v := ?_) (a' := ?_) #[true, true, true, true, true, true, true, true, false, true, false, false, false, false, false, false] rfl rfl (by kernel_rfl) (fun _ _ _ h => h) (Or.inl ⟨by rfl, ?_⟩) ?_ ?_
  rotate_left
  · intro w'
    go_simp
    with_reducible rfl
  rotate_left
  · simp only [Act.put, List.setIfInBounds_toArray, List.set_cons_zero, List.set_cons_succ, i64_w, i32_w]
    rfl
  refine pure_ (i := 10) (N := some 20) (v := ?_) (a' := ?_) #[true, true, true, true, true, true, true, true, false, true, true, false, false, false, false, false] rfl rfl (by kernel_rfl) (fun _ _ _ h => h) (Or.inl ⟨by rfl, ?_⟩) ?_ ?_
  rotate_left
  · intro w'
    go_simp
    with_reducible rfl
  rotate_left
  · simp only [Act.put, List.setIfInBounds_toArray, List.set_cons_zero, List.set_cons_succ, i64_w, i32_w]
    rfl
  refine pure_ (i := 11) (N := some 21) (v := ?_) (a' := ?_) #[true, true, true, true, true, true, true, true, false, true, true, true, false, false, false, false] rfl rfl (by kernel_rfl) (fun _ _ _ h => h) (Or.inl ⟨by rfl, ?_⟩) ?_ ?_
  rotate_left
  · intro w'
    go_simp
    with_reducible rfl
  rotate_left
  · simp only [Act.put, List.setIfInBounds_toArray, List.set_cons_zero, List.set_cons_succ, i64_w, i32_w]
    rfl
  refine take_ (i := 8) (N := some 18) (v := ?_) (a' := ?_) #[true, true, true, true, true, true, true, true, true, true, true, true, false, false, false, false] rfl rfl (by kernel_rfl) (fun _ _ _ h => h) (Or.inl ⟨by rfl, ?_⟩) hHeld ?_ ?_
  rotate_left
  · rintro w' ⟨s0, s1, s2, s3⟩
    go_simp
    with_reducible rfl
  rotate_left
  · simp only [Act.put, List.setIfInBounds_toArray, List.set_cons_zero, List.set_cons_succ, i64_w, i32_w]
    rfl
  refine take_ (i := 12) (N := some 22) (v := ?_) (a' := ?_) #[true, true, true, true, true, true, true, true, true, true, true, true, true, false, false, false] rfl rfl (by kernel_rfl) (fun _ _ _ h => h) (Or.inl ⟨by rfl, ?_⟩) hHeld ?_ ?_
  rotate_left
  · rintro w' ⟨s0, s1, s2, s3⟩
    go_simp
    with_reducible rfl
  rotate_left
  · simp only [Act.put, List.setIfInBounds_toArray, List.set_cons_zero, List.set_cons_succ, i64_w, i32_w]
    rfl
  refine pure_ (i := 13) (N := some 23) (v := ?_) (a' := ?_) #[true, true, true, true, true, true, true, true, true, true, true, true, true, true, false, false] rfl rfl (by kernel_rfl) (fun _ _ _ h => h) (Or.inl ⟨by rfl, ?_⟩) ?_ ?_
  rotate_left
  · intro w'
    go_simp
    with_reducible rfl
  rotate_left
  · simp only [Act.put, List.setIfInBounds_toArray, List.set_cons_zero, List.set_cons_succ, i64_w, i32_w]
    rfl
  refine pure_ (i := 14) (N := some 24) (v := ?_) (a' := ?_) #[true, true, true, true, true, true, true, true, true, true, true, true, true, true, true, false] rfl rfl (by kernel_rfl) (fun _ _ _ h => h) (Or.inl ⟨by rfl, ?_⟩) ?_ ?_
  rotate_left
  · intro w'
    go_simp
    with_reducible rfl
  rotate_left
  · simp only [Act.put, List.setIfInBounds_toArray, List.set_cons_zero, List.set_cons_succ, i64_w, i32_w]
    rfl
  refine pure_ (i := 15) (N := some 25) (v := ?_) (a' := ?_) #[true, true, true, true, true, true, true, true, true, true, true, true, true, true, true, true] rfl rfl (by kernel_rfl) (fun _ _ _ h => h) (Or.inl ⟨by rfl, ?_⟩) ?_ ?_
  rotate_left
  · intro w'
    go_simp
    with_reducible rfl
  rotate_left
  · simp only [Act.put, List.setIfInBounds_toArray, List.set_cons_zero, List.set_cons_succ, i64_w, i32_w]
    rfl
  refine done_ (by kernel_rfl) ?_

  obtain ⟨q0, q1, q2, q3⟩ := hHeld
  have HT2 := Aside0.mk q2
  have HF2 := Aside0.mk q3
  clear q0 q1 q2 q3 HT1 HF1 HT
  have e2 : wrap64 2 = 2 := by decide +kernel
  have e1 : wrap64 1 = 1 := by decide +kernel
  obtain ⟨⟨g0, g1, g2, g3⟩, ⟨f0, f1, f2, f3⟩, ⟨p0, p1, p2, p3, p4, p5⟩, fp, hgp, hpg⟩ := HT2.out.facts
  go_wp2
  go_quiet (fail)
  go_wp2
  go_quiet (fail)
  go_wp2
  refine bodyPost_end (results_none rfl _ _ _) rfl ?_
  exact ⟨rfl, ((HT2.out.drewN _).put 0 (by omega) ⟨97, 0⟩).setp 4 _ rfl, (((HF2.out.drewN _).trans (Fr.setg _ _ _)).trans (Fr.setg _ _ _)).trans (Fr.setp _ _ _)⟩

theorem wid98 : width_Of.f 98 = some 1 := by kernel_rfl
theorem odd98 : vt_odd.f 98 = some false := by kernel_rfl
set_option maxHeartbeats 1000000 in
set_option maxRecDepth 100000 in
theorem put_calls1 {base p g cap : Nat} {wt : Value} (w : World) (h : Tm w base p g cap 0 1 0 ⟨97, 0⟩ ⟨32, 0⟩ wt) :
    Calls Tryz.prog 36 #[.pointer (some ⟨p, 0, none⟩), .int .i32 98] w fun e w' => e = .returned (.tuple #[]) ∧ Tm w' base p g cap 0 2 0 ⟨97, 0⟩ ⟨98, 0⟩ wt ∧ Fr p g w w' := by
  have HT := Aside0.mk h
  clear h
  go_enter Tryz.func36, Tryz.ntmps36
  go_wp2_with (go_at_call 19; refine (width_Of.calls 98 1 _ wid98).mono ?_; rintro e w1 ⟨rfl, hb1⟩; have HT1 := Aside0.mk (HT.out.below hb1); have HF1 := Aside0.mk (Fr.of_below (p := p) (g := g) hb1); clear hb1)
  refine start_ (n := 16) (S := fun w' => w'.cell? ⟨p, 1, none⟩ = some (.int .i64 2) ∧ w'.cell? ⟨p, 4, none⟩ = some (.int .i64 1) ∧ Tm w' base p g cap 0 1 0 ⟨97, 0⟩ ⟨32, 0⟩ wt ∧ Fr p g w w') (ds := []) #[false, false, false, false, false, false, false, false, false, false, false, false, false, false, false, false] (by kernel_rfl) rfl rfl ⟨((blk_cell (HT1.out.drew).bp 1).trans rfl), ((blk_cell (HT1.out.drew).bp 4).trans rfl), HT1.out.drew, HF1.out.drew⟩ (fun hHeld => ?_)
  refine pure_ (i := 0) (N := some 10) (v := ?_) (a' := ?_) #[true, false, false, false, false, false, false, false, false, false, false, false, false, false, false, false] rfl rfl (by kernel_rfl) (fun _ _ _ h => h) (Or.inl ⟨by rfl, ?_⟩) ?_ ?_
  rotate_left
  · intro w'
    go_simp
    with_reducible rfl
  rotate_left
  · simp only [Act.put, List.setIfInBounds_toArray, List.set_cons_zero, List.set_cons_succ, i64_w, i32_w]
    rfl
  refine one_ (i := 1) (N := some 11) #[true, true, false, false, false, false, false, false, false, false, false, false, false, false, false, false] rfl rfl (by kernel_rfl) (by decide) (fun K hK => ?_)
  obtain ⟨q0, q1, q2, q3⟩ := hHeld
  refine goes_ Tryz.func18 (by kernel_rfl) rfl #[.int .i32 98] (by rfl) rfl rfl (by simp only [List.map_toArray, List.map_cons, List.map_nil]; rfl) ?_
  with_reducible refine (vt_odd.calls 98 false _ odd98).mono ?_
  rintro e w3 ⟨rfl, hb⟩
  refine ⟨_, rfl, ?_⟩
  have q4 := q2.below hb
  have q5 := q3.trans (Fr.of_below hb)
  refine hK.out _ _ ⟨((blk_cell (q4).bp 1).trans rfl), ((blk_cell (q4).bp 4).trans rfl), q4, q5⟩ (fun hHeld => ?_)
  clear hK K
  refine norm_ (a' := ?_) ?_ ?_
  rotate_left
  · show Act.put _ (some 11) _ = _
    simp only [Act.put, List.setIfInBounds_toArray, List.set_cons_zero, List.set_cons_succ, i64_w, i32_w]
    rfl
  refine pure_ (i := 2) (N := some 12) (v := ?_) (a' := ?_) #[true, true, true, false, false, false, false, false, false, false, false, false, false, false, false, false] rfl rfl (by kernel_rfl) (fun _ _ _ h => h) (Or.inl ⟨by rfl, ?_⟩) ?_ ?_
  rotate_left
  · intro w'
    go_simp
    with_reducible rfl
  rotate_left
  · simp only [Act.put, List.setIfInBounds_toArray, List.set_cons_zero, List.set_cons_succ, i64_w, i32_w]
    rfl
  refine pure_ (i := 3) (N := some 13) (v := ?_) (a' := ?_) #[true, true, true, true, false, false, false, false, false, false, false, false, false, false, false, false] rfl rfl (by kernel_rfl) (fun _ _ _ h => h) (Or.inl ⟨by rfl, ?_⟩) ?_ ?_
  rotate_left
  · intro w'
    go_simp
    with_reducible rfl
  rotate_left
  · simp only [Act.put, List.setIfInBounds_toArray, List.set_cons_zero, List.set_cons_succ, i64_w, i32_w]
    rfl
  refine pure_ (i := 4) (N := some 14) (v := ?_) (a' := ?_) #[true, true, true, true, true, false, false, false, false, false, false, false, false, false, false, false] rfl rfl (by kernel_rfl) (fun _ _ _ h => h) (Or.inl ⟨by rfl, ?_⟩) ?_ ?_
  rotate_left
  · intro w'
    go_simp
    with_reducible rfl
  rotate_left
  · simp only [Act.put, List.setIfInBounds_toArray, List.set_cons_zero, List.set_cons_succ, i64_w, i32_w]
    rfl
  refine pure_ (i := 5) (N := some 15) (v := ?_) (a' := ?_) #[true, true, true, true, true, true, false, false, false, false, false, false, false, false, false, false] rfl rfl (by kernel_rfl) (fun _ _ _ h => h) (Or.inl ⟨by rfl, ?_⟩) ?_ ?_
  rotate_left
  · intro w'
    go_simp
    with_reducible rfl
  rotate_left
  · simp only [Act.put, List.setIfInBounds_toArray, List.set_cons_zero, List.set_cons_succ, i64_w, i32_w]
    rfl
  refine pure_ (i := 6) (N := some 16) (v := ?_) (a' := ?_) #[true, true, true, true, true, true, true, false, false, false, false, false, false, false, false, false] rfl rfl (by kernel_rfl) (fun _ _ _ h => h) (Or.inl ⟨by rfl, ?_⟩) ?_ ?_
  rotate_left
  · intro w'
    go_simp
    with_reducible rfl
  rotate_left
  · simp only [Act.put, List.setIfInBounds_toArray, List.set_cons_zero, List.set_cons_succ, i64_w, i32_w]
    rfl
  refine pure_ (i := 7) (N := some 17) (v := ?_) (a' := ?_) #[true, true, true, true, true, true, true, true, false, false, false, false, false, false, false, false] rfl rfl (by kernel_rfl) (fun _ _ _ h => h) (Or.inl ⟨by rfl, ?_⟩) ?_ ?_
  rotate_left
  · intro w'
    go_simp
    with_reducible rfl
  rotate_left
  · simp only [Act.put, List.setIfInBounds_toArray, List.set_cons_zero, List.set_cons_succ, i64_w, i32_w]
    rfl
  refine pure_ (i := 9) (N := some 19) (v := ?_) (a' := ?_) #[true, true, true, true, true, true, true, true, false, true, false, false, false, false, false, false] rfl rfl (by kernel_rfl) (fun _ _ _ h => h) (Or.inl ⟨by rfl, ?_⟩) ?_ ?_
  rotate_left
  · intro w'
    go_simp
    with_reducible rfl
  rotate_left
  · simp only [Act.put, List.setIfInBounds_toArray, List.set_cons_zero, List.set_cons_succ, i64_w, i32_w]
    rfl
  refine pure_ (i := 10) (N := some 20) (v := ?_) (a' := ?_) #[true, true, true, true, true, true, true, true, false, true, true, false, false, false, false, false] rfl rfl (by kernel_rfl) (fun _ _ _ h => h) (Or.inl ⟨by rfl, ?_⟩) ?_ ?_
  rotate_left
  · intro w'
    go_simp
    with_reducible rfl
  rotate_left
  · simp only [Act.put, List.setIfInBounds_toArray, List.set_cons_zero, List.set_cons_succ, i64_w, i32_w]
    rfl
  refine pure_ (i := 11) (N := some 21) (v := ?_) (a' := ?_) #[true, true, true, true, true, true, true, true, false, true, true, true, false, false, false, false] rfl rfl (by kernel_rfl) (fun _ _ _ h => h) (Or.inl ⟨by rfl, ?_⟩) ?_ ?_
  rotate_left
  · intro w'
    go_simp
    with_reducible rfl
  rotate_left
  · simp only [Act.put, List.setIfInBounds_toArray, List.set_cons_zero, List.set_cons_succ, i64_w, i32_w]
    rfl
  refine take_ (i := 8) (N := some 18) (v := ?_) (a' := ?_) #[true, true, true, true, true, true, true, true, true, true, true, true, false, false, false, false] rfl rfl (by kernel_rfl) (fun _ _ _ h => h) (Or.inl ⟨by rfl, ?_⟩) hHeld ?_ ?_
  rotate_left
  · rintro w' ⟨s0, s1, s2, s3⟩
    go_simp
    with_reducible rfl
  rotate_left
  · simp only [Act.put, List.setIfInBounds_toArray, List.set_cons_zero, List.set_cons_succ, i64_w, i32_w]
    rfl
  refine take_ (i := 12) (N := some 22) (v := ?_) (a' := ?_) #[true, true, true, true, true, true, true, true, true, true, true, true, true, false, false, false] rfl rfl (by kernel_rfl) (fun _ _ _ h => h) (Or.inl ⟨by rfl, ?_⟩) hHeld ?_ ?_
  rotate_left
  · rintro w' ⟨s0, s1, s2, s3⟩
    go_simp
    with_reducible rfl
  rotate_left
  · simp only [Act.put, List.setIfInBounds_toArray, List.set_cons_zero, List.set_cons_succ, i64_w, i32_w]
    rfl
  refine pure_ (i := 13) (N := some 23) (v := ?_) (a' := ?_) #[true, true, true, true, true, true, true, true, true, true, true, true, true, true, false, false] rfl rfl (by kernel_rfl) (fun _ _ _ h => h) (Or.inl ⟨by rfl, ?_⟩) ?_ ?_
  rotate_left
  · intro w'
    go_simp
    with_reducible rfl
  rotate_left
  · simp only [Act.put, List.setIfInBounds_toArray, List.set_cons_zero, List.set_cons_succ, i64_w, i32_w]
    rfl
  refine pure_ (i := 14) (N := some 24) (v := ?_) (a' := ?_) #[true, true, true, true, true, true, true, true, true, true, true, true, true, true, true, false] rfl rfl (by kernel_rfl) (fun _ _ _ h => h) (Or.inl ⟨by rfl, ?_⟩) ?_ ?_
  rotate_left
  · intro w'
    go_simp
    with_reducible rfl
  rotate_left
  · simp only [Act.put, List.setIfInBounds_toArray, List.set_cons_zero, List.set_cons_succ, i64_w, i32_w]
    rfl
  refine pure_ (i := 15) (N := some 25) (v := ?_) (a' := ?_) #[true, true, true, true, true, true, true, true, true, true, true, true, true, true, true, true] rfl rfl (by kernel_rfl) (fun _ _ _ h => h) (Or.inl ⟨by rfl, ?_⟩) ?_ ?_
  rotate_left
  · intro w'
    go_simp
    with_reducible rfl
  rotate_left
  · simp only [Act.put, List.setIfInBounds_toArray, List.set_cons_zero, List.set_cons_succ, i64_w, i32_w]
    rfl
  refine done_ (by kernel_rfl) ?_

  obtain ⟨q0, q1, q2, q3⟩ := hHeld
  have HT2 := Aside0.mk q2
  have HF2 := Aside0.mk q3
  clear q0 q1 q2 q3 HT1 HF1 HT
  have e2 : wrap64 2 = 2 := by decide +kernel
  have e1 : wrap64 1 = 1 := by decide +kernel
  obtain ⟨⟨g0, g1, g2, g3⟩, ⟨f0, f1, f2, f3⟩, ⟨p0, p1, p2, p3, p4, p5⟩, fp, hgp, hpg⟩ := HT2.out.facts
  go_wp2
  go_quiet (fail)
  go_wp2
  go_quiet (fail)
  go_wp2
  refine bodyPost_end (results_none rfl _ _ _) rfl ?_
  exact ⟨rfl, ((HT2.out.drewN _).put 1 (by omega) ⟨98, 0⟩).setp 4 _ rfl, (((HF2.out.drewN _).trans (Fr.setg _ _ _)).trans (Fr.setg _ _ _)).trans (Fr.setp _ _ _)⟩
end Go.Proofs.YtaicpljgijjenaaGreatDoor.Hand
