/- The statement's example (knows): it answers true; no condition. -/
import Derived.Test.YtaicpljgijjenaaGreatDoorHandWrite
namespace Go.Proofs.YtaicpljgijjenaaGreatDoor.Hand
open Go.RowKit Go.Proofs.YtaicpljgijjenaaGreatDoorW.PrintWords Go.Proofs.YtaicpljgijjenaaGreatDoorW.PrintLast Go.Proofs.YtaicpljgijjenaaGreatDoorW.PrintMore Go.Proofs.YtaicpljgijjenaaGreatDoor.PVtP
set_option linter.unusedVariables false
set_option linter.unusedSimpArgs false

theorem grid_calls' {base p g cap : Nat} {row col sty : Int} {x y : S41} {wt : Value} (w : World) (h : Tm w base p g cap row col sty x y wt) :
    Calls Tryz.prog 11 #[.pointer (some ⟨p, 0, none⟩)] w fun e w' => ∃ g2 c2, e = .returned (.agg #[.int .i64 1, .int .i64 2, .slice (some ⟨g2, 0, none⟩) 2 c2]) ∧ Kd.R k41 41 w' w.heap.size (fun _ => True) (.slice (some ⟨g2, 0, none⟩) 2 c2) [x, y] ∧ Below w.heap.size w w' := by
  refine (grid_calls w h).mono ?_
  rintro e w' ⟨v, rfl, hr, hb⟩
  obtain ⟨g2, c2, rfl, _⟩ := Kd.R_form hr (by simp)
  exact ⟨g2, c2, rfl, hr, hb⟩
theorem paint_bs : vt_Paint.f 60 1 2 [⟨32, 0⟩, ⟨32, 0⟩] 1 2 [⟨97, 0⟩, ⟨98, 0⟩] = some (bs, 0) := by decide +kernel
theorem paint_calls_bs (w : World) {A1 A2 : Option Addr} {c1 c2 b1 b2 : Nat} {o1 o2 : Nat → Prop} (h1 : Kd.R k41 41 w b1 o1 (.slice A1 2 c1) [⟨32, 0⟩, ⟨32, 0⟩]) (h2 : Kd.R k41 41 w b2 o2 (.slice A2 2 c2) [⟨97, 0⟩, ⟨98, 0⟩]) :
    Calls Tryz.prog 5 #[.agg #[.int .i64 1, .int .i64 2, .slice A1 2 c1], .agg #[.int .i64 1, .int .i64 2, .slice A2 2 c2]] w fun e w' => ∃ v0_ : Value, e = .returned (.tuple #[v0_, .int .i64 0]) ∧ Kd.V (Kd.int .u8) 5 w' w.heap.size (fun k_ => (w.heap.size ≤ k_)) v0_ bs ∧ Below w.heap.size w w' :=
  vt_Paint.calls 60 1 2 A1 c1 [⟨32, 0⟩, ⟨32, 0⟩] 1 2 A2 c2 [⟨97, 0⟩, ⟨98, 0⟩] bs 0 w (Kd.R_reads' h1).2.2 (Kd.R_reads' h1).2.1 (Kd.R_reads' h2).2.2 (Kd.R_reads' h2).2.1 paint_bs
theorem proper_t : vt_Proper.f 60 1 2 [⟨97, 0⟩, ⟨98, 0⟩] = some true := by decide +kernel
theorem proper_f : vt_Proper.f 60 0 0 [] = some false := by decide +kernel
theorem proper_calls_t (w : World) {A1 : Option Addr} {c1 b1 : Nat} {o1 : Nat → Prop} (h1 : Kd.R k41 41 w b1 o1 (.slice A1 2 c1) [⟨97, 0⟩, ⟨98, 0⟩]) :
    Calls Tryz.prog 8 #[.agg #[.int .i64 1, .int .i64 2, .slice A1 2 c1]] w fun e w' => e = .returned (.bool true) ∧ Below w.heap.size w w' :=
  vt_Proper.calls 60 1 2 A1 c1 [⟨97, 0⟩, ⟨98, 0⟩] true w (Kd.R_reads' h1).2.2 (Kd.R_reads' h1).2.1 proper_t
theorem proper_calls_f (w : World) : Calls Tryz.prog 8 #[.agg #[.int .i64 0, .int .i64 0, .slice none 0 0]] w fun e w' => e = .returned (.bool false) ∧ Below w.heap.size w w' :=
  vt_Proper.calls 60 0 0 none 0 [] false w (Kd.C_nil k41 w) (Nat.le_refl _) proper_f
/-- What holds ahead of Write. -/
structure Kn (w' w : World) (p g cap b3 g2 c2 : Nat) : Prop where
  tm : Tm w' w.heap.size p g cap 0 0 0 ⟨32, 0⟩ ⟨32, 0⟩ (.slice none 0 0)
  bx : w'.heap[b3]? = some (.cells #[.int .i64 1, .int .i64 2, .slice (some ⟨g2, 0, none⟩) 2 c2] 24 (0, 0))
  rr : Kd.R k41 41 w' w.heap.size (fun _ => True) (.slice (some ⟨g2, 0, none⟩) 2 c2) [⟨97, 0⟩, ⟨98, 0⟩]
  bl : Below w.heap.size w w'
theorem Kn.below {w' w w2 : World} {p g cap b3 g2 c2 : Nat} (h : Kn w' w p g cap b3 g2 c2) (hb : Below w'.heap.size w' w2) : Kn w2 w p g cap b3 g2 c2 := ⟨h.tm.below hb, blk_below h.bx hb, Kd.R_below h.rr hb, below_step h.bl hb⟩
theorem Kn.drew {w' w : World} {p g cap b3 g2 c2 : Nat} (h : Kn w' w p g cap b3 g2 c2) : Kn w'.drew w p g cap b3 g2 c2 := ⟨h.tm.drew, h.bx, Kd.R_drew h.rr, h.bl.drew⟩

set_option maxHeartbeats 1500000 in
set_option maxRecDepth 100000 in
theorem knows_calls (w : World) : Calls Tryz.prog 4 #[] w fun e w' => e = .returned (.bool true) ∧ Below w.heap.size w w' := by
  go_enter Tryz.func4, Tryz.ntmps4
  go_wp2_with (first
    | (go_at_call 10; refine (new_calls _).mono ?_; rintro e w1 ⟨p, g, cap, rfl, hT1, hB1⟩; have HT1 := Aside0.mk hT1; have HB1 := Aside0.mk hB1; clear hT1 hB1)
    | (go_at_call 11; refine (grid_calls' _ HT1.out).mono ?_; rintro e w2 ⟨g2, c2, rfl, hR2, hB2⟩; have HR2 := Aside0.mk hR2; have HB2 := Aside0.mk hB2; have HT2 := Aside0.mk (HT1.out.below hB2); clear hR2 hB2)
    | ((with_reducible refine gate_dst (N := 3) rfl ?_); refine box_event ?hg (N := 3) ?hd (cs := #[.int .i64 0, .int .i64 0, .slice none 0 0]) (t := 24) ?hr ?_; (case hd => rfl); (case hg => rfl); (case hr => first | (go_simp; done) | (go_simp; rfl)); intro b3 hg3 w3 hbox3 hb3; have BK3 := Aside0.mk hbox3; have HB3 := Aside0.mk hb3; have HR3 := Aside0.mk (Kd.R_below HR2.out hb3); have HT3 := Aside0.mk (HT2.out.below hb3); have HG3 := Aside0.mk hg3; have hne3 := Aside0.mk (show g2 ≠ b3 from by obtain ⟨g', c', e, h1, h2, h3⟩ := Kd.R_form HR2.out (by simp); injection e with e _ _; injection e with e; injection e with e; subst e; omega); clear hbox3 hb3 hg3
       have hcq0 : w3.cell? ⟨b3, 0, none⟩ = some (.int .i64 0) := (blk_cell BK3.out 0).trans rfl
       have hcq1 : w3.cell? ⟨b3, 1, none⟩ = some (.int .i64 0) := (blk_cell BK3.out 1).trans rfl
       have hcq2 : w3.cell? ⟨b3, 2, none⟩ = some (.slice none 0 0) := (blk_cell BK3.out 2).trans rfl
       have hfq0 := blk_frozen BK3.out 0
       have hfq1 := blk_frozen BK3.out 1
       have hfq2 := blk_frozen BK3.out 2
       have hn1 : ¬ g2 = b3 := hne3.out
       have hn2 : ¬ b3 = g2 := fun e => hn1 e.symm
       obtain ⟨ce0, hl0, hM0, hcc0, hfr0⟩ := Kd.R_elem HR3.out z41 0 (by decide) (by decide)
       obtain rfl := k41_openM hM0
       obtain ⟨ce1, hl1, hM1, hcc1, hfr1⟩ := Kd.R_elem HR3.out z41 1 (by decide) (by decide)
       obtain rfl := k41_openM hM1
       have g0 : w3.cell? ⟨g2, 0, none⟩ = some (.int .i32 32) := hcc0 0 _ rfl
       have g1 : w3.cell? ⟨g2, 2, none⟩ = some (.int .i32 32) := hcc1 0 _ rfl
       have f0 : w3.frozen? ⟨g2, 0, none⟩ = false := hfr0 0
       have f1 : w3.frozen? ⟨g2, 2, none⟩ = false := hfr1 0
       clear hl0 hM0 hcc0 hfr0 hl1 hM1 hcc1 hfr1))
  have hge : w1.heap.size ≤ g2 := by obtain ⟨g', c', e, h1, h2, h3⟩ := Kd.R_form HR2.out (by simp); injection e with e _ _; injection e with e; injection e with e; subst e; exact h1
  have hge3 : w1.heap.size ≤ b3 := by have h1 := HB2.out.size; have h2 := HG3.out; omega
  have hK0 : Kn (((((w3.setCell ⟨b3, 0, none⟩ (.int .i64 1)).setCell ⟨b3, 1, none⟩ (.int .i64 2)).setCell ⟨b3, 2, none⟩ (.slice (some ⟨g2, 0, none⟩) 2 c2)).setCell ⟨g2, 0, none⟩ (.int .i32 97)).setCell ⟨g2, 2, none⟩ (.int .i32 98)) w p g cap b3 g2 c2 := by
    have hbW := below_set (v := .int .i32 98) (j := 2) (below_set (v := .int .i32 97) (j := 0) (below_set (v := .slice (some ⟨g2, 0, none⟩) 2 c2) (j := 2) (below_set (v := .int .i64 2) (j := 1) (below_set (v := .int .i64 1) (j := 0) (below_step HB2.out HB3.out) hge3) hge3) hge3) hge) hge
    refine ⟨HT1.out.below hbW, ?_, ?_, below_step HB1.out hbW⟩
    · exact blk_far (blk_far (blk_put (cs := #[.int .i64 1, .int .i64 2, .slice none 0 0]) (blk_put (cs := #[.int .i64 1, .int .i64 0, .slice none 0 0]) (blk_put (cs := #[.int .i64 0, .int .i64 0, .slice none 0 0]) BK3.out 0 _ rfl) 1 _ rfl) 2 _ rfl) hn2 _) hn2 _
    · have e0 := Kd.R_set HR3.out BK3.out (by decide) 0 (.int .i64 1)
      have b0 := blk_put BK3.out 0 (.int .i64 1) rfl
      have e1 := Kd.R_set e0 b0 (by decide) 1 (.int .i64 2)
      have b1 := blk_put b0 1 (.int .i64 2) rfl
      have e2 := Kd.R_set e1 b1 (by decide) 2 (.slice (some ⟨g2, 0, none⟩) 2 c2)
      clear e0 e1 b0 b1
      obtain ⟨ce0, hl0, hM0, hcc0, hfr0⟩ := Kd.R_elem e2 z41 0 (by decide) (by decide)
      obtain rfl := k41_openM hM0
      have e3 := (Kd.R_seg e2 0 (by decide) (by decide) hl0 hcc0 (j := 0) (seg := [.int .i32 97]) (by show 0 + 1 ≤ 2; omega) (x' := (⟨97, 0⟩ : S41)) (okp := fun k => k ≠ g2) (k41_mkM _ _ _ _) (fun k hk => ⟨trivial, hk⟩)).1
      obtain ⟨ce1, hl1, hM1, hcc1, hfr1⟩ := Kd.R_elem e3 z41 1 (by decide) (by decide)
      obtain rfl := k41_openM hM1
      have e4 := (Kd.R_seg e3 1 (by decide) (by decide) hl1 hcc1 (j := 0) (seg := [.int .i32 98]) (by show 0 + 1 ≤ 2; omega) (x' := (⟨98, 0⟩ : S41)) (okp := fun k => k ≠ g2) (k41_mkM _ _ _ _) (fun k hk => ⟨trivial, hk⟩)).1
      exact Kd.R_lower e4 HB1.out.size
  clear hcq0 hcq1 hcq2 hfq0 hfq1 hfq2 g0 g1 f0 f1 hn1 hn2
  generalize (((((w3.setCell ⟨b3, 0, none⟩ (.int .i64 1)).setCell ⟨b3, 1, none⟩ (.int .i64 2)).setCell ⟨b3, 2, none⟩ (.slice (some ⟨g2, 0, none⟩) 2 c2)).setCell ⟨g2, 0, none⟩ (.int .i32 97)).setCell ⟨g2, 2, none⟩ (.int .i32 98)) = w4 at hK0 ⊢
  refine start_ (n := 9) (S := fun w' => w'.cell? ⟨b3, 0, none⟩ = some (.int .i64 1) ∧ w'.cell? ⟨b3, 1, none⟩ = some (.int .i64 2) ∧ w'.cell? ⟨b3, 2, none⟩ = some (.slice (some ⟨g2, 0, none⟩) 2 c2) ∧ Kn w' w p g cap b3 g2 c2) (ds := []) #[false, false, false, false, false, false, false, false, false] (by kernel_rfl) rfl rfl ⟨((blk_cell (hK0.drew).bx 0).trans rfl), ((blk_cell (hK0.drew).bx 1).trans rfl), ((blk_cell (hK0.drew).bx 2).trans rfl), hK0.drew⟩ (fun hHeld => ?_)
  refine pure_ (i := 0) (N := some 32) (v := ?_) (a' := ?_) #[true, false, false, false, false, false, false, false, false] rfl rfl (by kernel_rfl) (fun _ _ _ h => h) (Or.inl ⟨by rfl, ?_⟩) ?_ ?_
  rotate_left
  · intro w'
    go_simp
    with_reducible rfl
  rotate_left
  · simp only [Act.put, List.setIfInBounds_toArray, List.set_cons_zero, List.set_cons_succ, i64_w, i32_w]
    rfl
  refine take_ (i := 2) (N := some 34) (v := ?_) (a' := ?_) #[true, false, true, false, false, false, false, false, false] rfl rfl (by kernel_rfl) (fun _ _ _ h => h) (Or.inl ⟨by rfl, ?_⟩) hHeld ?_ ?_
  rotate_left
  · rintro w' ⟨s0, s1, s2, s3⟩
    go_simp
    with_reducible rfl
  rotate_left
  · simp only [Act.put, List.setIfInBounds_toArray, List.set_cons_zero, List.set_cons_succ, i64_w, i32_w]
    rfl
  refine one_ (i := 1) (N := some 33) #[true, true, true, false, false, false, false, false, false] rfl rfl (by kernel_rfl) (by decide) (fun K hK => ?_)
  obtain ⟨q0, q1, q2, q3⟩ := hHeld
  refine goes_ Tryz.func11 (by kernel_rfl) rfl #[.pointer (some ⟨p, 0, none⟩)] (by rfl) rfl rfl (by simp only [List.map_toArray, List.map_cons, List.map_nil]; rfl) ?_
  with_reducible refine (grid_calls' _ q3.tm).mono ?_
  rintro e w5 ⟨g5, c5, rfl, hr5, hb⟩
  refine ⟨_, rfl, ?_⟩
  have q4 := q3.below hb
  have HR5 := Aside0.mk hr5
  refine hK.out _ _ ⟨((blk_cell (q4).bx 0).trans rfl), ((blk_cell (q4).bx 1).trans rfl), ((blk_cell (q4).bx 2).trans rfl), q4⟩ (fun hHeld => ?_)
  clear hK K
  refine norm_ (a' := ?_) ?_ ?_
  rotate_left
  · show Act.put _ (some 33) _ = _
    simp only [Act.put, List.setIfInBounds_toArray, List.set_cons_zero, List.set_cons_succ, i64_w, i32_w]
    rfl
  refine one_ (i := 3) (N := some 35) #[true, true, true, true, false, false, false, false, false] rfl rfl (by kernel_rfl) (by decide) (fun K hK => ?_)
  obtain ⟨q0, q1, q2, q3⟩ := hHeld
  refine goes_ Tryz.func5 (by kernel_rfl) rfl #[.agg #[.int .i64 1, .int .i64 2, .slice (some ⟨g5, 0, none⟩) 2 c5], .agg #[.int .i64 1, .int .i64 2, .slice (some ⟨g2, 0, none⟩) 2 c2]] (by rfl) rfl rfl (by simp only [List.map_toArray, List.map_cons, List.map_nil]; rfl) ?_
  with_reducible refine (paint_calls_bs _ HR5.out q3.rr).mono ?_
  rintro e w6 ⟨v6, rfl, hv6, hb⟩
  refine ⟨_, rfl, ?_⟩
  have q4 := q3.below hb
  have HV6 := Aside0.mk hv6
  have HL6 := Aside0.mk (show w5.heap.size ≤ w6.heap.size from hb.size)
  have HP6 := Aside0.mk (show p < w5.heap.size ∧ g < w5.heap.size from ⟨blk_lt q3.tm.bp, q3.tm.gb.2.1⟩)
  refine hK.out _ _ ⟨((blk_cell (q4).bx 0).trans rfl), ((blk_cell (q4).bx 1).trans rfl), ((blk_cell (q4).bx 2).trans rfl), q4⟩ (fun hHeld => ?_)
  clear hK K
  refine norm_ (a' := ?_) ?_ ?_
  rotate_left
  · show Act.put _ (some 35) _ = _
    simp only [Act.put, List.setIfInBounds_toArray, List.set_cons_zero, List.set_cons_succ, i64_w, i32_w]
    rfl
  refine pure_ (i := 4) (N := some 31) (v := ?_) (a' := ?_) #[true, true, true, true, true, false, false, false, false] rfl rfl (by kernel_rfl) (fun _ _ _ h => h) (Or.inl ⟨by rfl, ?_⟩) ?_ ?_
  rotate_left
  · intro w'
    go_simp
    with_reducible rfl
  rotate_left
  · simp only [Act.put, List.setIfInBounds_toArray, List.set_cons_zero, List.set_cons_succ, i64_w, i32_w]
    rfl
  refine pure_ (i := 5) (N := some 36) (v := ?_) (a' := ?_) #[true, true, true, true, true, true, false, false, false] rfl rfl (by kernel_rfl) (fun _ _ _ h => h) (Or.inl ⟨by rfl, ?_⟩) ?_ ?_
  rotate_left
  · intro w'
    go_simp
    with_reducible rfl
  rotate_left
  · simp only [Act.put, List.setIfInBounds_toArray, List.set_cons_zero, List.set_cons_succ, i64_w, i32_w]
    rfl
  refine pure_ (i := 6) (N := some 37) (v := ?_) (a' := ?_) #[true, true, true, true, true, true, true, false, false] rfl rfl (by kernel_rfl) (fun _ _ _ h => h) (Or.inl ⟨by rfl, ?_⟩) ?_ ?_
  rotate_left
  · intro w'
    go_simp
    with_reducible rfl
  rotate_left
  · simp only [Act.put, List.setIfInBounds_toArray, List.set_cons_zero, List.set_cons_succ, i64_w, i32_w]
    rfl
  refine pure_ (i := 7) (N := some 4) (v := ?_) (a' := ?_) #[true, true, true, true, true, true, true, true, false] rfl rfl (by kernel_rfl) (fun _ _ _ h => h) (Or.inl ⟨by rfl, ?_⟩) ?_ ?_
  rotate_left
  · intro w'
    go_simp
    with_reducible rfl
  rotate_left
  · simp only [Act.put, List.setIfInBounds_toArray, List.set_cons_zero, List.set_cons_succ, i64_w, i32_w]
    rfl
  refine pure_ (i := 8) (N := some 5) (v := ?_) (a' := ?_) #[true, true, true, true, true, true, true, true, true] rfl rfl (by kernel_rfl) (fun _ _ _ h => h) (Or.inl ⟨by rfl, ?_⟩) ?_ ?_
  rotate_left
  · intro w'
    go_simp
    with_reducible rfl
  rotate_left
  · simp only [Act.put, List.setIfInBounds_toArray, List.set_cons_zero, List.set_cons_succ, i64_w, i32_w]
    rfl
  refine done_ (by kernel_rfl) ?_

  obtain ⟨q0, q1, q2, q3⟩ := hHeld
  have hv := HV6.out
  obtain ⟨A6, c6, ev6, hc6, hF6⟩ := hv
  have ev6' : v6 = .slice A6 12 c6 := ev6
  clear ev6 hv6 HV6
  subst ev6'
  have HF6 := Aside0.mk hF6
  have HT6 := Aside0.mk q3.tm
  have HL := Aside0.mk q3.bl
  clear q0 q1 q2 q3 hF6 hc6
  go_upto_region 12 with (first
    | (go_at_call 12; refine (write_calls A6 c6 _ HT6.out (Kd.F_now HF6.out)).mono ?_; rintro e w7 ⟨rfl, ⟨wt, hT7⟩, hF7⟩; have HT7 := Aside0.mk hT7; have HF7 := Aside0.mk hF7; clear hT7 hF7)
    | (go_at_call 11; refine (grid_calls' _ HT7.out).mono ?_; rintro e w8 ⟨g8, c8, rfl, hR8, hB8⟩; have HR8 := Aside0.mk hR8; have HB8 := Aside0.mk hB8; clear hR8 hB8)
    | ((with_reducible refine gate_dst (N := 6) rfl ?_); refine box_event ?hg (N := 6) ?hd (cs := #[.int .i64 0, .int .i64 0, .slice none 0 0]) (t := 24) ?hr ?_; (case hd => rfl); (case hg => rfl); (case hr => first | (go_simp; done) | (go_simp; rfl)); intro b6 hg6 w9 hbox6 hb9; have BK6 := Aside0.mk hbox6; have HB9 := Aside0.mk hb9; have HR9 := Aside0.mk (Kd.R_below HR8.out hb9); have HG6 := Aside0.mk hg6; clear hbox6 hb9 hg6
       have hcq0 : w9.cell? ⟨b6, 0, none⟩ = some (.int .i64 0) := (blk_cell BK6.out 0).trans rfl
       have hcq1 : w9.cell? ⟨b6, 1, none⟩ = some (.int .i64 0) := (blk_cell BK6.out 1).trans rfl
       have hcq2 : w9.cell? ⟨b6, 2, none⟩ = some (.slice none 0 0) := (blk_cell BK6.out 2).trans rfl
       have hfq0 := blk_frozen BK6.out 0
       have hfq1 := blk_frozen BK6.out 1
       have hfq2 := blk_frozen BK6.out 2))
  have hg6 : w8.heap.size ≤ b6 := by rw [HG6.out]; exact Nat.le_refl _
  have hb10 := below_set (v := .slice (some ⟨g8, 0, none⟩) 2 c8) (j := 2) (below_set (v := .int .i64 2) (j := 1) (below_set (v := .int .i64 1) (j := 0) HB9.out hg6) hg6) hg6
  have hk10 := blk_put (cs := #[.int .i64 1, .int .i64 2, .slice none 0 0]) (blk_put (cs := #[.int .i64 1, .int .i64 0, .slice none 0 0]) (blk_put (cs := #[.int .i64 0, .int .i64 0, .slice none 0 0]) BK6.out 0 (.int .i64 1) rfl) 1 (.int .i64 2) rfl) 2 (.slice (some ⟨g8, 0, none⟩) 2 c8) rfl
  clear hcq0 hcq1 hcq2 hfq0 hfq1 hfq2
  generalize (((w9.setCell ⟨b6, 0, none⟩ (.int .i64 1)).setCell ⟨b6, 1, none⟩ (.int .i64 2)).setCell ⟨b6, 2, none⟩ (.slice (some ⟨g8, 0, none⟩) 2 c8)) = W at hb10 hk10 ⊢
  have HBW := Aside0.mk (below_step (below_step (HF7.out.below HL.out HL.out.size HT6.out.ge HT6.out.gb.1) HB8.out) hb10)
  have HRW := Aside0.mk (Kd.R_below HR8.out hb10)
  have HCW := Aside0.mk (Kd.F_now (Kd.F_step HF6.out (W1 := W) (fun k hk hl => by
    have h1 := HP6.out
    have h7 := HF7.out.block k hl (by have h2 : w5.heap.size ≤ k := hk; omega) (by have h2 : w5.heap.size ≤ k := hk; omega)
    have hl7 : k < w7.heap.size := Nat.lt_of_lt_of_le hl HF7.out.size
    exact ((hb10.block k (Nat.lt_of_lt_of_le hl7 HB8.out.size)).trans (HB8.out.block k hl7)).trans h7)))
  have hcv : (convert 26 9 (.slice A6 12 c6)).run Tryz.prog W = .ok (.string ⟨#[27, 91, 49, 59, 49, 72, 27, 91, 48, 109, 97, 98]⟩) W := by
    have := Kd.C_string (c := c6) Tryz.underlying26 Tryz.underlying5 Tryz.underlying9 HCW.out
    rw [show strOfNums bs = ⟨#[27, 91, 49, 59, 49, 72, 27, 91, 48, 109, 97, 98]⟩ from by decide +kernel] at this
    exact this
  obtain ⟨ce0, hl0, hM0, hcc0, hfr0⟩ := Kd.R_elem HRW.out z41 0 (by decide) (by decide)
  obtain rfl := k41_openM hM0
  have g0 : W.cell? ⟨g8, 0, none⟩ = some (.int .i32 97) := hcc0 0 _ rfl
  have k0 : W.cell? ⟨b6, 0, none⟩ = some (.int .i64 1) := (blk_cell hk10 0).trans rfl
  have k1 : W.cell? ⟨b6, 1, none⟩ = some (.int .i64 2) := (blk_cell hk10 1).trans rfl
  have k2 : W.cell? ⟨b6, 2, none⟩ = some (.slice (some ⟨g8, 0, none⟩) 2 c8) := (blk_cell hk10 2).trans rfl
  clear hl0 hM0 hcc0 hfr0 hb10 hk10
  go_wp2_with (first
    | (go_at_call 8; (with_reducible refine (proper_calls_t _ HRW.out).mono ?_); rintro e w11 ⟨rfl, hb⟩; have HB11 := Aside0.mk hb; clear hb)
    | (go_at_call 8; (with_reducible refine (proper_calls_f _).mono ?_); rintro e w12 ⟨rfl, hb⟩; have HB12 := Aside0.mk hb; clear hb))
  go_ret
  exact ⟨rfl, below_step (below_step HBW.out HB11.out) HB12.out⟩
end Go.Proofs.YtaicpljgijjenaaGreatDoor.Hand
namespace Go.Proofs.YtaicpljgijjenaaGreatDoor.PVtP
open Go.RowKit
theorem styluslaw23_knows.calls (r : Bool) (w : World) (h : styluslaw23_knows.f = some r) : Calls Tryz.prog 4 #[] w fun e w' => e = .returned (.bool r) ∧ Below w.heap.size w w' := by
  obtain rfl : true = r := by simpa [styluslaw23_knows.f] using h
  exact Hand.knows_calls w
end Go.Proofs.YtaicpljgijjenaaGreatDoor.PVtP
