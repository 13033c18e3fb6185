/- A terminal of one row and two columns: how it lies in memory, and vt.New, Grid and slices.Clone by hand; no condition beyond that form. -/
import Derived.Test.YtaicpljgijjenaaGreatDoorPVtPx3
import Derived.Test.YtaicpljgijjenaaGreatDoorPVtPx5
import Derived.Test.YtaicpljgijjenaaGreatDoorPVtPx6
import Derived.Lib.SliceRun
namespace Go.Proofs.YtaicpljgijjenaaGreatDoor.Hand
open Go.RowKit Go.Proofs.YtaicpljgijjenaaGreatDoorW.PrintWords Go.Proofs.YtaicpljgijjenaaGreatDoorW.PrintLast Go.Proofs.YtaicpljgijjenaaGreatDoorW.PrintMore Go.Proofs.YtaicpljgijjenaaGreatDoor.PVtP

/-- What a deed of the terminal at p, with cells at g, may turn: these two blocks. -/
structure Fr (p g : Nat) (w w' : World) : Prop where
  os : w'.os = w.os
  tape : w'.tape = w.tape
  output : w'.output = w.output
  size : w.heap.size ≤ w'.heap.size
  block : ∀ k, k < w.heap.size → k ≠ p → k ≠ g → w'.heap[k]? = w.heap[k]?
theorem Fr.refl (p g : Nat) (w : World) : Fr p g w w := ⟨rfl, rfl, rfl, Nat.le_refl _, fun _ _ _ _ => rfl⟩
theorem Fr.trans {p g : Nat} {a b c : World} (h : Fr p g a b) (k : Fr p g b c) : Fr p g a c :=
  ⟨k.os.trans h.os, k.tape.trans h.tape, k.output.trans h.output, Nat.le_trans h.size k.size, fun i hi h1 h2 => (k.block i (Nat.lt_of_lt_of_le hi h.size) h1 h2).trans (h.block i hi h1 h2)⟩
theorem Fr.of_below {p g : Nat} {w w1 : World} (h : Below w.heap.size w w1) : Fr p g w w1 := ⟨h.os, h.tape, h.output, h.size, fun k hk _ _ => h.block k hk⟩
theorem Fr.setp {p g : Nat} (w : World) (j : Nat) (u : Value) : Fr p g w (w.setCell ⟨p, j, none⟩ u) :=
  ⟨rfl, rfl, rfl, by simp [World.setCell], fun k _ h1 _ => Below.heap_setCell w _ u k h1⟩
theorem Fr.setg {p g : Nat} (w : World) (j : Nat) (u : Value) : Fr p g w (w.setCell ⟨g, j, none⟩ u) :=
  ⟨rfl, rfl, rfl, by simp [World.setCell], fun k _ _ h2 => Below.heap_setCell w _ u k h2⟩
theorem Fr.below {p g B : Nat} {w0 w w' : World} (h : Fr p g w w') (hb : Below B w0 w) (hB : B ≤ w.heap.size) (hp : B ≤ p) (hg : B ≤ g) : Below B w0 w' :=
  hb.trans ⟨h.os, h.tape, h.output, h.size, fun k hk => h.block k (Nat.lt_of_lt_of_le hk hB) (by omega) (by omega)⟩

/-- The terminal at p: one row, two columns; its cells at g. -/
structure Tm (w : World) (base p g cap : Nat) (row col sty : Int) (x y : S41) (wt : Value) : Prop where
  bp : w.heap[p]? = some (.cells #[.int .i64 1, .int .i64 2, .slice (some ⟨g, 0, none⟩) 2 cap, .int .i64 row, .int .i64 col, .int .i64 sty, wt] 52 (0, 0))
  rr : Kd.R k41 41 w base (fun k => k ≠ p) (.slice (some ⟨g, 0, none⟩) 2 cap) [x, y]
  ge : base ≤ p
theorem Tm.gb {w : World} {base p g cap : Nat} {row col sty : Int} {x y : S41} {wt : Value} (h : Tm w base p g cap row col sty x y wt) : base ≤ g ∧ g < w.heap.size ∧ ∃ cells, w.heap[g]? = some (.cells cells 41 (0, 0)) := by
  obtain ⟨g', c', e, h1, h2, h3⟩ := Kd.R_form h.rr (by simp)
  injection e with e _ _
  injection e with e
  injection e with e
  subst e
  exact ⟨h1, h2, h3⟩
theorem Tm.ne {w : World} {base p g cap : Nat} {row col sty : Int} {x y : S41} {wt : Value} (h : Tm w base p g cap row col sty x y wt) : g ≠ p := h.rr.1 g (by simp [Value.ownBlock])
theorem Tm.below {w w' : World} {base p g cap : Nat} {row col sty : Int} {x y : S41} {wt : Value} (h : Tm w base p g cap row col sty x y wt) (hb : Below w.heap.size w w') : Tm w' base p g cap row col sty x y wt :=
  ⟨blk_below h.bp hb, Kd.R_below h.rr hb, h.ge⟩
/-- One of its own cells is written. -/
theorem Tm.setp {w : World} {base p g cap : Nat} {row col sty : Int} {x y : S41} {wt : Value} (h : Tm w base p g cap row col sty x y wt) (j : Nat) (u : Value) {row' col' sty' : Int} {wt' : Value}
    (e : (#[Value.int .i64 1, .int .i64 2, .slice (some ⟨g, 0, none⟩) 2 cap, .int .i64 row, .int .i64 col, .int .i64 sty, wt] : Array Value).setIfInBounds j u = #[.int .i64 1, .int .i64 2, .slice (some ⟨g, 0, none⟩) 2 cap, .int .i64 row', .int .i64 col', .int .i64 sty', wt']) :
    Tm (w.setCell ⟨p, j, none⟩ u) base p g cap row' col' sty' x y wt' :=
  ⟨by rw [← e]; exact blk_set h.bp j u, Kd.R_far h.rr (fun k hk => hk) u, h.ge⟩

set_option maxHeartbeats 1000000 in
set_option maxRecDepth 100000 in
theorem clone_calls (A0 : Option Addr) (c0 : Nat) (l0 : List S41) (w : World) (hr0 : Kd.C k41 w A0 l0.length l0) (hc0 : l0.length ≤ c0) (hl : l0.length < 8796093022208) :
    Calls Tryz.prog 22 #[.slice A0 l0.length c0] w fun e w' => ∃ v0_ : Value, e = .returned (v0_) ∧ Kd.R k41 41 w' w.heap.size (fun _ => True) v0_ l0 ∧ Below w.heap.size w w' := by
  cases A0 with
  | none =>
    have h0 : l0 = [] := by
      cases l0 with
      | nil => rfl
      | cons x l =>
        obtain ⟨ad, _, e, _⟩ := Kd.C_get hr0 z41 0 (by omega) (by simp)
        cases e
    subst h0
    have he : ∀ w, (binOp .eql 22 (.slice none 0 c0) (.slice none 0 0)).run Tryz.prog w = .ok (.bool true) w := fun w => Go.Lib.run_eql_slice_nil w 22 41 none 0 c0 0 0 Tryz.underlying22
    simp only [List.length_nil]
    go_enter Tryz.func22, Tryz.ntmps22
    go_wp2
    go_ret
    exact ⟨_, rfl, Kd.R_nil _ _ _ _ _, Below.refl _ w⟩
  | some ad =>
    have HR := Aside0.mk hr0
    clear hr0
    have he : ∀ w, (binOp .eql 22 (.slice (some ad) l0.length c0) (.slice none 0 0)).run Tryz.prog w = .ok (.bool false) w := fun w => Go.Lib.run_eql_slice_nil w 22 41 (some ad) l0.length c0 0 0 Tryz.underlying22
    go_enter Tryz.func22, Tryz.ntmps22
    go_wp2_with (first | ((with_reducible refine gate_dst (N := 5) rfl ?_); refine Kd.R_lit k41 (w0 := w) w.heap.size 41 ?hg (N := 5) ?hd (xs := ([] : List S41)) (inner := []) (ok := fun _ => True) (okp := fun _ => True) ?hr ?hp (fun _ hk => hk) trivial (Below.refl _ _) (Nat.le_refl _) (by simp) ?_; (case hd => rfl); (case hg => rfl); (case hr => first | (go_simp; done) | (go_simp; rfl)); (case hp => exact (Reps.none _ _)); intro v1 w1 hR1 hB1 hg1 hn1) | ((with_reducible refine gate_dst (N := 7) rfl ?_); refine Kd.R_append_rows k41 (w0 := w) w.heap.size rfl (.tmp 5) (.tmp 6) 22 41 (.agg #[(.int .i32 0), (.int .i64 0)]) 16 rfl Tryz.underlying22 info41 rfl (by decide) (by omega) v1 [] l0 _ _ _ (fun _ => True) (fun _ => False) rfl rfl hR1 (Kd.C_below HR.out hB1) ?aM (fun _ h => h.elim) (fun _ _ => trivial) hB1 hB1.size ?aL ?_; (case aM => exact fun x cs h => h); (case aL => simp; omega); intro v2 w2 hR2 hB2 hg2 ha2))
    go_ret
    exact ⟨_, rfl, hR2, hB2⟩

set_option maxHeartbeats 1000000 in
set_option maxRecDepth 100000 in
theorem new_calls (w : World) : Calls Tryz.prog 10 #[.int .i64 1, .int .i64 2] w fun e w' => ∃ p g cap, e = .returned (.tuple #[.pointer (some ⟨p, 0, none⟩), .int .i64 0]) ∧ Tm w' w.heap.size p g cap 0 0 0 ⟨32, 0⟩ ⟨32, 0⟩ (.slice none 0 0) ∧ Below w.heap.size w w' := by
  have s1 : vt_side.f 1 = some true := by decide
  have s2 : vt_side.f 2 = some true := by decide
  have hb1 : vt_blank.f 5 1 2 = some (1, 2, [⟨32, 0⟩, ⟨32, 0⟩]) := by kernel_rfl
  go_enter Tryz.func10, Tryz.ntmps10
  go_wp2_with (first
    | (go_at_call 17; (first | refine (vt_side.calls 1 true _ s1).mono ?_ | refine (vt_side.calls 2 true _ s2).mono ?_); rintro e w1 ⟨rfl, ⟨nd, rfl⟩⟩)
    | (go_at_call 21; refine (vt_blank.calls 5 1 2 1 2 [⟨32, 0⟩, ⟨32, 0⟩] _ hb1).mono ?_; rintro e w3 ⟨v3, rfl, hR3, hB3⟩; have hR3' := Aside0.mk hR3; have HB3 := Aside0.mk hB3; clear hR3 hB3)
    | ((with_reducible refine gate_dst (N := 18) rfl ?_); refine box_event ?hg (N := 18) ?hd (cs := #[.int .i64 1, .int .i64 2, v3, .int .i64 0, .int .i64 0, .int .i64 0, .slice none 0 0]) (t := 52) ?hr ?_; (case hd => rfl); (case hg => rfl); (case hr => first | (go_simp; done) | (go_simp; rfl)); intro p hg w6 hbox hb; have HG := Aside0.mk hg; clear hg))
  go_ret2
  have hB0 : Below w.heap.size w w3 := ⟨HB3.out.os, HB3.out.tape, HB3.out.output, HB3.out.size, HB3.out.block⟩
  obtain ⟨g, cap, rfl, h1, h2, h3⟩ := Kd.R_form hR3'.out (by simp)
  refine ⟨p, g, cap, rfl, ⟨hbox, ?_, by rw [HG.out]; exact HB3.out.size⟩, below_step hB0 hb⟩
  exact Kd.R_mono (Kd.R_types (Kd.R_below (Kd.R_lower hR3'.out (Nat.le_refl _)) hb) hbox (by decide)) (fun k hk => hk.2)

set_option maxHeartbeats 1000000 in
set_option maxRecDepth 100000 in
theorem grid_calls {base p g cap : Nat} {row col sty : Int} {x y : S41} {wt : Value} (w : World) (h : Tm w base p g cap row col sty x y wt) :
    Calls Tryz.prog 11 #[.pointer (some ⟨p, 0, none⟩)] w fun e w' => ∃ v, e = .returned (.agg #[.int .i64 1, .int .i64 2, v]) ∧ Kd.R k41 41 w' w.heap.size (fun _ => True) v [x, y] ∧ Below w.heap.size w w' := by
  have HT := Aside0.mk h
  clear h
  have HB := Aside0.mk (Below.refl w.heap.size w)
  go_enter Tryz.func11, Tryz.ntmps11
  go_wp2_with (first
    | ((with_reducible refine gate_dst (N := 2) rfl ?_); refine box_event ?hg (N := 2) ?hd (cs := #[.int .i64 0, .int .i64 0, .slice none 0 0]) (t := 24) ?hr ?_; (case hd => rfl); (case hg => rfl); (case hr => first | (go_simp; done) | (go_simp; rfl)); intro g1 hg1 w1 hbox1 hb1; have BK1 := Aside0.mk hbox1; have HB1 := Aside0.mk hb1; have HT1 := Aside0.mk (Tm.below HT.out hb1); have HG1 := Aside0.mk hg1; clear hbox1 hb1 hg1
       have hcp0 : w1.cell? ⟨p, 0, none⟩ = some (.int .i64 1) := (blk_cell HT1.out.bp 0).trans rfl
       have hcp1 : w1.cell? ⟨p, 1, none⟩ = some (.int .i64 2) := (blk_cell HT1.out.bp 1).trans rfl
       have hcp2 : w1.cell? ⟨p, 2, none⟩ = some (.slice (some ⟨g, 0, none⟩) 2 cap) := (blk_cell HT1.out.bp 2).trans rfl)
    | ((with_reducible refine gate_dst (N := 3) rfl ?_); refine box_event ?hg (N := 3) ?hd (cs := #[.int .i64 0, .int .i64 0, .slice none 0 0]) (t := 24) ?hr ?_; (case hd => rfl); (case hg => rfl); (case hr => first | (go_simp; done) | (go_simp; rfl)); intro g2 hg2 w2 hbox2 hb2; have BK2 := Aside0.mk hbox2; have HB2 := Aside0.mk hb2; have HG2 := Aside0.mk hg2; clear hbox2 hb2 hg2
       have hcq0 : w2.cell? ⟨g2, 0, none⟩ = some (.int .i64 0) := (blk_cell BK2.out 0).trans rfl
       have hcq1 : w2.cell? ⟨g2, 1, none⟩ = some (.int .i64 0) := (blk_cell BK2.out 1).trans rfl
       have hcq2 : w2.cell? ⟨g2, 2, none⟩ = some (.slice none 0 0) := (blk_cell BK2.out 2).trans rfl
       have hfq0 := blk_frozen BK2.out 0
       have hfq1 := blk_frozen BK2.out 1
       have hfq2 := blk_frozen BK2.out 2)
    | (go_at_call 22
       have hbz := Aside0.mk (show Below w1.heap.size w1 (((w2.setCell ⟨g2, 0, none⟩ (.int .i64 1)).setCell ⟨g2, 1, none⟩ (.int .i64 2)).setCell ⟨g2, 2, none⟩ (.slice (some ⟨g, 0, none⟩) 2 cap)) from below_set (below_set (below_set HB2.out (by rw [HG2.out]; exact Nat.le_refl _)) (by rw [HG2.out]; exact Nat.le_refl _)) (by rw [HG2.out]; exact Nat.le_refl _))
       have hkz := Aside0.mk (show (((w2.setCell ⟨g2, 0, none⟩ (.int .i64 1)).setCell ⟨g2, 1, none⟩ (.int .i64 2)).setCell ⟨g2, 2, none⟩ (.slice (some ⟨g, 0, none⟩) 2 cap)).heap[g2]? = some (.cells #[.int .i64 1, .int .i64 2, .slice (some ⟨g, 0, none⟩) 2 cap] 24 (0, 0)) from blk_put (cs := #[.int .i64 1, .int .i64 2, .slice none 0 0]) (blk_put (cs := #[.int .i64 1, .int .i64 0, .slice none 0 0]) (blk_put (cs := #[.int .i64 0, .int .i64 0, .slice none 0 0]) BK2.out 0 _ rfl) 1 _ rfl) 2 _ rfl)
       clear hcq0 hcq1 hcq2 hfq0 hfq1 hfq2
       generalize (((w2.setCell ⟨g2, 0, none⟩ (.int .i64 1)).setCell ⟨g2, 1, none⟩ (.int .i64 2)).setCell ⟨g2, 2, none⟩ (.slice (some ⟨g, 0, none⟩) 2 cap)) = w3 at hbz hkz ⊢
       refine (clone_calls (some ⟨g, 0, none⟩) cap [x, y] w3 (Kd.C_below (Kd.R_reads' HT1.out.rr).2.2 hbz.out) (Kd.R_reads' HT1.out.rr).2.1 (by simp)).mono ?_
       rintro e w4 ⟨v4, rfl, hR4, hB4⟩
       obtain ⟨A4, c4, rfl⟩ := Kd.R_slice hR4
       have HR4 := Aside0.mk hR4
       have HB4 := Aside0.mk hB4
       have BK4 := Aside0.mk (blk_below hkz.out hB4)
       have BK5 := Aside0.mk (blk_below (blk_below BK1.out hbz.out) hB4)
       clear hR4 hB4
       have hne := Aside0.mk (show g1 ≠ g2 from by rw [HG2.out]; exact Nat.ne_of_lt (blk_lt BK1.out))
       have hnb := hne.out
       have hnc := hne.out.symm
       have hcr0 : w4.cell? ⟨g2, 0, none⟩ = some (.int .i64 1) := (blk_cell BK4.out 0).trans rfl
       have hcr1 : w4.cell? ⟨g2, 1, none⟩ = some (.int .i64 2) := (blk_cell BK4.out 1).trans rfl
       have hcr2 : w4.cell? ⟨g2, 2, none⟩ = some (.slice (some ⟨g, 0, none⟩) 2 cap) := (blk_cell BK4.out 2).trans rfl
       have hfr0 := blk_frozen BK4.out 0
       have hfr1 := blk_frozen BK4.out 1
       have hfr2 := blk_frozen BK4.out 2
       have hcs0 : w4.cell? ⟨g1, 0, none⟩ = some (.int .i64 0) := (blk_cell BK5.out 0).trans rfl
       have hcs1 : w4.cell? ⟨g1, 1, none⟩ = some (.int .i64 0) := (blk_cell BK5.out 1).trans rfl
       have hcs2 : w4.cell? ⟨g1, 2, none⟩ = some (.slice none 0 0) := (blk_cell BK5.out 2).trans rfl
       have hfs0 := blk_frozen BK5.out 0
       have hfs1 := blk_frozen BK5.out 1
       have hfs2 := blk_frozen BK5.out 2))
  refine bodyPost_ret (results_cell_row rfl _ _ g1 24 #[.int .i64 1, .int .i64 2, .slice A4 2 c4] (0, 0) _ rfl (by refine blk_put (cs := #[.int .i64 1, .int .i64 2, .slice none 0 0]) ?_ 2 _ rfl; refine blk_put (cs := #[.int .i64 1, .int .i64 0, .slice none 0 0]) ?_ 1 _ rfl; refine blk_put (cs := #[.int .i64 0, .int .i64 0, .slice none 0 0]) ?_ 0 _ rfl; exact blk_far BK5.out hne.out _) Tryz.underlying24 rfl (by kernel_rfl)) rfl ?_
  have hs1 : w.heap.size ≤ w1.heap.size := HB1.out.size
  have hs3 : w1.heap.size ≤ w3.heap.size := hbz.out.size
  have hs4 : w3.heap.size ≤ w4.heap.size := HB4.out.size
  have hg1 : g1 = w.heap.size := HG1.out
  have hg2 : g2 = w1.heap.size := HG2.out
  have hl2 : g2 < w3.heap.size := blk_lt hkz.out
  have hl1 : g1 < w1.heap.size := blk_lt BK1.out
  refine ⟨.slice A4 2 c4, rfl, ?_, below_set (below_set (below_set (below_set (below_step (below_step HB1.out hbz.out) HB4.out) (by omega)) (by omega)) (by omega)) (by omega)⟩
  have hR := Kd.R_bound HR4.out
  refine Kd.R_mono (Kd.R_lower (Kd.R_far (p := ⟨g1, 2, none⟩) (Kd.R_far (p := ⟨g1, 1, none⟩) (Kd.R_far (p := ⟨g1, 0, none⟩) (Kd.R_far (p := ⟨g2, 2, none⟩) hR (fun k hk => ?_) _) (fun k hk => ?_) _) (fun k hk => ?_) _) (fun k hk => ?_) _) (by omega : w.heap.size ≤ w3.heap.size)) (fun _ _ => trivial)
  · have := hk.2.1; show k ≠ g2; omega
  · have := hk.2.1; show k ≠ g1; omega
  · have := hk.2.1; show k ≠ g1; omega
  · have := hk.2.1; show k ≠ g1; omega
end Go.Proofs.YtaicpljgijjenaaGreatDoor.Hand
