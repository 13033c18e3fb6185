/- slices.Delete of one element, over the marks' row. -/
import Derived.Test.YthbdiambigfgdaeHandMState
namespace Go.Proofs.Ythbdiambigfgdae.Hand
open Go.RowKit Go.Proofs.YthbdiambigfgdaeW.PrintWords Go.Proofs.YthbdiambigfgdaeW.PrintLast Go.Proofs.YthbdiambigfgdaeW.PrintMore Go.Proofs.Ythbdiambigfgdae.PMarksRead

theorem run_clear_one {P : Program} (w : World) (t e ty : TypeId) (z : Value) (zs : List Value) (ht : P.underlying t = some (.slice e)) (hv : ∀ w, (zeroValue e).run P w = .ok z w) (hz : (Builtin.zeroCells z.cells 1).toList = zs) (h1 : ∀ v ∈ zs, v.oneCell' = true) (b o c : Nat)
    (hc : ∀ j, j < zs.length → (w.cell? ⟨b, o + j, none⟩).isSome = true) (hf : ∀ j, j < zs.length → w.frozen? ⟨b, o + j, none⟩ = false) :
    (Builtin.clear_ #[t] ty #[.slice (some ⟨b, o, none⟩) 1 c]).run P w = .ok (.tuple #[]) (w.setCells b o zs) := by
  have hst := run_storeCells_cells (P := P) b o zs 0 w (by simpa using hc) (by simpa using hf) h1
  simp only [Nat.add_zero] at hst
  simp [Builtin.clear_, run_underlying ht, hv, hz, hst]
theorem R_tail {α : Type} {d : Kd α} {e : Nat} {w : World} {base : Nat} {ok : Nat → Prop} {g n c : Nat} {xs : List α} (h : d.R e w base ok (.slice (some ⟨g, 0, none⟩) n c) xs) (o : Nat) (ho : n * d.sz ≤ o) (u : Value) : d.R e (w.setCell ⟨g, o, none⟩ u) base ok (.slice (some ⟨g, 0, none⟩) n c) xs := by
  obtain ⟨h0, inner, hown, hr⟩ := h
  refine ⟨h0, inner, ?_, hr.imp_ (fun _ _ hp => d.M_move (fun k hk => Below.heap_setCell w ⟨g, o, none⟩ u k (fun e => hk.2 (by simp [Value.ownBlock, e]))) hp)⟩
  obtain ⟨h1, h2 | ⟨g', cap, cur, e1, hg, hh, hn, hm, hs, ht⟩⟩ := hown
  · exact absurd h2.1 (by simp)
  · simp only [Value.slice.injEq, Option.some.injEq, Addr.mk.injEq] at e1
    obtain ⟨⟨rfl, _⟩, rfl, rfl⟩ := e1
    refine ⟨h1, .inr ⟨g, c, cur.setIfInBounds o u, rfl, hg, by simpa using blk_set hh o u, hn, hm, by simpa using hs, ?_⟩⟩
    rw [← ht, Array.toList_setIfInBounds, List.take_set_of_le ho]
theorem R_tails {α : Type} {d : Kd α} {e : Nat} {base : Nat} {ok : Nat → Prop} {g n c : Nat} {xs : List α} : ∀ (vs : List Value) (o : Nat) (w : World), d.R e w base ok (.slice (some ⟨g, 0, none⟩) n c) xs → n * d.sz ≤ o → d.R e (w.setCells g o vs) base ok (.slice (some ⟨g, 0, none⟩) n c) xs
  | [], _, _, h, _ => h
  | v :: vs, o, _, h, ho => R_tails vs (o + 1) _ (R_tail h o ho v) (by omega)
theorem below_cells {B g : Nat} {a : World} (hb : B ≤ g) : ∀ (vs : List Value) (o : Nat) (w : World), Below B a w → Below B a (w.setCells g o vs)
  | [], _, _, h => h
  | v :: vs, o, _, h => below_cells hb vs (o + 1) _ (h.setCell (p := ⟨g, o, none⟩) hb v)
theorem heap_cells {g : Nat} (i : Nat) (hi : i ≠ g) : ∀ (vs : List Value) (o : Nat) (w : World), (w.setCells g o vs).heap[i]? = w.heap[i]?
  | [], _, _ => rfl
  | v :: vs, o, w => (heap_cells i hi vs (o + 1) _).trans (Below.heap_setCell w ⟨g, o, none⟩ v i hi)
theorem R_room {α : Type} {d : Kd α} {e : Nat} {w : World} {base : Nat} {ok : Nat → Prop} {g n c : Nat} {xs : List α} (h : d.R e w base ok (.slice (some ⟨g, 0, none⟩) n c) xs) (o : Nat) (ho : o < c * d.sz) : (w.cell? ⟨g, o, none⟩).isSome = true ∧ w.frozen? ⟨g, o, none⟩ = false := by
  obtain ⟨_, inner, ⟨h1, h2 | ⟨g', cap, cur, e1, hg, hh, hn, hm, hs, ht⟩⟩, hr⟩ := h
  · exact absurd h2.1 (by simp)
  · simp only [Value.slice.injEq, Option.some.injEq, Addr.mk.injEq] at e1
    obtain ⟨⟨rfl, _⟩, rfl, rfl⟩ := e1
    exact ⟨by simp [World.cell?, hh]; omega, by simp [World.frozen?, hh]⟩

set_option maxHeartbeats 1000000 in
set_option linter.unusedSimpArgs false in
theorem delete_calls (base b cc j : Nat) (l : List S94) (w : World) (h : Kd.R k94 94 w base (fun _ => True) (.slice (some ⟨b, 0, none⟩) l.length cc) l) (hj : j < l.length) (hb : base ≤ w.heap.size) :
    Calls Try.prog 51 #[.slice (some ⟨b, 0, none⟩) l.length cc, .int .i64 j, .int .i64 ((j : Int) + 1)] w fun e w' => e = .returned (.slice (some ⟨b, 0, none⟩) (l.length - 1) cc) ∧ Kd.R k94 94 w' base (fun _ => True) (.slice (some ⟨b, 0, none⟩) (l.length - 1) cc) (l.eraseIdx j) ∧ Below base w w' ∧ ∀ i, i < w.heap.size → i ≠ b → w'.heap[i]? = w.heap[i]? := by
  have hlc := (Kd.R_reads' h).2.1
  have hlen := (Kd.R_reads' h).2.2.2.1
  have a1 : (0 : Int) ≤ (j : Int) := by omega
  have a2 : (j : Int) ≤ (j : Int) + 1 := by omega
  have a3 : (j : Int) + 1 ≤ (l.length : Int) := by omega
  have a5 : j ≤ cc := by omega
  have a6 : (0 : Int) ≤ (j : Int) + 1 := by omega
  have a4 : ((j : Int) == (j : Int) + 1) = false := beq_eq_false_iff_ne.mpr (by omega)
  go_enter Try.func51, Try.ntmps51
  go_upto_region 5 with (fail)
  -- region 5
  refine start_ (n := 8) (S := fun w' => True) (ds := []) #[false, false, false, false, false, false, false, false] (by kernel_rfl) rfl rfl trivial (fun hHeld => ?_)
  refine pure_ (i := 0) (N := some 20) (v := ?_) (a' := ?_) #[true, false, false, false, false, false, false, false] rfl rfl (by kernel_rfl) (fun _ _ _ h => h) (Or.inl ⟨by rfl, ?_⟩) ?_ ?_
  rotate_left
  · intro w'
    go_simp
    with_reducible rfl
  rotate_left
  · simp only [Act.put, List.setIfInBounds_toArray, List.set_cons_zero, List.set_cons_succ, i64_w, i32_w]
    rfl
  refine pure_ (i := 1) (N := some 21) (v := ?_) (a' := ?_) #[true, true, false, false, false, false, false, false] rfl rfl (by kernel_rfl) (fun _ _ _ h => h) (Or.inl ⟨by rfl, ?_⟩) ?_ ?_
  rotate_left
  · intro w'
    go_simp
    with_reducible rfl
  rotate_left
  · simp only [Act.put, List.setIfInBounds_toArray, List.set_cons_zero, List.set_cons_succ, i64_w, i32_w]
    rfl
  refine pure_ (i := 2) (N := some 22) (v := ?_) (a' := ?_) #[true, true, true, false, false, false, false, false] rfl rfl (by kernel_rfl) (fun _ _ _ h => h) (Or.inl ⟨by rfl, ?_⟩) ?_ ?_
  rotate_left
  · intro w'
    go_simp
    with_reducible rfl
  rotate_left
  · simp only [Act.put, List.setIfInBounds_toArray, List.set_cons_zero, List.set_cons_succ, i64_w, i32_w]
    rfl
  refine pure_ (i := 3) (N := some 23) (v := ?_) (a' := ?_) #[true, true, true, true, false, false, false, false] rfl rfl (by kernel_rfl) (fun _ _ _ h => h) (Or.inl ⟨by rfl, ?_⟩) ?_ ?_
  rotate_left
  · intro w'
    go_simp
    with_reducible rfl
  rotate_left
  · simp only [Act.put, List.setIfInBounds_toArray, List.set_cons_zero, List.set_cons_succ, i64_w, i32_w]
    rfl
  refine pure_ (i := 4) (N := some 24) (v := ?_) (a' := ?_) #[true, true, true, true, true, false, false, false] rfl rfl (by kernel_rfl) (fun _ _ _ h => h) (Or.inl ⟨by rfl, ?_⟩) ?_ ?_
  rotate_left
  · intro w'
    go_simp
    with_reducible rfl
  rotate_left
  · simp only [Act.put, List.setIfInBounds_toArray, List.set_cons_zero, List.set_cons_succ, i64_w, i32_w]
    rfl
  refine pure_ (i := 5) (N := some 25) (v := ?_) (a' := ?_) #[true, true, true, true, true, true, false, false] rfl rfl (by kernel_rfl) (fun _ _ _ h => h) (Or.inl ⟨by rfl, ?_⟩) ?_ ?_
  rotate_left
  · intro w'
    go_simp
    with_reducible rfl
  rotate_left
  · simp only [Act.put, List.setIfInBounds_toArray, List.set_cons_zero, List.set_cons_succ, i64_w, i32_w]
    rfl
  refine one_ (i := 6) (N := some 26) #[true, true, true, true, true, true, true, false] rfl rfl (by kernel_rfl) (by decide) (fun K hK => ?_)
  refine Kd.R_delete_step k94 base (by rfl) (w0 := w) (.tmp 22) (.tmp 25) 88 94 rfl Try.underlying88 (by kernel_rfl) (k := j) rfl rfl ?hA ?hm (Kd.R_drew h) hj ((Below.refl _ w).drew) hb ?_
  case hA => simp [Addr.add_lit, show k94.sz = 5 from rfl]
  case hm => first | rfl | omega
  intro w3 hR3 hB3 hg3
  refine hK.out _ _ trivial (fun hHeld => ?_)
  clear hK K
  refine norm_ (a' := ?_) ?_ ?_
  rotate_left
  · show Act.put _ (some 26) _ = _
    simp only [Act.put, List.setIfInBounds_toArray, List.set_cons_zero, List.set_cons_succ, i64_w, i32_w]
    rfl
  refine pure_ (i := 7) (N := some 0) (v := ?_) (a' := ?_) #[true, true, true, true, true, true, true, true] rfl rfl (by kernel_rfl) (fun _ _ _ h => h) (Or.inl ⟨by rfl, ?_⟩) ?_ ?_
  rotate_left
  · intro w'
    go_simp
    with_reducible rfl
  rotate_left
  · simp only [Act.put, List.setIfInBounds_toArray, List.set_cons_zero, List.set_cons_succ, i64_w, i32_w]
    rfl
  refine done_ (by kernel_rfl) ?_

  go_upto_region 6 with (fail)
  obtain ⟨m, hm⟩ : ∃ m, l.length = m + 1 := ⟨l.length - 1, by omega⟩
  have hl1 : l.length - 1 = m := by omega
  have hne : ¬ cc = m := by omega
  have hmc : m ≤ cc := by omega
  rw [hl1] at hR3
  have hcl : ∀ ty, (Builtin.clear_ #[88] ty #[.slice (some ⟨b, m * 5, none⟩) 1 (cc - m)]).run Try.prog w3 = .ok (.tuple #[]) (w3.setCells b (m * 5) [.int .i64 0, .int .i64 0, .bool false, .bool false, .int .i64 0]) := fun ty =>
    run_clear_one w3 88 94 ty (.agg #[.int .i64 0, .int .i64 0, .bool false, .bool false, .int .i64 0]) _ Try.underlying88 (fun _ => by go_simp) (by kernel_rfl) (by decide) b (m * 5) (cc - m) (fun q hq => (R_room hR3 (m * 5 + q) (by have : q < 5 := hq; show m * 5 + q < cc * 5; omega)).1) (fun q hq => (R_room hR3 (m * 5 + q) (by have : q < 5 := hq; show m * 5 + q < cc * 5; omega)).2)
  have hR4 := Aside0.mk (R_tails [.int .i64 0, .int .i64 0, .bool false, .bool false, .int .i64 0] (m * 5) w3 hR3 (Nat.le_refl _))
  have hgb : base ≤ b := Kd.R_base h b rfl
  have hB4 := Aside0.mk (below_cells hgb [.int .i64 0, .int .i64 0, .bool false, .bool false, .int .i64 0] (m * 5) w3 hB3)
  have hg4 := Aside0.mk hg3
  clear hR3 hB3 hg3 h
  generalize (if cc = j + 1 then (some ⟨b, 0, none⟩ : Option Addr) else some ⟨b, (j + 1) * 5, none⟩) = A25
  simp only [hl1]
  simp only [hm]
  go_wp2
  go_ret
  rw [hl1]
  refine ⟨rfl, hR4.out, hB4.out, fun i hi hib => (heap_cells i hib _ _ _).trans (hg4.out.block i hi (by simpa using hib))⟩
end Go.Proofs.Ythbdiambigfgdae.Hand
