/- (*Map).Drop: where the key is nowhere, and where it is bound. -/
import Derived.Test.YthbdiambigfgdacHandDelete
namespace Go.Proofs.Ythbdiambigfgdac.Hand
open Go.RowKit Go.Proofs.YthbdiambigfgdacW.PrintWords Go.Proofs.YthbdiambigfgdacW.PrintMore Go.Proofs.Ythbdiambigfgdac.PKeymapFinds

theorem st_ne {W : World} {g b n c : Nat} {v : Value} {base : Nat} {l : List S43} (h1 : W.heap[g]? = some (.cells #[v] 46 (0, 0))) (h3 : Kd.R k43 43 W base (fun _ => True) (.slice (some ⟨b, 0, none⟩) n c) l) : g ≠ b := fun e => by
  obtain ⟨cells, hcb⟩ := Kd.R_typed h3 b rfl
  rw [← e, h1] at hcb
  simp at hcb
theorem st_cell {W : World} {g : Nat} {v : Value} (h1 : W.heap[g]? = some (.cells #[v] 46 (0, 0))) : W.cell? ⟨g, 0, none⟩ = some v := by simp [World.cell?, h1]
theorem st_fz {W : World} {g : Nat} {v : Value} (h1 : W.heap[g]? = some (.cells #[v] 46 (0, 0))) : W.frozen? ⟨g, 0, none⟩ = false := by simp [World.frozen?, h1]

set_option maxHeartbeats 1000000 in
theorem Drop_none (k : S23) (base g : Nat) (l : List S43) (w : World) (h : St w base g l) (hi : idxFrom (isKey k) 0 l < 0) :
    Calls Try.prog 14 #[.pointer (some ⟨g, 0, none⟩), keyV k] w fun e w' => e = .returned (.int .i64 4) ∧ Below w.heap.size w w' := by
  have hB0 : Below w.heap.size w (w.alloc (.cells #[.int .i64 k.f0, .int .i32 k.f1, .int .i64 k.f2] 23)) := (Below.refl _ w).alloc (Nat.le_refl _) _
  have hcon1 := find_calls k base g l _ (h.below hB0)
  have hsz : w.heap.size ≤ (w.alloc (.cells #[.int .i64 k.f0, .int .i32 k.f1, .int .i64 k.f2] 23)).heap.size := by simp
  have hib : decide (idxFrom (isKey k) 0 l < 0) = true := decide_eq_true hi
  clear h
  unfold keyV at hcon1 ⊢
  generalize idxFrom (isKey k) 0 l = i at hib hcon1
  go_enter Try.func14, Try.ntmps14
  go_wp2_with (go_at_call 15; ((with_reducible refine hcon1.mono ?_); rintro e w' ⟨rfl, hb⟩))
  go_ret
  exact ⟨rfl, hB0.trans (hb.mono hsz)⟩

set_option maxHeartbeats 2000000 in
theorem Drop_one (k : S23) (base g : Nat) (l : List S43) (j : Nat) (w : World) (h : St w base g l) (hb0 : base ≤ w.heap.size) (hi : idxFrom (isKey k) 0 l = (j : Int)) (hj : j < l.length) :
    Calls Try.prog 14 #[.pointer (some ⟨g, 0, none⟩), keyV k] w fun e w' => e = .returned (.int .i64 0) ∧ St w' base g (l.eraseIdx j) ∧ Fr base g w w' := by
  have hB0 : Below w.heap.size w (w.alloc (.cells #[.int .i64 k.f0, .int .i32 k.f1, .int .i64 k.f2] 23)) := (Below.refl _ w).alloc (Nat.le_refl _) _
  have hcon1 := find_calls k base g l _ (h.below hB0)
  obtain ⟨A, b, cc, hcell, hA, hC, hlc, hlen⟩ := h.view
  obtain rfl := hA (by omega)
  have hcell' : ∀ w', Below w.heap.size w w' → w'.cell? ⟨g, 0, none⟩ = some (.slice (some ⟨b, 0, none⟩) l.length cc) := fun w' hb => by
    rw [hb.cell (p := ⟨g, 0, none⟩) (World.block_lt_of_cell? w _ hcell), hcell]
  have hst : ∀ w', Below w.heap.size w w' → w'.heap[g]? = some (.cells #[.slice (some ⟨b, 0, none⟩) l.length cc] 46 (0, 0)) ∧ base ≤ g ∧ Kd.R k43 43 w' base (fun _ => True) (.slice (some ⟨b, 0, none⟩) l.length cc) l := fun w' hb => by
    obtain ⟨v, s1, s2, s3⟩ := h.below hb
    have := hcell' w' hb
    simp only [World.cell?, s1] at this
    simp at this
    subst this
    exact ⟨s1, s2, s3⟩
  have hib : decide ((j : Int) < 0) = false := decide_eq_false (by omega)
  have hjw : IntKind.i64.wrap ((j : Int) + 1) = (j : Int) + 1 := by simp [IntKind.wrap, IntKind.signed, IntKind.bits]; omega
  have hsz : w.heap.size ≤ (w.alloc (.cells #[.int .i64 k.f0, .int .i32 k.f1, .int .i64 k.f2] 23)).heap.size := by simp
  clear h hA hcell hC
  rw [hi] at hcon1
  unfold keyV at hcon1 ⊢
  have hcc := Aside0.mk hcell'
  have hs0 := Aside0.mk hst
  clear hcell' hst
  go_enter Try.func14, Try.ntmps14
  go_wp2_with (first | (go_at_call 15; ((with_reducible refine hcon1.mono ?_); rintro e w1 ⟨rfl, hb⟩; have HB := hB0.trans (hb.mono hsz); have d0 := hcc.out _ HB; have S1 := Aside0.mk (hs0.out _ HB); have hcon2 := delete_calls base b cc j l w1 S1.out.2.2 hj (Nat.le_trans hb0 HB.size))) | (go_at_call 18; ((with_reducible refine hcon2.mono ?_); rintro e w2 ⟨rfl, hR2, hB2, hk2⟩; have hgb : g ≠ b := st_ne S1.out.1 S1.out.2.2; have hg2 := (hk2 g (blk_lt S1.out.1) hgb).trans S1.out.1; have hcell2 := st_cell hg2; have hfz2 := st_fz hg2)))
  go_ret
  have hgl : base ≤ g := S1.out.2.1
  refine ⟨rfl, ⟨_, by simpa using blk_set hg2 0 _, hgl, Kd.R_set hR2 hg2 (by decide) 0 _⟩, ((HB.mono hb0).trans hB2).setCell (p := ⟨g, 0, none⟩) hgl _, fun i hi hig hn => ?_⟩
  refine (Below.heap_setCell w2 ⟨g, 0, none⟩ _ i hig).trans ((hk2 i (Nat.lt_of_lt_of_le hi HB.size) (fun e => ?_)).trans (HB.block i hi))
  obtain ⟨cells, hcb⟩ := Kd.R_typed (hs0.out w (Below.refl _ w)).2.2 b rfl
  exact hn cells (e ▸ hcb)
end Go.Proofs.Ythbdiambigfgdac.Hand
