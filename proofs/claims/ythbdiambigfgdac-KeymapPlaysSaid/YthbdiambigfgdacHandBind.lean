/- (*Map).Bind, the ways that change nothing: no command; a full map. -/
import Derived.Test.YthbdiambigfgdacHandKnows
namespace Go.Proofs.Ythbdiambigfgdac.Hand
open Go.RowKit Go.Proofs.YthbdiambigfgdacW.PrintWords Go.Proofs.YthbdiambigfgdacW.PrintMore Go.Proofs.Ythbdiambigfgdac.PKeymapFinds

theorem drawn_below' {w w' : World} (h : Drawn0 w w') : Below w.heap.size w w' := by
  obtain ⟨m, rfl⟩ := h
  exact pw_below_drewN (Below.refl _ w) m

set_option maxHeartbeats 1000000 in
theorem Bind_no (k : S23) (c : Int) (p : Option Addr) (K : Nat) (w : World) (hc : keymap_Is.f K c = some false) : Calls Try.prog 13 #[.pointer p, keyV k, .int .i64 c] w fun e w' => e = .returned (.int .i64 1) ∧ Below w.heap.size w w' := by
  cases p with
  | none => exact Bind_nil k c w
  | some a =>
    unfold keyV
    go_enter Try.func13, Try.ntmps13
    go_wp2_with (go_at_call 9; (with_reducible refine (keymap_Is.calls K c false _ hc).mono ?_); rintro e w' ⟨rfl, ⟨nd, rfl⟩⟩)
    go_ret
    exact ⟨rfl, by repeat (first | exact (Below.refl _ w).alloc (Nat.le_refl _) _ | apply pw_below_drewN | apply below_drew1)⟩

set_option maxHeartbeats 1000000 in
theorem Bind_full (k : S23) (c : Int) (base g : Nat) (l : List S43) (K : Nat) (w : World) (h : St w base g l) (hc : keymap_Is.f K c = some true) (hi : idxFrom (isKey k) 0 l < 0) (hf : 100 ≤ l.length) :
    Calls Try.prog 13 #[.pointer (some ⟨g, 0, none⟩), keyV k, .int .i64 c] w fun e w' => e = .returned (.int .i64 3) ∧ Below w.heap.size w w' := by
  have hB0 : Below w.heap.size w (w.alloc (.cells #[.int .i64 k.f0, .int .i32 k.f1, .int .i64 k.f2] 23)) := (Below.refl _ w).alloc (Nat.le_refl _) _
  have hcon1 := fun W (hb : Below w.heap.size w W) => find_calls k base g l W (h.below hb)
  obtain ⟨A, b, cc, hcell, hA, hC, hlc, hlen⟩ := h.view
  have hcell' : ∀ w', Below w.heap.size w w' → w'.cell? ⟨g, 0, none⟩ = some (.slice A l.length cc) := fun w' hb => by
    rw [hb.cell (p := ⟨g, 0, none⟩) (World.block_lt_of_cell? w _ hcell), hcell]
  have hbox : Box (w.alloc (.cells #[.int .i64 k.f0, .int .i32 k.f1, .int .i64 k.f2] 23)) w.heap.size k := ⟨by simp, by simp, by simp, by simp⟩
  have hib : decide (0 ≤ idxFrom (isKey k) 0 l) = false := decide_eq_false (by omega)
  have hfb : decide ((100 : Int) ≤ (l.length : Int)) = true := decide_eq_true (by omega)
  have hsz : w.heap.size ≤ (w.alloc (.cells #[.int .i64 k.f0, .int .i32 k.f1, .int .i64 k.f2] 23)).heap.size := by simp
  clear h hC hA hcell
  unfold keyV at hcon1 ⊢
  generalize idxFrom (isKey k) 0 l = i at hib hcon1
  have hcc := Aside0.mk hcell'
  have hcn := Aside0.mk hcon1
  clear hcell' hcon1
  go_enter Try.func13, Try.ntmps13
  go_wp2_with (first | (go_at_call 9; ((with_reducible refine (keymap_Is.calls K c true _ hc).mono ?_); rintro e w' ⟨rfl, hd⟩; have hb := drawn_below' hd; obtain ⟨hx, b0, b1, b2⟩ := hbox.below hb; have HB := hB0.trans (hb.mono hsz); clear hd)) | (go_at_call 15; ((with_reducible refine (hcn.out _ HB).mono ?_); rintro e w' ⟨rfl, hb⟩; replace HB := HB.trans (hb.mono HB.size); have d0 := hcc.out _ HB)))
  go_ret
  exact ⟨rfl, HB⟩
end Go.Proofs.Ythbdiambigfgdac.Hand
