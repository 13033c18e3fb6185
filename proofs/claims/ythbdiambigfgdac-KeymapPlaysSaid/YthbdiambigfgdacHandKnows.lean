/- styluslaw21.knows answers true; no condition. -/
import Derived.Test.YthbdiambigfgdacHandMap
namespace Go.Proofs.Ythbdiambigfgdac.Hand
open Go.RowKit Go.Proofs.YthbdiambigfgdacW.PrintWords Go.Proofs.YthbdiambigfgdacW.PrintMore Go.Proofs.Ythbdiambigfgdac.PKeymapFinds

theorem Bind_nil (k : S23) (c : Int) (w : World) : Calls Try.prog 13 #[.pointer none, keyV k, .int .i64 c] w fun e w' => e = .returned (.int .i64 1) ∧ Below w.heap.size w w' := by
  unfold keyV
  go_enter Try.func13, Try.ntmps13
  go_wp2
  go_ret
  exact ⟨rfl, (Below.refl _ w).alloc (Nat.le_refl _) _⟩

theorem v1 : findV ⟨1, 97, 4⟩ binds0 = 15 := by decide +kernel
theorem v2 : findV ⟨1, 97, 0⟩ binds0 = 1 := by decide +kernel
theorem v3 : elseV ⟨0, 0, 0⟩ = 0 := by decide +kernel

set_option maxHeartbeats 1000000 in
theorem knows_calls (w : World) : Calls Try.prog 11 #[] w fun e w' => e = .returned (.bool true) ∧ Below w.heap.size w w' := by
  have f1 := fun (W : World) (g : Nat) (h : St W w.heap.size g binds0) => Find_calls ⟨1, 97, 4⟩ w.heap.size g binds0 W h
  have f2 := fun (W : World) (g : Nat) (h : St W w.heap.size g binds0) => Find_calls ⟨1, 97, 0⟩ w.heap.size g binds0 W h
  have f3 := fun (W : World) => Find_nil ⟨0, 0, 0⟩ W
  have f4 := fun (W : World) => Bind_nil ⟨0, 0, 0⟩ 1 W
  rw [v1] at f1
  rw [v2] at f2
  rw [v3] at f3
  unfold keyV at f1 f2 f3 f4
  go_enter Try.func11, Try.ntmps11
  go_wp2_with (first | (go_at_call 5; with_reducible refine (new_calls _).mono ?_; rintro e w1 ⟨g, rfl, hst, HB⟩) | (go_at_call 6; first | (with_reducible refine (f1 _ g hst).mono ?_; rintro e w2 ⟨rfl, hb⟩; replace hst := hst.below hb; replace HB := HB.trans (hb.mono HB.size)) | (with_reducible refine (f2 _ g hst).mono ?_; rintro e w2 ⟨rfl, hb⟩; replace hst := hst.below hb; replace HB := HB.trans (hb.mono HB.size)) | (with_reducible refine (f3 _).mono ?_; rintro e w2 ⟨rfl, hb⟩; replace hst := hst.below hb; replace HB := HB.trans (hb.mono HB.size))) | (go_at_call 13; with_reducible refine (f4 _).mono ?_; rintro e w2 ⟨rfl, hb⟩; replace hst := hst.below hb; replace HB := HB.trans (hb.mono HB.size)))
  go_ret
  exact ⟨rfl, HB⟩
end Go.Proofs.Ythbdiambigfgdac.Hand
