/- MarksMove: for every input the law returns true, and each argument reads behind the call as it read before; no condition. -/
import Derived.Test.YthbdiambigfgdaaRows
import Derived.Test.YthbdiambigfgdaaOpenMarksMove
import Derived.Test.YthbdiambigfgdaaPureMarksMove
import Derived.WalkKit
import Derived.ProofKit
import Derived.OpenShut
import Derived.ShutString
import Derived.ChangeOld
import Derived.Below
import Derived.SizedLaws
namespace Go.Proofs.Ythbdiambigfgdaa.marksMove
open Go.ChangeShapes Go.WideShapes Go.ChangeAt Go.RowKit
open Go.ChangeMaps (open_string shut_string)
open Go.RowKit Go.Proofs.Ythbdiambigfgdaa.PMarksMove Go.Proofs.YthbdiambigfgdaaW.PrintWords Go.Proofs.YthbdiambigfgdaaW.PrintLast Go.Proofs.Ythbdiambigfgdaa.Op Go.Proofs.Ythbdiambigfgdaa.OpenMarksMove
set_option linter.unusedVariables false
theorem own : ownKnob Try.prog.godebug = none := by kernel_rfl
theorem laidOut : laidOutB Try.prog = true := by kernel_rfl
set_option maxRecDepth 100000 in
theorem lifted (os : Os) (started : os.Started) (H : Type) (enc : TypeId × Value → H) :
    ReturnsInHanded {} Try.checked os 8 .any (Rows.marksMoveSpec.pre6 enc Try.prog Try.f8 Rows.marksMoveRow.domain false) (Rows.marksMoveSpec.post enc Try.prog Try.f8 false true false false) := by
  refine returnsInHanded_of_change_sized (C := Try.checked) own started (by kernel_rfl) Try.func8
    (ChangeSpec.witness6 (enc := enc) (C := Try.checked) false ⟨#[], #[.agg #[.int .i64 0, .int .i64 0, .bool false, .bool false], .agg #[.int .i64 0, .int .i64 0, .slice none 0 0]], []⟩ 8 (by kernel_rfl) (by kernel_rfl) (by kernel_rfl) (by kernel_rfl)) ?_
  intro W base args ds gs before hval0 hW hcnd hsz0 _
  have hval : ∀ (j : Nat) t v, Try.f8.params[j]? = some t → args[j]? = some v → Value.okWide Try.prog W .any base t v := hval0
  have hW' := hW
  obtain ⟨p, q, hA0, hV, rfl, hfz, hnd⟩ := hW
  have hA : DataW.TrodAll enc Try.prog W 0 (fun _ => true) true Try.f8.params.toList args.toList ds p := hA0
  rw [Try.params8] at hA hval
  obtain ⟨v0, vs0, d0, ds0, p0, q0, hargs, rfl, rfl, h0, r0⟩ := trodAll_cons hA
  obtain ⟨v1, vs1, d1, ds1, p1, q1, rfl, rfl, rfl, h1, r1⟩ := trodAll_cons r0
  obtain ⟨rfl, rfl, rfl⟩ := trodAll_nil r1
  obtain rfl : args = #[v0, v1] := by cases args; simp_all
  obtain ⟨rfl, rfl⟩ := trodVars_none hV
  have k0 := h0
  have lt0 : ∀ x ∈ p0, x.block < W.heap.size := by obtain ⟨m, hm⟩ := k0; exact DataW.trod_lt m _ _ _ hm
  obtain ⟨⟨cl0⟩, rfl, _⟩ := okWide_struct Try.underlying44 (hval 0 44 v0 rfl rfl)
  obtain ⟨x0, K0, w0⟩ : ∃ x : S44, k44.K W x cl0 ∧ Q44 x := by
    obtain ⟨fuel, hf⟩ := h0
    simpa [Value.cells] using o44 _ _ _ _ _ _ _ _ _ hf
  obtain rfl := k44_open K0
  have k1 := h1
  have lt1 : ∀ x ∈ p1, x.block < W.heap.size := by obtain ⟨m, hm⟩ := k1; exact DataW.trod_lt m _ _ _ hm
  obtain ⟨⟨cl1⟩, rfl, _⟩ := okWide_struct Try.underlying46 (hval 1 46 v1 rfl rfl)
  obtain ⟨x1, K1, w1⟩ : ∃ x : S46, k46.K W x cl1 ∧ Q46 x := by
    obtain ⟨fuel, hf⟩ := h1
    simpa [Value.cells] using o46 _ _ _ _ _ _ _ _ _ hf
  obtain ⟨A1_2, c1_2, rfl, hc1_2, hr1_2⟩ := k46_open K1
  obtain ⟨k, h⟩ := Pure.MarksMove x0 x1 w0 w1
  clear hA0 hval0 hsz0
  refine (PMarksMove.styluslaw04_MarksMove.calls k x0.f0.f0 x0.f0.f1 x0.f1 x0.f2 x1.f0 x1.f1 _ _ x1.f2 true W hr1_2 hc1_2 h).mono fun e W' ⟨he, bel0⟩ => ?_
  have bel : Below W.heap.size W W' := bel0
  subst he
  exact ⟨_, rfl, _, _, _, [], _, [], hW', trodAll_mk1 (shut_bool Try.underlying4 _), (trodAll_cons_mk (Below.trod laidOut (by kernel_rfl) (of_decide_eq_true (by kernel_rfl)) k0 bel lt0) (trodAll_cons_mk (Below.trod laidOut (by kernel_rfl) (of_decide_eq_true (by kernel_rfl)) k1 bel lt1) trodAll_mk0)), rfl, bel.frame _, fun h => by cases h⟩
theorem over : Rows.marksMoveRow.holds Try.pinned (OpenSpec.ofChange Rows.marksMoveSpec) :=
  OpenClaim.holds_of_wide 8 Try.f8 rfl rfl rfl rfl rfl rfl rfl ⟨rfl, rfl, rfl, rfl, rfl⟩ rfl rfl rfl rfl rfl (by kernel_rfl) Try.func8 (by kernel_rfl)
    (of_decide_eq_true (by kernel_rfl)) (by unfold Func.isWrapper; first | (rw [if_pos (by decide +kernel)]; kernel_rfl) | (rw [if_neg (by decide +kernel)]; exact ⟨rfl, rfl⟩))
    (fun os started H enc _ => lifted os started H enc)
theorem proved : Rows.MarksMoveSaid := over
#print axioms proved
end Go.Proofs.Ythbdiambigfgdaa.marksMove
namespace Go.Proofs.Ythbdiambigfgdaa
/-- The row, under a short name, for the claim. -/
theorem marksMove_holds : Rows.MarksMoveSaid := marksMove.proved
end Go.Proofs.Ythbdiambigfgdaa
