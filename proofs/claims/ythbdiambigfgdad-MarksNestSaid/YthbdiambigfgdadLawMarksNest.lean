/- MarksNest: for every input the law returns true, and each argument reads behind the call as it read before; no condition. -/
import Derived.Test.YthbdiambigfgdadRows
import Derived.Test.YthbdiambigfgdadOpenMarksNest
import Derived.Test.YthbdiambigfgdadPureMarksNest
import Derived.WalkKit
import Derived.ProofKit
import Derived.OpenShut
import Derived.ShutString
import Derived.ChangeOld
import Derived.Below
import Derived.SizedLaws
namespace Go.Proofs.Ythbdiambigfgdad.marksNest
open Go.ChangeShapes Go.WideShapes Go.ChangeAt Go.RowKit
open Go.ChangeMaps (open_string shut_string)
open Go.RowKit Go.Proofs.Ythbdiambigfgdad.PMarksRead Go.Proofs.Ythbdiambigfgdad.PMarksNest Go.Proofs.YthbdiambigfgdadW.PrintWords Go.Proofs.YthbdiambigfgdadW.PrintLast Go.Proofs.Ythbdiambigfgdad.Op Go.Proofs.Ythbdiambigfgdad.OpenMarksNest
set_option linter.unusedVariables false
theorem own : ownKnob Try.prog.godebug = none := by kernel_rfl
theorem laidOut : laidOutB Try.prog = true := by kernel_rfl
set_option maxRecDepth 100000 in
theorem lifted (os : Os) (started : os.Started) (H : Type) (enc : TypeId × Value → H) :
    ReturnsInHanded {} Try.checked os 3 .any (Rows.marksNestSpec.pre6 enc Try.prog Try.f3 Rows.marksNestRow.domain false) (Rows.marksNestSpec.post enc Try.prog Try.f3 false true false false) := by
  refine returnsInHanded_of_change_sized (C := Try.checked) own started (by kernel_rfl) Try.func3
    (ChangeSpec.witness6 (enc := enc) (C := Try.checked) false ⟨#[], #[.slice none 0 0, .slice none 0 0], []⟩ 8 (by kernel_rfl) (by kernel_rfl) (by kernel_rfl) (by kernel_rfl)) ?_
  intro W base args ds gs before hval0 hW hcnd hsz0 _
  have hval : ∀ (j : Nat) t v, Try.f3.params[j]? = some t → args[j]? = some v → Value.okWide Try.prog W .any base t v := hval0
  have hW' := hW
  obtain ⟨p, q, hA0, hV, rfl, hfz, hnd⟩ := hW
  have hA : DataW.TrodAll enc Try.prog W 0 (fun _ => true) true Try.f3.params.toList args.toList ds p := hA0
  rw [Try.params3] at hA hval
  obtain ⟨v0, vs0, d0, ds0, p0, q0, hargs, rfl, rfl, h0, r0⟩ := trodAll_cons hA
  obtain ⟨v1, vs1, d1, ds1, p1, q1, rfl, rfl, rfl, h1, r1⟩ := trodAll_cons r0
  obtain ⟨rfl, rfl, rfl⟩ := trodAll_nil r1
  obtain rfl : args = #[v0, v1] := by cases args; simp_all
  obtain ⟨rfl, rfl⟩ := trodVars_none hV
  have k0 := h0
  have lt0 : ∀ x ∈ p0, x.block < W.heap.size := by obtain ⟨m, hm⟩ := k0; exact DataW.trod_lt m _ _ _ hm
  obtain ⟨a0, len0, cap0, rfl⟩ := okWide_slice Try.underlying22 (hval 0 22 v0 rfl rfl)
  obtain ⟨x0, A0, c0, e0, hc0, hr0, w0⟩ : ∃ (l : List (S33)) (A : Option Addr) (c : Nat), Value.slice a0 len0 cap0 = .slice A l.length c ∧ l.length ≤ c ∧ Kd.C k33 W A l.length l ∧ (l.length ≤ 9223372036854775807 ∧ ∀ e_ ∈ l, Q33 e_) := by
    obtain ⟨fuel, hf⟩ := h0
    obtain ⟨l, ⟨A, c, e, h1, h2⟩, hq⟩ := o22 _ _ _ _ _ _ _ _ _ hf
    simp only [Value.cells, List.cons.injEq, and_true] at e
    exact ⟨l, A, c, e, h1, h2, hq⟩
  simp only [Value.slice.injEq] at e0; obtain ⟨rfl, rfl, rfl⟩ := e0
  have k1 := h1
  have lt1 : ∀ x ∈ p1, x.block < W.heap.size := by obtain ⟨m, hm⟩ := k1; exact DataW.trod_lt m _ _ _ hm
  obtain ⟨a1, len1, cap1, rfl⟩ := okWide_slice Try.underlying23 (hval 1 23 v1 rfl rfl)
  obtain ⟨x1, A1, c1, e1, hc1, hr1, w1⟩ : ∃ (l : List (S36)) (A : Option Addr) (c : Nat), Value.slice a1 len1 cap1 = .slice A l.length c ∧ l.length ≤ c ∧ Kd.C k36 W A l.length l ∧ (l.length ≤ 9223372036854775807 ∧ ∀ e_ ∈ l, Q36 e_) := by
    obtain ⟨fuel, hf⟩ := h1
    obtain ⟨l, ⟨A, c, e, h1, h2⟩, hq⟩ := o23 _ _ _ _ _ _ _ _ _ hf
    simp only [Value.cells, List.cons.injEq, and_true] at e
    exact ⟨l, A, c, e, h1, h2, hq⟩
  simp only [Value.slice.injEq] at e1; obtain ⟨rfl, rfl, rfl⟩ := e1
  obtain ⟨k, h⟩ := Pure.MarksNest x0 x1 w0 w1
  clear hA0 hval0 hsz0
  refine (PMarksNest.styluslaw04_MarksNest.calls k _ _ x0 _ _ x1 true W hr0 hc0 hr1 hc1 h).mono fun e W' ⟨he, bel0⟩ => ?_
  have bel : Below W.heap.size W W' := bel0
  subst he
  exact ⟨_, rfl, _, _, _, [], _, [], hW', trodAll_mk1 (shut_bool Try.underlying4 _), (trodAll_cons_mk (Below.trod laidOut (by kernel_rfl) (of_decide_eq_true (by kernel_rfl)) k0 bel lt0) (trodAll_cons_mk (Below.trod laidOut (by kernel_rfl) (of_decide_eq_true (by kernel_rfl)) k1 bel lt1) trodAll_mk0)), rfl, bel.frame _, fun h => by cases h⟩
theorem over : Rows.marksNestRow.holds Try.pinned (OpenSpec.ofChange Rows.marksNestSpec) :=
  OpenClaim.holds_of_wide 3 Try.f3 rfl rfl rfl rfl rfl rfl rfl ⟨rfl, rfl, rfl, rfl, rfl⟩ rfl rfl rfl rfl rfl (by kernel_rfl) Try.func3 (by kernel_rfl)
    (of_decide_eq_true (by kernel_rfl)) (by unfold Func.isWrapper; first | (rw [if_pos (by decide +kernel)]; kernel_rfl) | (rw [if_neg (by decide +kernel)]; exact ⟨rfl, rfl⟩))
    (fun os started H enc _ => lifted os started H enc)
theorem proved : Rows.MarksNestSaid := over
#print axioms proved
end Go.Proofs.Ythbdiambigfgdad.marksNest
namespace Go.Proofs.Ythbdiambigfgdad
/-- The row, under a short name, for the claim. -/
theorem marksNest_holds : Rows.MarksNestSaid := marksNest.proved
end Go.Proofs.Ythbdiambigfgdad
