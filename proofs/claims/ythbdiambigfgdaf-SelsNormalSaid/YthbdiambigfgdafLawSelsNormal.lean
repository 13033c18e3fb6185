/- SelsNormal: for every input the law returns true, and each argument reads behind the call as it read before; no condition. -/
import Derived.Test.YthbdiambigfgdafRows
import Derived.Test.YthbdiambigfgdafOpenSelsNormal
import Derived.Test.YthbdiambigfgdafPureSelsNormal
import Derived.WalkKit
import Derived.ProofKit
import Derived.OpenShut
import Derived.ShutString
import Derived.ChangeOld
import Derived.Below
import Derived.SizedLaws
namespace Go.Proofs.Ythbdiambigfgdaf.selsNormal
open Go.ChangeShapes Go.WideShapes Go.ChangeAt Go.RowKit
open Go.ChangeMaps (open_string shut_string)
open Go.RowKit Go.Proofs.Ythbdiambigfgdaf.PSelsNormal Go.Proofs.YthbdiambigfgdafW.PrintWords Go.Proofs.YthbdiambigfgdafW.PrintLast Go.Proofs.Ythbdiambigfgdaf.Op Go.Proofs.Ythbdiambigfgdaf.OpenSelsNormal
set_option linter.unusedVariables false
theorem own : ownKnob Try.prog.godebug = none := by kernel_rfl
theorem laidOut : laidOutB Try.prog = true := by kernel_rfl
set_option maxRecDepth 100000 in
theorem lifted (os : Os) (started : os.Started) (H : Type) (enc : TypeId × Value → H) :
    ReturnsInHanded {} Try.checked os 3 .any (Rows.selsNormalSpec.pre6 enc Try.prog Try.f3 Rows.selsNormalRow.domain false) (Rows.selsNormalSpec.post enc Try.prog Try.f3 false true false false) := by
  refine returnsInHanded_of_change_sized (C := Try.checked) own started (by kernel_rfl) Try.func3
    (ChangeSpec.witness6 (enc := enc) (C := Try.checked) false ⟨#[], #[.slice none 0 0, .agg #[.int .i64 0, .int .i64 0], .int .i64 0], []⟩ 8 (by kernel_rfl) (by kernel_rfl) (by kernel_rfl) (by kernel_rfl)) ?_
  intro W base args ds gs before hval0 hW hcnd hsz0 _
  have hval : ∀ (j : Nat) t v, Try.f3.params[j]? = some t → args[j]? = some v → Value.okWide Try.prog W .any base t v := hval0
  have hW' := hW
  obtain ⟨p, q, hA0, hV, rfl, hfz, hnd⟩ := hW
  have hA : DataW.TrodAll enc Try.prog W 0 (fun _ => true) true Try.f3.params.toList args.toList ds p := hA0
  rw [Try.params3] at hA hval
  obtain ⟨v0, vs0, d0, ds0, p0, q0, hargs, rfl, rfl, h0, r0⟩ := trodAll_cons hA
  obtain ⟨v1, vs1, d1, ds1, p1, q1, rfl, rfl, rfl, h1, r1⟩ := trodAll_cons r0
  obtain ⟨v2, vs2, d2, ds2, p2, q2, rfl, rfl, rfl, h2, r2⟩ := trodAll_cons r1
  obtain ⟨rfl, rfl, rfl⟩ := trodAll_nil r2
  obtain rfl : args = #[v0, v1, v2] := by cases args; simp_all
  obtain ⟨rfl, rfl⟩ := trodVars_none hV
  have k0 := h0
  have lt0 : ∀ x ∈ p0, x.block < W.heap.size := by obtain ⟨m, hm⟩ := k0; exact DataW.trod_lt m _ _ _ hm
  obtain ⟨a0, len0, cap0, rfl⟩ := okWide_slice Try.underlying22 (hval 0 22 v0 rfl rfl)
  obtain ⟨x0, A0, c0, e0, hc0, hr0, w0⟩ : ∃ (l : List (S24)) (A : Option Addr) (c : Nat), Value.slice a0 len0 cap0 = .slice A l.length c ∧ l.length ≤ c ∧ Kd.C k24 W A l.length l ∧ (l.length ≤ 9223372036854775807 ∧ ∀ e_ ∈ l, Q24 e_) := by
    obtain ⟨fuel, hf⟩ := h0
    obtain ⟨l, ⟨A, c, e, h1, h2⟩, hq⟩ := o22 _ _ _ _ _ _ _ _ _ hf
    simp only [Value.cells, List.cons.injEq, and_true] at e
    exact ⟨l, A, c, e, h1, h2, hq⟩
  simp only [Value.slice.injEq] at e0; obtain ⟨rfl, rfl, rfl⟩ := e0
  have k1 := h1
  have lt1 : ∀ x ∈ p1, x.block < W.heap.size := by obtain ⟨m, hm⟩ := k1; exact DataW.trod_lt m _ _ _ hm
  obtain ⟨⟨cl1⟩, rfl, _⟩ := okWide_struct Try.underlying24 (hval 1 24 v1 rfl rfl)
  obtain ⟨x1, K1, w1⟩ : ∃ x : S24, k24.K W x cl1 ∧ Q24 x := by
    obtain ⟨fuel, hf⟩ := h1
    simpa [Value.cells] using o24 _ _ _ _ _ _ _ _ _ hf
  obtain rfl := k24_open K1
  have k2 := h2
  have lt2 : ∀ x ∈ p2, x.block < W.heap.size := by obtain ⟨m, hm⟩ := k2; exact DataW.trod_lt m _ _ _ hm
  obtain ⟨x2, rfl, rfl, rfl, w2⟩ := open_int Try.underlying3 (hval 2 3 v2 rfl rfl) h2
  obtain ⟨k, h⟩ := Pure.SelsNormal x0 x1 x2 w0 w1 w2
  clear hA0 hval0 hsz0
  refine (PSelsNormal.styluslaw11_SelsNormal.calls k _ _ x0 x1.f0 x1.f1 x2 true W hr0 hc0 h).mono fun e W' ⟨he, bel0⟩ => ?_
  have bel : Below W.heap.size W W' := bel0
  subst he
  exact ⟨_, rfl, _, _, _, [], _, [], hW', trodAll_mk1 (shut_bool Try.underlying4 _), (trodAll_cons_mk (Below.trod laidOut (by kernel_rfl) (of_decide_eq_true (by kernel_rfl)) k0 bel lt0) (trodAll_cons_mk (Below.trod laidOut (by kernel_rfl) (of_decide_eq_true (by kernel_rfl)) k1 bel lt1) (trodAll_cons_mk (Below.trod laidOut (by kernel_rfl) (of_decide_eq_true (by kernel_rfl)) k2 bel lt2) trodAll_mk0))), rfl, bel.frame _, fun h => by cases h⟩
theorem over : Rows.selsNormalRow.holds Try.pinned (OpenSpec.ofChange Rows.selsNormalSpec) :=
  OpenClaim.holds_of_wide 3 Try.f3 rfl rfl rfl rfl rfl rfl rfl ⟨rfl, rfl, rfl, rfl, rfl⟩ rfl rfl rfl rfl rfl (by kernel_rfl) Try.func3 (by kernel_rfl)
    (of_decide_eq_true (by kernel_rfl)) (by unfold Func.isWrapper; first | (rw [if_pos (by decide +kernel)]; kernel_rfl) | (rw [if_neg (by decide +kernel)]; exact ⟨rfl, rfl⟩))
    (fun os started H enc _ => lifted os started H enc)
theorem proved : Rows.SelsNormalSaid := over
#print axioms proved
end Go.Proofs.Ythbdiambigfgdaf.selsNormal
namespace Go.Proofs.Ythbdiambigfgdaf
/-- The row, under a short name, for the claim. -/
theorem selsNormal_holds : Rows.SelsNormalSaid := selsNormal.proved
end Go.Proofs.Ythbdiambigfgdaf
