/- What the arguments of MarksNest tell, kind by kind, and the one pure statement of the law; no condition. Written by this session's genrow.py. -/
import Derived.Test.YthbdiambigfgdadPMarksNestx0
import Derived.Test.YthbdiambigfgdadPMarksNestx2
import Derived.Test.YthbdiambigfgdadOpens
import Derived.KernelRfl
namespace Go.Proofs.Ythbdiambigfgdad.OpenMarksNest
open Go.RowKit Go.Proofs.Ythbdiambigfgdad.PMarksRead Go.Proofs.Ythbdiambigfgdad.PMarksNest Go.Proofs.YthbdiambigfgdadW.PrintWords Go.Proofs.YthbdiambigfgdadW.PrintLast Go.Proofs.Ythbdiambigfgdad.Op
set_option linter.unusedVariables false

theorem o3 : Opens Try.prog 3 (Kd.int .i64) (fun x => (Lit.int .i64 x).wf = true) := opens_int Try.underlying3
def Q31 (x : S31) : Prop := (Lit.int .i64 x.f0).wf = true ∧ (Lit.int .i64 x.f1).wf = true
set_option maxRecDepth 100000 in
theorem o31 : Opens Try.prog 31 k31 Q31 := by
  intro H enc w base spare held fuel cs x h
  obtain ⟨hl, n, hg⟩ := field_of Try.underlying31 h
  rw [(show Try.prog.cellsOf 31 = 2 from by kernel_rfl)] at hl
  match cs, hl with
  | [c0, c1], _ =>
    obtain ⟨y0, g0⟩ := hg 0 _ rfl
    replace g0 : DataW.trod enc Try.prog w base spare held n 3 [c0] = some y0 := by
      have e : Try.prog.cellsOf 3 = 1 := by kernel_rfl
      simpa [e] using g0
    obtain ⟨a0, k0, q0⟩ := o3 H enc w base spare held n _ _ g0
    obtain ⟨y1, g1⟩ := hg 1 _ rfl
    replace g1 : DataW.trod enc Try.prog w base spare held n 3 [c1] = some y1 := by
      have e : Try.prog.cellsOf 3 = 1 := by kernel_rfl
      simpa [e] using g1
    obtain ⟨a1, k1, q1⟩ := o3 H enc w base spare held n _ _ g1
    exact ⟨⟨a0, a1⟩, ⟨[c0], [c1], rfl, k0, k1⟩, ⟨q0, q1⟩⟩
theorem o4 : Opens Try.prog 4 Kd.bool (fun _ => True) := opens_bool Try.underlying4
def Q33 (x : S33) : Prop := Q31 x.f0 ∧ True ∧ True
set_option maxRecDepth 100000 in
theorem o33 : Opens Try.prog 33 k33 Q33 := by
  intro H enc w base spare held fuel cs x h
  obtain ⟨hl, n, hg⟩ := field_of Try.underlying33 h
  rw [(show Try.prog.cellsOf 33 = 4 from by kernel_rfl)] at hl
  match cs, hl with
  | [c0, c1, c2, c3], _ =>
    obtain ⟨y0, g0⟩ := hg 0 _ rfl
    replace g0 : DataW.trod enc Try.prog w base spare held n 31 [c0, c1] = some y0 := by
      have e : Try.prog.cellsOf 31 = 2 := by kernel_rfl
      simpa [e] using g0
    obtain ⟨a0, k0, q0⟩ := o31 H enc w base spare held n _ _ g0
    obtain ⟨y1, g1⟩ := hg 1 _ rfl
    replace g1 : DataW.trod enc Try.prog w base spare held n 4 [c2] = some y1 := by
      have e : Try.prog.cellsOf 4 = 1 := by kernel_rfl
      simpa [e] using g1
    obtain ⟨a1, k1, q1⟩ := o4 H enc w base spare held n _ _ g1
    obtain ⟨y2, g2⟩ := hg 2 _ rfl
    replace g2 : DataW.trod enc Try.prog w base spare held n 4 [c3] = some y2 := by
      have e : Try.prog.cellsOf 4 = 1 := by kernel_rfl
      simpa [e] using g2
    obtain ⟨a2, k2, q2⟩ := o4 H enc w base spare held n _ _ g2
    exact ⟨⟨a0, a1, a2⟩, ⟨[c0, c1], [c2, c3], rfl, k0, ⟨[c2], [c3], rfl, k1, k2⟩⟩, ⟨q0, q1, q2⟩⟩
theorem o22 : Opens Try.prog 22 (Kd.slice 33 k33) (fun l => (l.length ≤ 9223372036854775807 ∧ ∀ e_ ∈ l, Q33 e_)) := opens_slice Try.underlying22 (by kernel_rfl) o33
theorem o21 : Opens Try.prog 21 (Kd.int .i32) (fun x => (Lit.int .i32 x).wf = true) := opens_int Try.underlying21
theorem o34 : Opens Try.prog 34 (Kd.slice 21 (Kd.int .i32)) (fun l => (l.length ≤ 9223372036854775807 ∧ ∀ e_ ∈ l, (Lit.int .i32 e_).wf = true)) := opens_slice Try.underlying34 (by kernel_rfl) o21
def Q36 (x : S36) : Prop := (Lit.int .i64 x.f0).wf = true ∧ (Lit.int .i64 x.f1).wf = true ∧ (x.f2.length ≤ 9223372036854775807 ∧ ∀ e_ ∈ x.f2, (Lit.int .i32 e_).wf = true)
set_option maxRecDepth 100000 in
theorem o36 : Opens Try.prog 36 k36 Q36 := by
  intro H enc w base spare held fuel cs x h
  obtain ⟨hl, n, hg⟩ := field_of Try.underlying36 h
  rw [(show Try.prog.cellsOf 36 = 3 from by kernel_rfl)] at hl
  match cs, hl with
  | [c0, c1, c2], _ =>
    obtain ⟨y0, g0⟩ := hg 0 _ rfl
    replace g0 : DataW.trod enc Try.prog w base spare held n 3 [c0] = some y0 := by
      have e : Try.prog.cellsOf 3 = 1 := by kernel_rfl
      simpa [e] using g0
    obtain ⟨a0, k0, q0⟩ := o3 H enc w base spare held n _ _ g0
    obtain ⟨y1, g1⟩ := hg 1 _ rfl
    replace g1 : DataW.trod enc Try.prog w base spare held n 3 [c1] = some y1 := by
      have e : Try.prog.cellsOf 3 = 1 := by kernel_rfl
      simpa [e] using g1
    obtain ⟨a1, k1, q1⟩ := o3 H enc w base spare held n _ _ g1
    obtain ⟨y2, g2⟩ := hg 2 _ rfl
    replace g2 : DataW.trod enc Try.prog w base spare held n 34 [c2] = some y2 := by
      have e : Try.prog.cellsOf 34 = 1 := by kernel_rfl
      simpa [e] using g2
    obtain ⟨a2, k2, q2⟩ := o34 H enc w base spare held n _ _ g2
    exact ⟨⟨a0, a1, a2⟩, ⟨[c0], [c1, c2], rfl, k0, ⟨[c1], [c2], rfl, k1, k2⟩⟩, ⟨q0, q1, q2⟩⟩
theorem o23 : Opens Try.prog 23 (Kd.slice 36 k36) (fun l => (l.length ≤ 9223372036854775807 ∧ ∀ e_ ∈ l, Q36 e_)) := opens_slice Try.underlying23 (by kernel_rfl) o36
/-- THE ONE PURE STATEMENT of MarksNest. -/
def Pure : Prop := ∀ (x0 : List (S33)) (x1 : List (S36)), (x0.length ≤ 9223372036854775807 ∧ ∀ e_ ∈ x0, Q33 e_) → (x1.length ≤ 9223372036854775807 ∧ ∀ e_ ∈ x1, Q36 e_) → ∃ k, styluslaw04_MarksNest.f k x0 x1 = some true
end Go.Proofs.Ythbdiambigfgdad.OpenMarksNest
