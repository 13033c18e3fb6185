/- What the arguments of MarksMove tell, kind by kind, and the one pure statement of the law; no condition. Written by this session's genrow.py. -/
import Derived.Test.YthbdiambigfgdaaPMarksMovex0
import Derived.Test.YthbdiambigfgdaaPMarksMovex4
import Derived.Test.YthbdiambigfgdaaOpens
import Derived.KernelRfl
namespace Go.Proofs.Ythbdiambigfgdaa.OpenMarksMove
open Go.RowKit Go.Proofs.Ythbdiambigfgdaa.PMarksMove Go.Proofs.YthbdiambigfgdaaW.PrintWords Go.Proofs.YthbdiambigfgdaaW.PrintLast Go.Proofs.Ythbdiambigfgdaa.Op
set_option linter.unusedVariables false

theorem o3 : Opens Try.prog 3 (Kd.int .i64) (fun x => (Lit.int .i64 x).wf = true) := opens_int Try.underlying3
def Q42 (x : S42) : Prop := (Lit.int .i64 x.f0).wf = true ∧ (Lit.int .i64 x.f1).wf = true
theorem o42 : Opens Try.prog 42 k42 Q42 := by
  intro H enc w base spare held fuel cs x h
  obtain ⟨hl, n, hg⟩ := field_of Try.underlying42 h
  rw [(show Try.prog.cellsOf 42 = 2 from by kernel_rfl)] at hl
  match cs, hl with
  | [c0, c1], _ =>
    obtain ⟨y0, g0⟩ := hg 0 _ rfl
    replace g0 : DataW.trod enc Try.prog w base spare held n 3 [c0] = some y0 := by
      have e : Try.prog.cellsOf 3 = 1 := by kernel_rfl
      simpa [e] using g0
    obtain ⟨a0, k0, q0⟩ := o3 H enc w base spare held n _ _ g0
    obtain ⟨y1, g1⟩ := hg 1 _ rfl
    replace g1 : DataW.trod enc Try.prog w base spare held n 3 [c1] = some y1 := by
      have e : Try.prog.cellsOf 3 = 1 := by kernel_rfl
      simpa [e] using g1
    obtain ⟨a1, k1, q1⟩ := o3 H enc w base spare held n _ _ g1
    exact ⟨⟨a0, a1⟩, ⟨[c0], [c1], rfl, k0, k1⟩, ⟨q0, q1⟩⟩
theorem o4 : Opens Try.prog 4 Kd.bool (fun _ => True) := opens_bool Try.underlying4
def Q44 (x : S44) : Prop := Q42 x.f0 ∧ True ∧ True
theorem o44 : Opens Try.prog 44 k44 Q44 := by
  intro H enc w base spare held fuel cs x h
  obtain ⟨hl, n, hg⟩ := field_of Try.underlying44 h
  rw [(show Try.prog.cellsOf 44 = 4 from by kernel_rfl)] at hl
  match cs, hl with
  | [c0, c1, c2, c3], _ =>
    obtain ⟨y0, g0⟩ := hg 0 _ rfl
    replace g0 : DataW.trod enc Try.prog w base spare held n 42 [c0, c1] = some y0 := by
      have e : Try.prog.cellsOf 42 = 2 := by kernel_rfl
      simpa [e] using g0
    obtain ⟨a0, k0, q0⟩ := o42 H enc w base spare held n _ _ g0
    obtain ⟨y1, g1⟩ := hg 1 _ rfl
    replace g1 : DataW.trod enc Try.prog w base spare held n 4 [c2] = some y1 := by
      have e : Try.prog.cellsOf 4 = 1 := by kernel_rfl
      simpa [e] using g1
    obtain ⟨a1, k1, q1⟩ := o4 H enc w base spare held n _ _ g1
    obtain ⟨y2, g2⟩ := hg 2 _ rfl
    replace g2 : DataW.trod enc Try.prog w base spare held n 4 [c3] = some y2 := by
      have e : Try.prog.cellsOf 4 = 1 := by kernel_rfl
      simpa [e] using g2
    obtain ⟨a2, k2, q2⟩ := o4 H enc w base spare held n _ _ g2
    exact ⟨⟨a0, a1, a2⟩, ⟨[c0, c1], [c2, c3], rfl, k0, ⟨[c2], [c3], rfl, k1, k2⟩⟩, ⟨q0, q1, q2⟩⟩
theorem o21 : Opens Try.prog 21 (Kd.int .i32) (fun x => (Lit.int .i32 x).wf = true) := opens_int Try.underlying21
theorem o22 : Opens Try.prog 22 (Kd.slice 21 (Kd.int .i32)) (fun l => (l.length ≤ 9223372036854775807 ∧ ∀ e_ ∈ l, (Lit.int .i32 e_).wf = true)) := opens_slice Try.underlying22 (by kernel_rfl) o21
def Q46 (x : S46) : Prop := (Lit.int .i64 x.f0).wf = true ∧ (Lit.int .i64 x.f1).wf = true ∧ (x.f2.length ≤ 9223372036854775807 ∧ ∀ e_ ∈ x.f2, (Lit.int .i32 e_).wf = true)
theorem o46 : Opens Try.prog 46 k46 Q46 := by
  intro H enc w base spare held fuel cs x h
  obtain ⟨hl, n, hg⟩ := field_of Try.underlying46 h
  rw [(show Try.prog.cellsOf 46 = 3 from by kernel_rfl)] at hl
  match cs, hl with
  | [c0, c1, c2], _ =>
    obtain ⟨y0, g0⟩ := hg 0 _ rfl
    replace g0 : DataW.trod enc Try.prog w base spare held n 3 [c0] = some y0 := by
      have e : Try.prog.cellsOf 3 = 1 := by kernel_rfl
      simpa [e] using g0
    obtain ⟨a0, k0, q0⟩ := o3 H enc w base spare held n _ _ g0
    obtain ⟨y1, g1⟩ := hg 1 _ rfl
    replace g1 : DataW.trod enc Try.prog w base spare held n 3 [c1] = some y1 := by
      have e : Try.prog.cellsOf 3 = 1 := by kernel_rfl
      simpa [e] using g1
    obtain ⟨a1, k1, q1⟩ := o3 H enc w base spare held n _ _ g1
    obtain ⟨y2, g2⟩ := hg 2 _ rfl
    replace g2 : DataW.trod enc Try.prog w base spare held n 22 [c2] = some y2 := by
      have e : Try.prog.cellsOf 22 = 1 := by kernel_rfl
      simpa [e] using g2
    obtain ⟨a2, k2, q2⟩ := o22 H enc w base spare held n _ _ g2
    exact ⟨⟨a0, a1, a2⟩, ⟨[c0], [c1, c2], rfl, k0, ⟨[c1], [c2], rfl, k1, k2⟩⟩, ⟨q0, q1, q2⟩⟩
/-- THE ONE PURE STATEMENT of MarksMove. -/
def Pure : Prop := ∀ (x0 : S44) (x1 : S46), Q44 x0 → Q46 x1 → ∃ k, styluslaw04_MarksMove.f k x0.f0.f0 x0.f0.f1 x0.f1 x0.f2 x1.f0 x1.f1 x1.f2 = some true
end Go.Proofs.Ythbdiambigfgdaa.OpenMarksMove
