/- What the arguments of MarksPlay tell, kind by kind, and the one pure statement of the law; no condition. Written by this session's genrow.py. -/
import Derived.Test.YthbdiambigfgdaePMarksPlayx0
import Derived.Test.YthbdiambigfgdaePMarksPlayx4
import Derived.Test.YthbdiambigfgdaeOpens
import Derived.KernelRfl
namespace Go.Proofs.Ythbdiambigfgdae.OpenMarksPlay
open Go.Proofs.Ythbdiambigfgdae.PMarksRead Go.RowKit Go.Proofs.Ythbdiambigfgdae.PMarksPlay Go.Proofs.YthbdiambigfgdaeW.PrintWords Go.Proofs.YthbdiambigfgdaeW.PrintLast Go.Proofs.Ythbdiambigfgdae.Op
set_option linter.unusedVariables false

theorem o3 : Opens Try.prog 3 (Kd.int .i64) (fun x => (Lit.int .i64 x).wf = true) := opens_int Try.underlying3
def Q28 (x : S28) : Prop := (Lit.int .i64 x.f0).wf = true ∧ (Lit.int .i64 x.f1).wf = true
set_option maxRecDepth 100000 in
theorem o28 : Opens Try.prog 28 k28 Q28 := by
  intro H enc w base spare held fuel cs x h
  obtain ⟨hl, n, hg⟩ := field_of Try.underlying28 h
  rw [(show Try.prog.cellsOf 28 = 2 from by kernel_rfl)] at hl
  match cs, hl with
  | [c0, c1], _ =>
    obtain ⟨y0, g0⟩ := hg 0 _ rfl
    replace g0 : DataW.trod enc Try.prog w base spare held n 3 [c0] = some y0 := by
      have e : Try.prog.cellsOf 3 = 1 := by kernel_rfl
      simpa [e] using g0
    obtain ⟨a0, k0, q0⟩ := o3 H enc w base spare held n _ _ g0
    obtain ⟨y1, g1⟩ := hg 1 _ rfl
    replace g1 : DataW.trod enc Try.prog w base spare held n 3 [c1] = some y1 := by
      have e : Try.prog.cellsOf 3 = 1 := by kernel_rfl
      simpa [e] using g1
    obtain ⟨a1, k1, q1⟩ := o3 H enc w base spare held n _ _ g1
    exact ⟨⟨a0, a1⟩, ⟨[c0], [c1], rfl, k0, k1⟩, ⟨q0, q1⟩⟩
theorem o4 : Opens Try.prog 4 Kd.bool (fun _ => True) := opens_bool Try.underlying4
def Q30 (x : S30) : Prop := Q28 x.f0 ∧ True ∧ True
set_option maxRecDepth 100000 in
theorem o30 : Opens Try.prog 30 k30 Q30 := by
  intro H enc w base spare held fuel cs x h
  obtain ⟨hl, n, hg⟩ := field_of Try.underlying30 h
  rw [(show Try.prog.cellsOf 30 = 4 from by kernel_rfl)] at hl
  match cs, hl with
  | [c0, c1, c2, c3], _ =>
    obtain ⟨y0, g0⟩ := hg 0 _ rfl
    replace g0 : DataW.trod enc Try.prog w base spare held n 28 [c0, c1] = some y0 := by
      have e : Try.prog.cellsOf 28 = 2 := by kernel_rfl
      simpa [e] using g0
    obtain ⟨a0, k0, q0⟩ := o28 H enc w base spare held n _ _ g0
    obtain ⟨y1, g1⟩ := hg 1 _ rfl
    replace g1 : DataW.trod enc Try.prog w base spare held n 4 [c2] = some y1 := by
      have e : Try.prog.cellsOf 4 = 1 := by kernel_rfl
      simpa [e] using g1
    obtain ⟨a1, k1, q1⟩ := o4 H enc w base spare held n _ _ g1
    obtain ⟨y2, g2⟩ := hg 2 _ rfl
    replace g2 : DataW.trod enc Try.prog w base spare held n 4 [c3] = some y2 := by
      have e : Try.prog.cellsOf 4 = 1 := by kernel_rfl
      simpa [e] using g2
    obtain ⟨a2, k2, q2⟩ := o4 H enc w base spare held n _ _ g2
    exact ⟨⟨a0, a1, a2⟩, ⟨[c0, c1], [c2, c3], rfl, k0, ⟨[c2], [c3], rfl, k1, k2⟩⟩, ⟨q0, q1, q2⟩⟩
theorem o21 : Opens Try.prog 21 (Kd.int .i32) (fun x => (Lit.int .i32 x).wf = true) := opens_int Try.underlying21
theorem o31 : Opens Try.prog 31 (Kd.slice 21 (Kd.int .i32)) (fun l => (l.length ≤ 9223372036854775807 ∧ ∀ e_ ∈ l, (Lit.int .i32 e_).wf = true)) := opens_slice Try.underlying31 (by kernel_rfl) o21
def Q33 (x : S33) : Prop := (Lit.int .i64 x.f0).wf = true ∧ (Lit.int .i64 x.f1).wf = true ∧ (x.f2.length ≤ 9223372036854775807 ∧ ∀ e_ ∈ x.f2, (Lit.int .i32 e_).wf = true)
set_option maxRecDepth 100000 in
theorem o33 : Opens Try.prog 33 k33 Q33 := by
  intro H enc w base spare held fuel cs x h
  obtain ⟨hl, n, hg⟩ := field_of Try.underlying33 h
  rw [(show Try.prog.cellsOf 33 = 3 from by kernel_rfl)] at hl
  match cs, hl with
  | [c0, c1, c2], _ =>
    obtain ⟨y0, g0⟩ := hg 0 _ rfl
    replace g0 : DataW.trod enc Try.prog w base spare held n 3 [c0] = some y0 := by
      have e : Try.prog.cellsOf 3 = 1 := by kernel_rfl
      simpa [e] using g0
    obtain ⟨a0, k0, q0⟩ := o3 H enc w base spare held n _ _ g0
    obtain ⟨y1, g1⟩ := hg 1 _ rfl
    replace g1 : DataW.trod enc Try.prog w base spare held n 3 [c1] = some y1 := by
      have e : Try.prog.cellsOf 3 = 1 := by kernel_rfl
      simpa [e] using g1
    obtain ⟨a1, k1, q1⟩ := o3 H enc w base spare held n _ _ g1
    obtain ⟨y2, g2⟩ := hg 2 _ rfl
    replace g2 : DataW.trod enc Try.prog w base spare held n 31 [c2] = some y2 := by
      have e : Try.prog.cellsOf 31 = 1 := by kernel_rfl
      simpa [e] using g2
    obtain ⟨a2, k2, q2⟩ := o31 H enc w base spare held n _ _ g2
    exact ⟨⟨a0, a1, a2⟩, ⟨[c0], [c1, c2], rfl, k0, ⟨[c1], [c2], rfl, k1, k2⟩⟩, ⟨q0, q1, q2⟩⟩
def Q35 (x : S35) : Prop := (Lit.int .i64 x.f0).wf = true ∧ (Lit.int .i64 x.f1).wf = true ∧ Q30 x.f2 ∧ Q33 x.f3
set_option maxRecDepth 100000 in
theorem o35 : Opens Try.prog 35 k35 Q35 := by
  intro H enc w base spare held fuel cs x h
  obtain ⟨hl, n, hg⟩ := field_of Try.underlying35 h
  rw [(show Try.prog.cellsOf 35 = 9 from by kernel_rfl)] at hl
  match cs, hl with
  | [c0, c1, c2, c3, c4, c5, c6, c7, c8], _ =>
    obtain ⟨y0, g0⟩ := hg 0 _ rfl
    replace g0 : DataW.trod enc Try.prog w base spare held n 3 [c0] = some y0 := by
      have e : Try.prog.cellsOf 3 = 1 := by kernel_rfl
      simpa [e] using g0
    obtain ⟨a0, k0, q0⟩ := o3 H enc w base spare held n _ _ g0
    obtain ⟨y1, g1⟩ := hg 1 _ rfl
    replace g1 : DataW.trod enc Try.prog w base spare held n 3 [c1] = some y1 := by
      have e : Try.prog.cellsOf 3 = 1 := by kernel_rfl
      simpa [e] using g1
    obtain ⟨a1, k1, q1⟩ := o3 H enc w base spare held n _ _ g1
    obtain ⟨y2, g2⟩ := hg 2 _ rfl
    replace g2 : DataW.trod enc Try.prog w base spare held n 30 [c2, c3, c4, c5] = some y2 := by
      have e : Try.prog.cellsOf 30 = 4 := by kernel_rfl
      simpa [e] using g2
    obtain ⟨a2, k2, q2⟩ := o30 H enc w base spare held n _ _ g2
    obtain ⟨y3, g3⟩ := hg 3 _ rfl
    replace g3 : DataW.trod enc Try.prog w base spare held n 33 [c6, c7, c8] = some y3 := by
      have e : Try.prog.cellsOf 33 = 3 := by kernel_rfl
      simpa [e] using g3
    obtain ⟨a3, k3, q3⟩ := o33 H enc w base spare held n _ _ g3
    exact ⟨⟨a0, a1, a2, a3⟩, ⟨[c0], [c1, c2, c3, c4, c5, c6, c7, c8], rfl, k0, ⟨[c1], [c2, c3, c4, c5, c6, c7, c8], rfl, k1, ⟨[c2, c3, c4, c5], [c6, c7, c8], rfl, k2, k3⟩⟩⟩, ⟨q0, q1, q2, q3⟩⟩
theorem o22 : Opens Try.prog 22 (Kd.slice 35 k35) (fun l => (l.length ≤ 9223372036854775807 ∧ ∀ e_ ∈ l, Q35 e_)) := opens_slice Try.underlying22 (by kernel_rfl) o35
/-- THE ONE PURE STATEMENT of MarksPlay. -/
def Pure : Prop := ∀ (x0 : List (S35)), (x0.length ≤ 9223372036854775807 ∧ ∀ e_ ∈ x0, Q35 e_) → ∃ k, lawP.f k x0 = some true
end Go.Proofs.Ythbdiambigfgdae.OpenMarksPlay
