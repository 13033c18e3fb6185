/- What the arguments of KeymapPlays tell, kind by kind, and the one pure statement of the law; no condition. Written by this session's genrow.py. -/
import Derived.Test.YthbdiambigfgdacPKeymapPlaysx0
import Derived.Test.YthbdiambigfgdacPKeymapPlaysx2
import Derived.Test.YthbdiambigfgdacOpens
import Derived.KernelRfl
namespace Go.Proofs.Ythbdiambigfgdac.OpenKeymapPlays
open Go.RowKit Go.Proofs.Ythbdiambigfgdac.PKeymapFinds Go.Proofs.Ythbdiambigfgdac.PKeymapPlays Go.Proofs.YthbdiambigfgdacW.PrintWords Go.Proofs.YthbdiambigfgdacW.PrintLast Go.Proofs.Ythbdiambigfgdac.Op
set_option linter.unusedVariables false

theorem o3 : Opens Try.prog 3 (Kd.int .i64) (fun x => (Lit.int .i64 x).wf = true) := opens_int Try.underlying3
theorem o21 : Opens Try.prog 21 (Kd.int .i32) (fun x => (Lit.int .i32 x).wf = true) := opens_int Try.underlying21
def Q23 (x : S23) : Prop := (Lit.int .i64 x.f0).wf = true ∧ (Lit.int .i32 x.f1).wf = true ∧ (Lit.int .i64 x.f2).wf = true
theorem o23 : Opens Try.prog 23 k23 Q23 := by
  intro H enc w base spare held fuel cs x h
  obtain ⟨hl, n, hg⟩ := field_of Try.underlying23 h
  rw [(show Try.prog.cellsOf 23 = 3 from by kernel_rfl)] at hl
  match cs, hl with
  | [c0, c1, c2], _ =>
    obtain ⟨y0, g0⟩ := hg 0 _ rfl
    replace g0 : DataW.trod enc Try.prog w base spare held n 3 [c0] = some y0 := by
      have e : Try.prog.cellsOf 3 = 1 := by kernel_rfl
      simpa [e] using g0
    obtain ⟨a0, k0, q0⟩ := o3 H enc w base spare held n _ _ g0
    obtain ⟨y1, g1⟩ := hg 1 _ rfl
    replace g1 : DataW.trod enc Try.prog w base spare held n 21 [c1] = some y1 := by
      have e : Try.prog.cellsOf 21 = 1 := by kernel_rfl
      simpa [e] using g1
    obtain ⟨a1, k1, q1⟩ := o21 H enc w base spare held n _ _ g1
    obtain ⟨y2, g2⟩ := hg 2 _ rfl
    replace g2 : DataW.trod enc Try.prog w base spare held n 3 [c2] = some y2 := by
      have e : Try.prog.cellsOf 3 = 1 := by kernel_rfl
      simpa [e] using g2
    obtain ⟨a2, k2, q2⟩ := o3 H enc w base spare held n _ _ g2
    exact ⟨⟨a0, a1, a2⟩, ⟨[c0], [c1, c2], rfl, k0, ⟨[c1], [c2], rfl, k1, k2⟩⟩, ⟨q0, q1, q2⟩⟩
def Q35 (x : S35) : Prop := (Lit.int .i64 x.f0).wf = true ∧ (Lit.int .i64 x.f1).wf = true ∧ Q23 x.f2
theorem o35 : Opens Try.prog 35 k35 Q35 := by
  intro H enc w base spare held fuel cs x h
  obtain ⟨hl, n, hg⟩ := field_of Try.underlying35 h
  rw [(show Try.prog.cellsOf 35 = 5 from by kernel_rfl)] at hl
  match cs, hl with
  | [c0, c1, c2, c3, c4], _ =>
    obtain ⟨y0, g0⟩ := hg 0 _ rfl
    replace g0 : DataW.trod enc Try.prog w base spare held n 3 [c0] = some y0 := by
      have e : Try.prog.cellsOf 3 = 1 := by kernel_rfl
      simpa [e] using g0
    obtain ⟨a0, k0, q0⟩ := o3 H enc w base spare held n _ _ g0
    obtain ⟨y1, g1⟩ := hg 1 _ rfl
    replace g1 : DataW.trod enc Try.prog w base spare held n 3 [c1] = some y1 := by
      have e : Try.prog.cellsOf 3 = 1 := by kernel_rfl
      simpa [e] using g1
    obtain ⟨a1, k1, q1⟩ := o3 H enc w base spare held n _ _ g1
    obtain ⟨y2, g2⟩ := hg 2 _ rfl
    replace g2 : DataW.trod enc Try.prog w base spare held n 23 [c2, c3, c4] = some y2 := by
      have e : Try.prog.cellsOf 23 = 3 := by kernel_rfl
      simpa [e] using g2
    obtain ⟨a2, k2, q2⟩ := o23 H enc w base spare held n _ _ g2
    exact ⟨⟨a0, a1, a2⟩, ⟨[c0], [c1, c2, c3, c4], rfl, k0, ⟨[c1], [c2, c3, c4], rfl, k1, k2⟩⟩, ⟨q0, q1, q2⟩⟩
theorem o33 : Opens Try.prog 33 (Kd.slice 35 k35) (fun l => (l.length ≤ 9223372036854775807 ∧ ∀ e_ ∈ l, Q35 e_)) := opens_slice Try.underlying33 (by kernel_rfl) o35
/-- THE ONE PURE STATEMENT of KeymapPlays. -/
def Pure : Prop := ∀ (x0 : List (S35)), (x0.length ≤ 9223372036854775807 ∧ ∀ e_ ∈ x0, Q35 e_) → ∃ k, styluslaw21_KeymapPlays.f k x0 = some true
end Go.Proofs.Ythbdiambigfgdac.OpenKeymapPlays
