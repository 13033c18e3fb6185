/- What the arguments of VtPaints tell, kind by kind, and the one pure statement of the law; no condition. Written by this session's genrow.py. -/
import Derived.Test.YtaicpljgijjenaaGreatDoorPVtPx0
import Derived.Test.YtaicpljgijjenaaGreatDoorPVtPx12
import Derived.Test.YtaicpljgijjenaaGreatDoorOpens
import Derived.KernelRfl
namespace Go.Proofs.YtaicpljgijjenaaGreatDoor.OpenVtPaints
open Go.RowKit Go.Proofs.YtaicpljgijjenaaGreatDoor.PVtP Go.Proofs.YtaicpljgijjenaaGreatDoorW.PrintWords Go.Proofs.YtaicpljgijjenaaGreatDoorW.PrintLast Go.Proofs.YtaicpljgijjenaaGreatDoor.Op
set_option linter.unusedVariables false

theorem o3 : Opens Tryz.prog 3 (Kd.int .i64) (fun x => (Lit.int .i64 x).wf = true) := opens_int Tryz.underlying3
theorem o21 : Opens Tryz.prog 21 (Kd.int .i32) (fun x => (Lit.int .i32 x).wf = true) := opens_int Tryz.underlying21
def Q41 (x : S41) : Prop := (Lit.int .i32 x.f0).wf = true ∧ (Lit.int .i64 x.f1).wf = true
set_option maxRecDepth 100000 in
theorem o41 : Opens Tryz.prog 41 k41 Q41 := by
  intro H enc w base spare held fuel cs x h
  obtain ⟨hl, n, hg⟩ := field_of Tryz.underlying41 h
  rw [(show Tryz.prog.cellsOf 41 = 2 from by kernel_rfl)] at hl
  match cs, hl with
  | [c0, c1], _ =>
    obtain ⟨y0, g0⟩ := hg 0 _ rfl
    replace g0 : DataW.trod enc Tryz.prog w base spare held n 21 [c0] = some y0 := by
      have e : Tryz.prog.cellsOf 21 = 1 := by kernel_rfl
      simpa [e] using g0
    obtain ⟨a0, k0, q0⟩ := o21 H enc w base spare held n _ _ g0
    obtain ⟨y1, g1⟩ := hg 1 _ rfl
    replace g1 : DataW.trod enc Tryz.prog w base spare held n 3 [c1] = some y1 := by
      have e : Tryz.prog.cellsOf 3 = 1 := by kernel_rfl
      simpa [e] using g1
    obtain ⟨a1, k1, q1⟩ := o3 H enc w base spare held n _ _ g1
    exact ⟨⟨a0, a1⟩, ⟨[c0], [c1], rfl, k0, k1⟩, ⟨q0, q1⟩⟩
theorem o22 : Opens Tryz.prog 22 (Kd.slice 41 k41) (fun l => (l.length ≤ 9223372036854775807 ∧ ∀ e_ ∈ l, Q41 e_)) := opens_slice Tryz.underlying22 (by kernel_rfl) o41
def Q24 (x : S24) : Prop := (Lit.int .i64 x.f0).wf = true ∧ (Lit.int .i64 x.f1).wf = true ∧ (x.f2.length ≤ 9223372036854775807 ∧ ∀ e_ ∈ x.f2, Q41 e_)
set_option maxRecDepth 100000 in
theorem o24 : Opens Tryz.prog 24 k24 Q24 := by
  intro H enc w base spare held fuel cs x h
  obtain ⟨hl, n, hg⟩ := field_of Tryz.underlying24 h
  rw [(show Tryz.prog.cellsOf 24 = 3 from by kernel_rfl)] at hl
  match cs, hl with
  | [c0, c1, c2], _ =>
    obtain ⟨y0, g0⟩ := hg 0 _ rfl
    replace g0 : DataW.trod enc Tryz.prog w base spare held n 3 [c0] = some y0 := by
      have e : Tryz.prog.cellsOf 3 = 1 := by kernel_rfl
      simpa [e] using g0
    obtain ⟨a0, k0, q0⟩ := o3 H enc w base spare held n _ _ g0
    obtain ⟨y1, g1⟩ := hg 1 _ rfl
    replace g1 : DataW.trod enc Tryz.prog w base spare held n 3 [c1] = some y1 := by
      have e : Tryz.prog.cellsOf 3 = 1 := by kernel_rfl
      simpa [e] using g1
    obtain ⟨a1, k1, q1⟩ := o3 H enc w base spare held n _ _ g1
    obtain ⟨y2, g2⟩ := hg 2 _ rfl
    replace g2 : DataW.trod enc Tryz.prog w base spare held n 22 [c2] = some y2 := by
      have e : Tryz.prog.cellsOf 22 = 1 := by kernel_rfl
      simpa [e] using g2
    obtain ⟨a2, k2, q2⟩ := o22 H enc w base spare held n _ _ g2
    exact ⟨⟨a0, a1, a2⟩, ⟨[c0], [c1, c2], rfl, k0, ⟨[c1], [c2], rfl, k1, k2⟩⟩, ⟨q0, q1, q2⟩⟩
/-- THE ONE PURE STATEMENT of VtPaints. -/
def Pure : Prop := ∀ (x0 : S24) (x1 : S24), Q24 x0 → Q24 x1 → ∃ k, styluslaw23_VtPaints.f k x0.f0 x0.f1 x0.f2 x1.f0 x1.f1 x1.f2 = some true
end Go.Proofs.YtaicpljgijjenaaGreatDoor.OpenVtPaints
