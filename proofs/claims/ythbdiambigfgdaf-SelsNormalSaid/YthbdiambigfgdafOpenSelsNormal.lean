/- What the arguments of SelsNormal tell, kind by kind, and the one pure statement of the law; no condition. Written by this session's genrow.py. -/
import Derived.Test.YthbdiambigfgdafPSelsNormalx0
import Derived.Test.YthbdiambigfgdafPSelsNormalx15
import Derived.Test.YthbdiambigfgdafOpens
import Derived.KernelRfl
namespace Go.Proofs.Ythbdiambigfgdaf.OpenSelsNormal
open Go.RowKit Go.Proofs.Ythbdiambigfgdaf.PSelsNormal Go.Proofs.YthbdiambigfgdafW.PrintWords Go.Proofs.YthbdiambigfgdafW.PrintLast Go.Proofs.Ythbdiambigfgdaf.Op
set_option linter.unusedVariables false

theorem o3 : Opens Try.prog 3 (Kd.int .i64) (fun x => (Lit.int .i64 x).wf = true) := opens_int Try.underlying3
def Q24 (x : S24) : Prop := (Lit.int .i64 x.f0).wf = true ∧ (Lit.int .i64 x.f1).wf = true
set_option maxRecDepth 100000 in
theorem o24 : Opens Try.prog 24 k24 Q24 := by
  intro H enc w base spare held fuel cs x h
  obtain ⟨hl, n, hg⟩ := field_of Try.underlying24 h
  rw [(show Try.prog.cellsOf 24 = 2 from by kernel_rfl)] at hl
  match cs, hl with
  | [c0, c1], _ =>
    obtain ⟨y0, g0⟩ := hg 0 _ rfl
    replace g0 : DataW.trod enc Try.prog w base spare held n 3 [c0] = some y0 := by
      have e : Try.prog.cellsOf 3 = 1 := by kernel_rfl
      simpa [e] using g0
    obtain ⟨a0, k0, q0⟩ := o3 H enc w base spare held n _ _ g0
    obtain ⟨y1, g1⟩ := hg 1 _ rfl
    replace g1 : DataW.trod enc Try.prog w base spare held n 3 [c1] = some y1 := by
      have e : Try.prog.cellsOf 3 = 1 := by kernel_rfl
      simpa [e] using g1
    obtain ⟨a1, k1, q1⟩ := o3 H enc w base spare held n _ _ g1
    exact ⟨⟨a0, a1⟩, ⟨[c0], [c1], rfl, k0, k1⟩, ⟨q0, q1⟩⟩
theorem o22 : Opens Try.prog 22 (Kd.slice 24 k24) (fun l => (l.length ≤ 9223372036854775807 ∧ ∀ e_ ∈ l, Q24 e_)) := opens_slice Try.underlying22 (by kernel_rfl) o24
/-- THE ONE PURE STATEMENT of SelsNormal. -/
def Pure : Prop := ∀ (x0 : List (S24)) (x1 : S24) (x2 : Int), (x0.length ≤ 9223372036854775807 ∧ ∀ e_ ∈ x0, Q24 e_) → Q24 x1 → (Lit.int .i64 x2).wf = true → ∃ k, styluslaw11_SelsNormal.f k x0 x1.f0 x1.f1 x2 = some true
end Go.Proofs.Ythbdiambigfgdaf.OpenSelsNormal
