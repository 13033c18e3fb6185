/- What the arguments of SelsStay tell, kind by kind, and the one pure statement of the law; no condition. Written by this session's genrow.py. -/
import Derived.Test.YthbdiambigfgdaePSelsStayx0
import Derived.Test.YthbdiambigfgdaePSelsStayx9
import Derived.Test.YthbdiambigfgdaeOpens
import Derived.KernelRfl
namespace Go.Proofs.Ythbdiambigfgdae.OpenSelsStay
open Go.RowKit Go.Proofs.Ythbdiambigfgdae.PSelsStay Go.Proofs.YthbdiambigfgdaeW.PrintWords Go.Proofs.YthbdiambigfgdaeW.PrintLast Go.Proofs.Ythbdiambigfgdae.Op
set_option linter.unusedVariables false

theorem o3 : Opens Try.prog 3 (Kd.int .i64) (fun x => (Lit.int .i64 x).wf = true) := opens_int Try.underlying3
def Q86 (x : S86) : Prop := (Lit.int .i64 x.f0).wf = true ∧ (Lit.int .i64 x.f1).wf = true
set_option maxRecDepth 100000 in
theorem o86 : Opens Try.prog 86 k86 Q86 := by
  intro H enc w base spare held fuel cs x h
  obtain ⟨hl, n, hg⟩ := field_of Try.underlying86 h
  rw [(show Try.prog.cellsOf 86 = 2 from by kernel_rfl)] at hl
  match cs, hl with
  | [c0, c1], _ =>
    obtain ⟨y0, g0⟩ := hg 0 _ rfl
    replace g0 : DataW.trod enc Try.prog w base spare held n 3 [c0] = some y0 := by
      have e : Try.prog.cellsOf 3 = 1 := by kernel_rfl
      simpa [e] using g0
    obtain ⟨a0, k0, q0⟩ := o3 H enc w base spare held n _ _ g0
    obtain ⟨y1, g1⟩ := hg 1 _ rfl
    replace g1 : DataW.trod enc Try.prog w base spare held n 3 [c1] = some y1 := by
      have e : Try.prog.cellsOf 3 = 1 := by kernel_rfl
      simpa [e] using g1
    obtain ⟨a1, k1, q1⟩ := o3 H enc w base spare held n _ _ g1
    exact ⟨⟨a0, a1⟩, ⟨[c0], [c1], rfl, k0, k1⟩, ⟨q0, q1⟩⟩
theorem o79 : Opens Try.prog 79 (Kd.slice 86 k86) (fun l => (l.length ≤ 9223372036854775807 ∧ ∀ e_ ∈ l, Q86 e_)) := opens_slice Try.underlying79 (by kernel_rfl) o86
theorem o80 : Opens Try.prog 80 (Kd.int .u32) (fun x => (Lit.int .u32 x).wf = true) := opens_int Try.underlying80
/-- THE ONE PURE STATEMENT of SelsStay. -/
def Pure : Prop := ∀ (x0 : List (S86)) (x1 : Int), (x0.length ≤ 9223372036854775807 ∧ ∀ e_ ∈ x0, Q86 e_) → (Lit.int .u32 x1).wf = true → ∃ k, styluslaw11_SelsStay.f k x0 x1 = some true
end Go.Proofs.Ythbdiambigfgdae.OpenSelsStay
