/- Marks as a state: a row of items of its own, and the last number; rows and ids over whatever state; no condition beyond the state's own form. -/

import Derived.Test.YthbdiambigfgdaePMarksReadx2
import Derived.Lib.SliceRun
import Derived.LoopTactic
import Derived.Shelf.Abstract
import Derived.Deep.LoopGhost
namespace Go.Proofs.Ythbdiambigfgdae.Hand
open Go.RowKit Go.Proofs.YthbdiambigfgdaeW.PrintWords Go.Proofs.YthbdiambigfgdaeW.PrintLast Go.Proofs.YthbdiambigfgdaeW.PrintMore Go.Proofs.Ythbdiambigfgdae.PMarksRead

/-- The marks at block g hold these items, and the last number; what it leads to lies from base on. -/
def St (W : World) (base g : Nat) (l : List S94) (last : Int) : Prop :=
  ∃ v, W.heap[g]? = some (.cells #[v, .int .i64 last] 90 (0, 0)) ∧ base ≤ g ∧ Kd.R k94 94 W base (fun _ => True) v l
theorem St.below {W W' : World} {base g : Nat} {l : List S94} {last : Int} (h : St W base g l last) (hb : Below W.heap.size W W') : St W' base g l last := by
  obtain ⟨v, h1, h2, h3⟩ := h
  exact ⟨v, (hb.block g (blk_lt h1)).trans h1, h2, Kd.R_below h3 hb⟩
theorem St.lower {W : World} {base base' g : Nat} {l : List S94} {last : Int} (h : St W base g l last) (hb : base' ≤ base) : St W base' g l last := by
  obtain ⟨v, h1, h2, h3⟩ := h
  exact ⟨v, h1, Nat.le_trans hb h2, Kd.R_lower h3 hb⟩
def encI (x : S94) : Value := .agg #[.int .i64 x.f0.f0.f0, .int .i64 x.f0.f0.f1, .bool x.f0.f1, .bool x.f0.f2, .int .i64 x.f1]
def encR (x : S30) : Value := .agg #[.int .i64 x.f0.f0, .int .i64 x.f0.f1, .bool x.f1, .bool x.f2]
/-- What lies at the state's row, as the walk wants it. -/
theorem St.view {W : World} {base g : Nat} {l : List S94} {last : Int} (h : St W base g l last) : ∃ A c, W.heap[g]? = some (.cells #[.slice A l.length c, .int .i64 last] 90 (0, 0)) ∧ l.length ≤ c ∧ l.length ≤ 9223372036854775807 ∧ Kd.C k94 W A l.length l := by
  obtain ⟨v, h1, h2, h3⟩ := h
  obtain ⟨A, c, rfl⟩ := Kd.R_slice h3
  obtain ⟨_, hc, hr⟩ := Kd.R_reads' h3
  obtain ⟨inner, ho⟩ := Kd.R_own h3
  refine ⟨A, c, h1, hc, ?_, hr⟩
  rcases ho.2 with ⟨e, e2⟩ | ⟨b, cap, cur, e, _, _, hn, hm, _⟩
  · omega
  · simp only [Value.slice.injEq] at e
    unfold maxLen at hm
    omega

theorem cells_90 {W : World} {g : Nat} {v : Value} {last : Int} (h : W.heap[g]? = some (.cells #[v, .int .i64 last] 90 (0, 0))) : W.cell? ⟨g, 0, none⟩ = some v ∧ W.cell? ⟨g, 1, none⟩ = some (.int .i64 last) ∧ W.frozen? ⟨g, 0, none⟩ = false ∧ W.frozen? ⟨g, 1, none⟩ = false := by
  simp [World.cell?, World.frozen?, h]
/-- What a deed may turn: what lies from base on: the marks themselves, and rows of items. -/
def Fr (base g : Nat) (w w' : World) : Prop := Below base w w' ∧ ∀ i, i < w.heap.size → i ≠ g → (∀ cs, w.heap[i]? ≠ some (.cells cs 94 (0, 0))) → w'.heap[i]? = w.heap[i]?
end Go.Proofs.Ythbdiambigfgdae.Hand
