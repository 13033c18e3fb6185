/- A builder stays what it is where all that stood stays as it was; a fresh one; no condition. -/
import Derived.Lib.OthersKept
import Derived.Below
import Derived.Lib.RuneBytes
namespace Go.Proofs.YtaicpljgijjenaaGreatDoor.Hand
open Go.RowKit

theorem ownsF_below {w w' : World} {B : Nat} {e : TypeId} {v : Value} {n : Nat} {xs : List Value} (h : w.ownsRowF B e 1 v n xs) (hb : Below w.heap.size w w') : w'.ownsRowF B e 1 v n xs := by
  obtain ⟨h1, h2⟩ := h
  refine ⟨h1, ?_⟩
  rcases h2 with h2 | ⟨g, cap, cur, fz, a1, a2, a3, a4⟩
  · exact .inl h2
  · exact .inr ⟨g, cap, cur, fz, a1, a2, (hb.block g (Array.getElem?_eq_some_iff.1 a3).1).trans a3, a4⟩

theorem bAt_below {w w' : World} {T e : TypeId} {B b : Nat} {p : Value} {bs : List Value} (h : Lib.BuilderAtF T e B b p bs w) (hb : Below w.heap.size w w') : Lib.BuilderAtF T e B b p bs w' := by
  obtain ⟨h1, v, h2, h3, h4⟩ := h
  exact ⟨h1, v, (hb.block b (Array.getElem?_eq_some_iff.1 h2).1).trans h2, ownsF_below h3 hb, h4⟩

theorem isB_below {w w' : World} {T e : TypeId} {B b : Nat} {bs : List Value} (h : Lib.IsBuilderF T e B b bs w) (hb : Below w.heap.size w w') : Lib.IsBuilderF T e B b bs w' :=
  h.elim (fun x => .inl (bAt_below x hb)) (fun x => .inr (bAt_below x hb))

theorem isB_new {w : World} {T e : TypeId} {B b : Nat} (hB : B ≤ b) (h : w.heap[b]? = some (.cells #[.pointer none, .slice none 0 0] T (0, 0))) : Lib.IsBuilderF T e B b [] w :=
  .inl ⟨hB, .slice none 0 0, h, World.ownsRowF_nil w B e 1, by simp [Value.ownBlock]⟩

theorem isB_lt {w : World} {T e : TypeId} {B b : Nat} {bs : List Value} (h : Lib.IsBuilderF T e B b bs w) : b < w.heap.size := h.elim (·.lt) (·.lt)

theorem byteCells_app (a b : List UInt8) : Lib.byteCells (a ++ b) = Lib.byteCells a ++ Lib.byteCells b := by simp [Lib.byteCells]

end Go.Proofs.YtaicpljgijjenaaGreatDoor.Hand
