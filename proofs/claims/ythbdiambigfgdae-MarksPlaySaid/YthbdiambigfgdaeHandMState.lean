/- Marks as a state that calls turn: what they hold, and what stays beside them; no condition. -/
import Derived.Test.YthbdiambigfgdaeHandKnows
namespace Go.Proofs.Ythbdiambigfgdae.Hand
open Go.RowKit Go.Proofs.YthbdiambigfgdaeW.PrintWords Go.Proofs.YthbdiambigfgdaeW.PrintLast Go.Proofs.YthbdiambigfgdaeW.PrintMore Go.Proofs.Ythbdiambigfgdae.PMarksRead

/-- What a deed on the marks at g leaves: all but g and rows of items. -/
def KeepM (w w' : World) (g : Nat) : Prop := w.heap.size ≤ w'.heap.size ∧ ∀ i, i < w.heap.size → i ≠ g → (∀ cs, w.heap[i]? ≠ some (.cells cs 94 (0, 0))) → w'.heap[i]? = w.heap[i]?
/-- A block that no deed on the marks at g turns. -/
def Off90 (W : World) (g k : Nat) : Prop := k ≠ g ∧ ∀ cs, W.heap[k]? ≠ some (.cells cs 94 (0, 0))
/-- A row that is none of the marks'. -/
def NE90 (W : World) (g : Nat) (row : Option Nat) : Prop := some g ≠ row ∧ ∀ k cs, row = some k → W.heap[k]? ≠ some (.cells cs 94 (0, 0))
def IsS90 (w0 W : World) (g : Nat) (l : List S94 × Int) : Prop := St W w0.heap.size g l.1 l.2

section
variable {w0 W : World} {g : Nat} {l : List S94 × Int}
theorem IsS90.below {W1 : World} (h : IsS90 w0 W g l) (hw : Below W.heap.size W W1) : IsS90 w0 W1 g l := St.below h hw
theorem IsS90.alloc (h : IsS90 w0 W g l) (o : Obj) : IsS90 w0 (W.alloc o) g l := h.below (below_alloc (Below.refl _ _) o)
theorem IsS90.drewN (h : IsS90 w0 W g l) (m : Nat) : IsS90 w0 (W.drewN m) g l := h.below (pw_below_drewN (Below.refl _ _) m)
theorem IsS90.drew (h : IsS90 w0 W g l) : IsS90 w0 W.drew g l := h.below (below_drew (Below.refl _ _))
theorem IsS90.at_ {w' : World} {m : Nat} (hq : W.drewN m = w') (h : IsS90 w0 W g l) : IsS90 w0 w' g l := by subst hq; exact IsS90.drewN h m
theorem IsS90.lt (h : IsS90 w0 W g l) : g < W.heap.size := by
  obtain ⟨v, hb, hg, hr⟩ := h
  exact blk_lt hb
theorem IsS90.ge (h : IsS90 w0 W g l) : w0.heap.size ≤ g := by
  obtain ⟨v, hb, hg, hr⟩ := h
  exact hg
theorem IsS90.fresh (h : IsS90 w0 W g l) : ∀ k, W.heap.size ≤ k → k ≠ g := fun k hk e => by have := h.lt; omega
theorem IsS90.ne_blk {a : Nat} {cs : Array Value} {t : TypeId} {fr : Nat × Nat} (h : IsS90 w0 W g l) (hb2 : W.heap[a]? = some (.cells cs t fr)) (ht : t ≠ 90) : g ≠ a := by
  obtain ⟨v, hb, hg, hr⟩ := h
  rintro rfl
  rw [hb] at hb2
  injection hb2 with hb2
  injection hb2 with _ ht2
  exact ht ht2.symm
theorem IsS90.grown {W1 : World} {row : Option Nat} (h : IsS90 w0 W g l) (hw : W.grownBy W1 row) (hne : NE90 W g row) : IsS90 w0 W1 g l := by
  obtain ⟨v, hb, hg, hr⟩ := h
  refine ⟨v, blk_grown hb hw hne.1, hg, Kd.R_mono (Kd.R_grown (Kd.R_bound hr) hw (fun k hk e => ?_)) (fun _ _ => trivial)⟩
  obtain ⟨_, _, _, q, hq, cells, hc⟩ := hk
  have : q = 94 := by simpa [show k94.E = [] from rfl] using hq
  subst this
  exact hne.2 k cells e.symm hc
theorem IsS90.own_ne {α : Type} {d : Kd α} {e : Nat} {base : Nat} {ok : Nat → Prop} {v : Value} {xs : List α} (h : IsS90 w0 W g l) (ho : d.R e W base ok v xs) (ht : e ≠ 90 ∧ e ≠ 94) : NE90 W g v.ownBlock := by
  obtain ⟨u, hb, hg, hr⟩ := h
  refine ⟨Kd.R_ne ho hb ht.1, fun k cs hk hc => ?_⟩
  obtain ⟨cells, h2⟩ := Kd.R_typed ho k hk
  rw [h2] at hc
  injection hc with hc
  injection hc with _ ht2
  exact ht.2 ht2
theorem IsS90.apart {α : Type} {d : Kd α} {e : Nat} {base : Nat} {ok : Nat → Prop} {v : Value} {xs : List α} (h : IsS90 w0 W g l) (ho : d.R e W base ok v xs) (ht : ∀ q, q ∈ e :: d.E → q ≠ 90 ∧ q ≠ 94) : d.R e W base (fun k => ok k ∧ Off90 W g k) v xs := by
  obtain ⟨u, hb, hg, hr⟩ := h
  refine Kd.R_mono (Kd.R_bound ho) (fun k hk => ⟨hk.1, fun e => ?_, fun cs hc => ?_⟩)
  · obtain ⟨_, _, _, q, hq, cells, h2⟩ := hk
    rw [e, hb] at h2
    injection h2 with h2
    injection h2 with _ ht2
    exact (ht q hq).1 ht2.symm
  · obtain ⟨_, _, _, q, hq, cells, h2⟩ := hk
    rw [hc] at h2
    injection h2 with h2
    injection h2 with _ ht2
    exact (ht q hq).2 ht2.symm
end
theorem R_keepM {α : Type} {d : Kd α} {e : Nat} {w w1 : World} {base : Nat} {ok : Nat → Prop} {v : Value} {xs : List α} {g : Nat} (h : d.R e w base ok v xs) (hk : KeepM w w1 g) (hok : ∀ k, ok k → Off90 w g k) : d.R e w1 base ok v xs :=
  Kd.R_step h (fun k ho hlt => hk.2 k hlt (hok k ho).1 (hok k ho).2)
theorem KeepM.blk {w w1 : World} {g g' : Nat} {o : Obj} (hk : KeepM w w1 g) (h : w.heap[g']? = some o) (hne : g' ≠ g) (ht : ∀ cs, o ≠ .cells cs 94 (0, 0)) : w1.heap[g']? = some o :=
  (hk.2 g' (blk_lt h) hne (fun cs e => by
    rw [h] at e
    injection e with e
    exact ht cs e)).trans h
/-- Block a is no row of items. -/
def Ty (W : World) (a : Nat) : Prop := ∃ cs t, t ≠ 94 ∧ W.heap[a]? = some (.cells cs t (0, 0))
theorem Ty.mk {W : World} {a : Nat} {cs : Array Value} {t : TypeId} (h : W.heap[a]? = some (.cells cs t (0, 0))) (ht : t ≠ 94) : Ty W a := ⟨cs, t, ht, h⟩
theorem Ty.set {W : World} {a : Nat} (h : Ty W a) (b o : Nat) (u : Value) : Ty (W.setCell ⟨b, o, none⟩ u) a := by
  obtain ⟨cs, t, ht, hh⟩ := h
  by_cases e : a = b
  · subst e
    exact ⟨_, t, ht, blk_set hh o u⟩
  · exact ⟨cs, t, ht, (Below.heap_setCell W ⟨b, o, none⟩ u a e).trans hh⟩
theorem Ty.drewN {W : World} {a : Nat} (h : Ty W a) (m : Nat) : Ty (W.drewN m) a := h
theorem Ty.drew {W : World} {a : Nat} (h : Ty W a) : Ty W.drew a := h
theorem IsS90.far {w0 W : World} {g : Nat} {l : List S94 × Int} {p : Addr} (h : IsS90 w0 W g l) (hne : g ≠ p.block) (hT : Ty W p.block) (u : Value) : IsS90 w0 (W.setCell p u) g l := by
  obtain ⟨v, hb, hg, hr⟩ := h
  refine ⟨v, blk_far hb hne u, hg, Kd.R_mono (Kd.R_far (Kd.R_bound hr) (fun k hk e => ?_) u) (fun _ _ => trivial)⟩
  obtain ⟨_, _, _, q, hq, cells, h2⟩ := hk
  obtain ⟨cs, t, ht, h3⟩ := hT
  rw [e, h3] at h2
  injection h2 with h2
  injection h2 with _ h2
  have : q = 94 := by simpa [show k94.E = [] from rfl] using hq
  exact ht (h2.trans this)
theorem Fr.keep {w0 w w' : World} {g : Nat} (hB : Below w0.heap.size w0 w) (h : Fr w0.heap.size g w w') : Below w0.heap.size w0 w' ∧ KeepM w w' g := ⟨hB.trans h.1, h.1.size, h.2⟩
end Go.Proofs.Ythbdiambigfgdae.Hand
