/- The map as a state that calls turn: what it holds, and what stays beside it; no condition. -/
import Derived.Test.YthbdiambigfgdacHandDrop
namespace Go.Proofs.Ythbdiambigfgdac.Hand
open Go.RowKit Go.Proofs.YthbdiambigfgdacW.PrintWords Go.Proofs.YthbdiambigfgdacW.PrintLast Go.Proofs.YthbdiambigfgdacW.PrintMore Go.Proofs.Ythbdiambigfgdac.PKeymapFinds

theorem isKey_iff (k : S23) (x : S43) : isKey k x = true ↔ x.f0 = k := by
  obtain ⟨⟨a, b, c⟩, d⟩ := x
  obtain ⟨e, f, g⟩ := k
  simp [isKey]

theorem idx_spec (k : S23) (l : List S43) : ∀ n, (idxFrom (isKey k) n l = -1 ∧ ∀ x ∈ l, x.f0 ≠ k) ∨ ∃ j, ∃ h : j < l.length, idxFrom (isKey k) n l = ((n + j : Nat) : Int) ∧ l[j].f0 = k := by
  induction l with
  | nil => intro n; exact .inl ⟨rfl, fun x hx => by simp at hx⟩
  | cons x l ih =>
    intro n
    by_cases hx : isKey k x = true
    · exact .inr ⟨0, by simp, by simp [idxFrom, hx], by simpa using (isKey_iff k x).1 hx⟩
    · rcases ih (n + 1) with ⟨h1, h2⟩ | ⟨j, hj, h1, h2⟩
      · refine .inl ⟨by simp [idxFrom, hx, h1], fun y hy => ?_⟩
        rcases List.mem_cons.1 hy with rfl | hy
        · exact fun e => hx ((isKey_iff k _).2 e)
        · exact h2 y hy
      · exact .inr ⟨j + 1, by simpa using hj, by simp [idxFrom, hx, h1]; omega, by simpa using h2⟩


theorem St.lower {W : World} {base base' g : Nat} {l : List S43} (h : St W base g l) (hb : base' ≤ base) : St W base' g l := by
  obtain ⟨v, h1, h2, h3⟩ := h
  exact ⟨v, h1, Nat.le_trans hb h2, Kd.R_lower h3 hb⟩

/-- What a deed on the map at g leaves: all but g and rows of binds. -/
def KeepM (w w' : World) (g : Nat) : Prop := w.heap.size ≤ w'.heap.size ∧ ∀ i, i < w.heap.size → i ≠ g → (∀ cs, w.heap[i]? ≠ some (.cells cs 43 (0, 0))) → w'.heap[i]? = w.heap[i]?
/-- A block that no deed on the map at g turns. -/
def Off46 (W : World) (g k : Nat) : Prop := k ≠ g ∧ ∀ cs, W.heap[k]? ≠ some (.cells cs 43 (0, 0))
/-- A row that is none of the map's. -/
def NE46 (W : World) (g : Nat) (row : Option Nat) : Prop := some g ≠ row ∧ ∀ k cs, row = some k → W.heap[k]? ≠ some (.cells cs 43 (0, 0))
def IsS46 (w0 W : World) (g : Nat) (l : List S43) : Prop := St W w0.heap.size g l

section
variable {w0 W : World} {g : Nat} {l : List S43}
theorem IsS46.below {W1 : World} (h : IsS46 w0 W g l) (hw : Below W.heap.size W W1) : IsS46 w0 W1 g l := St.below h hw
theorem IsS46.alloc (h : IsS46 w0 W g l) (o : Obj) : IsS46 w0 (W.alloc o) g l := h.below (below_alloc (Below.refl _ _) o)
theorem IsS46.drewN (h : IsS46 w0 W g l) (m : Nat) : IsS46 w0 (W.drewN m) g l := h.below (pw_below_drewN (Below.refl _ _) m)
theorem IsS46.drew (h : IsS46 w0 W g l) : IsS46 w0 W.drew g l := h.below (below_drew (Below.refl _ _))
theorem IsS46.at_ {w' : World} {m : Nat} (hq : W.drewN m = w') (h : IsS46 w0 W g l) : IsS46 w0 w' g l := by subst hq; exact IsS46.drewN h m
theorem IsS46.lt (h : IsS46 w0 W g l) : g < W.heap.size := by
  obtain ⟨v, hb, hg, hr⟩ := h
  exact blk_lt hb
theorem IsS46.ge (h : IsS46 w0 W g l) : w0.heap.size ≤ g := by
  obtain ⟨v, hb, hg, hr⟩ := h
  exact hg
theorem IsS46.fresh (h : IsS46 w0 W g l) : ∀ k, W.heap.size ≤ k → k ≠ g := fun k hk e => by have := h.lt; omega
theorem IsS46.ne_blk {a : Nat} {cs : Array Value} {t : TypeId} {fr : Nat × Nat} (h : IsS46 w0 W g l) (hb2 : W.heap[a]? = some (.cells cs t fr)) (ht : t ≠ 46) : g ≠ a := by
  obtain ⟨v, hb, hg, hr⟩ := h
  rintro rfl
  rw [hb] at hb2
  injection hb2 with hb2
  injection hb2 with _ ht2
  exact ht ht2.symm
theorem IsS46.grown {W1 : World} {row : Option Nat} (h : IsS46 w0 W g l) (hw : W.grownBy W1 row) (hne : NE46 W g row) : IsS46 w0 W1 g l := by
  obtain ⟨v, hb, hg, hr⟩ := h
  refine ⟨v, blk_grown hb hw hne.1, hg, Kd.R_mono (Kd.R_grown (Kd.R_bound hr) hw (fun k hk e => ?_)) (fun _ _ => trivial)⟩
  obtain ⟨_, _, _, q, hq, cells, hc⟩ := hk
  have : q = 43 := by simpa [show k43.E = [] from rfl] using hq
  subst this
  exact hne.2 k cells e.symm hc
theorem IsS46.own_ne {α : Type} {d : Kd α} {e : Nat} {base : Nat} {ok : Nat → Prop} {v : Value} {xs : List α} (h : IsS46 w0 W g l) (ho : d.R e W base ok v xs) (ht : e ≠ 46 ∧ e ≠ 43) : NE46 W g v.ownBlock := by
  obtain ⟨u, hb, hg, hr⟩ := h
  refine ⟨Kd.R_ne ho hb ht.1, fun k cs hk hc => ?_⟩
  obtain ⟨cells, h2⟩ := Kd.R_typed ho k hk
  rw [h2] at hc
  injection hc with hc
  injection hc with _ ht2
  exact ht.2 ht2
theorem IsS46.apart {α : Type} {d : Kd α} {e : Nat} {base : Nat} {ok : Nat → Prop} {v : Value} {xs : List α} (h : IsS46 w0 W g l) (ho : d.R e W base ok v xs) (ht : ∀ q, q ∈ e :: d.E → q ≠ 46 ∧ q ≠ 43) : d.R e W base (fun k => ok k ∧ Off46 W g k) v xs := by
  obtain ⟨u, hb, hg, hr⟩ := h
  refine Kd.R_mono (Kd.R_bound ho) (fun k hk => ⟨hk.1, fun e => ?_, fun cs hc => ?_⟩)
  · obtain ⟨_, _, _, q, hq, cells, h2⟩ := hk
    rw [e, hb] at h2
    injection h2 with h2
    injection h2 with _ ht2
    exact (ht q hq).1 ht2.symm
  · obtain ⟨_, _, _, q, hq, cells, h2⟩ := hk
    rw [hc] at h2
    injection h2 with h2
    injection h2 with _ ht2
    exact (ht q hq).2 ht2.symm
end
theorem R_keepM {α : Type} {d : Kd α} {e : Nat} {w w1 : World} {base : Nat} {ok : Nat → Prop} {v : Value} {xs : List α} {g : Nat} (h : d.R e w base ok v xs) (hk : KeepM w w1 g) (hok : ∀ k, ok k → Off46 w g k) : d.R e w1 base ok v xs :=
  Kd.R_step h (fun k ho hlt => hk.2 k hlt (hok k ho).1 (hok k ho).2)
theorem KeepM.blk {w w1 : World} {g g' : Nat} {o : Obj} (hk : KeepM w w1 g) (h : w.heap[g']? = some o) (hne : g' ≠ g) (ht : ∀ cs, o ≠ .cells cs 43 (0, 0)) : w1.heap[g']? = some o :=
  (hk.2 g' (blk_lt h) hne (fun cs e => by
    rw [h] at e
    injection e with e
    exact ht cs e)).trans h
/-- Block a is no row of binds. -/
def Ty (W : World) (a : Nat) : Prop := ∃ cs t, t ≠ 43 ∧ W.heap[a]? = some (.cells cs t (0, 0))
theorem Ty.mk {W : World} {a : Nat} {cs : Array Value} {t : TypeId} (h : W.heap[a]? = some (.cells cs t (0, 0))) (ht : t ≠ 43) : Ty W a := ⟨cs, t, ht, h⟩
theorem Ty.set {W : World} {a : Nat} (h : Ty W a) (b o : Nat) (u : Value) : Ty (W.setCell ⟨b, o, none⟩ u) a := by
  obtain ⟨cs, t, ht, hh⟩ := h
  by_cases e : a = b
  · subst e
    exact ⟨_, t, ht, blk_set hh o u⟩
  · exact ⟨cs, t, ht, (Below.heap_setCell W ⟨b, o, none⟩ u a e).trans hh⟩
theorem Ty.drewN {W : World} {a : Nat} (h : Ty W a) (m : Nat) : Ty (W.drewN m) a := h
theorem Ty.drew {W : World} {a : Nat} (h : Ty W a) : Ty W.drew a := h
theorem IsS46.far {w0 W : World} {g : Nat} {l : List S43} {p : Addr} (h : IsS46 w0 W g l) (hne : g ≠ p.block) (hT : Ty W p.block) (u : Value) : IsS46 w0 (W.setCell p u) g l := by
  obtain ⟨v, hb, hg, hr⟩ := h
  refine ⟨v, blk_far hb hne u, hg, Kd.R_mono (Kd.R_far (Kd.R_bound hr) (fun k hk e => ?_) u) (fun _ _ => trivial)⟩
  obtain ⟨_, _, _, q, hq, cells, h2⟩ := hk
  obtain ⟨cs, t, ht, h3⟩ := hT
  rw [e, h3] at h2
  injection h2 with h2
  injection h2 with _ h2
  have : q = 43 := by simpa [show k43.E = [] from rfl] using hq
  exact ht (h2.trans this)
theorem Fr.keep {w0 w w' : World} {g : Nat} (hB : Below w0.heap.size w0 w) (h : Fr w0.heap.size g w w') : Below w0.heap.size w0 w' ∧ KeepM w w' g := ⟨hB.trans h.1, h.1.size, h.2⟩
end Go.Proofs.Ythbdiambigfgdac.Hand
