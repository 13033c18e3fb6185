/- The map's row and the document's: the same binds in another order, no key twice; what a deed does to both; no condition. -/
import Derived.Test.YthbdiambigfgdacHandState
namespace Go.Proofs.Ythbdiambigfgdac.Hand
open Go.RowKit Go.Proofs.YthbdiambigfgdacW.PrintWords Go.Proofs.YthbdiambigfgdacW.PrintMore Go.Proofs.Ythbdiambigfgdac.PKeymapFinds

def Nd (l : List S43) : Prop := (l.map S43.f0).Nodup
/-- The document's row is the map's, in another order; no key stands twice. -/
def Rel (l r : List S43) : Prop := r.Perm l ∧ Nd l

theorem Nd.perm {l r : List S43} (h : Nd l) (p : r.Perm l) : Nd r := (p.map S43.f0).nodup_iff.2 h
theorem Nd.uniq {l : List S43} (h : Nd l) {x y : S43} (hx : x ∈ l) (hy : y ∈ l) (e : x.f0 = y.f0) : x = y := by
  induction l with
  | nil => simp at hx
  | cons z l ih =>
    simp only [Nd, List.map_cons, List.nodup_cons] at h
    rcases List.mem_cons.1 hx with e1 | h1
    · rcases List.mem_cons.1 hy with e2 | h2
      · rw [e1, e2]
      · exact absurd (List.mem_map.2 ⟨y, h2, by rw [← e, e1]⟩) h.1
    · rcases List.mem_cons.1 hy with e2 | h2
      · exact absurd (List.mem_map.2 ⟨x, h1, by rw [e, e2]⟩) h.1
      · exact ih h.2 h1 h2

theorem Rel.neg {l r : List S43} (h : Rel l r) (k : S23) (hr : idxFrom (isKey k) 0 r < 0) : idxFrom (isKey k) 0 l < 0 := by
  rcases idx_spec k l 0 with ⟨h1, _⟩ | ⟨j, hj, h1, h2⟩
  · omega
  · rcases idx_spec k r 0 with ⟨_, h3⟩ | ⟨i, hi, h3, _⟩
    · exact absurd h2 (h3 _ (h.1.symm.subset (List.getElem_mem hj)))
    · omega
theorem Rel.pos {l r : List S43} (h : Rel l r) (k : S23) {i : Nat} (hi : i < r.length) (hr : idxFrom (isKey k) 0 r = (i : Int)) : ∃ j, ∃ hj : j < l.length, idxFrom (isKey k) 0 l = (j : Int) ∧ l[j] = r[i] ∧ l[j].f0 = k := by
  rcases idx_spec k r 0 with ⟨h1, _⟩ | ⟨i', hi', h1, h2⟩
  · omega
  · obtain rfl : i' = i := by omega
    have hm : r[i'] ∈ l := h.1.subset (List.getElem_mem hi')
    rcases idx_spec k l 0 with ⟨_, h3⟩ | ⟨j, hj, h3, h4⟩
    · exact absurd h2 (h3 _ hm)
    · exact ⟨j, hj, by simpa using h3, h.2.uniq (List.getElem_mem hj) hm (h4.trans h2.symm), h4⟩
theorem eraseIdx_perm {l : List S43} : ∀ {i : Nat} (h : i < l.length), (l[i] :: l.eraseIdx i).Perm l := by
  induction l with
  | nil => intro i h; simp at h
  | cons x l ih =>
    intro i h
    cases i with
    | zero => simp
    | succ i =>
      have := ih (i := i) (by simpa using h)
      simp only [List.getElem_cons_succ, List.eraseIdx_cons_succ]
      exact (List.Perm.swap _ _ _).trans (this.cons x)
theorem set_perm {l : List S43} {i : Nat} (h : i < l.length) (x : S43) : (x :: l.eraseIdx i).Perm (l.set i x) := by
  have h' : i < (l.set i x).length := by simpa using h
  have := eraseIdx_perm h'
  simpa [List.eraseIdx_set_eq] using this
theorem Rel.erase {l r : List S43} (h : Rel l r) {i j : Nat} (hi : i < r.length) (hj : j < l.length) (e : l[j] = r[i]) : Rel (l.eraseIdx j) (r.eraseIdx i) := by
  refine ⟨?_, ?_⟩
  · have h1 := (eraseIdx_perm hi).trans (h.1.trans (eraseIdx_perm hj).symm)
    rw [e] at h1
    exact h1.cons_inv
  · have := h.2.perm (eraseIdx_perm hj)
    simp only [Nd, List.map_cons, List.nodup_cons] at this
    exact this.2
theorem Rel.set {l r : List S43} (h : Rel l r) {i j : Nat} (hi : i < r.length) (hj : j < l.length) (e : l[j] = r[i]) (c : Int) : Rel (l.set j ⟨l[j].f0, c⟩) (r.eraseIdx i ++ [⟨l[j].f0, c⟩]) := by
  have h1 := h.erase hi hj e
  have h2 : (r.eraseIdx i ++ [(⟨l[j].f0, c⟩ : S43)]).Perm (l.set j ⟨l[j].f0, c⟩) :=
    (List.perm_append_singleton _ _).trans ((h1.1.cons _).trans (set_perm hj _))
  refine ⟨h2, ?_⟩
  have h3 := h.2.perm (eraseIdx_perm hj)
  have h4 : Nd (⟨l[j].f0, c⟩ :: l.eraseIdx j) := by simpa [Nd] using h3
  exact h4.perm (set_perm hj _).symm
theorem Rel.add {l r : List S43} (h : Rel l r) (k : S23) (c : Int) (hn : idxFrom (isKey k) 0 r < 0) : Rel (l ++ [⟨k, c⟩]) (r ++ [⟨k, c⟩]) := by
  refine ⟨h.1.append_right _, ?_⟩
  rcases idx_spec k l 0 with ⟨_, h3⟩ | ⟨j, hj, h3, h4⟩
  · have : Nd (⟨k, c⟩ :: l) := by
      simp only [Nd, List.map_cons, List.nodup_cons]
      refine ⟨fun hm => ?_, h.2⟩
      obtain ⟨x, hx, e⟩ := List.mem_map.1 hm
      exact h3 x hx e
    exact this.perm (List.perm_append_singleton _ _)
  · have := h.neg k hn
    omega
theorem Rel.len {l r : List S43} (h : Rel l r) : r.length = l.length := h.1.length_eq
theorem Rel.find {l r : List S43} (h : Rel l r) (k : S23) : findV k l = findV k r := by
  unfold findV
  rcases idx_spec k r 0 with ⟨h1, _⟩ | ⟨i, hi, h1, _⟩
  · have := h.neg k (by omega)
    rw [if_neg (by omega), if_neg (by omega)]
  · rw [Nat.zero_add] at h1
    obtain ⟨j, hj, h2, h3, _⟩ := h.pos k hi h1
    rw [h1, h2, if_pos (by omega), if_pos (by omega)]
    simp [rd_T43, hi, hj, h3]
end Go.Proofs.Ythbdiambigfgdac.Hand
