/- Normal's sweep in blocks: what each run that it tells came of. -/
import Derived.Test.YthbdiambigfgdafNormPlain
namespace Go.Proofs.Ythbdiambigfgdaf.Sort
open Go.RowKit Go.Proofs.Ythbdiambigfgdaf.PSelsNormal Go.Proofs.YthbdiambigfgdafW.PrintWords Go.Proofs.YthbdiambigfgdafW.PrintLast Go.Proofs.YthbdiambigfgdafW.PrintMore
set_option linter.unusedVariables false
set_option linter.unusedSimpArgs false

/-- A run is told out of a block of runs. -/
structure Agg (b : List S41) (o : S41) : Prop where
  lo : ∃ x ∈ b, x.f0.f0 = o.f0.f0
  hi : ∃ x ∈ b, x.f0.f1 = o.f0.f1
  within : ∀ x ∈ b, o.f0.f0 ≤ x.f0.f0 ∧ x.f0.f1 ≤ o.f0.f1
  cov : ∀ p : Int, o.f0.f0 ≤ p → p < o.f0.f1 → ∃ x ∈ b, x.f0.f0 ≤ p ∧ p < x.f0.f1
  le : o.f0.f0 ≤ o.f0.f1
  turn : (o.f1 = 0 ∧ ∀ x ∈ b, x.f1 = 0) ∨ ∃ P x Q, b = P ++ x :: Q ∧ x.f1 ≠ 0 ∧ o.f1 = x.f1 ∧ ∀ y ∈ P, y.f1 = 0
def Up (r : S41) : Prop := r.f0.f0 ≤ r.f0.f1

theorem Agg.one {x : S41} (h : Up x) : Agg [x] x := by
  refine ⟨⟨x, List.mem_cons_self, rfl⟩, ⟨x, List.mem_cons_self, rfl⟩, ?_, ?_, h, ?_⟩
  · intro y hy
    obtain rfl := List.mem_singleton.1 hy
    exact ⟨Int.le_refl _, Int.le_refl _⟩
  · intro p h1 h2; exact ⟨x, List.mem_cons_self, h1, h2⟩
  · by_cases h0 : x.f1 = 0
    · left; exact ⟨h0, fun y hy => by obtain rfl := List.mem_singleton.1 hy; exact h0⟩
    · right; exact ⟨[], x, [], rfl, h0, rfl, fun y hy => absurd hy (by simp)⟩

theorem mx_eq (a b : Int) : mx a b = if a < b then b else a := by unfold mx; rfl

theorem Agg.step {b : List S41} {o r : S41} (h : Agg b o) (h1 : o.f0.f0 ≤ r.f0.f0) (h2 : r.f0.f0 ≤ o.f0.f1) (hr : Up r) : Agg (b ++ [r]) (upd o r) := by
  unfold Up at hr
  have hm : (upd o r).f0.f1 = if o.f0.f1 < r.f0.f1 then r.f0.f1 else o.f0.f1 := mx_eq _ _
  have hm0 : (upd o r).f0.f0 = o.f0.f0 := rfl
  have hle := h.le
  refine ⟨?_, ?_, ?_, ?_, ?_, ?_⟩
  · obtain ⟨x, hx, e⟩ := h.lo
    exact ⟨x, List.mem_append_left _ hx, by rw [hm0]; exact e⟩
  · rw [hm]
    split
    · exact ⟨r, by simp, rfl⟩
    · obtain ⟨x, hx, e⟩ := h.hi
      exact ⟨x, List.mem_append_left _ hx, e⟩
  · intro x hx
    rw [hm, hm0]
    rcases List.mem_append.1 hx with hx | hx
    · have := h.within x hx
      split <;> omega
    · obtain rfl := List.mem_singleton.1 hx
      split <;> omega
  · intro p h3 h4
    rw [hm0] at h3
    rw [hm] at h4
    by_cases h5 : p < o.f0.f1
    · obtain ⟨x, hx, e⟩ := h.cov p h3 h5
      exact ⟨x, List.mem_append_left _ hx, e⟩
    · exact ⟨r, by simp, by omega, by split at h4 <;> omega⟩
  · rw [hm, hm0]; split <;> omega
  · have hf : (upd o r).f1 = if o.f1 = 0 then r.f1 else o.f1 := rfl
    rw [hf]
    rcases h.turn with ⟨h0, ha⟩ | ⟨P, x, Q, e, hx, ht, hP⟩
    · rw [if_pos h0]
      by_cases hr0 : r.f1 = 0
      · left
        refine ⟨hr0, fun y hy => ?_⟩
        rcases List.mem_append.1 hy with hy | hy
        · exact ha y hy
        · obtain rfl := List.mem_singleton.1 hy; exact hr0
      · right; exact ⟨b, r, [], rfl, hr0, rfl, ha⟩
    · right
      rw [if_neg (by rw [ht]; exact hx)]
      exact ⟨P, x, Q ++ [r], by rw [e]; simp, hx, ht, hP⟩

/-- The sweep's blocks. -/
theorem mg_blocks : ∀ (R b : List S41) (o : S41), Agg b o → (∀ r ∈ R, From o r) → R.Pairwise From → (∀ r ∈ R, Up r) →
    ∃ Bs : List (List S41 × S41), (Bs.map Prod.fst).flatten = b ++ R ∧ mg o R = Bs.map Prod.snd ∧ (∀ B ∈ Bs, Agg B.1 B.2) ∧ Bs.Pairwise (fun B C => B.2.f0.f1 < C.2.f0.f0) ∧ ∀ B ∈ Bs, o.f0.f0 ≤ B.2.f0.f0 := by
  intro R
  induction R with
  | nil =>
    intro b o h _ _ _
    refine ⟨[(b, o)], by simp, rfl, ?_, by simp, ?_⟩
    · intro B hB; obtain rfl := List.mem_singleton.1 hB; exact h
    · intro B hB; obtain rfl := List.mem_singleton.1 hB; exact Int.le_refl _
  | cons r R ih =>
    intro b o h h1 h2 h3
    rw [List.pairwise_cons] at h2
    have hu := h3 r List.mem_cons_self
    have hR : ∀ q ∈ R, Up q := fun q hq => h3 q (List.mem_cons_of_mem _ hq)
    have ho : From o r := h1 r List.mem_cons_self
    unfold From at ho
    simp only [mg]
    split
    · rename_i hlt
      obtain ⟨Bs, e1, e2, e3, e4, e5⟩ := ih [r] r (Agg.one hu) h2.1 h2.2 hR
      refine ⟨(b, o) :: Bs, ?_, ?_, ?_, ?_, ?_⟩
      · simp only [List.map_cons, List.flatten_cons, e1]; simp
      · rw [e2]; rfl
      · intro B hB
        rcases List.mem_cons.1 hB with rfl | hB
        · exact h
        · exact e3 B hB
      · refine List.pairwise_cons.2 ⟨fun B hB => ?_, e4⟩
        have := e5 B hB
        show o.f0.f1 < B.2.f0.f0
        omega
      · intro B hB
        rcases List.mem_cons.1 hB with rfl | hB
        · exact Int.le_refl _
        · have := e5 B hB; omega
    · rename_i hge
      obtain ⟨Bs, e1, e2, e3, e4, e5⟩ := ih (b ++ [r]) (upd o r) (h.step ho (by omega) hu) (fun q hq => h1 q (List.mem_cons_of_mem _ hq)) h2.2 hR
      exact ⟨Bs, by rw [e1]; simp, e2, e3, e4, e5⟩

/-- What the sorted runs' sweep tells. -/
structure Swept (S : List S41) (Bs : List (List S41 × S41)) : Prop where
  flat : (Bs.map Prod.fst).flatten = S
  agg : ∀ B ∈ Bs, Agg B.1 B.2
  apart : Bs.Pairwise (fun B C => B.2.f0.f1 < C.2.f0.f0)
theorem swept {o : S41} {R : List S41} (hS : Sorted (o :: R)) (hu : ∀ r ∈ o :: R, Up r) : ∃ Bs, Swept (o :: R) Bs ∧ mg o R = Bs.map Prod.snd := by
  have hf := sorted_from hS
  rw [List.pairwise_cons] at hf
  obtain ⟨Bs, e1, e2, e3, e4, _⟩ := mg_blocks R [o] o (Agg.one (hu o List.mem_cons_self)) hf.1 hf.2 (fun r hr => hu r (List.mem_cons_of_mem _ hr))
  exact ⟨Bs, ⟨e1, e3, e4⟩, e2⟩
end Go.Proofs.Ythbdiambigfgdaf.Sort
