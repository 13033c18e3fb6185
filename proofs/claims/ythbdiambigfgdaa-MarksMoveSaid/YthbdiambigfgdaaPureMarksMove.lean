/- MarksMove: what any range moves to by any edit is what the document says, or the error is told; it never turns round; no condition. -/
import Derived.Test.YthbdiambigfgdaaOpenMarksMove
namespace Go.Proofs.Ythbdiambigfgdaa.Pure
open Go.Proofs.Ythbdiambigfgdaa.OpenMarksMove
open Go.RowKit Go.Proofs.Ythbdiambigfgdaa.PMarksMove Go.Proofs.YthbdiambigfgdaaW.PrintWords Go.Proofs.YthbdiambigfgdaaW.PrintLast Go.Proofs.Ythbdiambigfgdaa.Op

theorem wrap_of (x : Int) (h : -9223372036854775808 ≤ x ∧ x ≤ 9223372036854775807) : wrap64 x = x := by unfold wrap64; omega

def MayB (f t : Int) : Prop := 0 ≤ f ∧ f ≤ t ∧ t ≤ 2147483648
def FairB (a d : Int) : Prop := 0 ≤ a ∧ 0 ≤ d ∧ a + d ≤ 2147483648
instance (f t : Int) : Decidable (MayB f t) := by unfold MayB; exact inferInstance
instance (a d : Int) : Decidable (FairB a d) := by unfold FairB; exact inferInstance
theorem key_b (p : Prop) [Decidable p] (b : Bool) (hb : b = true ↔ p) : some b = some (decide p) := by
  congr 1; rw [Bool.eq_iff_iff, hb, decide_eq_true_eq]

theorem may_eq (f t : Int) (l r : Bool) : marks_may.f f t l r = some (decide (MayB f t)) := by
  unfold marks_may.f
  (repeat' split) <;> apply key_b <;> simp [MayB] <;> omega
theorem refMay_eq (f t : Int) (l r : Bool) (i : Int) : stylusref04_May.f f t l r i = some (decide (MayB f t)) := by
  unfold stylusref04_May.f
  (repeat' split) <;> apply key_b <;> simp [MayB] <;> omega
theorem fair_eq (a d : Int) (l : List Int) : marks_fair.f a d l = some (decide (FairB a d)) := by
  unfold marks_fair.f
  by_cases h1 : a ≥ 0
  · by_cases h2 : d ≥ 0
    · by_cases h3 : a ≤ 2147483648
      · rw [if_pos h1, if_pos h2, if_pos h3, wrap_of _ (by omega)]; apply key_b; simp [FairB]; omega
      · rw [if_pos h1, if_pos h2, if_neg h3]; apply key_b; simp [FairB]; omega
    · rw [if_pos h1, if_neg h2]; apply key_b; simp [FairB]; omega
  · rw [if_neg h1]; apply key_b; simp [FairB]; omega
theorem refFair_eq (a d : Int) (l : List Int) : stylusref04_Fair.f a d l = some (decide (FairB a d)) := by
  unfold stylusref04_Fair.f
  by_cases h1 : a ≥ 0
  · by_cases h2 : d ≥ 0
    · by_cases h3 : a ≤ 2147483648
      · by_cases h4 : d ≤ 2147483648
        · rw [if_pos h1, if_pos h2, if_pos h3, if_pos h4, wrap_of _ (by omega)]; apply key_b; simp [FairB]; omega
        · rw [if_pos h1, if_pos h2, if_pos h3, if_neg h4]; apply key_b; simp [FairB]; omega
      · rw [if_pos h1, if_pos h2, if_neg h3]; apply key_b; simp [FairB]; omega
    · rw [if_pos h1, if_neg h2]; apply key_b; simp [FairB]; omega
  · rw [if_neg h1]; apply key_b; simp [FairB]; omega

/-- Where a place moves. -/
def pl (p a d n : Int) (high : Bool) : Int := if p < a then p else if p > a + d then p - d + n else if high = true then a + n else a
theorem place_eq (p a d : Int) (l : List Int) (h : Bool) (hp : 0 ≤ p ∧ p ≤ 2147483648) (hf : FairB a d) (hl : l.length ≤ 300) : marks_place.f p a d l h = some (pl p a d l.length h) := by
  unfold FairB at hf
  unfold marks_place.f pl
  rw [wrap_of (a + d) (by omega), wrap_of (p + l.length) (by omega), wrap_of (p + l.length - d) (by omega), wrap_of (a + l.length) (by omega)]
  (repeat' split) <;> first | rfl | (congr 1; omega)
theorem refPlace_eq (p a d : Int) (l : List Int) (h : Bool) (hp : 0 ≤ p ∧ p ≤ 2147483648) (hf : FairB a d) (hl : l.length ≤ 300) : stylusref04_Place.f p a d l h = some (pl p a d l.length h) := by
  unfold FairB at hf
  unfold stylusref04_Place.f pl
  rw [wrap_of (a + d) (by omega), wrap_of (p - d) (by omega), wrap_of (p - d + l.length) (by omega), wrap_of (a + l.length) (by omega)]
  (repeat' split) <;> rfl
theorem pl_pos (p a d n : Int) (h : Bool) (hp : 0 ≤ p) (hf : FairB a d) (hn : 0 ≤ n) : 0 ≤ pl p a d n h := by
  unfold FairB at hf; unfold pl; (repeat' split) <;> omega

theorem MarksMove : OpenMarksMove.Pure := by
  intro x e _ _
  obtain ⟨⟨f, t⟩, lf, rt⟩ := x
  obtain ⟨a, d, l⟩ := e
  refine ⟨5, ?_⟩
  unfold styluslaw04_MarksMove.f styluslaw04_knows.f
  by_cases h : (l.length : Int) > 300
  · rw [if_pos h]; rfl
  rw [if_neg h]
  have e0 : ∀ f t lf rt i, styluslaw04_as.f f t lf rt i = some (f, t, lf, rt, i) := fun _ _ _ _ _ => rfl
  by_cases hm : MayB f t
  · have hm' := hm
    unfold MayB at hm'
    by_cases hf : FairB a d
    · have p0 := pl_pos f a d l.length (!lf) (by omega) hf (by omega)
      have hmv : marks_moved.f f t lf rt a d l = some (pl f a d l.length (!lf), mx (pl f a d l.length (!lf)) (pl t a d l.length rt), lf, rt) := by
        unfold marks_moved.f
        rw [place_eq f a d l _ (by omega) hf (by omega), place_eq t a d l _ (by omega) hf (by omega)]; rfl
      have hrm : ∀ i, stylusref04_Move.f f t lf rt i a d l = some (pl f a d l.length (!lf), mx (pl f a d l.length (!lf)) (pl t a d l.length rt), lf, rt, i) := by
        intro i
        unfold stylusref04_Move.f
        rw [refPlace_eq f a d l _ (by omega) hf (by omega), refPlace_eq t a d l _ (by omega) hf (by omega)]
        simp only [Option.bind_some]
        split
        · congr 3; unfold mx; (repeat' split) <;> omega
        · congr 3; unfold mx; (repeat' split) <;> omega
      have hmx : pl f a d l.length (!lf) ≤ mx (pl f a d l.length (!lf)) (pl t a d l.length rt) := by unfold mx; (repeat' split) <;> omega
      unfold marks_Move.f
      rw [may_eq, fair_eq, decide_eq_true hm, decide_eq_true hf]
      simp only [Option.bind_some, if_true, e0, refMay_eq, refFair_eq, decide_eq_true hm, decide_eq_true hf, hmv, Bool.not_true, styluslaw04_MarksMove.j0, Bool.false_eq_true, if_false, hrm, beq_self_eq_true, Bool.and_self]
      rw [if_pos hmx, if_pos p0]; rfl
    · unfold marks_Move.f
      rw [may_eq, fair_eq, decide_eq_true hm, decide_eq_false hf]
      simp only [Option.bind_some, if_true, e0, refMay_eq, refFair_eq, decide_eq_true hm, decide_eq_false hf, Bool.false_eq_true, if_false, Bool.not_false, styluslaw04_MarksMove.j0]
      rfl
  · unfold marks_Move.f
    rw [may_eq, decide_eq_false hm]
    simp only [Option.bind_some, Bool.false_eq_true, if_false, e0, refMay_eq, decide_eq_false hm, styluslaw04_MarksMove.j0, if_true]
    rfl

end Go.Proofs.Ythbdiambigfgdaa.Pure
