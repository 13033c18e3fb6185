/- The rows' loops: what the program paints of a proper grid, and what the document does, is the same. -/
import Derived.Test.YtaicpljgijjenaaGreatDoorPVtPx3
import Derived.Test.YtaicpljgijjenaaGreatDoorPVtPx7
import Derived.Test.YtaicpljgijjenaaGreatDoorPVtPx9
import Derived.Test.YtaicpljgijjenaaGreatDoorPVtPx8
import Derived.Test.YtaicpljgijjenaaGreatDoorPVtPx4
import Derived.Test.YtaicpljgijjenaaGreatDoorPVtPx10
import Derived.Test.YtaicpljgijjenaaGreatDoorPVtPx5
import Derived.Test.YtaicpljgijjenaaGreatDoorPVtPx11
namespace Go.Proofs.YtaicpljgijjenaaGreatDoor.Vp
open Go.RowKit Go.Proofs.YtaicpljgijjenaaGreatDoor.PVtP Go.Proofs.YtaicpljgijjenaaGreatDoorW.PrintWords Hand

theorem within_eq (a lo hi : Int) : stylusref02_within.f a lo hi = some (decide (lo ≤ a ∧ a ≤ hi)) := by
  unfold stylusref02_within.f
  by_cases h : a ≥ lo
  · rw [if_pos h]; simp only [Option.some.injEq, decide_eq_decide]; omega
  · rw [if_neg h]; simp only [Option.some.injEq]; exact (decide_eq_false (by omega)).symm

theorem ofW_range (x : Int) : 0 ≤ ofW x ∧ ofW x ≤ 2 := by unfold ofW; split <;> (try split) <;> omega

theorem of_j2 (k : Nat) (x : Int) (a b : Bool) : stylusref02_Of.j2 (k + 1) x a b = some (if (a || b || decide ((65504 ≤ x ∧ x ≤ 65510) ∨ (127744 ≤ x ∧ x ≤ 128591) ∨ (129280 ≤ x ∧ x ≤ 129535) ∨ (131072 ≤ x ∧ x ≤ 262141))) = true then 2 else 1) := by
  simp only [stylusref02_Of.j2, within_eq, Option.bind_some]
  by_cases h1 : 65504 ≤ x ∧ x ≤ 65510
  · cases a <;> cases b <;> simp [h1]
  by_cases h2 : 127744 ≤ x ∧ x ≤ 128591
  · cases a <;> cases b <;> simp [h1, h2]
  by_cases h3 : 129280 ≤ x ∧ x ≤ 129535
  · cases a <;> cases b <;> simp [h1, h2, h3]
  by_cases h4 : 131072 ≤ x ∧ x ≤ 262141
  · cases a <;> cases b <;> simp [h1, h2, h3, h4]
  cases a <;> cases b <;> simp [h1, h2, h3, h4]

theorem of_j1 (k : Nat) (x : Int) (a : Bool) : stylusref02_Of.j1 (k + 2) x a = stylusref02_Of.j2 (k + 1) x a (decide ((44032 ≤ x ∧ x ≤ 55203) ∨ (63744 ≤ x ∧ x ≤ 64255) ∨ (65072 ≤ x ∧ x ≤ 65135) ∨ (65280 ≤ x ∧ x ≤ 65376))) := by
  rw [stylusref02_Of.j1]
  simp only [within_eq, Option.bind_some, decide_eq_true_eq]
  by_cases h1 : 44032 ≤ x ∧ x ≤ 55203
  · rw [if_pos h1, decide_eq_true (.inl h1)]
  rw [if_neg h1]
  by_cases h2 : 63744 ≤ x ∧ x ≤ 64255
  · rw [if_pos h2, decide_eq_true (.inr (.inl h2))]
  rw [if_neg h2]
  by_cases h3 : 65072 ≤ x ∧ x ≤ 65135
  · rw [if_pos h3, decide_eq_true (.inr (.inr (.inl h3)))]
  rw [if_neg h3]
  congr 1
  simp [h1, h2, h3]

theorem of_j0 (k : Nat) (x : Int) (a : Bool) : stylusref02_Of.j0 (k + 3) x a = if a = true then some 0 else stylusref02_Of.j1 (k + 2) x (decide ((4352 ≤ x ∧ x ≤ 4447) ∨ (11904 ≤ x ∧ x ≤ 12350) ∨ (12353 ≤ x ∧ x ≤ 19903) ∨ (19968 ≤ x ∧ x ≤ 42191))) := by
  rw [stylusref02_Of.j0]
  cases a
  · simp only [Bool.false_eq_true, if_false]
    simp only [within_eq, Option.bind_some, decide_eq_true_eq]
    by_cases h1 : 4352 ≤ x ∧ x ≤ 4447
    · rw [if_pos h1, decide_eq_true (.inl h1)]
    rw [if_neg h1]
    by_cases h2 : 11904 ≤ x ∧ x ≤ 12350
    · rw [if_pos h2, decide_eq_true (.inr (.inl h2))]
    rw [if_neg h2]
    by_cases h3 : 12353 ≤ x ∧ x ≤ 19903
    · rw [if_pos h3, decide_eq_true (.inr (.inr (.inl h3)))]
    rw [if_neg h3]
    congr 1
    simp [h1, h2, h3]
  · simp

theorem of_ref (k : Nat) (hk : 3 ≤ k) (x : Int) : stylusref02_Of.f k x = some (ofW x) := by
  obtain ⟨k, rfl⟩ : ∃ m, k = m + 3 := ⟨k - 3, by omega⟩
  unfold stylusref02_Of.f ofW
  simp only [within_eq, Option.bind_some, decide_eq_true_eq, of_j0, of_j1, of_j2]
  by_cases h1 : 768 ≤ x ∧ x ≤ 879
  · simp [h1]
  rw [if_neg h1]
  by_cases h2 : 8203 ≤ x ∧ x ≤ 8207
  · simp [h2]
  rw [if_neg h2]
  by_cases h3 : 65024 ≤ x ∧ x ≤ 65039
  · simp [h3]
  have h4 : ¬((768 ≤ x ∧ x ≤ 879) ∨ (8203 ≤ x ∧ x ≤ 8207) ∨ (65024 ≤ x ∧ x ≤ 65039)) := by omega
  rw [if_neg h4, if_neg h3]
  simp only [Bool.or_eq_true, decide_eq_true_eq, Option.some.injEq]
  split <;> split <;> first | rfl | omega

/-- May a rune be shown? -/
def Shown (x : Int) : Prop := ((0 ≤ x ∧ x < 55296) ∨ (57343 < x ∧ x ≤ 1114111)) ∧ 32 ≤ x ∧ (x < 127 ∨ 159 < x) ∧ 0 < ofW x
instance (x : Int) : Decidable (Shown x) := by unfold Shown; infer_instance

def R (x : Int) : Prop := (0 ≤ x ∧ x < 55296) ∨ (57343 < x ∧ x ≤ 1114111)
instance (x : Int) : Decidable (R x) := by unfold R; infer_instance

theorem right_ref (x : Int) : stylusref01_Right.f x = some (decide (R x)) := by
  unfold stylusref01_Right.f
  split <;> (try split) <;> (try split) <;> simp only [Option.some.injEq] <;> first
    | exact (decide_eq_true (by unfold R; omega)).symm | exact (decide_eq_false (by unfold R; omega)).symm | (rw [decide_eq_decide]; unfold R; omega)

theorem right_eq (x : Int) : utf_Right.f x = some (decide (R x)) := by
  unfold utf_Right.f
  split <;> (try split) <;> (try split) <;> simp only [Option.some.injEq] <;> first
    | exact (decide_eq_true (by unfold R; omega)).symm | exact (decide_eq_false (by unfold R; omega)).symm | (rw [decide_eq_decide]; unfold R; omega)

theorem shown_iff (x : Int) : Shown x ↔ R x ∧ 32 ≤ x ∧ (x < 127 ∨ 159 < x) ∧ 0 < ofW x := by unfold Shown R; exact Iff.rfl

theorem rune_ref (k : Nat) (hk : 3 ≤ k) (x : Int) : stylusref23_Rune.f k x = some (decide (Shown x)) := by
  unfold stylusref23_Rune.f
  simp only [right_ref, Option.bind_some, of_ref k hk, decide_eq_true_eq]
  have hs := shown_iff x
  split <;> (try split) <;> (try split) <;> (try split) <;> simp only [Option.some.injEq] <;> first
    | exact (decide_eq_true (hs.mpr ⟨by assumption, by omega, by omega, by omega⟩)).symm
    | exact (decide_eq_false (fun q => by have q2 := hs.mp q; first | omega | exact absurd q2.1 (by assumption))).symm
    | (rw [decide_eq_decide]; exact ⟨fun q => hs.mpr ⟨by assumption, by omega, by omega, by omega⟩, fun q => by have q2 := (hs.mp q).2.2.2; omega⟩)

theorem odd_eq (x : Int) (h : -2147483648 ≤ x ∧ x ≤ 2147483647) : vt_odd.f x = some (!decide (Shown x)) := by
  have hw : wrap64 x = x := by unfold wrap64; omega
  unfold vt_odd.f width_Of.f
  simp only [right_eq, Option.bind_some, decide_eq_true_eq, hw]
  have hs := shown_iff x
  split <;> (try split) <;> (try split) <;> (try split) <;> simp only [Option.some.injEq, ← decide_not] <;> first
    | exact (decide_eq_true (show ¬ Shown x from fun q => by have q2 := hs.mp q; first | omega | exact absurd q2.1 (by assumption))).symm
    | (rw [decide_eq_decide]; exact ⟨fun q p => by have q2 := (hs.mp p).2.2.2; omega, fun q => by
        by_cases g : 0 < ofW x
        · exact absurd (hs.mpr ⟨by assumption, by omega, by omega, g⟩) q
        · omega⟩)

end Go.Proofs.YtaicpljgijjenaaGreatDoor.Vp
namespace Go.Proofs.YtaicpljgijjenaaGreatDoor.Vp
open Go.RowKit Go.Proofs.YtaicpljgijjenaaGreatDoor.PVtP Go.Proofs.YtaicpljgijjenaaGreatDoorW.PrintWords Hand

def toRef (l : List S41) : List S45 := l.map fun x => ⟨x.f0, x.f1⟩
theorem toRef_length (l : List S41) : (toRef l).length = l.length := by simp [toRef]
theorem toRef_append (a b : List S41) : toRef (a ++ b) = toRef a ++ toRef b := by simp [toRef]
theorem rd_ref (l : List S41) (i : Int) : rd_T45 (toRef l) i = ⟨(rd_T41 l i).f0, (rd_T41 l i).f1⟩ := by
  unfold rd_T45 rd_T41 toRef
  rw [List.getD_eq_getElem?_getD, List.getD_eq_getElem?_getD, List.getElem?_map]
  cases l[i.toNat]? <;> rfl

theorem wrap_in (x : Int) (h : -9223372036854775808 ≤ x ∧ x ≤ 9223372036854775807) : wrap64 x = x := by unfold wrap64; omega

theorem as_l0 (l : List S41) (hl : l.length ≤ 300) (a b : Int) (d : Nat) :
    ∀ (k i : Nat), i ≤ l.length → l.length - i = d → d < k → styluslaw23_As.l0 k (toRef (l.take i)) i a b l = some (toRef l) := by
  induction d with
  | zero =>
    intro k i h0 hd hk
    obtain ⟨k, rfl⟩ : ∃ m, k = m + 1 := ⟨k - 1, by omega⟩
    simp only [styluslaw23_As.l0]
    rw [if_neg (by omega), List.take_of_length_le (by omega)]
  | succ d ih =>
    intro k i h0 hd hk
    obtain ⟨k, rfl⟩ : ∃ m, k = m + 1 := ⟨k - 1, by omega⟩
    simp only [styluslaw23_As.l0]
    have hi : i < l.length := by omega
    rw [if_pos (by omega), if_pos (by omega), if_pos (by rw [toRef_length, List.length_take]; omega), wrap_in _ (by omega), show ((i : Int) + 1) = ((i + 1 : Nat) : Int) by omega]
    have e : toRef (l.take i) ++ [(⟨(rd_T41 l i).f0, (rd_T41 l i).f1⟩ : S45)] = toRef (l.take (i + 1)) := by
      rw [List.take_add_one, toRef_append, List.getElem?_eq_getElem hi]
      simp [toRef, rd_T41, List.getElem?_eq_getElem hi]
    rw [e]
    exact ih k (i + 1) (by omega) (by omega) (by omega)

theorem as_eq (l : List S41) (hl : l.length ≤ 300) (a b : Int) (k : Nat) (hk : l.length < k) : styluslaw23_As.f k a b l = some (toRef l) := by
  unfold styluslaw23_As.f
  have := as_l0 l hl a b l.length k 0 (by omega) (by omega) hk
  simpa [toRef] using this

theorem mod_last (i c : Int) (hc : 0 < c) (h : (i + 1) % c = 0) : i % c = c - 1 := by
  obtain ⟨q, hq⟩ := Int.dvd_of_emod_eq_zero h
  have e : i = (c - 1) + c * (q - 1) := by rw [Int.mul_sub, Int.mul_one]; omega
  rw [e, Int.add_mul_emod_self_left]
  exact Int.emod_eq_of_lt (by omega) (by omega)

end Go.Proofs.YtaicpljgijjenaaGreatDoor.Vp
namespace Go.Proofs.YtaicpljgijjenaaGreatDoor.Vp
open Go.RowKit Go.Proofs.YtaicpljgijjenaaGreatDoor.PVtP Go.Proofs.YtaicpljgijjenaaGreatDoorW.PrintWords Hand

/-- What the document asks of the cell at i, in rows of c. -/
def Ok (c : Int) (l : List S41) (i : Int) : Prop :=
  0 ≤ (rd_T41 l i).f1 ∧ (rd_T41 l i).f1 ≤ 7 ∧
  ((rd_T41 l i).f0 = 0 → i % c ≠ 0 ∧ (rd_T41 l (i - 1)).f0 ≠ 0 ∧ ofW (rd_T41 l (i - 1)).f0 = 2 ∧ (rd_T41 l (i - 1)).f1 = (rd_T41 l i).f1) ∧
  ((rd_T41 l i).f0 ≠ 0 → Shown (rd_T41 l i).f0 ∧ (ofW (rd_T41 l i).f0 = 2 → i % c ≠ c - 1 ∧ (rd_T41 l (i + 1)).f0 = 0))

theorem tmod_eq (i c : Int) (hi : 0 ≤ i) : Int.tmod i c = i % c := Int.tmod_eq_emod_of_nonneg hi

/-- One cell, as the document's loop looks at it. -/
theorem ref_cell (l : List S41) (c : Int) (hc : 1 ≤ c ∧ c ≤ 60) (hl : l.length ≤ 300) (hn : (l.length : Int) % c = 0) (k i : Nat) (hi : i < l.length) (hk : 3 ≤ k) :
    ∃ b : Bool, stylusref23_Proper.l0 (k + 2) c (toRef l) i = (if b = true then stylusref23_Proper.l0 k c (toRef l) ((i + 1 : Nat) : Int) else some false) ∧ (b = true ↔ Ok c l i) := by
  have e1 : wrap64 ((i : Int) + 1) = ((i + 1 : Nat) : Int) := by rw [wrap_in _ (by omega)]; omega
  have e0 : wrap64 ((i : Int) - 1) = (i : Int) - 1 := wrap_in _ (by omega)
  have ec : wrap64 (c - 1) = c - 1 := wrap_in _ (by omega)
  simp only [stylusref23_Proper.l0]
  rw [toRef_length, if_pos (by omega), if_pos (by omega)]
  simp only [rd_ref]
  by_cases s0 : (rd_T41 l i).f1 < 0
  · rw [if_pos s0]
    simp only [stylusref23_Proper.j2, if_true]
    exact ⟨false, by simp, by simp; exact fun h => by have := h.1; omega⟩
  rw [if_neg s0]
  simp only [stylusref23_Proper.j2, decide_eq_true_eq]
  by_cases s1 : (rd_T41 l i).f1 > 7
  · rw [if_pos s1]
    exact ⟨false, by simp, by simp; exact fun h => by have := h.2.1; omega⟩
  rw [if_neg s1]
  by_cases z : (rd_T41 l i).f0 = 0
  · rw [if_pos z, if_neg (by omega), tmod_eq _ _ (by omega)]
    by_cases m : (i : Int) % c = 0
    · rw [if_pos m]
      exact ⟨false, by simp, by simp; exact fun h => (h.2.2.1 z).1 m⟩
    rw [if_neg m]
    have ip : 1 ≤ i := by
      rcases Nat.eq_zero_or_pos i with h | h
      · subst h; exact absurd (by simp) m
      · exact h
    rw [e0, e1, if_pos (by omega), toRef_length, if_pos (by omega)]
    simp only [rd_ref]
    by_cases p : (rd_T41 l ((i : Int) - 1)).f0 = 0
    · rw [if_pos p]
      exact ⟨false, by simp, by simp; exact fun h => (h.2.2.1 z).2.1 p⟩
    rw [if_neg p, of_ref k hk]
    simp only [Option.bind_some]
    by_cases w : ofW (rd_T41 l ((i : Int) - 1)).f0 = 2
    · rw [if_pos w]
      by_cases q : (rd_T41 l ((i : Int) - 1)).f1 = (rd_T41 l i).f1
      · rw [if_pos q]
        exact ⟨true, by simp, by simp; exact ⟨by omega, by omega, fun _ => ⟨m, p, w, q⟩, fun h => absurd z h⟩⟩
      · rw [if_neg q]
        exact ⟨false, by simp, by simp; exact fun h => q (h.2.2.1 z).2.2.2⟩
    · rw [if_neg w]
      exact ⟨false, by simp, by simp; exact fun h => w (h.2.2.1 z).2.2.1⟩
  · rw [if_neg z, rune_ref k hk]
    simp only [Option.bind_some, decide_eq_true_eq]
    by_cases sh : Shown (rd_T41 l i).f0
    · rw [if_pos sh, of_ref k hk]
      simp only [Option.bind_some]
      by_cases w : ofW (rd_T41 l i).f0 = 2
      · rw [if_pos w, if_neg (by omega), tmod_eq _ _ (by omega), ec]
        by_cases m : (i : Int) % c = c - 1
        · rw [if_pos m]
          exact ⟨false, by simp, by simp; exact fun h => ((h.2.2.2 z).2 w).1 m⟩
        rw [if_neg m, e1, if_pos (by omega)]
        have hi1 : i + 1 < l.length := by
          rcases Nat.lt_or_ge (i + 1) l.length with h | h
          · exact h
          · exact absurd (mod_last i c (by omega) (by rw [show (i : Int) + 1 = (l.length : Int) by omega]; exact hn)) m
        rw [toRef_length, if_pos (by omega)]
        simp only [rd_ref]
        by_cases q : (rd_T41 l ((i + 1 : Nat) : Int)).f0 = 0
        · rw [if_pos q]
          exact ⟨true, by simp, by simp; exact ⟨by omega, by omega, fun h => absurd h z, fun _ => ⟨sh, fun _ => ⟨m, q⟩⟩⟩⟩
        · rw [if_neg q]
          exact ⟨false, by simp, by simp; exact fun h => q ((h.2.2.2 z).2 w).2⟩
      · rw [if_neg w, e1]
        exact ⟨true, by simp, by simp; exact ⟨by omega, by omega, fun h => absurd h z, fun _ => ⟨sh, fun h => absurd h w⟩⟩⟩
    · rw [if_neg sh]
      exact ⟨false, by simp, by simp; exact fun h => sh (h.2.2.2 z).1⟩

theorem ref_l0 (l : List S41) (c : Int) (hc : 1 ≤ c ∧ c ≤ 60) (hl : l.length ≤ 300) (hn : (l.length : Int) % c = 0) (d : Nat) :
    ∀ (k i : Nat), i ≤ l.length → l.length - i = d → 2 * d + 5 ≤ k → ∃ b : Bool, stylusref23_Proper.l0 k c (toRef l) i = some b ∧ (b = true ↔ ∀ j : Nat, i ≤ j → j < l.length → Ok c l j) := by
  induction d with
  | zero =>
    intro k i h0 hd hk
    obtain ⟨k, rfl⟩ : ∃ m, k = m + 1 := ⟨k - 1, by omega⟩
    simp only [stylusref23_Proper.l0]
    rw [toRef_length, if_neg (by omega)]
    exact ⟨true, rfl, by simp; intro j h1 h2; omega⟩
  | succ d ih =>
    intro k i h0 hd hk
    obtain ⟨k, rfl⟩ : ∃ m, k = m + 2 := ⟨k - 2, by omega⟩
    obtain ⟨b, hb, hb2⟩ := ref_cell l c hc hl hn k i (by omega) (by omega)
    obtain ⟨b', hb', hb2'⟩ := ih k (i + 1) (by omega) (by omega) (by omega)
    cases b with
    | false =>
      refine ⟨false, by simpa using hb, ?_⟩
      simp only [Bool.false_eq_true, false_iff] at hb2 ⊢
      exact fun h => hb2 (h i (Nat.le_refl _) (by omega))
    | true =>
      refine ⟨b', by rw [hb, if_pos rfl, hb'], ?_⟩
      rw [hb2']
      constructor
      · intro h j h1 h2
        rcases Nat.eq_or_lt_of_le h1 with e | e
        · subst e; exact hb2.mp rfl
        · exact h j e h2
      · intro h j h1 h2
        exact h j (by omega) h2

end Go.Proofs.YtaicpljgijjenaaGreatDoor.Vp
namespace Go.Proofs.YtaicpljgijjenaaGreatDoor.Vp
open Go.RowKit Go.Proofs.YtaicpljgijjenaaGreatDoor.PVtP Go.Proofs.YtaicpljgijjenaaGreatDoorW.PrintWords Hand

theorem mod_next (i c : Int) (h : i % c = c - 1) : (i + 1) % c = 0 := by
  have e : i + 1 = c * (i / c + 1) := by have := Int.emod_add_mul_ediv i c; rw [Int.mul_add, Int.mul_one]; omega
  rw [e]; exact Int.mul_emod_right _ _

/-- Is a wide rune ahead of i? -/
def Wide (l : List S41) (i : Nat) : Prop := 1 ≤ i ∧ (rd_T41 l ((i : Int) - 1)).f0 ≠ 0 ∧ ofW (rd_T41 l ((i : Int) - 1)).f0 = 2

theorem vt_l0 (l : List S41) (r c : Int) (hc : 1 ≤ c ∧ c ≤ 60) (hl : l.length ≤ 300) (hn : (l.length : Int) % c = 0) (hw : ∀ j : Int, -2147483648 ≤ (rd_T41 l j).f0 ∧ (rd_T41 l j).f0 ≤ 2147483647) (d : Nat) :
    ∀ (k i : Nat) (half : Bool), i ≤ l.length → l.length - i = d → 2 * d + 5 ≤ k → (half = true ↔ Wide l i) →
      ∃ b : Bool, vt_Proper.l0 k half l l.length i r c l = some b ∧
        (b = true ↔ (half = true → i < l.length ∧ (i : Int) % c ≠ 0 ∧ (rd_T41 l i).f0 = 0) ∧ ∀ j : Nat, i ≤ j → j < l.length → Ok c l j) := by
  induction d with
  | zero =>
    intro k i half h0 hd hk hh
    obtain ⟨k, rfl⟩ : ∃ m, k = m + 1 := ⟨k - 1, by omega⟩
    simp only [vt_Proper.l0]
    rw [if_neg (by omega)]
    refine ⟨!half, rfl, ?_⟩
    cases half with
    | false => simp; intro j h1 h2; omega
    | true => simp; intro h; omega
  | succ d ih =>
    intro k i half h0 hd hk hh
    obtain ⟨k, rfl⟩ : ∃ m, k = m + 2 := ⟨k - 2, by omega⟩
    have hi : i < l.length := by omega
    have e1 : wrap64 ((i : Int) + 1) = ((i + 1 : Nat) : Int) := by rw [wrap_in _ (by omega)]; omega
    have e0 : wrap64 ((i : Int) - 1) = (i : Int) - 1 := wrap_in _ (by omega)
    have all : (∀ j : Nat, i ≤ j → j < l.length → Ok c l j) ↔ Ok c l i ∧ ∀ j : Nat, i + 1 ≤ j → j < l.length → Ok c l j := by
      constructor
      · exact fun h => ⟨h i (Nat.le_refl _) hi, fun j h1 h2 => h j (by omega) h2⟩
      · intro h j h1 h2
        rcases Nat.eq_or_lt_of_le h1 with e | e
        · subst e; exact h.1
        · exact h.2 j e h2
    have bad : ∀ (P : Prop), (P → False) → (false = true ↔ P) := fun P h => ⟨fun e => (Bool.false_ne_true e).elim, fun p => (h p).elim⟩
    simp only [vt_Proper.l0]
    rw [if_pos (by omega), if_pos (by omega), if_pos (by omega)]
    by_cases s0 : (rd_T41 l i).f1 < 0
    · rw [if_pos s0]; simp only [vt_Proper.j2, if_true]
      exact ⟨false, rfl, bad _ fun h => by have := (all.mp h.2).1.1; omega⟩
    rw [if_neg s0]
    by_cases s1 : (rd_T41 l i).f1 ≥ 8
    · rw [if_pos s1]; simp only [vt_Proper.j2, if_true]
      exact ⟨false, rfl, bad _ fun h => by have := (all.mp h.2).1.2.1; omega⟩
    rw [if_neg s1]
    cases half with
    | true =>
      have wi := hh.mp rfl
      by_cases z : (rd_T41 l i).f0 = 0
      · rw [if_neg (by simp [z]), if_pos rfl, if_neg (by omega), tmod_eq _ _ (by omega)]
        by_cases m : (i : Int) % c = 0
        · rw [if_pos m]; simp only [vt_Proper.j2, if_true]
          exact ⟨false, rfl, bad _ fun h => (h.1 trivial).2.1 m⟩
        rw [if_neg m, e0, if_pos (by have := wi.1; omega), if_pos (by omega)]
        simp only [vt_Proper.j2]
        by_cases q : (rd_T41 l i).f1 = (rd_T41 l ((i : Int) - 1)).f1
        · rw [if_neg (by simp [q]), if_pos trivial, e1]
          have hh' : (false = true ↔ Wide l (i + 1)) := bad _ fun h => h.2.1 (by rw [show (((i + 1 : Nat) : Int) - 1) = (i : Int) by omega]; exact z)
          obtain ⟨b, hb, hb2⟩ := ih k (i + 1) false (by omega) (by omega) (by omega) hh'
          refine ⟨b, hb, hb2.trans ?_⟩
          rw [all]
          constructor
          · exact fun h => ⟨fun _ => ⟨hi, m, z⟩, ⟨⟨by omega, by omega, fun _ => ⟨m, wi.2.1, wi.2.2, q.symm⟩, fun h' => absurd z h'⟩, h.2⟩⟩
          · exact fun h => ⟨fun e => (Bool.false_ne_true e).elim, h.2.2⟩
        · rw [if_pos (by simpa using q)]
          exact ⟨false, rfl, bad _ fun h => q ((all.mp h.2).1.2.2.1 z).2.2.2.symm⟩
      · rw [if_pos (by simp [z])]; simp only [vt_Proper.j2, if_true]
        exact ⟨false, rfl, bad _ fun h => z (h.1 trivial).2.2⟩
    | false =>
      have wi : ¬ Wide l i := fun h => Bool.false_ne_true (hh.mpr h)
      by_cases z : (rd_T41 l i).f0 = 0
      · rw [if_pos (by simp [z])]; simp only [vt_Proper.j2, if_true]
        refine ⟨false, rfl, bad _ fun h => ?_⟩
        have o := (all.mp h.2).1.2.2.1 z
        refine wi ⟨?_, o.2.1, o.2.2.1⟩
        rcases Nat.eq_zero_or_pos i with e | e
        · subst e; exact absurd (by simp) o.1
        · exact e
      · rw [if_neg (by simp [z]), if_neg (by simp)]
        simp only [vt_Proper.j2]
        rw [if_neg (by simp), if_neg (by simp), odd_eq _ (hw i)]
        simp only [Option.bind_some]
        by_cases sh : Shown (rd_T41 l i).f0
        · rw [if_neg (by simp [sh])]
          have ew : width_Of.f (rd_T41 l i).f0 = some (ofW (rd_T41 l i).f0) := by unfold width_Of.f; rw [wrap_in _ (by have := hw i; omega)]
          rw [ew, e1]
          simp only [Option.bind_some]
          have hh' : ((ofW (rd_T41 l i).f0 == 2) = true ↔ Wide l (i + 1)) := by
            unfold Wide
            rw [show (((i + 1 : Nat) : Int) - 1) = (i : Int) by omega, beq_iff_eq]
            exact ⟨fun h => ⟨by omega, z, h⟩, fun h => h.2.2⟩
          obtain ⟨b, hb, hb2⟩ := ih k (i + 1) _ (by omega) (by omega) (by omega) hh'
          refine ⟨b, hb, hb2.trans ?_⟩
          rw [all]
          constructor
          · intro h
            refine ⟨fun e => (Bool.false_ne_true e).elim, ⟨by omega, by omega, fun h' => absurd h' z, fun _ => ⟨sh, fun w => ?_⟩⟩, h.2⟩
            obtain ⟨g1, g2, g3⟩ := h.1 (beq_iff_eq.mpr w)
            exact ⟨fun e => g2 (by rw [show ((i + 1 : Nat) : Int) = (i : Int) + 1 by omega]; exact mod_next i c e), by rw [show ((i : Int) + 1) = ((i + 1 : Nat) : Int) by omega]; exact g3⟩
          · intro h
            refine ⟨fun w => ?_, h.2.2⟩
            obtain ⟨g1, g2⟩ := (h.2.1.2.2.2 z).2 (beq_iff_eq.mp w)
            have g3 : ((i + 1 : Nat) : Int) % c ≠ 0 := fun e => g1 (mod_last i c (by omega) (by rw [show (i : Int) + 1 = ((i + 1 : Nat) : Int) by omega]; exact e))
            refine ⟨?_, g3, by rw [show ((i + 1 : Nat) : Int) = (i : Int) + 1 by omega]; exact g2⟩
            rcases Nat.lt_or_ge (i + 1) l.length with e | e
            · exact e
            · exact absurd (by rw [show ((i + 1 : Nat) : Int) = (l.length : Int) by omega]; exact hn) g3
        · rw [if_pos (by simp [sh])]
          exact ⟨false, rfl, bad _ fun h => sh ((all.mp h.2).1.2.2.2 z).1⟩

end Go.Proofs.YtaicpljgijjenaaGreatDoor.Vp
namespace Go.Proofs.YtaicpljgijjenaaGreatDoor.Vp
open Go.RowKit Go.Proofs.YtaicpljgijjenaaGreatDoor.PVtP Go.Proofs.YtaicpljgijjenaaGreatDoorW.PrintWords Hand

theorem side_eq (a : Int) : vt_side.f a = some (decide (1 ≤ a ∧ a ≤ 60)) := by
  unfold vt_side.f
  by_cases h : a ≥ 1
  · rw [if_pos h]; simp only [Option.some.injEq, decide_eq_decide]; omega
  · rw [if_neg h]; simp only [Option.some.injEq]; exact (decide_eq_false (by omega)).symm

/-- A proper grid, in the document's words. -/
def Proper (r c : Int) (l : List S41) : Prop := (1 ≤ r ∧ r ≤ 60) ∧ (1 ≤ c ∧ c ≤ 60) ∧ (l.length : Int) = r * c ∧ ∀ j : Nat, j < l.length → Ok c l j

theorem proper_both (l : List S41) (r c : Int) (hl : l.length ≤ 300) (hw : ∀ j : Int, -2147483648 ≤ (rd_T41 l j).f0 ∧ (rd_T41 l j).f0 ≤ 2147483647) (k : Nat) (hk : 700 ≤ k) :
    ∃ b : Bool, vt_Proper.f k r c l = some b ∧ stylusref23_Proper.f k r c (toRef l) = some b ∧ (b = true ↔ Proper r c l) := by
  obtain ⟨m, rfl⟩ : ∃ m, k = m + 1 := ⟨k - 1, by omega⟩
  unfold vt_Proper.f stylusref23_Proper.f
  simp only [side_eq, Option.bind_some, decide_eq_true_eq, vt_Proper.j0, stylusref23_Proper.j0, if_true]
  by_cases hr : 1 ≤ r ∧ r ≤ 60
  · rw [if_pos hr, if_neg (show ¬ r < 1 by omega), if_neg (show ¬ r > 60 by omega)]
    by_cases hc : 1 ≤ c ∧ c ≤ 60
    · rw [if_pos hc, if_neg (show ¬ c < 1 by omega), if_neg (show ¬ c > 60 by omega)]
      have hp : 0 ≤ r * c ∧ r * c ≤ 3600 := by
        have h1 := Int.mul_le_mul hr.2 hc.2 (by omega) (by omega)
        have h2 := Int.mul_nonneg (show 0 ≤ r by omega) (show 0 ≤ c by omega)
        omega
      rw [wrap_in _ (by omega), toRef_length]
      by_cases hm : (l.length : Int) = r * c
      · have hn : (l.length : Int) % c = 0 := by rw [hm]; exact Int.mul_emod_left _ _
        rw [if_neg (by simp [hm]), if_neg (by simp [hm])]
        have w0 : (false = true ↔ Wide l 0) := ⟨fun h => (Bool.false_ne_true h).elim, fun h => by have := h.1; omega⟩
        obtain ⟨b, h1, h2⟩ := vt_l0 l r c hc hl hn hw l.length m 0 false (by omega) (by omega) (by omega) w0
        obtain ⟨b', h1', h2'⟩ := ref_l0 l c hc hl hn l.length m 0 (by omega) (by omega) (by omega)
        have e : b = b' := by
          apply Bool.eq_iff_iff.mpr
          rw [h2, h2']
          exact ⟨fun h => h.2, fun h => ⟨fun e => (Bool.false_ne_true e).elim, h⟩⟩
        subst e
        refine ⟨b, by simpa using h1, by simpa using h1', ?_⟩
        rw [h2']
        exact ⟨fun h => ⟨hr, hc, hm, fun j hj => h j (by omega) hj⟩, fun h j _ hj => h.2.2.2 j hj⟩
      · rw [if_pos (by simpa using hm), if_pos (by simpa using hm)]
        exact ⟨false, rfl, rfl, fun h => (Bool.false_ne_true h).elim, fun h => absurd h.2.2.1 hm⟩
    · rw [if_neg hc]
      refine ⟨false, rfl, ?_, fun h => (Bool.false_ne_true h).elim, fun h => absurd h.2.1 hc⟩
      by_cases h1 : c < 1
      · rw [if_pos h1]
      · rw [if_neg h1, if_pos (show c > 60 by omega)]
  · rw [if_neg hr]
    refine ⟨false, rfl, ?_, fun h => (Bool.false_ne_true h).elim, fun h => absurd h.1 hr⟩
    by_cases h1 : r < 1
    · rw [if_pos h1]
    · rw [if_neg h1, if_pos (show r > 60 by omega)]

end Go.Proofs.YtaicpljgijjenaaGreatDoor.Vp
namespace Go.Proofs.YtaicpljgijjenaaGreatDoor.Vp
open Go.RowKit Go.Proofs.YtaicpljgijjenaaGreatDoor.PVtP Go.Proofs.YtaicpljgijjenaaGreatDoorW.PrintWords Hand

/-- Bytes as numbers. -/
def ns (l : List UInt8) : List Int := l.map fun b => (b.toNat : Int)

theorem digits_eq (x : Nat) (h : x < 100) : ns (Lib.decDigits x) = if x > 9 then [48 + (x : Int) / 10, 48 + (x : Int) % 10] else [48 + (x : Int) % 10] :=
  (by decide +kernel : ∀ x : Fin 100, ns (Lib.decDigits x.val) = if x.val > 9 then [48 + (x.val : Int) / 10, 48 + (x.val : Int) % 10] else [48 + (x.val : Int) % 10]) ⟨x, h⟩

theorem number_eq (l : List Int) (hl : l.length ≤ 1000000) (x : Nat) (h : x < 100) : stylusref23_number.f l x = some (l ++ ns (Lib.decDigits x)) := by
  unfold stylusref23_number.f
  rw [digits_eq x h, Int.tmod_eq_emod_of_nonneg (by omega), Int.tdiv_eq_ediv_of_nonneg (by omega)]
  have e1 : wrap64 (48 + (x : Int) % 10) % 256 = 48 + (x : Int) % 10 := by unfold wrap64; omega
  have e2 : wrap64 (48 + wrap64 ((x : Int) / 10)) % 256 = 48 + (x : Int) / 10 := by unfold wrap64; omega
  by_cases g : x > 9
  · rw [if_pos (show (x : Int) > 9 by omega), if_pos g, if_pos (by omega)]
    simp only [Option.bind_some, e1, e2]
    rw [if_pos (by simp only [List.length_append, List.length_cons, List.length_nil]; omega)]
    simp
  · rw [if_neg (show ¬ (x : Int) > 9 by omega), if_neg g, if_pos (by omega), e1]

theorem byte_back (z : Int) (h : 0 ≤ z ∧ z ≤ 255) : ((z.toNat.toUInt8).toNat : Int) = z := by
  rw [show z.toNat.toUInt8.toNat = z.toNat % 256 from by simp]
  omega

theorem one_eq (x : Int) (h : R x) : stylusref01_one.f x = some (ns (Lib.encodeRune x)) := by
  unfold R at h
  unfold stylusref01_one.f ns Lib.encodeRune
  simp only [Int.tmod_eq_emod_of_nonneg (show 0 ≤ x by omega), Int.tdiv_eq_ediv_of_nonneg (show 0 ≤ x by omega)]
  by_cases a : x < 128
  · rw [if_pos a, Lib.encodeRuneZ_one (by omega) (by omega)]
    simp only [List.map_cons, List.map_nil, byte_back x (by omega)]
    rw [show x % 256 = x by omega]
  rw [if_neg a]
  by_cases b : x < 2048
  · rw [if_pos b, Lib.encodeRuneZ_two (by omega) (by omega)]
    simp only [List.map_cons, List.map_nil, byte_back (192 + x / 64) (by omega), byte_back (128 + x % 64) (by omega)]
    rw [show wrap32 (192 + wrap32 (x / 64)) % 256 = 192 + x / 64 by unfold wrap32; omega, show wrap32 (128 + x % 64) % 256 = 128 + x % 64 by unfold wrap32; omega]
  rw [if_neg b]
  have w1 : wrap32 (x / 64) = x / 64 := by unfold wrap32; omega
  have w2 : wrap32 (x / 4096) = x / 4096 := by unfold wrap32; omega
  have w3 : wrap32 (x / 262144) = x / 262144 := by unfold wrap32; omega
  simp only [w1, w2, w3, Int.tmod_eq_emod_of_nonneg (show 0 ≤ x / 64 by omega), Int.tmod_eq_emod_of_nonneg (show 0 ≤ x / 4096 by omega)]
  have v0 : wrap32 (128 + x % 64) % 256 = 128 + x % 64 := by unfold wrap32; omega
  have v1 : wrap32 (128 + x / 64 % 64) % 256 = 128 + x / 64 % 64 := by unfold wrap32; omega
  have v2 : wrap32 (128 + x / 4096 % 64) % 256 = 128 + x / 4096 % 64 := by unfold wrap32; omega
  by_cases c : x < 65536
  · have v3 : wrap32 (224 + x / 4096) % 256 = 224 + x / 4096 := by unfold wrap32; omega
    rw [if_pos c, Lib.encodeRuneZ_three (by omega)]
    simp only [List.map_cons, List.map_nil, byte_back (224 + x / 4096) (by omega), byte_back (128 + x / 64 % 64) (by omega), byte_back (128 + x % 64) (by omega), v0, v1, v3]
  · have v4 : wrap32 (240 + x / 262144) % 256 = 240 + x / 262144 := by unfold wrap32; omega
    rw [if_neg c, Lib.encodeRuneZ_four (by omega) (by omega)]
    simp only [List.map_cons, List.map_nil, byte_back (240 + x / 262144) (by omega), byte_back (128 + x / 4096 % 64) (by omega), byte_back (128 + x / 64 % 64) (by omega), byte_back (128 + x % 64) (by omega), v0, v1, v2, v4]

end Go.Proofs.YtaicpljgijjenaaGreatDoor.Vp
namespace Go.Proofs.YtaicpljgijjenaaGreatDoor.Vp
open Go.RowKit Go.Proofs.YtaicpljgijjenaaGreatDoor.PVtP Go.Proofs.YtaicpljgijjenaaGreatDoorW.PrintWords Hand

/-- The bytes of a style. -/
def dressL (s : Int) : List UInt8 := [27, 91, 48] ++ (if s % 2 = 1 then [59, 55] else []) ++ (if s / 2 % 2 = 1 then [59, 52] else []) ++ (if s / 4 = 1 then [59, 49] else []) ++ [109]
theorem style_in (P : Int → Prop) (h : ∀ s : Fin 8, P (s.val : Int)) (s : Int) (h0 : 0 ≤ s) (h1 : s ≤ 7) : P s := by
  have := h ⟨s.toNat, by omega⟩
  rwa [show ((⟨s.toNat, by omega⟩ : Fin 8).val : Int) = s from by simp; omega] at this
theorem dress_eq (s : Int) (h0 : 0 ≤ s) (h1 : s ≤ 7) (k : Nat) (hk : 5 ≤ k) : vt_dress.f k s = some ⟨(dressL s).toArray⟩ := by
  refine at_rounds (vt_dress.mono s) hk ?_
  exact style_in (fun s => vt_dress.f 5 s = some ⟨(dressL s).toArray⟩) (by decide +kernel) s h0 h1
theorem dress_len (s : Int) : (dressL s).length ≤ 10 := by
  unfold dressL
  split <;> split <;> split <;> simp
theorem ns_append (a b : List UInt8) : ns (a ++ b) = ns a ++ ns b := by simp [ns]
theorem ns_length (a : List UInt8) : (ns a).length = a.length := by simp [ns]

theorem enc_len (x : Int) : (Lib.encodeRune x).length ≤ 4 := by
  unfold Lib.encodeRune
  rw [List.length_map]
  exact (Lib.encodeRuneZ_length x).2
theorem encode_one (x : Int) (h : R x) (k : Nat) (hk : 2 ≤ k) : stylusref01_Encode.f k [x] = some (ns (Lib.encodeRune x)) := by
  obtain ⟨k, rfl⟩ : ∃ m, k = m + 2 := ⟨k - 2, by omega⟩
  unfold stylusref01_Encode.f
  simp only [stylusref01_Encode.l0]
  have e0 : rd [x] 0 = x := rfl
  have hr : stylusref01_Right.f x = some true := by rw [right_ref, decide_eq_true h]
  simp only [e0, hr, Option.bind_some, if_true, one_eq x h]
  have hl := enc_len x
  have w1 : wrap64 (0 + 1) = 1 := by decide +kernel
  rw [if_pos (by simp), if_pos (by omega), if_pos (by rw [ns_length]; simp; omega), w1, if_neg (by simp), List.nil_append]

/-- What a row's cells are painted as, behind a style. -/
def rowL : List S41 → Int → List UInt8
  | [], _ => []
  | x :: r, last => if x.f0 = 0 then rowL r last else (if x.f1 = last then [] else dressL x.f1) ++ (Lib.encodeRune x.f0 ++ rowL r x.f1)
/-- A cell that may be painted. -/
def Gd (x : S41) : Prop := 0 ≤ x.f1 ∧ x.f1 ≤ 7 ∧ (x.f0 ≠ 0 → R x.f0)
theorem rd_get (l : List S41) (i : Nat) (h : i < l.length) : rd_T41 l i = l[i] := by
  unfold rd_T41
  rw [List.getD_eq_getElem?_getD, Int.toNat_natCast, List.getElem?_eq_getElem h]
  rfl
theorem rd_drop (l : List S41) (i : Nat) (h : i < l.length) : l.drop i = rd_T41 l i :: l.drop (i + 1) := by
  rw [rd_get l i h]
  exact List.drop_eq_getElem_cons h

theorem paint_l0 (row : List S41) (hl : row.length ≤ 1000) (hg : ∀ i : Nat, i < row.length → Gd (rd_T41 row i)) (d : Nat) :
    ∀ (k i : Nat) (acc : List UInt8) (last : Int), i ≤ row.length → row.length - i = d → d + 6 ≤ k → acc.length + 14 * d ≤ 1000000 → vt_paint.l0 k row acc last i = some (acc ++ rowL (row.drop i) last) := by
  induction d with
  | zero =>
    intro k i acc last h0 hd hk ha
    obtain ⟨k, rfl⟩ : ∃ m, k = m + 1 := ⟨k - 1, by omega⟩
    simp only [vt_paint.l0]
    rw [if_neg (by omega), List.drop_of_length_le (by omega)]
    simp [rowL]
  | succ d ih =>
    intro k i acc last h0 hd hk ha
    obtain ⟨k, rfl⟩ : ∃ m, k = m + 1 := ⟨k - 1, by omega⟩
    have hi : i < row.length := by omega
    obtain ⟨g0, g1, g2⟩ := hg i hi
    have e1 : wrap64 ((i : Int) + 1) = ((i + 1 : Nat) : Int) := by rw [wrap_in _ (by omega)]; omega
    simp only [vt_paint.l0]
    rw [rd_drop row i hi]
    generalize rd_T41 row i = x at g0 g1 g2
    have hn := enc_len x.f0
    have hd := dress_len x.f1
    rw [if_pos (by omega), if_pos (by omega), e1]
    by_cases hz : x.f0 = 0
    · rw [if_pos hz, ih k (i + 1) acc last (by omega) (by omega) (by omega) (by omega)]
      simp only [rowL, if_pos hz]
    · have hr := g2 hz
      unfold R at hr
      rw [if_neg hz, if_pos (by omega), if_pos (by omega)]
      by_cases hs : x.f1 = last
      · rw [if_pos hs, if_pos (by omega), ih k (i + 1) _ last (by omega) (by omega) (by omega) (by rw [List.length_append]; omega)]
        simp only [rowL, if_neg hz, hs, if_true, List.append_assoc, List.nil_append]
      · have hsz : (⟨(dressL x.f1).toArray⟩ : ByteArray).size = (dressL x.f1).length := by simp [ByteArray.size]
        rw [if_neg hs, dress_eq x.f1 g0 g1 k (by omega), Option.bind_some, if_pos (by rw [hsz]; omega), ih k (i + 1) _ x.f1 (by omega) (by omega) (by omega) (by simp only [List.length_append]; omega)]
        simp only [rowL, if_neg hz, if_neg hs, List.append_assoc]

theorem row_l0 (row : List S41) (hl : row.length ≤ 1000) (hg : ∀ i : Nat, i < row.length → Gd (rd_T41 row i)) (d : Nat) :
    ∀ (k i : Nat) (acc : List Int) (last : Int), i ≤ row.length → row.length - i = d → 2 * d + 6 ≤ k → acc.length + 14 * d ≤ 1000000 → stylusref23_Row.l0 k acc (toRef row) last i = some (acc ++ ns (rowL (row.drop i) last)) := by
  induction d with
  | zero =>
    intro k i acc last h0 hd hk ha
    obtain ⟨k, rfl⟩ : ∃ m, k = m + 1 := ⟨k - 1, by omega⟩
    simp only [stylusref23_Row.l0, toRef_length]
    rw [if_neg (by omega), List.drop_of_length_le (by omega)]
    simp [rowL, ns]
  | succ d ih =>
    intro k i acc last h0 hd hk ha
    obtain ⟨k, rfl⟩ : ∃ m, k = m + 2 := ⟨k - 2, by omega⟩
    have hi : i < row.length := by omega
    obtain ⟨g0, g1, g2⟩ := hg i hi
    have e1 : wrap64 ((i : Int) + 1) = ((i + 1 : Nat) : Int) := by rw [wrap_in _ (by omega)]; omega
    rw [stylusref23_Row.l0]
    simp only [rd_ref, toRef_length]
    rw [rd_drop row i hi]
    generalize rd_T41 row i = x at g0 g1 g2
    have hn := enc_len x.f0
    rw [if_pos (by omega), if_pos (by omega), e1]
    by_cases hz : x.f0 = 0
    · rw [if_pos hz, ih (k + 1) (i + 1) acc last (by omega) (by omega) (by omega) (by omega)]
      simp only [rowL, if_pos hz]
    · have hr := g2 hz
      have he := encode_one x.f0 hr k (by omega)
      rw [if_neg hz]
      by_cases hs : x.f1 = last
      · rw [if_pos hs, encode_one x.f0 hr (k + 1) (by omega), Option.bind_some, if_pos (by rw [ns_length]; omega), ih (k + 1) (i + 1) _ x.f1 (by omega) (by omega) (by omega) (by rw [List.length_append, ns_length]; omega)]
        simp only [rowL, if_neg hz, if_pos hs, List.nil_append, ns_append, List.append_assoc]
      · have ih' := fun acc' (ha' : acc'.length + 14 * d ≤ 1000000) => ih k (i + 1) acc' x.f1 (by omega) (by omega) (by omega) ha'
        rw [if_neg hs]
        simp only [stylusref23_Row.j1, he, e1]
        have w2 : wrap64 (Int.tdiv x.f1 2) = x.f1 / 2 := by rw [Int.tdiv_eq_ediv_of_nonneg g0, wrap_in _ (by omega)]
        have w4 : wrap64 (Int.tdiv x.f1 4) = x.f1 / 4 := by rw [Int.tdiv_eq_ediv_of_nonneg g0, wrap_in _ (by omega)]
        rw [w2, w4, Int.tmod_eq_emod_of_nonneg g0, Int.tmod_eq_emod_of_nonneg (by omega : 0 ≤ x.f1 / 2)]
        have hL : rowL (x :: row.drop (i + 1)) last = dressL x.f1 ++ (Lib.encodeRune x.f0 ++ rowL (row.drop (i + 1)) x.f1) := by simp only [rowL, if_neg hz, if_neg hs]
        rw [hL]
        unfold dressL
        have hb : acc.length + 14 ≤ 1000000 := by omega
        by_cases c1 : x.f1 % 2 = 1 <;> by_cases c2 : x.f1 / 2 % 2 = 1 <;> by_cases c3 : x.f1 / 4 = 1 <;>
          simp only [c1, c2, c3, if_true, if_false, Option.bind_some, List.length_append, List.length_cons, List.length_nil, ns_length, Nat.zero_add]
        all_goals
          repeat rw [if_pos (by omega)]
        all_goals rw [ih' _ (by simp only [List.length_append, List.length_cons, List.length_nil, ns_length]; omega)]
        all_goals simp [ns, List.append_assoc]
end Go.Proofs.YtaicpljgijjenaaGreatDoor.Vp
namespace Go.Proofs.YtaicpljgijjenaaGreatDoor.Vp
open Go.RowKit Go.Proofs.YtaicpljgijjenaaGreatDoor.PVtP Go.Proofs.YtaicpljgijjenaaGreatDoorW.PrintWords Hand

/-- What row n is painted as. -/
def paintL (n : Nat) (row : List S41) : List UInt8 := ([27, 91] ++ Lib.decDigits (n + 1) ++ [59, 49, 72]) ++ rowL row (-1)
theorem dig_len (n : Nat) (h : n < 99) : (Lib.decDigits (n + 1)).length ≤ 2 :=
  (by decide +kernel : ∀ x : Fin 99, (Lib.decDigits (x.val + 1)).length ≤ 2) ⟨n, h⟩
theorem rowL_len (row : List S41) : ∀ last, (rowL row last).length ≤ 14 * row.length := by
  induction row with
  | nil => intro last; simp [rowL]
  | cons x r ih =>
    intro last
    have h1 := enc_len x.f0
    have h2 := dress_len x.f1
    have h3 := ih last
    have h4 := ih x.f1
    unfold rowL
    by_cases hz : x.f0 = 0
    · rw [if_pos hz, List.length_cons]; omega
    · rw [if_neg hz]
      by_cases hs : x.f1 = last
      · simp only [if_pos hs, List.length_append, List.length_cons, List.length_nil]; omega
      · simp only [if_neg hs, List.length_append, List.length_cons]; omega
theorem paintL_len (n : Nat) (h : n < 99) (row : List S41) : (paintL n row).length ≤ 7 + 14 * row.length := by
  have h1 := dig_len n h
  have h2 := rowL_len row (-1)
  unfold paintL
  simp only [List.length_append, List.length_cons, List.length_nil]
  omega

theorem paint_eq (n : Nat) (h : n < 60) (row : List S41) (hl : row.length ≤ 300) (hg : ∀ i : Nat, i < row.length → Gd (rd_T41 row i)) (k : Nat) (hk : 310 ≤ k) :
    vt_paint.f k n row = some ⟨(paintL n row).toArray⟩ := by
  have h1 := dig_len n (by omega)
  unfold vt_paint.f
  rw [if_pos (by omega), if_pos (by omega), Int.toNat_natCast]
  have := paint_l0 row (by omega) hg row.length k 0 ([27, 91] ++ Lib.decDigits (n + 1) ++ [59, 49, 72]) (-1) (by omega) (by omega) (by omega) (by simp only [List.length_append, List.length_cons, List.length_nil]; omega)
  rw [List.drop_zero] at this
  rw [show ((0 : Nat) : Int) = 0 from rfl] at this
  rw [this]
  rfl
theorem row_eq (n : Nat) (h : n < 60) (row : List S41) (hl : row.length ≤ 300) (hg : ∀ i : Nat, i < row.length → Gd (rd_T41 row i)) (acc : List Int) (ha : acc.length ≤ 900000) (k : Nat) (hk : 610 ≤ k) :
    stylusref23_Row.f k acc n (toRef row) = some (acc ++ ns (paintL n row)) := by
  have h1 := dig_len n (by omega)
  have e1 : wrap64 ((n : Int) + 1) = ((n + 1 : Nat) : Int) := by rw [wrap_in _ (by omega)]; omega
  unfold stylusref23_Row.f
  rw [Option.bind_some, if_pos (by simp only [List.length_cons, List.length_nil]; omega), e1, number_eq _ (by simp only [List.length_append, List.length_cons, List.length_nil]; omega) (n + 1) (by omega), Option.bind_some, Option.bind_some, if_pos (by simp only [List.length_append, List.length_cons, List.length_nil, ns_length]; omega)]
  have := row_l0 row (by omega) hg row.length k 0 (acc ++ [27, 91] ++ ns (Lib.decDigits (n + 1)) ++ [59, 49, 72]) (-1) (by omega) (by omega) (by omega) (by simp only [List.length_append, List.length_cons, List.length_nil, ns_length]; omega)
  rw [List.drop_zero] at this
  rw [show ((0 : Nat) : Int) = 0 from rfl] at this
  rw [this]
  simp [paintL, ns, List.append_assoc]

/-- Are n cells alike, from these places on? -/
def eqF (f g : Int → S41) : Nat → Nat → Bool
  | _, 0 => true
  | a, n + 1 => ((f (a : Nat)).f0 == (g (a : Nat)).f0 && (f (a : Nat)).f1 == (g (a : Nat)).f1) && eqF f g (a + 1) n
theorem render_l0 (x y : List S41) (hl : x.length = y.length) (h3 : x.length ≤ 300) (d : Nat) : ∀ (k i : Nat), i ≤ x.length → x.length - i = d → d < k → render_Cell_13.l0 k x y x.length i = some (eqF (rd_T41 x) (rd_T41 y) i d) := by
  induction d with
  | zero =>
    intro k i h0 hd hk
    obtain ⟨k, rfl⟩ : ∃ m, k = m + 1 := ⟨k - 1, by omega⟩
    simp only [render_Cell_13.l0, eqF]
    rw [if_neg (by omega)]
  | succ d ih =>
    intro k i h0 hd hk
    obtain ⟨k, rfl⟩ : ∃ m, k = m + 1 := ⟨k - 1, by omega⟩
    have e1 : wrap64 ((i : Int) + 1) = ((i + 1 : Nat) : Int) := by rw [wrap_in _ (by omega)]; omega
    simp only [render_Cell_13.l0, eqF]
    rw [if_pos (by omega), if_pos (by omega), if_pos (by omega), if_pos (by omega), e1, ih k (i + 1) (by omega) (by omega) (by omega)]
    cases ((rd_T41 x i).f0 == (rd_T41 y i).f0) <;> cases ((rd_T41 x i).f1 == (rd_T41 y i).f1) <;> simp
theorem eqF_seg (l m : List S41) (a c : Nat) : ∀ (n j : Nat), j + n ≤ c → eqF (rd_T41 ((l.take (a + c)).drop a)) (rd_T41 ((m.take (a + c)).drop a)) j n = eqF (rd_T41 l) (rd_T41 m) (a + j) n := by
  have hr : ∀ (l : List S41) (j : Nat), j < c → rd_T41 ((l.take (a + c)).drop a) j = rd_T41 l ((a + j : Nat) : Int) := by
    intro l j hj
    unfold rd_T41
    rw [List.getD_eq_getElem?_getD, List.getD_eq_getElem?_getD, Int.toNat_natCast, Int.toNat_natCast, List.getElem?_drop, List.getElem?_take, if_pos (by omega)]
  intro n
  induction n with
  | zero => intro j _; rfl
  | succ n ih =>
    intro j hj
    simp only [eqF]
    rw [hr l j (by omega), hr m j (by omega), ih (j + 1) (by omega)]
    rfl
end Go.Proofs.YtaicpljgijjenaaGreatDoor.Vp
namespace Go.Proofs.YtaicpljgijjenaaGreatDoor.Vp
open Go.RowKit Go.Proofs.YtaicpljgijjenaaGreatDoor.PVtP Go.Proofs.YtaicpljgijjenaaGreatDoorW.PrintWords Hand

/-- What n rows from row i on are painted as. -/
def rowsL (fresh : Bool) (l m : List S41) (c : Nat) : Nat → Nat → List UInt8
  | 0, _ => []
  | n + 1, i => (if (!fresh && eqF (rd_T41 l) (rd_T41 m) (i * c) c) = true then [] else paintL i ((m.take (i * c + c)).drop (i * c))) ++ rowsL fresh l m c n (i + 1)

theorem seg_len (m : List S41) (a c : Nat) (h : a + c ≤ m.length) : ((m.take (a + c)).drop a).length = c := by
  rw [List.length_drop, List.length_take]; omega
theorem seg_gd (m : List S41) (a c : Nat) (hm : ∀ i : Nat, i < m.length → Gd (rd_T41 m i)) (h : a + c ≤ m.length) : ∀ i : Nat, i < ((m.take (a + c)).drop a).length → Gd (rd_T41 ((m.take (a + c)).drop a) i) := by
  intro i hi
  rw [seg_len m a c h] at hi
  have : rd_T41 ((m.take (a + c)).drop a) i = rd_T41 m ((a + i : Nat) : Int) := by
    unfold rd_T41
    rw [List.getD_eq_getElem?_getD, List.getD_eq_getElem?_getD, Int.toNat_natCast, Int.toNat_natCast, List.getElem?_drop, List.getElem?_take, if_pos (by omega)]
  rw [this]
  exact hm _ (by omega)
theorem toRef_seg (m : List S41) (a b : Nat) : ((toRef m).take b).drop a = toRef ((m.take b).drop a) := by
  unfold toRef
  rw [← List.map_take, ← List.map_drop]

theorem eqF_succ (f g : Int → S41) (a j d : Nat) : eqF f g (a + j) (d + 1) = (((f ((a + j : Nat) : Int)).f0 == (g ((a + j : Nat) : Int)).f0 && (f ((a + j : Nat) : Int)).f1 == (g ((a + j : Nat) : Int)).f1) && eqF f g (a + (j + 1)) d) := rfl
theorem ite_t {α : Type} (a b : α) : (if (true = true) then a else b) = a := rfl
theorem ite_f {α : Type} (a b : α) : (if (false = true) then a else b) = b := rfl
theorem add_in (a j c d L : Nat) (h : a + c ≤ L) (h3 : L ≤ 300) (hj : j + (d + 1) = c) : wrap64 ((a : Int) + (j : Int)) = ((a + j : Nat) : Int) := by rw [wrap_in _ (by omega)]; omega
theorem one_in (j : Nat) (h : j ≤ 1000) : wrap64 ((j : Int) + 1) = ((j + 1 : Nat) : Int) := by rw [wrap_in _ (by omega)]; omega
theorem mul_succ (i c a : Nat) (ha : a = i * c) : a + c = (i + 1) * c := by rw [Nat.succ_mul, ha]
theorem mul_in (i c a : Nat) (h : a = i * c) (ha : a ≤ 1000000) : wrap64 ((i : Int) * (c : Int)) = (a : Int) := by
  have e : (i : Int) * (c : Int) = (a : Int) := by rw [h, Int.natCast_mul]
  rw [e]
  exact wrap_in _ (by omega)
set_option maxHeartbeats 1000000 in
set_option maxRecDepth 20000 in
theorem paints_l0 (fresh : Bool) (l m : List S41) (c r : Nat) (hc : c ≤ 60) (hr : r ≤ 60) (hm : m.length = r * c) (h3 : m.length ≤ 300) (hg : ∀ i : Nat, i < m.length → Gd (rd_T41 m i)) (hl : fresh = false → l.length = m.length) (x y : Int) (n : Nat) :
    ∀ (k i : Nat) (L : List UInt8), i + n = r → n + 700 ≤ k → L.length + 847 * n ≤ 100000 →
      vt_PaintS.l0 k fresh ⟨L.toArray⟩ r i x y l r c m = some (⟨(L ++ rowsL fresh l m c n i).toArray⟩, 0) := by
  induction n with
  | zero =>
    intro k i L hi hk hL
    obtain ⟨k, rfl⟩ : ∃ q, k = q + 1 := ⟨k - 1, by omega⟩
    rw [vt_PaintS.l0, if_neg (by omega)]
    simp [rowsL]
  | succ n ih =>
    intro k i L hi hk hL
    obtain ⟨k, rfl⟩ : ∃ q, k = q + 1 := ⟨k - 1, by omega⟩
    obtain ⟨a, ha⟩ : ∃ a, a = i * c := ⟨_, rfl⟩
    have hac : a + c ≤ m.length := by
      rw [hm, ha, ← Nat.succ_mul]
      exact Nat.mul_le_mul_right _ (by omega)
    have e1 := Aside0.mk (one_in i (by omega))
    have e2 := Aside0.mk (mul_in i c a ha (by omega))
    have e3 := Aside0.mk (mul_in (i + 1) c (a + c) (mul_succ i c a ha) (Nat.le_trans hac (Nat.le_trans h3 (by decide))))
    have HA := Aside0.mk ha
    clear ha hm
    have hsl := seg_len m a c hac
    have hp := paint_eq i (by omega) ((m.take (a + c)).drop a) (by omega) (seg_gd m a c hg hac) k (by omega)
    have hpl := paintL_len i (by omega) ((m.take (a + c)).drop a)
    rw [hsl] at hpl
    have hsz : ∀ q : List UInt8, (⟨q.toArray⟩ : ByteArray).size = q.length := fun q => by simp [ByteArray.size]
    have happ : ∀ p q : List UInt8, (⟨p.toArray⟩ : ByteArray) ++ (⟨q.toArray⟩ : ByteArray) = ⟨(p ++ q).toArray⟩ := fun p q => by apply ByteArray.ext; simp [ByteArray.data_append]
    rw [vt_PaintS.l0, if_pos (by omega), e1.out, e2.out, e3.out, Int.toNat_natCast, Int.toNat_natCast, hp]
    simp only [rowsL]
    rw [← HA.out]
    cases fresh with
    | true =>
      rw [ite_t, if_pos (by omega), if_pos (by omega), if_pos (by omega), Option.bind_some, if_pos (by rw [hsz, hsz]; omega), happ, ih k (i + 1) _ (by omega) (by omega) (by rw [List.length_append]; omega)]
      simp [List.append_assoc]
    | false =>
      have hll := hl rfl
      have hre : render_Cell_13.f k ((l.take (a + c)).drop a) ((m.take (a + c)).drop a) = some (eqF (rd_T41 l) (rd_T41 m) a c) := by
        have hsl2 := seg_len l a c (by omega)
        unfold render_Cell_13.f
        rw [if_pos (by rw [hsl, hsl2])]
        have := render_l0 ((l.take (a + c)).drop a) ((m.take (a + c)).drop a) (by rw [hsl, hsl2]) (by omega) c k 0 (by omega) (by omega) (by omega)
        rw [eqF_seg l m a c c 0 (by omega)] at this
        exact this
      rw [ite_f, if_pos (by omega), if_pos (by omega), if_pos (by omega), if_pos (by omega), hre, Option.bind_some]
      cases he : eqF (rd_T41 l) (rd_T41 m) a c with
      | true =>
        rw [ite_t, ih k (i + 1) _ (by omega) (by omega) (by omega)]
        simp
      | false =>
        rw [ite_f, Option.bind_some, if_pos (by rw [hsz, hsz]; omega), happ, ih k (i + 1) _ (by omega) (by omega) (by rw [List.length_append]; omega)]
        simp [List.append_assoc]

set_option maxHeartbeats 1000000 in
set_option maxRecDepth 20000 in
theorem ref_l1 (l m : List S41) (c r i a : Nat) (alike : Bool) (acc : List Int) (hc : c ≤ 60) (hr : r ≤ 60) (hir : i < r) (hac : a + c ≤ m.length) (h3 : m.length ≤ 300) (E2 : Aside0 (wrap64 ((i : Int) * (c : Int)) = (a : Int))) (E3 : Aside0 (wrap64 (((i + 1 : Nat) : Int) * (c : Int)) = ((a + c : Nat) : Int))) (K : Nat) (R : List Int) (d : Nat) :
    ∀ (k j : Nat) (same : Bool), j + d = c → K + d + 1 ≤ k → (same = true → l.length = m.length) →
      ((same && eqF (rd_T41 l) (rd_T41 m) (a + j) d) = true → ∀ k', K ≤ k' → stylusref23_Paint.l0 k' (toRef l) (toRef m) r c alike acc ((i + 1 : Nat) : Int) = some R) →
      ((same && eqF (rd_T41 l) (rd_T41 m) (a + j) d) = false → ∀ k', K ≤ k' → ((stylusref23_Row.f k' acc i (toRef ((m.take (a + c)).drop a))).bind fun t => stylusref23_Paint.l0 k' (toRef l) (toRef m) r c alike t ((i + 1 : Nat) : Int)) = some R) →
      stylusref23_Paint.l1 k (toRef l) (toRef m) r c alike acc i same j = some R := by
  have e1 := Aside0.mk (one_in i (by omega))
  induction d with
  | zero =>
    intro k j same hj hk hs HT HF
    obtain ⟨k, rfl⟩ : ∃ q, k = q + 1 := ⟨k - 1, by omega⟩
    rw [stylusref23_Paint.l1, if_neg (by omega), e1.out, E2.out, E3.out, toRef_length, Int.toNat_natCast, Int.toNat_natCast, toRef_seg]
    cases same with
    | true =>
      rw [ite_t]
      exact HT rfl k (by omega)
    | false =>
      rw [ite_f, if_pos (by omega), if_pos (by omega), if_pos (by omega)]
      exact HF rfl k (by omega)
  | succ d ih =>
    intro k j same hj hk hs HT HF
    obtain ⟨k, rfl⟩ : ∃ q, k = q + 1 := ⟨k - 1, by omega⟩
    rw [stylusref23_Paint.l1, if_pos (by omega), e1.out, E2.out, E3.out, Int.toNat_natCast, Int.toNat_natCast, toRef_seg]
    cases same with
    | false =>
      rw [ite_f, if_pos (by omega), if_pos (by omega), if_pos (by rw [toRef_length]; omega)]
      exact HF rfl k (by omega)
    | true =>
      have hll := hs rfl
      have e4 := Aside0.mk (add_in a j c d m.length hac h3 hj)
      have e5 := Aside0.mk (one_in j (by omega))
      rw [ite_t, e4.out, e5.out, if_pos (by omega), toRef_length, toRef_length, if_pos (by omega), if_pos (by omega)]
      rw [rd_ref, rd_ref]
      rw [Bool.true_and, eqF_succ] at HT HF
      exact ih k (j + 1) _ (by omega) (by omega) (fun _ => hll) HT HF

set_option maxHeartbeats 1000000 in
set_option maxRecDepth 20000 in
theorem ref_l0r (fresh : Bool) (l m : List S41) (c r : Nat) (hc : c ≤ 60) (hr : r ≤ 60) (hm : m.length = r * c) (h3 : m.length ≤ 300) (hg : ∀ i : Nat, i < m.length → Gd (rd_T41 m i)) (hl : fresh = false → l.length = m.length) (n : Nat) :
    ∀ (k i : Nat) (acc : List Int), i + n = r → 62 * n + 700 ≤ k → acc.length + 847 * n ≤ 100000 →
      stylusref23_Paint.l0 k (toRef l) (toRef m) r c (!fresh) acc i = some (acc ++ ns (rowsL fresh l m c n i)) := by
  induction n with
  | zero =>
    intro k i acc hi hk hL
    obtain ⟨k, rfl⟩ : ∃ q, k = q + 1 := ⟨k - 1, by omega⟩
    rw [stylusref23_Paint.l0, if_neg (by omega)]
    simp [rowsL, ns]
  | succ n ih =>
    intro k i acc hi hk hL
    obtain ⟨k, rfl⟩ : ∃ q, k = q + 1 := ⟨k - 1, by omega⟩
    obtain ⟨a, ha⟩ : ∃ a, a = i * c := ⟨_, rfl⟩
    have hac : a + c ≤ m.length := by
      rw [hm, ha, ← Nat.succ_mul]
      exact Nat.mul_le_mul_right _ (by omega)
    have E2 := Aside0.mk (mul_in i c a ha (Nat.le_trans (Nat.le_trans (Nat.le_add_right _ _) hac) (Nat.le_trans h3 (by decide))))
    have E3 := Aside0.mk (mul_in (i + 1) c (a + c) (mul_succ i c a ha) (Nat.le_trans hac (Nat.le_trans h3 (by decide))))
    have HA := Aside0.mk ha
    clear ha hm
    have hsl := seg_len m a c hac
    have hpl := paintL_len i (by omega) ((m.take (a + c)).drop a)
    rw [hsl] at hpl
    rw [stylusref23_Paint.l0, if_pos (by omega)]
    simp only [rowsL]
    rw [← HA.out]
    refine ref_l1 l m c r i a (!fresh) acc hc hr (by omega) hac h3 E2 E3 (62 * n + 700) _ c k 0 (!fresh) (by omega) (by omega) (fun h => hl (by cases fresh; rfl; cases h)) (fun h k' hk' => ?_) (fun h k' hk' => ?_)
    · rw [ih k' (i + 1) acc (by omega) hk' (by omega), if_pos (by exact h), List.nil_append]
    · rw [row_eq i (by omega) _ (by omega) (seg_gd m a c hg hac) acc (by omega) k' (by omega), Option.bind_some, ih k' (i + 1) _ (by omega) hk' (by rw [List.length_append, ns_length]; omega), if_neg (by have h' : (!fresh && eqF (rd_T41 l) (rd_T41 m) a c) = false := h; rw [h']; decide), ns_append, List.append_assoc]
end Go.Proofs.YtaicpljgijjenaaGreatDoor.Vp
