/- Plain facts on widths of runes: sums over lists, and how many fit. No condition. -/
import Derived.Test.YthbdiambigfgdaaHandWidth
namespace Go.Proofs.Ythbdiambigfgdaa.Wd
open Go.RowKit Hand

theorem ofW_range (x : Int) : 0 ≤ ofW x ∧ ofW x ≤ 2 := by unfold ofW; split <;> (try split) <;> omega

def wsum : List Int → Int
  | [] => 0
  | x :: l => ofW x + wsum l

theorem wsum_range (l : List Int) : 0 ≤ wsum l ∧ wsum l ≤ 2 * l.length := by
  induction l with
  | nil => simp [wsum]
  | cons x l ih => have := ofW_range x; simp only [wsum, List.length_cons]; omega

theorem wsum_append (a b : List Int) : wsum (a ++ b) = wsum a + wsum b := by
  induction a with
  | nil => simp [wsum]
  | cons x a ih => simp only [List.cons_append, wsum, ih]; omega

theorem wsum_split (l : List Int) (i : Nat) : wsum (l.take i) + wsum (l.drop i) = wsum l := by
  rw [← wsum_append, List.take_append_drop]

def fit : List Int → Int → Nat
  | [], _ => 0
  | x :: l, c => if c - ofW x < 0 then 0 else fit l (c - ofW x) + 1

theorem fit_le (l : List Int) (c : Int) : fit l c ≤ l.length := by
  induction l generalizing c with
  | nil => simp [fit]
  | cons x l ih => simp only [fit, List.length_cons]; split; · omega
                   · have := ih (c - ofW x); omega

theorem fit_iff (l : List Int) (c : Int) (hc : 0 ≤ c) (i : Nat) (hi : i ≤ l.length) : wsum (l.take i) ≤ c ↔ i ≤ fit l c := by
  induction l generalizing c i with
  | nil => simp at hi; subst hi; simp [wsum, fit, hc]
  | cons x l ih =>
    cases i with
    | zero => simp [wsum, hc]
    | succ i =>
      simp only [List.take_succ_cons, wsum, fit]
      have h0 := wsum_range (l.take i)
      split
      · omega
      · have := ih (c - ofW x) (by omega) i (by simp at hi; omega); omega

theorem fit_neg (l : List Int) (c : Int) (hc : c < 0) : fit l c = 0 := by
  cases l with
  | nil => rfl
  | cons x l => have := ofW_range x; simp only [fit]; rw [if_pos (by omega)]

/-- A rune's own bounds, out of what the row tells of it. -/
theorem i32_of (x : Int) (h : (Lit.int .i32 x).wf = true) : -2147483648 ≤ x ∧ x ≤ 2147483647 := by
  simp [Lit.wf, IntKind.min, IntKind.max, IntKind.signed, IntKind.bits] at h; exact ⟨by omega, by omega⟩
theorem i64_of (x : Int) (h : (Lit.int .i64 x).wf = true) : -9223372036854775808 ≤ x ∧ x ≤ 9223372036854775807 := by
  simp [Lit.wf, IntKind.min, IntKind.max, IntKind.signed, IntKind.bits] at h; exact ⟨by omega, by omega⟩
theorem u16_of (x : Int) (h : (Lit.int .u16 x).wf = true) : 0 ≤ x ∧ x ≤ 65535 := by
  simp [Lit.wf, IntKind.min, IntKind.max, IntKind.signed, IntKind.bits] at h; exact ⟨by omega, by omega⟩
theorem wrap_of (x : Int) (h : -9223372036854775808 ≤ x ∧ x ≤ 9223372036854775807) : wrap64 x = x := by unfold wrap64; omega
end Go.Proofs.Ythbdiambigfgdaa.Wd
