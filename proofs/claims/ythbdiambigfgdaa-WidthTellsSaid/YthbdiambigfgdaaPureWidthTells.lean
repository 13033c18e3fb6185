/- WidthTells: the width of any rune and of any runes, and how many fit, are what the document says; no condition. -/
import Derived.Test.YthbdiambigfgdaaPWidthTellsx3
import Derived.Test.YthbdiambigfgdaaWidthPlain
namespace Go.Proofs.Ythbdiambigfgdaa.Pure
open Go.RowKit Go.Proofs.Ythbdiambigfgdaa.PWidthTells Go.Proofs.YthbdiambigfgdaaW.PrintWords Go.Proofs.YthbdiambigfgdaaW.PrintLast
open Hand Wd

theorem of_eq (x : Int) (h : -2147483648 ≤ x ∧ x ≤ 2147483647) : width_Of.f x = some (ofW x) := by
  unfold width_Of.f; rw [wrap_of x (by omega)]

theorem rd_at (l : List Int) (i : Nat) (h : i < l.length) : rd l (i : Int) = l[i] := by
  simp [rd, h]

theorem text_l0 (l : List Int) (hl : l.length ≤ 1000) (hw : ∀ x ∈ l, -2147483648 ≤ x ∧ x ≤ 2147483647) (d : Nat) :
    ∀ (k i : Nat) (s : Int), i ≤ l.length → l.length - i = d → d < k → 0 ≤ s → s ≤ 2 * i → width_Text.l0 k s l l.length i = some (s + wsum (l.drop i)) := by
  induction d with
  | zero =>
    intro k i s h0 hd hk _ _
    obtain ⟨k, rfl⟩ : ∃ m, k = m + 1 := ⟨k - 1, by omega⟩
    simp only [width_Text.l0]
    rw [if_neg (by omega), List.drop_eq_nil_of_le (by omega)]; simp [wsum]
  | succ d ih =>
    intro k i s h0 hd hk hs hs2
    obtain ⟨k, rfl⟩ : ∃ m, k = m + 1 := ⟨k - 1, by omega⟩
    have hi : i < l.length := by omega
    have hx := ofW_range l[i]
    simp only [width_Text.l0]
    rw [if_pos (by omega), if_pos (by omega), if_pos (by omega), rd_at l i hi, of_eq _ (hw _ (List.getElem_mem hi))]
    simp only [Option.bind_some]
    rw [wrap_of _ (by omega), wrap_of _ (by omega), show ((i : Int) + 1) = ((i + 1 : Nat) : Int) by omega, ih k (i + 1) _ (by omega) (by omega) (by omega) (by omega) (by omega),
      List.drop_eq_getElem_cons hi]
    simp only [wsum]; congr 1; omega

theorem text_eq (l : List Int) (hl : l.length ≤ 1000) (hw : ∀ x ∈ l, -2147483648 ≤ x ∧ x ≤ 2147483647) (k : Nat) (hk : l.length < k) : width_Text.f k l = some (wsum l) := by
  unfold width_Text.f
  have := text_l0 l hl hw l.length k 0 0 (by omega) (by omega) hk (by omega) (by omega)
  simpa using this

theorem fit_l0 (l : List Int) (hl : l.length ≤ 1000) (hw : ∀ x ∈ l, -2147483648 ≤ x ∧ x ≤ 2147483647) (d : Nat) :
    ∀ (k i : Nat) (c : Int), i ≤ l.length → l.length - i = d → d < k → -1 ≤ c → c ≤ 9223372036854775807 → width_Fit.l0 k l c l l.length i = some ((i + fit (l.drop i) c : Nat) : Int) := by
  induction d with
  | zero =>
    intro k i c h0 hd hk _ _
    obtain ⟨k, rfl⟩ : ∃ m, k = m + 1 := ⟨k - 1, by omega⟩
    simp only [width_Fit.l0]
    rw [if_neg (by omega), List.drop_eq_nil_of_le (by omega)]; simp only [fit]; congr 1; omega
  | succ d ih =>
    intro k i c h0 hd hk hc hc2
    obtain ⟨k, rfl⟩ : ∃ m, k = m + 1 := ⟨k - 1, by omega⟩
    have hi : i < l.length := by omega
    have hx := ofW_range l[i]
    simp only [width_Fit.l0]
    rw [if_pos (by omega), if_pos (by omega), if_pos (by omega), rd_at l i hi, of_eq _ (hw _ (List.getElem_mem hi)), List.drop_eq_getElem_cons hi]
    simp only [Option.bind_some, fit]
    rw [wrap_of (c - ofW l[i]) (by omega), wrap_of _ (by omega)]
    by_cases hn : c - ofW l[i] < 0
    · rw [if_pos hn, if_pos hn]; simp
    · rw [if_neg hn, if_neg hn, show ((i : Int) + 1) = ((i + 1 : Nat) : Int) by omega, ih k (i + 1) _ (by omega) (by omega) (by omega) (by omega) (by omega)]
      congr 1; omega

theorem fit_eq (l : List Int) (hl : l.length ≤ 1000) (hw : ∀ x ∈ l, -2147483648 ≤ x ∧ x ≤ 2147483647) (c : Int) (hc : c ≤ 9223372036854775807) (k : Nat) (hk : l.length < k) :
    width_Fit.f k l c = some (fit l (max c (-1)) : Int) := by
  unfold width_Fit.f
  have e : mx c (-1) = max c (-1) := by unfold mx; omega
  have := fit_l0 l hl hw l.length k 0 (max c (-1)) (by omega) (by omega) hk (by omega) (by omega)
  rw [e]; simpa using this

theorem within_eq (a b c : Int) : stylusref02_within.f a b c = some (decide (b ≤ a ∧ a ≤ c)) := by
  unfold stylusref02_within.f; split <;> simp <;> omega

theorem j2_eq (k : Nat) (x : Int) (a b : Bool) : stylusref02_Of.j2 (k + 1) x a b = some (if a = true ∨ b = true ∨ (65504 ≤ x ∧ x ≤ 65510) ∨ (127744 ≤ x ∧ x ≤ 128591) ∨ (129280 ≤ x ∧ x ≤ 129535) ∨ (131072 ≤ x ∧ x ≤ 262141) then 2 else 1) := by
  simp only [stylusref02_Of.j2, within_eq, Option.bind_some, decide_eq_true_eq]
  by_cases h1 : 65504 ≤ x ∧ x ≤ 65510
  · simp [h1]
  by_cases h2 : 127744 ≤ x ∧ x ≤ 128591
  · simp [h1, h2]
  by_cases h3 : 129280 ≤ x ∧ x ≤ 129535
  · simp [h1, h2, h3]
  by_cases h4 : 131072 ≤ x ∧ x ≤ 262141
  · simp [h1, h2, h3, h4]
  · cases a <;> cases b <;> simp [h1, h2, h3, h4]

theorem j1_eq (k : Nat) (x : Int) (a : Bool) : stylusref02_Of.j1 (k + 2) x a = some (if a = true ∨ (44032 ≤ x ∧ x ≤ 55203) ∨ (63744 ≤ x ∧ x ≤ 64255) ∨ (65072 ≤ x ∧ x ≤ 65135) ∨ (65280 ≤ x ∧ x ≤ 65376) ∨ (65504 ≤ x ∧ x ≤ 65510) ∨ (127744 ≤ x ∧ x ≤ 128591) ∨ (129280 ≤ x ∧ x ≤ 129535) ∨ (131072 ≤ x ∧ x ≤ 262141) then 2 else 1) := by
  rw [show k + 2 = k + 1 + 1 from rfl]
  simp only [stylusref02_Of.j1, within_eq, Option.bind_some, decide_eq_true_eq, j2_eq]
  by_cases h1 : 44032 ≤ x ∧ x ≤ 55203
  · simp [h1]
  by_cases h2 : 63744 ≤ x ∧ x ≤ 64255
  · simp [h1, h2]
  by_cases h3 : 65072 ≤ x ∧ x ≤ 65135
  · simp [h1, h2, h3]
  by_cases h4 : 65280 ≤ x ∧ x ≤ 65376
  · simp [h1, h2, h3, h4]
  · simp [h1, h2, h3, h4]

theorem j0_eq (k : Nat) (x : Int) (z : Bool) : stylusref02_Of.j0 (k + 3) x z = some (if z = true then 0 else if (4352 ≤ x ∧ x ≤ 4447) ∨ (11904 ≤ x ∧ x ≤ 12350) ∨ (12353 ≤ x ∧ x ≤ 19903) ∨ (19968 ≤ x ∧ x ≤ 42191) ∨ (44032 ≤ x ∧ x ≤ 55203) ∨ (63744 ≤ x ∧ x ≤ 64255) ∨ (65072 ≤ x ∧ x ≤ 65135) ∨ (65280 ≤ x ∧ x ≤ 65376) ∨ (65504 ≤ x ∧ x ≤ 65510) ∨ (127744 ≤ x ∧ x ≤ 128591) ∨ (129280 ≤ x ∧ x ≤ 129535) ∨ (131072 ≤ x ∧ x ≤ 262141) then 2 else 1) := by
  rw [show k + 3 = k + 2 + 1 from rfl]
  simp only [stylusref02_Of.j0, within_eq, Option.bind_some, decide_eq_true_eq, j1_eq]
  cases z
  · by_cases h1 : 4352 ≤ x ∧ x ≤ 4447
    · simp [h1]
    by_cases h2 : 11904 ≤ x ∧ x ≤ 12350
    · simp [h1, h2]
    by_cases h3 : 12353 ≤ x ∧ x ≤ 19903
    · simp [h1, h2, h3]
    by_cases h4 : 19968 ≤ x ∧ x ≤ 42191
    · simp [h1, h2, h3, h4]
    · simp [h1, h2, h3, h4]
  · simp

theorem refOf_eq (x : Int) (k : Nat) (hk : 3 ≤ k) : stylusref02_Of.f k x = some (ofW x) := by
  obtain ⟨k, rfl⟩ : ∃ m, k = m + 3 := ⟨k - 3, by omega⟩
  unfold stylusref02_Of.f ofW
  simp only [within_eq, Option.bind_some, decide_eq_true_eq, j0_eq]
  by_cases h1 : 768 ≤ x ∧ x ≤ 879
  · simp [h1]
  by_cases h2 : 8203 ≤ x ∧ x ≤ 8207
  · simp [h1, h2]
  by_cases h3 : 65024 ≤ x ∧ x ≤ 65039
  · simp [h1, h2, h3]
  · simp [h1, h2, h3]

theorem refText_l0 (l : List Int) (hl : l.length ≤ 1000) (d : Nat) :
    ∀ (k i : Nat) (s : Int), i ≤ l.length → l.length - i = d → d + 3 < k → 0 ≤ s → s ≤ 2 * i → stylusref02_Text.l0 k l s i = some (s + wsum (l.drop i)) := by
  induction d with
  | zero =>
    intro k i s h0 hd hk _ _
    obtain ⟨k, rfl⟩ : ∃ m, k = m + 1 := ⟨k - 1, by omega⟩
    simp only [stylusref02_Text.l0]
    rw [if_neg (by omega), List.drop_eq_nil_of_le (by omega)]; simp [wsum]
  | succ d ih =>
    intro k i s h0 hd hk hs hs2
    obtain ⟨k, rfl⟩ : ∃ m, k = m + 1 := ⟨k - 1, by omega⟩
    have hi : i < l.length := by omega
    have hx := ofW_range l[i]
    simp only [stylusref02_Text.l0]
    rw [if_pos (by omega), if_pos (by omega), rd_at l i hi, refOf_eq _ k (by omega)]
    simp only [Option.bind_some]
    rw [wrap_of _ (by omega), wrap_of _ (by omega), show ((i : Int) + 1) = ((i + 1 : Nat) : Int) by omega, ih k (i + 1) _ (by omega) (by omega) (by omega) (by omega) (by omega),
      List.drop_eq_getElem_cons hi]
    simp only [wsum]; congr 1; omega

theorem refText_eq (l : List Int) (hl : l.length ≤ 1000) (k : Nat) (hk : l.length + 3 < k) : stylusref02_Text.f k l = some (wsum l) := by
  unfold stylusref02_Text.f
  have := refText_l0 l hl l.length k 0 0 (by omega) (by omega) hk (by omega) (by omega)
  simpa using this

theorem refFit_l0 (l : List Int) (hl : l.length ≤ 1000) (c : Int) (d : Nat) :
    ∀ (k i : Nat) (best : Int), i ≤ l.length + 1 → l.length + 1 - i = d → d + l.length + 4 < k → best = (min (i - 1) (fit l (max c (-1))) : Nat) →
      stylusref02_Fit.l0 k l c best i = some (fit l (max c (-1)) : Int) := by
  have hf := fit_le l (max c (-1))
  induction d with
  | zero =>
    intro k i best h0 hd hk hb
    obtain ⟨k, rfl⟩ : ∃ m, k = m + 1 := ⟨k - 1, by omega⟩
    simp only [stylusref02_Fit.l0]
    rw [if_neg (by omega), hb]; congr 1; omega
  | succ d ih =>
    intro k i best h0 hd hk hb
    obtain ⟨k, rfl⟩ : ∃ m, k = m + 1 := ⟨k - 1, by omega⟩
    have hi : i ≤ l.length := by omega
    simp only [stylusref02_Fit.l0]
    rw [if_pos (by omega), if_pos (by omega), Int.toNat_natCast, refText_eq (l.take i) (by simp; omega) k (by simp; omega)]
    simp only [Option.bind_some]
    rw [wrap_of _ (by omega), show ((i : Int) + 1) = ((i + 1 : Nat) : Int) by omega]
    by_cases hc : 0 ≤ c
    · have e : max c (-1) = c := by omega
      rw [e] at hb hf ih ⊢
      have hfi := fit_iff l c hc i hi
      by_cases h : wsum (l.take i) ≤ c
      · rw [if_pos h]; exact ih k (i + 1) _ (by omega) (by omega) (by omega) (by omega)
      · rw [if_neg h]; exact ih k (i + 1) _ (by omega) (by omega) (by omega) (by omega)
    · have h := wsum_range (l.take i)
      have h0 := fit_neg l (max c (-1)) (by omega)
      rw [if_neg (by omega)]; exact ih k (i + 1) _ (by omega) (by omega) (by omega) (by omega)

theorem refFit_eq (l : List Int) (hl : l.length ≤ 1000) (c : Int) (k : Nat) (hk : 2 * l.length + 5 < k) : stylusref02_Fit.f k l c = some (fit l (max c (-1)) : Int) := by
  unfold stylusref02_Fit.f
  exact refFit_l0 l hl c (l.length + 1) k 0 0 (by omega) (by omega) (by omega) (by simp)

theorem knows_eq (k : Nat) (hk : 3 < k) : styluslaw02_knows.f k = some true := by
  have b : ∀ x ∈ ([20013, 97, 769] : List Int), -2147483648 ≤ x ∧ x ≤ 2147483647 := by simp
  unfold styluslaw02_knows.f
  simp only [Option.bind_some]
  rw [of_eq _ (by omega), of_eq _ (by omega), of_eq _ (by omega), text_eq _ (by simp) b k (by simpa using hk), fit_eq _ (by simp) b 2 (by omega) k (by simpa using hk)]
  decide

theorem WidthTells : styluslaw02_WidthTells.Pure := by
  intro r l c hr _ _ hl hc
  have hw : ∀ x ∈ l, -2147483648 ≤ x ∧ x ≤ 2147483647 := fun x hx => i32_of x (hl x hx)
  have hc' := i64_of c hc
  refine ⟨2 * l.length + 10, ?_⟩
  unfold styluslaw02_WidthTells.f
  rw [knows_eq _ (by omega)]
  by_cases h : (l.length : Int) > 200
  · rw [if_pos h]; rfl
  · rw [if_neg h, of_eq r (i32_of r hr), refOf_eq r _ (by omega)]
    simp only [Option.bind_some, if_true]
    rw [text_eq l (by omega) hw _ (by omega), refText_eq l (by omega) _ (by omega), fit_eq l (by omega) hw c hc'.2 _ (by omega), refFit_eq l (by omega) c _ (by omega)]
    simp

end Go.Proofs.Ythbdiambigfgdaa.Pure
