/- WidthAdds: widths add up; what fits is no wider, and with the next one, if there is one, wider; no condition. -/
import Derived.Test.YthbdiambigfgdaaPWidthAddsx2
import Derived.Test.YthbdiambigfgdaaWidthPlain
namespace Go.Proofs.Ythbdiambigfgdaa.Pure
open Go.RowKit Go.Proofs.Ythbdiambigfgdaa.PWidthAdds Go.Proofs.YthbdiambigfgdaaW.PrintWords Go.Proofs.YthbdiambigfgdaaW.PrintLast
open Hand Wd

theorem of_eq (x : Int) (h : -2147483648 ≤ x ∧ x ≤ 2147483647) : width_Of.f x = some (ofW x) := by
  unfold width_Of.f; rw [wrap_of x (by omega)]

theorem rd_at (l : List Int) (i : Nat) (h : i < l.length) : rd l (i : Int) = l[i] := by
  simp [rd, h]

theorem text_l0 (l : List Int) (hl : l.length ≤ 1000) (hw : ∀ x ∈ l, -2147483648 ≤ x ∧ x ≤ 2147483647) (d : Nat) :
    ∀ (k i : Nat) (s : Int), i ≤ l.length → l.length - i = d → d < k → 0 ≤ s → s ≤ 2 * i → width_Text.l0 k s l l.length i = some (s + wsum (l.drop i)) := by
  induction d with
  | zero =>
    intro k i s h0 hd hk _ _
    obtain ⟨k, rfl⟩ : ∃ m, k = m + 1 := ⟨k - 1, by omega⟩
    simp only [width_Text.l0]
    rw [if_neg (by omega), List.drop_eq_nil_of_le (by omega)]; simp [wsum]
  | succ d ih =>
    intro k i s h0 hd hk hs hs2
    obtain ⟨k, rfl⟩ : ∃ m, k = m + 1 := ⟨k - 1, by omega⟩
    have hi : i < l.length := by omega
    have hx := ofW_range l[i]
    simp only [width_Text.l0]
    rw [if_pos (by omega), if_pos (by omega), if_pos (by omega), rd_at l i hi, of_eq _ (hw _ (List.getElem_mem hi))]
    simp only [Option.bind_some]
    rw [wrap_of _ (by omega), wrap_of _ (by omega), show ((i : Int) + 1) = ((i + 1 : Nat) : Int) by omega, ih k (i + 1) _ (by omega) (by omega) (by omega) (by omega) (by omega),
      List.drop_eq_getElem_cons hi]
    simp only [wsum]; congr 1; omega

theorem text_eq (l : List Int) (hl : l.length ≤ 1000) (hw : ∀ x ∈ l, -2147483648 ≤ x ∧ x ≤ 2147483647) (k : Nat) (hk : l.length < k) : width_Text.f k l = some (wsum l) := by
  unfold width_Text.f
  have := text_l0 l hl hw l.length k 0 0 (by omega) (by omega) hk (by omega) (by omega)
  simpa using this

theorem fit_l0 (l : List Int) (hl : l.length ≤ 1000) (hw : ∀ x ∈ l, -2147483648 ≤ x ∧ x ≤ 2147483647) (d : Nat) :
    ∀ (k i : Nat) (c : Int), i ≤ l.length → l.length - i = d → d < k → -1 ≤ c → c ≤ 9223372036854775807 → width_Fit.l0 k l c l l.length i = some ((i + fit (l.drop i) c : Nat) : Int) := by
  induction d with
  | zero =>
    intro k i c h0 hd hk _ _
    obtain ⟨k, rfl⟩ : ∃ m, k = m + 1 := ⟨k - 1, by omega⟩
    simp only [width_Fit.l0]
    rw [if_neg (by omega), List.drop_eq_nil_of_le (by omega)]; simp only [fit]; congr 1; omega
  | succ d ih =>
    intro k i c h0 hd hk hc hc2
    obtain ⟨k, rfl⟩ : ∃ m, k = m + 1 := ⟨k - 1, by omega⟩
    have hi : i < l.length := by omega
    have hx := ofW_range l[i]
    simp only [width_Fit.l0]
    rw [if_pos (by omega), if_pos (by omega), if_pos (by omega), rd_at l i hi, of_eq _ (hw _ (List.getElem_mem hi)), List.drop_eq_getElem_cons hi]
    simp only [Option.bind_some, fit]
    rw [wrap_of (c - ofW l[i]) (by omega), wrap_of _ (by omega)]
    by_cases hn : c - ofW l[i] < 0
    · rw [if_pos hn, if_pos hn]; simp
    · rw [if_neg hn, if_neg hn, show ((i : Int) + 1) = ((i + 1 : Nat) : Int) by omega, ih k (i + 1) _ (by omega) (by omega) (by omega) (by omega) (by omega)]
      congr 1; omega

theorem fit_eq (l : List Int) (hl : l.length ≤ 1000) (hw : ∀ x ∈ l, -2147483648 ≤ x ∧ x ≤ 2147483647) (c : Int) (hc : c ≤ 9223372036854775807) (k : Nat) (hk : l.length < k) :
    width_Fit.f k l c = some (fit l (max c (-1)) : Int) := by
  unfold width_Fit.f
  have e : mx c (-1) = max c (-1) := by unfold mx; omega
  have := fit_l0 l hl hw l.length k 0 (max c (-1)) (by omega) (by omega) hk (by omega) (by omega)
  rw [e]; simpa using this

theorem knows_eq (k : Nat) (hk : 3 < k) : styluslaw02_knows.f k = some true := by
  have b : ∀ x ∈ ([20013, 97, 769] : List Int), -2147483648 ≤ x ∧ x ≤ 2147483647 := by simp
  unfold styluslaw02_knows.f
  simp only [Option.bind_some]
  rw [of_eq _ (by omega), of_eq _ (by omega), of_eq _ (by omega), text_eq _ (by simp) b k (by simpa using hk), fit_eq _ (by simp) b 2 (by omega) k (by simpa using hk)]
  decide

theorem WidthAdds : styluslaw02_WidthAdds.Pure := by
  intro l at_ c _ _ hl ha hc
  have hw : ∀ x ∈ l, -2147483648 ≤ x ∧ x ≤ 2147483647 := fun x hx => i32_of x (hl x hx)
  have ha' := u16_of _ ha
  have hc' := u16_of c hc
  refine ⟨2 * l.length + 10, ?_⟩
  unfold styluslaw02_WidthAdds.f
  rw [knows_eq _ (by omega)]
  by_cases h : (l.length : Int) > 500
  · rw [if_pos h]; rfl
  · rw [if_neg h, wrap_of _ (by omega), if_neg (by omega), wrap_of at_ (by omega), wrap_of c (by omega)]
    have e0 : Int.tmod at_ ((l.length : Int) + 1) = at_ % ((l.length : Int) + 1) := Int.tmod_eq_emod_of_nonneg (by omega)
    have e1 := Int.emod_nonneg at_ (show ((l.length : Int) + 1) ≠ 0 by omega)
    have e2 := Int.emod_lt_of_pos at_ (show (0 : Int) < (l.length : Int) + 1 by omega)
    rw [e0]
    obtain ⟨i, hi⟩ : ∃ i : Nat, at_ % ((l.length : Int) + 1) = i := ⟨(at_ % ((l.length : Int) + 1)).toNat, by omega⟩
    rw [hi] at e1 e2 ⊢
    have hwt : ∀ n, ∀ x ∈ l.take n, -2147483648 ≤ x ∧ x ≤ 2147483647 := fun n x hx => hw x (List.mem_of_mem_take hx)
    have hwd : ∀ n, ∀ x ∈ l.drop n, -2147483648 ≤ x ∧ x ≤ 2147483647 := fun n x hx => hw x (List.mem_of_mem_drop hx)
    have hr := wsum_range l
    rw [if_pos (by omega), if_pos (by omega), Int.toNat_natCast, text_eq (l.take i) (by simp; omega) (hwt i) _ (by simp; omega), text_eq (l.drop i) (by simp; omega) (hwd i) _ (by simp; omega),
      text_eq l (by omega) hw _ (by omega)]
    simp only [Option.bind_some]
    rw [wsum_split l i, wrap_of _ (by omega), if_pos rfl, fit_eq l (by omega) hw c (by omega) _ (by omega)]
    have e3 : max c (-1) = c := by omega
    have hf := fit_le l c
    have hq := fit_iff l c hc'.1
    rw [e3]
    simp only [Option.bind_some]
    rw [if_neg (by omega), if_neg (by omega), if_pos (by omega), if_pos (by omega), Int.toNat_natCast, text_eq (l.take (fit l c)) (by simp; omega) (hwt _) _ (by simp; omega)]
    simp only [Option.bind_some]
    have h1 := (hq (fit l c) hf).2 (Nat.le_refl _)
    have h2 := hq (fit l c + 1)
    rw [show 2 * l.length + 10 = (2 * l.length + 9) + 1 by omega]
    simp only [styluslaw02_WidthAdds.j0]
    rw [if_neg (by simp only [decide_eq_true_eq]; omega), knows_eq _ (by omega)]
    by_cases hn : ((fit l c : Nat) : Int) = l.length
    · rw [if_pos hn]; rfl
    · have h3 := h2 (by omega)
      rw [if_neg hn, wrap_of _ (by omega), if_pos (by omega), if_pos (by omega), show (((fit l c : Nat) : Int) + 1).toNat = fit l c + 1 by omega,
        text_eq (l.take (fit l c + 1)) (by simp; omega) (hwt _) _ (by simp; omega)]
      simp only [Option.bind_some]
      rw [wrap_of c (by omega), if_pos (by omega)]

end Go.Proofs.Ythbdiambigfgdaa.Pure
