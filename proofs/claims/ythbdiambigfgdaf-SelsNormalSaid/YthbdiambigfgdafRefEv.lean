/- The document's Normal: what its loops come to. -/
import Derived.Test.YthbdiambigfgdafRefPlain
import Derived.Test.YthbdiambigfgdafPSelsNormalx10
import Derived.Test.YthbdiambigfgdafPSelsNormalx11
namespace Go.Proofs.Ythbdiambigfgdaf.Sort
open Go.RowKit Go.Proofs.Ythbdiambigfgdaf.PSelsNormal Go.Proofs.YthbdiambigfgdafW.PrintWords Go.Proofs.YthbdiambigfgdafW.PrintLast Go.Proofs.YthbdiambigfgdafW.PrintMore
set_option linter.unusedVariables false
set_option linter.unusedSimpArgs false

theorem rd48_nat (g : List S48) (i : Nat) : rd_T48 g (i : Int) = g.getD i z48 := by simp [rd_T48]
theorem wr1 (i : Nat) (h : i < 100000000) : wrap64 ((i : Int) + 1) = ((i + 1 : Nat) : Int) := by rw [w64] <;> omega
theorem lo_ev (s : S24) : stylusref11_Low.f s.f0 s.f1 = some (lo s) := low_eq _ _
theorem hi_ev (s : S24) : stylusref11_High.f s.f0 s.f1 = some (hi s) := high_eq _ _

theorem ahead_ev (own : List S24) (a b : Int) (ha : a < own.length) (hb : b < own.length) : Ev fun k => stylusref11_ahead.f k own a b = some (ahd own a b) := by
  refine Ev.step0 fun k => ?_
  simp only [stylusref11_ahead.f, stylusref11_ahead.j0]
  unfold ahd
  by_cases h1 : a < 0
  · rw [if_pos h1, if_pos trivial, if_pos h1]
  · rw [if_neg h1, if_neg h1]
    by_cases h2 : b < 0
    · rw [if_pos (by simpa using h2), if_pos h2]; simp [h2]
    · rw [if_neg (by simpa using h2), if_neg h2, if_pos (by omega), if_pos ha, lo_ev, Option.bind_some, if_pos (by omega), if_pos hb, lo_ev, Option.bind_some]
      by_cases h3 : lo (rd_T24 own a) = lo (rd_T24 own b)
      · rw [if_pos h3, if_pos h3, hi_ev, Option.bind_some, hi_ev, Option.bind_some]
        by_cases h4 : hi (rd_T24 own a) = hi (rd_T24 own b)
        · rw [if_pos h4, if_pos h4]
        · rw [if_neg h4, if_neg h4, Option.bind_some, Option.bind_some]
      · rw [if_neg h3, if_neg h3, Option.bind_some, Option.bind_some]

/-- Behind a meeting all loops end. -/
theorem met_ev (own : List S24) (g : List S48) (i : Int) (k : Int) (X : List S24) (h : Ev fun k => stylusref11_Normal.l1 k own g = some X) : Ev fun n => stylusref11_Normal.l3 n own g true i k = some X := by
  have h5 : ∀ i, Ev fun n => stylusref11_Normal.l2 n own g true i = some X := by
    intro i
    have h4 : Ev fun n => stylusref11_Normal.j5 n own g true i false = some X := h.step fun n hn => by
      simp only [stylusref11_Normal.j5]
      rw [if_neg (by decide), if_pos trivial]; exact hn
    refine h4.step fun n hn => ?_
    simp only [stylusref11_Normal.l2]
    split <;> exact hn
  have h7 : Ev fun n => stylusref11_Normal.j7 n own g true i k false = some X := (h5 (wrap64 (i + 1))).step fun n hn => by
    simp only [stylusref11_Normal.j7]
    rw [if_neg (by decide)]; exact hn
  refine h7.step fun n hn => ?_
  simp only [stylusref11_Normal.l3]
  split <;> exact hn

theorem erase_take (g : List S48) (k : Nat) : [] ++ g.take k ++ g.drop (k + 1) = g.eraseIdx k := by
  rw [List.nil_append, List.eraseIdx_eq_take_drop_succ]

theorem j11_ev (own : List S24) (g : List S48) (i : Int) (k : Nat) (hg : g.length < 1000000) (hk : k < g.length) (X : List S24) (h : Ev fun n => stylusref11_Normal.l1 n own (g.eraseIdx k) = some X) :
    Ev fun n => stylusref11_Normal.j11 n own g true i k = some X := by
  refine (met_ev own (g.eraseIdx k) i ((k + 1 : Nat) : Int) X h).step fun n hn => ?_
  simp only [stylusref11_Normal.j11]
  have e1 : ((k : Int)).toNat = k := by omega
  have e2 : (((k + 1 : Nat) : Int)).toNat = k + 1 := by omega
  rw [Option.bind_some, if_pos (by omega), if_pos (by omega), Option.bind_some, wr1 k (by omega), e1, e2]
  rw [if_pos (by simp only [List.length_nil, List.length_take]; omega), Option.bind_some, if_pos (by omega), if_pos (by omega), Option.bind_some]
  rw [if_pos (by simp only [List.length_append, List.length_nil, List.length_take, List.length_drop]; omega), erase_take]
  exact hn

theorem set_get {g : List S48} {i : Nat} (h : i < g.length) : g.set i (g.getD i z48) = g := by
  apply List.ext_getElem (by simp)
  intro j h1 h2
  rw [List.getElem_set]
  split
  · rename_i e; subst e; simp [List.getD_eq_getElem?_getD, h2]
  · rfl
theorem getD_set_ne {g : List S48} {i k : Nat} (v : S48) (h : i ≠ k) : (g.set i v).getD k z48 = g.getD k z48 := by
  simp [List.getD_eq_getElem?_getD, List.getElem?_set_ne h]
theorem getD_set_eq {g : List S48} {i : Nat} (v : S48) (h : i < g.length) : (g.set i v).getD i z48 = v := by
  simp [List.getD_eq_getElem?_getD, List.getElem?_set_self h]

/-- Two that touch become one. -/
theorem j8_ev (own : List S24) (g : List S48) (i k : Nat) (hg : g.length < 1000000) (hik : i < k) (hk : k < g.length) (hw : ∀ A ∈ g, A.f2 < own.length) (X : List S24)
    (h : Ev fun n => stylusref11_Normal.l1 n own (stp own g i k) = some X) : Ev fun n => stylusref11_Normal.j8 n own g false i k false = some X := by
  have hi : i < g.length := by omega
  have wA := hw _ (getD_mem hi)
  have wB := hw _ (getD_mem hk)
  unfold stp at h
  generalize hcA : g.getD i z48 = A at *
  generalize hcB : g.getD k z48 = B at *
  have ti : ∀ v : S48, ((i : Int)).toNat = i := fun _ => by omega
  -- the third store
  have s3 : ∀ g' : List S48, g'.length = g.length → g'.getD k z48 = B → (g'.getD i z48).f2 = A.f2 → (g'.set i ⟨(g'.getD i z48).f0, (g'.getD i z48).f1, (mrg own A B).f2⟩) = g.set i (mrg own A B) →
      Ev fun n => stylusref11_Normal.j10 n own g' true i k = some X := by
    intro g' hl hB hA2 hs
    have ha := ahead_ev own B.f2 A.f2 wB wA
    cases hb : ahd own B.f2 A.f2 with
    | true =>
      have hj := j11_ev own (g.set i (mrg own A B)) i k (by simpa using hg) (by simpa using hk) X h
      refine (hj.and ha).step fun n hn => ?_
      obtain ⟨h1, h2⟩ := hn
      simp only [stylusref11_Normal.j10]
      rw [if_pos (by omega), if_pos (by omega), if_pos (by omega), if_pos (by omega), rd48_nat, rd48_nat, hB, hA2, h2, Option.bind_some, hb, if_pos rfl, Int.toNat_natCast]
      have em : (mrg own A B).f2 = B.f2 := by show (if _ then _ else _) = _; rw [if_pos hb]
      rw [em] at hs
      rw [hs]
      exact h1
    | false =>
      have em : (mrg own A B).f2 = A.f2 := by show (if _ then _ else _) = _; rw [if_neg (by rw [hb]; decide)]
      have e' : g' = g.set i (mrg own A B) := by
        rw [em, ← hA2] at hs
        rw [← hs]
        exact (set_get (g := g') (by omega)).symm
      have hj := j11_ev own (g.set i (mrg own A B)) i k (by simpa using hg) (by simpa using hk) X h
      rw [← e'] at hj
      refine (hj.and ha).step fun n hn => ?_
      obtain ⟨h1, h2⟩ := hn
      simp only [stylusref11_Normal.j10]
      rw [if_pos (by omega), if_pos (by omega), if_pos (by omega), if_pos (by omega), rd48_nat, rd48_nat, hB, hA2, h2, Option.bind_some, hb, if_neg (by decide)]
      exact h1
  -- the second store
  have s2 : ∀ g' : List S48, g'.length = g.length → g'.getD k z48 = B → (g'.getD i z48).f1 = A.f1 → (g'.getD i z48).f2 = A.f2 → (g'.set i ⟨(g'.getD i z48).f0, (mrg own A B).f1, (mrg own A B).f2⟩) = g.set i (mrg own A B) →
      Ev fun n => stylusref11_Normal.j9 n own g' true i k = some X := by
    intro g' hl hB hA1 hA2 hs
    by_cases hb : B.f1 > A.f1
    · have em : (mrg own A B).f1 = B.f1 := by show (if _ then _ else _) = _; rw [if_pos hb]
      refine (s3 (g'.set i ⟨(g'.getD i z48).f0, B.f1, (g'.getD i z48).f2⟩) (by simpa using hl) (by rw [getD_set_ne _ (by omega)]; exact hB) (by rw [getD_set_eq _ (by omega)]; exact hA2) (by rw [getD_set_eq _ (by omega), List.set_set, ← em]; exact hs)).step fun n hn => ?_
      simp only [stylusref11_Normal.j9]
      rw [if_pos (by omega), if_pos (by omega), if_pos (by omega), if_pos (by omega), rd48_nat, rd48_nat, hB, hA1, if_pos hb, Int.toNat_natCast]
      exact hn
    · have em : (mrg own A B).f1 = A.f1 := by show (if _ then _ else _) = _; rw [if_neg hb]
      refine (s3 g' hl hB hA2 (by rw [em, ← hA1] at hs; exact hs)).step fun n hn => ?_
      simp only [stylusref11_Normal.j9]
      rw [if_pos (by omega), if_pos (by omega), if_pos (by omega), if_pos (by omega), rd48_nat, rd48_nat, hB, hA1, if_neg hb]
      exact hn
  by_cases hb : B.f0 < A.f0
  · have em : (mrg own A B).f0 = B.f0 := by show (if _ then _ else _) = _; rw [if_pos hb]
    refine (s2 (g.set i ⟨B.f0, A.f1, A.f2⟩) (by simp) (by rw [getD_set_ne _ (by omega)]; exact hcB) (by rw [getD_set_eq _ hi]) (by rw [getD_set_eq _ hi]) (by rw [getD_set_eq _ hi, List.set_set, ← em])).step fun n hn => ?_
    simp only [stylusref11_Normal.j8]
    rw [if_neg (by decide), if_pos (by omega), if_pos (by omega), if_pos (by omega), if_pos (by omega), rd48_nat, rd48_nat, hcA, hcB, if_pos hb, Int.toNat_natCast]
    exact hn
  · have em : (mrg own A B).f0 = A.f0 := by show (if _ then _ else _) = _; rw [if_neg hb]
    refine (s2 g rfl hcB (by rw [hcA]) (by rw [hcA]) (by rw [hcA, ← em])).step fun n hn => ?_
    simp only [stylusref11_Normal.j8]
    rw [if_neg (by decide), if_pos (by omega), if_pos (by omega), if_pos (by omega), if_pos (by omega), rd48_nat, rd48_nat, hcA, hcB, if_neg hb]
    exact hn

theorem l3_ev (own : List S24) (g : List S48) (hg : g.length < 1000000) (hw : ∀ A ∈ g, A.f2 < own.length) (i : Nat) (hi : i < g.length) (X : List S24) : ∀ (d k : Nat), g.length - k ≤ d → i < k → k ≤ g.length →
    (∀ k', k ≤ k' → k' < g.length → tch (g.getD i z48) (g.getD k' z48) → Ev fun n => stylusref11_Normal.l1 n own (stp own g i k') = some X) →
    ((∀ k', k ≤ k' → k' < g.length → ¬ tch (g.getD i z48) (g.getD k' z48)) → Ev fun n => stylusref11_Normal.l2 n own g false ((i + 1 : Nat) : Int) = some X) →
    Ev fun n => stylusref11_Normal.l3 n own g false i k = some X := by
  intro d
  induction d with
  | zero =>
    intro k hd hik hkl _ h2
    have h := h2 (fun k' h1 h2 => by omega)
    have h7 : Ev fun n => stylusref11_Normal.j7 n own g false i k false = some X := h.step fun n hn => by
      simp only [stylusref11_Normal.j7]
      rw [if_neg (by decide), wr1 i (by omega)]; exact hn
    refine h7.step fun n hn => ?_
    simp only [stylusref11_Normal.l3]
    rw [if_neg (by omega)]; exact hn
  | succ d ih =>
    intro k hd hik hkl h1 h2
    by_cases hk : k < g.length
    · have key : Ev fun n => stylusref11_Normal.j8 n own g false i k (decide (¬ tch (g.getD i z48) (g.getD k z48))) = some X := by
        by_cases ht : tch (g.getD i z48) (g.getD k z48)
        · rw [decide_eq_false (by simpa using ht)]
          exact j8_ev own g i k hg hik hk hw X (h1 k (Nat.le_refl _) hk ht)
        · rw [decide_eq_true ht]
          refine (ih (k + 1) (by omega) (by omega) (by omega) (fun k' a b c => h1 k' (by omega) b c) (fun a => h2 fun k' b c => ?_)).step fun n hn => ?_
          · by_cases e : k' = k
            · subst e; exact ht
            · exact a k' (by omega) c
          · simp only [stylusref11_Normal.j8]
            rw [if_pos trivial, wr1 k (by omega)]; exact hn
      have h7 : Ev fun n => stylusref11_Normal.j7 n own g false i k true = some X := key.step fun n hn => by
        simp only [stylusref11_Normal.j7]
        rw [if_pos trivial, if_pos (by omega), if_pos (by omega), if_pos (by omega), if_pos (by omega), rd48_nat, rd48_nat]
        by_cases ha : (g.getD i z48).f0 > (g.getD k z48).f1
        · rw [if_pos ha]
          have : (decide (¬ tch (g.getD i z48) (g.getD k z48))) = true := decide_eq_true (by unfold tch; omega)
          rw [this] at hn; exact hn
        · rw [if_neg ha]
          have : (decide (¬ tch (g.getD i z48) (g.getD k z48))) = decide ((g.getD k z48).f0 > (g.getD i z48).f1) := by
            apply decide_eq_decide.2; unfold tch; omega
          rw [this] at hn; exact hn
      refine h7.step fun n hn => ?_
      simp only [stylusref11_Normal.l3]
      rw [if_pos (by omega)]; exact hn
    · have h := h2 (fun k' h1 h2 => by omega)
      have h7 : Ev fun n => stylusref11_Normal.j7 n own g false i k false = some X := h.step fun n hn => by
        simp only [stylusref11_Normal.j7]
        rw [if_neg (by decide), wr1 i (by omega)]; exact hn
      refine h7.step fun n hn => ?_
      simp only [stylusref11_Normal.l3]
      rw [if_neg (by omega)]; exact hn

theorem l2_ev (own : List S24) (g : List S48) (hg : g.length < 1000000) (hw : ∀ A ∈ g, A.f2 < own.length) (X : List S24)
    (h1 : ∀ i k, i < k → k < g.length → tch (g.getD i z48) (g.getD k z48) → Ev fun n => stylusref11_Normal.l1 n own (stp own g i k) = some X) : ∀ (d i : Nat), g.length - i ≤ d → i ≤ g.length →
    ((∀ i' k, i ≤ i' → i' < k → k < g.length → ¬ tch (g.getD i' z48) (g.getD k z48)) → Ev fun n => stylusref11_Normal.l4 n own g [] = some X) →
    Ev fun n => stylusref11_Normal.l2 n own g false i = some X := by
  intro d
  have base : ∀ i : Nat, ¬ i < g.length → (Ev fun n => stylusref11_Normal.l4 n own g [] = some X) → Ev fun n => stylusref11_Normal.l2 n own g false i = some X := by
    intro i hi h
    have h5 : Ev fun n => stylusref11_Normal.j5 n own g false i false = some X := h.step fun n hn => by
      simp only [stylusref11_Normal.j5]
      rw [if_neg (by decide), if_neg (by decide)]; exact hn
    refine h5.step fun n hn => ?_
    simp only [stylusref11_Normal.l2]
    rw [if_neg (by omega)]; exact hn
  induction d with
  | zero =>
    intro i hd hil h2
    exact base i (by omega) (h2 fun i' k a b c => by omega)
  | succ d ih =>
    intro i hd hil h2
    by_cases hi : i < g.length
    · have h3 := l3_ev own g hg hw i hi X g.length (i + 1) (by omega) (by omega) (by omega) (fun k' a b c => h1 i k' (by omega) b c)
        (fun a => ih (i + 1) (by omega) (by omega) fun b => h2 fun i' k c d e => by
          by_cases e' : i' = i
          · subst e'; exact a k (by omega) e
          · exact b i' k (by omega) d e)
      have h5 : Ev fun n => stylusref11_Normal.j5 n own g false i true = some X := h3.step fun n hn => by
        simp only [stylusref11_Normal.j5]
        rw [if_pos trivial, wr1 i (by omega)]; exact hn
      refine h5.step fun n hn => ?_
      simp only [stylusref11_Normal.l2]
      rw [if_pos (by omega)]; exact hn
    · exact base i hi (h2 fun i' k a b c => by omega)

theorem stp_len {own : List S24} {g : List S48} {i k : Nat} (hk : k < g.length) : (stp own g i k).length = g.length - 1 := by
  unfold stp; rw [List.length_eraseIdx]; simp [hk]

/-- All that touch become one: what stays is told to the last loop. -/
theorem l1_ev (own : List S24) {S : List S41} {Bs : List (List S41 × S41)} (hS : Swept S Bs) (X : List S24)
    (h4 : ∀ g, Inv own Bs g → g.length < 1000000 → (∀ i k, i < k → k < g.length → ¬ tch (g.getD i z48) (g.getD k z48)) → Ev fun n => stylusref11_Normal.l4 n own g [] = some X) :
    ∀ (d : Nat) (g : List S48), g.length ≤ d → g.length < 1000000 → Inv own Bs g → Ev fun n => stylusref11_Normal.l1 n own g = some X := by
  intro d
  induction d with
  | zero =>
    intro g hd hg hI
    have h := l2_ev own g hg (fun A hA => (hI.who A hA).1) X (fun i k a b => by omega) g.length 0 (by omega) (by omega) (fun a => h4 g hI hg fun i k b c => a i k (by omega) b c)
    exact h.step fun n hn => by simp only [stylusref11_Normal.l1]; exact hn
  | succ d ih =>
    intro g hd hg hI
    have h := l2_ev own g hg (fun A hA => (hI.who A hA).1) X (fun i k a b c => ih (stp own g i k) (by rw [stp_len b]; omega) (by rw [stp_len b]; omega) (hI.step hS a b c)) g.length 0 (by omega) (by omega) (fun a => h4 g hI hg fun i k b c => a i k (by omega) b c)
    exact h.step fun n hn => by simp only [stylusref11_Normal.l1]; exact hn
end Go.Proofs.Ythbdiambigfgdaf.Sort
