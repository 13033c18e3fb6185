/- The sort of runs, in plain Lean, part C: the whole stable sort. -/
import Derived.Test.YthbdiambigfgdafSortB
namespace Go.Proofs.Ythbdiambigfgdaf.Sort
open Go.RowKit Go.Proofs.Ythbdiambigfgdaf.PSelsNormal Go.Proofs.YthbdiambigfgdafW.PrintWords Go.Proofs.YthbdiambigfgdafW.PrintLast Go.Proofs.YthbdiambigfgdafW.PrintMore
set_option linter.unusedVariables false
set_option linter.unusedSimpArgs false

/-- Sorted parts of one length, and a shorter one behind them. -/
inductive Chunk (n : Nat) : List S41 → Prop
  | last {S : List S41} : Sorted S → S.length < n → Chunk n S
  | cons {S L : List S41} : Sorted S → S.length = n → Chunk n L → Chunk n (S ++ L)

theorem Chunk.sorted {n : Nat} {L : List S41} (h : Chunk n L) (hn : 0 < n) (hl : L.length ≤ n) : Sorted L := by
  cases h with
  | last h _ => exact h
  | @cons S L h1 h2 h3 =>
    simp only [List.length_append] at hl
    obtain rfl := List.length_eq_zero_iff.1 (show L.length = 0 by omega)
    simpa using h1

/-- The first pass: parts of 20. -/
theorem pass0 (n : Int) : ∀ (d : Nat) (D R : List S41) (b : Int), R.length ≤ d → b = D.length + 20 → n = D.length + R.length → (D ++ R).length < 100000000 →
    ∃ R', Chunk 20 R' ∧ Stab R R' ∧ ∀ X, Ev (fun k => sels_run_24.l1 k (D ++ R') n 20 = some X) → Ev (fun k => sels_run_24.l0 k (D ++ R) n 20 D.length b = some X) := by
  intro d
  induction d with
  | zero =>
    intro D R b hd hb hn hl
    obtain rfl := List.length_eq_zero_iff.1 (Nat.le_zero.1 hd)
    obtain ⟨S, s1, s2, s3⟩ := insertion D [] [] D.length n rfl (by simp at hn ⊢; omega) (by simp at hl ⊢; omega)
    have e := s2.length
    obtain rfl := List.length_eq_zero_iff.1 e.symm
    refine ⟨[], .last List.Pairwise.nil (by simp), Stab.refl _, fun X hX => (hX.and s3).step fun k hk => ?_⟩
    simp only [sels_run_24.l0]
    have h1 := hk.2
    simp only [List.append_nil] at h1 hk ⊢
    rw [if_neg (by simp at hn; omega), h1, Option.bind_some]
    exact hk.1
  | succ d ih =>
    intro D R b hd hb hn hl
    simp only [List.length_append] at hl
    by_cases h : 20 ≤ R.length
    · obtain ⟨T, R2, rfl, hT⟩ : ∃ T R2, R = T ++ R2 ∧ T.length = 20 := ⟨R.take 20, R.drop 20, (List.take_append_drop _ _).symm, by rw [List.length_take]; omega⟩
      simp only [List.length_append] at *
      obtain ⟨S, s1, s2, s3⟩ := insertion D T R2 D.length b rfl (by omega) (by simp <;> omega)
      have e := s2.length
      obtain ⟨R', q1, q2, q3⟩ := ih (D ++ S) R2 (b + 20) (by omega) (by simp <;> omega) (by simp <;> omega) (by simp <;> omega)
      refine ⟨S ++ R', .cons s1 (by omega) q1, s2.app q2, fun X hX => ?_⟩
      have h1 := q3 X (by simpa using hX)
      refine (h1.and s3).step fun k hk => ?_
      simp only [sels_run_24.l0]
      have h3 := hk.2
      have h2 := hk.1
      have e1 : wrap64 (b + 20) = b + 20 := by rw [w64] <;> omega
      have e2 : (((D ++ S).length : Nat) : Int) = b := by simp <;> omega
      rw [e2] at h2
      rw [if_pos (by omega), e1]
      simp only [List.append_assoc] at h3 h2 ⊢
      rw [h3, Option.bind_some]
      exact h2
    · obtain ⟨S, s1, s2, s3⟩ := insertion D R [] D.length n rfl (by omega) (by simp <;> omega)
      have e := s2.length
      refine ⟨S, .last s1 (by omega), s2, fun X hX => (hX.and s3).step fun k hk => ?_⟩
      simp only [sels_run_24.l0]
      have h1 := hk.2
      simp only [List.append_nil] at h1
      rw [if_neg (by omega), h1, Option.bind_some]
      exact hk.1

/-- One pass of merges. -/
theorem pass1 (n z : Int) (s : Nat) (hz : z = s) (hs : 0 < s) (hs2 : s < 100000000) : ∀ (d : Nat) (D R : List S41) (b : Int), R.length ≤ d → Chunk s R → b = D.length + 2 * z → n = D.length + R.length → (D ++ R).length < 100000000 →
    ∃ R', Chunk (2 * s) R' ∧ Stab R R' ∧ ∀ X, Ev (fun k => sels_run_24.l1 k (D ++ R') n (z * 2) = some X) → Ev (fun k => sels_run_24.l2 k (D ++ R) n z D.length b = some X) := by
  have e1 : wrap64 (2 * z) = 2 * z := by rw [w64] <;> omega
  have e2 : wrap64 (z * 2) = z * 2 := by rw [w64] <;> omega
  have base : ∀ (D R : List S41) (b : Int), Chunk s R → b = D.length + 2 * z → n = D.length + R.length → (D ++ R).length < 100000000 → R.length < 2 * s →
      ∃ R', Chunk (2 * s) R' ∧ Stab R R' ∧ ∀ X, Ev (fun k => sels_run_24.l1 k (D ++ R') n (z * 2) = some X) → Ev (fun k => sels_run_24.l2 k (D ++ R) n z D.length b = some X) := by
    intro D R b hc hb hn hl hR
    simp only [List.length_append] at hl
    have e3 : wrap64 ((D.length : Int) + z) = D.length + z := by rw [w64] <;> omega
    by_cases h : s < R.length
    · cases hc with
      | last h1 h2 => omega
      | @cons A L h1 h2 h3 =>
        simp only [List.length_append] at *
        cases h3 with
        | @cons S' L' k1 k2 k3 => simp only [List.length_append] at hR; omega
        | last k1 k2 =>
          obtain ⟨S, s1, s2, s3⟩ := symmerge _ A L D [] D.length (D.length + z) n (Nat.le_refl _) h1 k1 (by omega) (by omega) rfl (by omega) (by omega) (by simp <;> omega)
          have e := s2.length
          simp only [List.length_append] at e
          refine ⟨S, .last s1 (by omega), s2, fun X hX => (hX.and s3).step fun k hk => ?_⟩
          have h4 := hk.2
          simp only [List.append_nil, List.append_assoc] at h4
          simp only [sels_run_24.l2]
          rw [if_neg (by omega), e3, if_pos (by omega), h4, Option.bind_some, e2]
          exact hk.1
    · refine ⟨R, .last (hc.sorted hs (by omega)) hR, Stab.refl _, fun X hX => hX.step fun k hk => ?_⟩
      simp only [sels_run_24.l2]
      rw [if_neg (by omega), e3, if_neg (by omega), e2]
      exact hk
  intro d
  induction d with
  | zero =>
    intro D R b hd hc hb hn hl
    exact base D R b hc hb hn hl (by omega)
  | succ d ih =>
    intro D R b hd hc hb hn hl
    by_cases hR : R.length < 2 * s
    · exact base D R b hc hb hn hl hR
    · cases hc with
      | last h1 h2 => omega
      | @cons A L h1 h2 h3 =>
        cases h3 with
        | last k1 k2 => simp only [List.length_append] at hR; omega
        | @cons B L k1 k2 k3 =>
          simp only [List.length_append] at *
          obtain ⟨S, s1, s2, s3⟩ := symmerge _ A B D L D.length (D.length + z) b (Nat.le_refl _) h1 k1 (by omega) (by omega) rfl (by omega) (by omega) (by simp <;> omega)
          have e := s2.length
          simp only [List.length_append] at e
          obtain ⟨R', q1, q2, q3⟩ := ih (D ++ S) L (b + 2 * z) (by omega) k3 (by simp <;> omega) (by simp <;> omega) (by simp <;> omega)
          refine ⟨S ++ R', .cons s1 (by omega) q1, ?_, fun X hX => ?_⟩
          · have := s2.app q2
            rwa [List.append_assoc] at this
          · have h4 := q3 X (by simpa using hX)
            refine (h4.and s3).step fun k hk => ?_
            simp only [sels_run_24.l2]
            have e3 : wrap64 ((D.length : Int) + z) = D.length + z := by rw [w64] <;> omega
            have e4 : wrap64 (b + 2 * z) = b + 2 * z := by rw [w64] <;> omega
            have e5 : (((D ++ S).length : Nat) : Int) = b := by simp <;> omega
            have h5 := hk.1
            have h6 := hk.2
            rw [e5] at h5
            rw [if_pos (by omega), e3, e1, e4]
            simp only [List.append_assoc] at h5 h6 ⊢
            rw [h6, Option.bind_some]
            exact h5

theorem passes (n : Int) : ∀ (d : Nat) (L : List S41) (z : Int) (s : Nat), z = s → 0 < s → L.length - s ≤ d → Chunk s L → n = L.length → L.length < 50000000 → s < 100000000 →
    ∃ S, Sorted S ∧ Stab L S ∧ Ev fun k => sels_run_24.l1 k L n z = some S := by
  intro d
  induction d with
  | zero =>
    intro L z s hz hs hd hc hn hl hs2
    refine ⟨L, hc.sorted hs (by omega), Stab.refl _, Ev.step0 fun k => ?_⟩
    simp only [sels_run_24.l1]
    rw [if_neg (by omega)]
  | succ d ih =>
    intro L z s hz hs hd hc hn hl hs2
    by_cases h : L.length ≤ s
    · refine ⟨L, hc.sorted hs h, Stab.refl _, Ev.step0 fun k => ?_⟩
      simp only [sels_run_24.l1]
      rw [if_neg (by omega)]
    · obtain ⟨R', q1, q2, q3⟩ := pass1 n z s hz hs hs2 L.length [] L (2 * z) (Nat.le_refl _) hc (by simp) (by simpa using hn) (by simp <;> omega)
      have e := q2.length
      obtain ⟨S, t1, t2, t3⟩ := ih R' (z * 2) (2 * s) (by omega) (by omega) (by omega) q1 (by omega) (by omega) (by omega)
      refine ⟨S, t1, q2.trans t2, ?_⟩
      have h1 := q3 S (by simpa using t3)
      refine h1.step fun k hk => ?_
      simp only [sels_run_24.l1]
      have e1 : wrap64 (2 * z) = 2 * z := by rw [w64] <;> omega
      rw [if_pos (by omega), e1]
      simpa using hk

/-- SortStableFunc sorts stably. -/
theorem sort (L : List S41) (hl : L.length < 50000000) : ∃ S, Sorted S ∧ Stab L S ∧ Ev fun k => sels_run_16.f k L = some S := by
  obtain ⟨R', q1, q2, q3⟩ := pass0 L.length L.length [] L 20 (Nat.le_refl _) (by simp) (by simp) (by simp <;> omega)
  have e := q2.length
  obtain ⟨S, t1, t2, t3⟩ := passes L.length R'.length R' 20 20 rfl (by omega) (by omega) q1 (by omega) (by omega) (by omega)
  refine ⟨S, t1, q2.trans t2, ?_⟩
  have h := q3 S (by simpa using t3)
  refine h.mono fun k hk => ?_
  have h2 : sels_run_24.f k L L.length = some S := by simp only [sels_run_24.f]; simpa using hk
  simp only [sels_run_16.f]
  rw [h2, Option.bind_some]
end Go.Proofs.Ythbdiambigfgdaf.Sort
