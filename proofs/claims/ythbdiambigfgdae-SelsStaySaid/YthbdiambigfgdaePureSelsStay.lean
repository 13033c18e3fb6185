/- SelsStay: the plain law. -/
import Derived.Test.YthbdiambigfgdaeOpenSelsStay
import Derived.Test.YthbdiambigfgdaeNormPlain
namespace Go.Proofs.Ythbdiambigfgdae.Pure
open Go.Proofs.Ythbdiambigfgdae.OpenSelsStay
open Go.RowKit Go.Proofs.Ythbdiambigfgdae.PSelsStay Go.Proofs.YthbdiambigfgdaeW.PrintWords Go.Proofs.YthbdiambigfgdaeW.PrintLast Go.Proofs.Ythbdiambigfgdae.Op Go.Proofs.Ythbdiambigfgdae.Sort
set_option linter.unusedVariables false
set_option linter.unusedSimpArgs false

set_option maxRecDepth 100000 in
theorem knows_ev : Ev fun k => styluslaw11_knows.f k = some true := by
  have h : styluslaw11_knows.f 30 = some true := by decide +kernel
  exact ⟨30, fun k hk => at_rounds styluslaw11_knows.mono hk h⟩

/-- The inner loop, once found. -/
theorem stay_found (x0 : List S86) (x1 : Int) (x5 : List S86) (i : Int) (h5 : x5.length < 1000000) (X : Bool) : ∀ (d : Nat) (j : Int), 0 ≤ j → (x5.length : Int) - j ≤ d → j ≤ x5.length →
    Ev (fun k => styluslaw11_SelsStay.l0 k x0 x1 x5 (wrap64 (i + 1)) = some X) → Ev fun k => styluslaw11_SelsStay.l1 k x0 x1 x5 i true j = some X := by
  intro d
  induction d with
  | zero =>
    intro j h0 h1 h2 h
    refine h.step fun k hk => ?_
    simp only [styluslaw11_SelsStay.l1]
    rw [if_neg (by omega), if_pos trivial]
    exact hk
  | succ d ih =>
    intro j h0 h1 h2 h
    by_cases hj : j = x5.length
    · exact ih j h0 (by omega) h2 h
    · refine (ih (j + 1) (by omega) (by omega) (by omega) h).step fun k hk => ?_
      simp only [styluslaw11_SelsStay.l1]
      rw [if_pos (by omega), if_pos trivial, show wrap64 (j + 1) = j + 1 by rw [w64] <;> omega]
      exact hk

/-- The inner loop, until found. -/
theorem stay_look (x0 : List S86) (x1 : Int) (x5 : List S86) (P Q : List S86) (s : S86) (i : Int) (hx : x0 = P ++ s :: Q) (hi : i = P.length) (h5 : x5.length < 1000000) (X : Bool) : ∀ (R D : List S86) (j : Int), x5 = D ++ R → j = D.length →
    (∃ q ∈ R, mn q.f0 q.f1 ≤ mn s.f0 s.f1 ∧ mx s.f0 s.f1 ≤ mx q.f0 q.f1) →
    Ev (fun k => styluslaw11_SelsStay.l0 k x0 x1 x5 (wrap64 (i + 1)) = some X) → Ev fun k => styluslaw11_SelsStay.l1 k x0 x1 x5 i false j = some X := by
  intro R
  induction R with
  | nil => intro D j _ _ h; obtain ⟨q, h, _⟩ := h; cases h
  | cons q R ih =>
    intro D j hd hj hex h
    have hlen := congrArg List.length hd
    have hlx := congrArg List.length hx
    simp only [List.length_append, List.length_cons] at hlen hlx
    have e1 : wrap64 (j + 1) = j + 1 := by rw [w64] <;> omega
    have rq : rd_T86 x5 j = q := by rw [hd]; exact rd86_at _ _ _ hj
    have rs : rd_T86 x0 i = s := by rw [hx]; exact rd86_at _ _ _ hi
    have key : Ev (fun k => styluslaw11_SelsStay.l1 k x0 x1 x5 i (decide (mn q.f0 q.f1 ≤ mn s.f0 s.f1 ∧ mx s.f0 s.f1 ≤ mx q.f0 q.f1)) (j + 1) = some X) → Ev fun k => styluslaw11_SelsStay.l1 k x0 x1 x5 i false j = some X := by
      intro h
      refine h.step fun k hk => ?_
      simp only [styluslaw11_SelsStay.l1]
      rw [if_pos (by omega), if_neg (by decide), if_pos (by omega), rq, low_eq, Option.bind_some, if_pos (by omega), if_pos (by omega), rs, low_eq, Option.bind_some, e1]
      by_cases h1 : mn q.f0 q.f1 ≤ mn s.f0 s.f1
      · rw [if_pos h1, high_eq, Option.bind_some, high_eq, Option.bind_some]
        simp only [h1, true_and] at hk
        exact hk
      · rw [if_neg h1]
        simp only [h1, false_and, decide_false] at hk
        exact hk
    apply key
    by_cases h1 : mn q.f0 q.f1 ≤ mn s.f0 s.f1 ∧ mx s.f0 s.f1 ≤ mx q.f0 q.f1
    · rw [decide_eq_true h1]
      exact stay_found x0 x1 x5 i h5 X x5.length (j + 1) (by omega) (by omega) (by omega) h
    · rw [decide_eq_false h1]
      refine ih (D ++ [q]) (j + 1) (by rw [hd]; simp) (by simp <;> omega) ?_ h
      obtain ⟨z, hz, hz2⟩ := hex
      rcases List.mem_cons.1 hz with rfl | hz
      · exact absurd hz2 h1
      · exact ⟨z, hz, hz2⟩

theorem stay_l0 (x0 : List S86) (x1 : Int) (x5 : List S86) (h1 : 0 ≤ x1) (h1' : x1 < 9223372036854775808) (h0 : x0.length < 1000000) (h5 : x5.length < 1000000)
    (hc : ∀ s ∈ x0, 0 ≤ mn s.f0 s.f1 → mx s.f0 s.f1 ≤ x1 → ∃ q ∈ x5, mn q.f0 q.f1 ≤ mn s.f0 s.f1 ∧ mx s.f0 s.f1 ≤ mx q.f0 q.f1) : ∀ (R P : List S86) (i : Int), x0 = P ++ R → i = P.length →
    Ev fun k => styluslaw11_SelsStay.l0 k x0 x1 x5 i = some true := by
  intro R
  induction R with
  | nil =>
    intro P i hp hi
    refine knows_ev.step fun k hk => ?_
    simp only [styluslaw11_SelsStay.l0]
    rw [if_neg (by rw [hp, hi]; simp), hk, Option.bind_some]
  | cons s R ih =>
    intro P i hp hi
    have hlx := congrArg List.length hp
    simp only [List.length_append, List.length_cons] at hlx
    have e1 : wrap64 (i + 1) = i + 1 := by rw [w64] <;> omega
    have rs : rd_T86 x0 i = s := by rw [hp]; exact rd86_at _ _ _ hi
    have hN := ih (P ++ [s]) (i + 1) (by rw [hp]; simp) (by simp <;> omega)
    have hN' : Ev fun k => styluslaw11_SelsStay.l0 k x0 x1 x5 (wrap64 (i + 1)) = some true := by rw [e1]; exact hN
    have ew : wrap64 x1 = x1 := by rw [w64] <;> omega
    have key : ∀ b : Bool, (if mn s.f0 s.f1 < 0 then true else decide (mx s.f0 s.f1 > x1)) = b → Ev (fun k => styluslaw11_SelsStay.l1 k x0 x1 x5 i b 0 = some true) → Ev fun k => styluslaw11_SelsStay.l0 k x0 x1 x5 i = some true := by
      intro b hb h
      have h2 : Ev fun k => styluslaw11_SelsStay.j2 k x0 x1 x5 i b = some true := h.step fun k hk => by simp only [styluslaw11_SelsStay.j2]; exact hk
      refine h2.step fun k hk => ?_
      simp only [styluslaw11_SelsStay.l0]
      rw [if_pos (by omega), if_pos (by omega), rs, low_eq, Option.bind_some]
      by_cases hl : mn s.f0 s.f1 < 0
      · rw [if_pos hl] at hb ⊢
        subst hb; exact hk
      · rw [if_neg hl] at hb ⊢
        rw [high_eq, Option.bind_some, ew]; subst hb; exact hk
    by_cases hb : (if mn s.f0 s.f1 < 0 then true else decide (mx s.f0 s.f1 > x1)) = true
    · exact key true hb (stay_found x0 x1 x5 i h5 true x5.length 0 (by omega) (by omega) (by omega) hN')
    · have hb2 : (if mn s.f0 s.f1 < 0 then true else decide (mx s.f0 s.f1 > x1)) = false := by simpa using hb
      refine key false hb2 (stay_look x0 x1 x5 P R s i hp hi h5 true x5 [] 0 rfl rfl ?_ hN')
      have h3 : ¬ mn s.f0 s.f1 < 0 := by intro h; rw [if_pos h] at hb; exact hb rfl
      rw [if_neg h3] at hb2
      exact hc s (by rw [hp]; simp) (by omega) (by simpa using hb2)

theorem fin_len (S : List S131) : (fin S).length ≤ S.length + 1 := by
  cases S with
  | nil => simp [fin]
  | cons o R => have := mg_len o R; simp [fin]; omega

theorem SelsStay : OpenSelsStay.Pure := by
  intro x0 x1 h0 h1
  have h1' : 0 ≤ x1 ∧ x1 < 4294967296 := by
    have h2 : IntKind.u32.min ≤ x1 ∧ x1 ≤ IntKind.u32.max := by simpa [Lit.wf] using h1
    have h3 : IntKind.u32.min = 0 := by decide
    have h4 : IntKind.u32.max = 4294967295 := by decide
    omega
  by_cases hl : (x0.length : Int) > 60
  · refine (knows_ev.mono (q := fun k => styluslaw11_SelsStay.f k x0 x1 = some true) fun k hk => ?_).one
    simp only [styluslaw11_SelsStay.f]
    rw [if_pos hl, hk, Option.bind_some]
  · have ew : wrap64 x1 = x1 := by rw [w64] <;> omega
    have em : mx 0 x1 = x1 := by simp only [mx]; split <;> omega
    obtain ⟨S, s1, s2, s3⟩ := normal x0 x1 (by omega)
    rw [em] at s2
    have hSl := s2.length
    rw [List.length_map] at hSl
    have hfl := fin_len S
    have hin : ∀ r ∈ S, In x1 r := by
      intro r hr
      obtain ⟨s, _, rfl⟩ := List.mem_map.1 ((s2.mem r).2 hr)
      exact run_in h1'.1 s
    obtain ⟨f1, f2⟩ := fin_isn h1'.1 S hin
    obtain ⟨S2, t1, t2, t3⟩ := normal (fin S) x1 (by omega)
    rw [em] at t2
    have hfix := fin_fix (fin S) f2 f1 S2 t1 t2
    have hI := is_ev (fin S) x1 (by omega)
    have hI' : (isn x1 (-1) (fin S) && decide (((fin S).length : Int) > 0)) = true := by
      rw [f1]
      have : 0 < (fin S).length := List.length_pos_iff.2 f2
      simp; omega
    rw [hI'] at hI
    have hS := same_ev (fin S) (by omega)
    have hcov : ∀ s ∈ x0, 0 ≤ mn s.f0 s.f1 → mx s.f0 s.f1 ≤ x1 → ∃ q ∈ fin S, mn q.f0 q.f1 ≤ mn s.f0 s.f1 ∧ mx s.f0 s.f1 ≤ mx q.f0 q.f1 := by
      intro s hs a b
      have hr := (s2.mem (run x1 s)).1 (List.mem_map.2 ⟨s, hs, rfl⟩)
      cases S with
      | nil => cases hr
      | cons o R =>
        have hF := sorted_from s1
        obtain ⟨q, q1, q2, q3⟩ := mg_cover R o (hin o (by simp)) (fun r hr => hin r (by simp [hr])) (fun r hr => (List.pairwise_cons.1 hF).1 r hr) (List.pairwise_cons.1 hF).2 _ hr
        rw [run_id s a b] at q2 q3
        have hq := sel_mn (mg_in R o (hin o (by simp)) (fun r hr => hin r (by simp [hr])) q q1)
        exact ⟨sel q, List.mem_map.2 ⟨q, q1, rfl⟩, by rw [hq.1]; exact q2, by rw [hq.2]; exact q3⟩
    have hL := stay_l0 x0 x1 (fin S) h1'.1 (by omega) (by omega) (by omega) hcov x0 [] 0 rfl rfl
    have hJ : Ev fun k => styluslaw11_SelsStay.j0 k x0 x1 (fin S) false = some true := hL.step fun k hk => by simp only [styluslaw11_SelsStay.j0]; rw [if_neg (by decide)]; exact hk
    refine ((((s3.and hI).and t3).and hS).and hJ).mono (q := fun k => styluslaw11_SelsStay.f k x0 x1 = some true) (fun k hk => ?_) |>.one
    obtain ⟨⟨⟨⟨a, b⟩, c⟩, d⟩, e⟩ := hk
    simp only [styluslaw11_SelsStay.f]
    rw [if_neg hl, ew, a, Option.bind_some, b, Option.bind_some, if_pos rfl, c, Option.bind_some, hfix, d, Option.bind_some]
    exact e
end Go.Proofs.Ythbdiambigfgdae.Pure
