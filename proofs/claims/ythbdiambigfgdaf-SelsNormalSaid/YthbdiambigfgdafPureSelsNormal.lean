/- SelsNormal: the plain law. -/
import Derived.Test.YthbdiambigfgdafOpenSelsNormal
import Derived.Test.YthbdiambigfgdafRefOut
import Derived.Test.YthbdiambigfgdafPSelsNormalx13
import Derived.Test.YthbdiambigfgdafPSelsNormalx14
namespace Go.Proofs.Ythbdiambigfgdaf.Pure
open Go.Proofs.Ythbdiambigfgdaf.OpenSelsNormal
open Go.RowKit Go.Proofs.Ythbdiambigfgdaf.PSelsNormal Go.Proofs.YthbdiambigfgdafW.PrintWords Go.Proofs.YthbdiambigfgdafW.PrintLast Go.Proofs.Ythbdiambigfgdaf.Op Go.Proofs.Ythbdiambigfgdaf.Sort
set_option linter.unusedVariables false
set_option linter.unusedSimpArgs false

set_option maxRecDepth 100000 in
theorem knows_ev : Ev fun k => styluslaw11_knows.f k = some true := by
  have h : styluslaw11_knows.f 30 = some true := by decide +kernel
  exact ⟨30, fun k hk => at_rounds styluslaw11_knows.mono hk h⟩

theorem refis_l0 (n : Int) (l : List S24) (hl : l.length < 1000000) : ∀ (R D : List S24) (q : Int), l = D ++ R → ((D = [] ∧ q = -1) ∨ ∃ D' t, D = D' ++ [t] ∧ q = mx t.f0 t.f1) →
    Ev fun k => stylusref11_Is.l0 k l n (D.length : Int) = some (isn n q R && decide ((l.length : Int) > 0)) := by
  intro R
  induction R with
  | nil =>
    intro D q e hq
    rw [List.append_nil] at e
    subst e
    refine Ev.step0 fun k => ?_
    simp only [stylusref11_Is.l0]
    rw [if_neg (by omega)]
    simp [isn]
  | cons s R ih =>
    intro D q e hq
    have hlen := congrArg List.length e
    simp only [List.length_append, List.length_cons] at hlen
    have h1 := ih (D ++ [s]) (mx s.f0 s.f1) (by rw [e]; simp) (.inr ⟨D, s, rfl, rfl⟩)
    rw [List.length_append, List.length_singleton] at h1
    refine h1.step fun k hk => ?_
    have rs : rd_T24 l (D.length : Int) = s := by rw [e]; exact rd24_at _ _ _ rfl
    simp only [stylusref11_Is.l0]
    rw [if_pos (by omega), if_pos (by omega), rs, low_eq, Option.bind_some, wr1 _ (by omega)]
    simp only [isn]
    by_cases a1 : mn s.f0 s.f1 < 0
    · rw [if_pos a1]; simp [a1]
    · rw [if_neg a1, high_eq, Option.bind_some]
      by_cases a2 : mx s.f0 s.f1 > n
      · rw [if_pos a2]; simp [a2]
      · rw [if_neg a2]
        rcases hq with ⟨rfl, rfl⟩ | ⟨D', t, rfl, rfl⟩
        · rw [if_neg (by simp), hk]
          have a3 : ¬ mn s.f0 s.f1 ≤ -1 := by omega
          simp [a1, a2, a3]
        · have ew : wrap64 (((D' ++ [t]).length : Int) - 1) = (D'.length : Int) := by
            simp only [List.length_append, List.length_singleton]
            rw [w64] <;> simp only [List.length_append, List.length_singleton] at hlen <;> omega
          have rt : rd_T24 l (D'.length : Int) = t := by rw [e, List.append_assoc]; exact rd24_at _ _ _ rfl
          rw [if_pos (by simp <;> omega), Option.bind_some, ew, if_pos (by omega), if_pos (by simp only [List.length_append, List.length_singleton] at hlen; omega), rt, high_eq, Option.bind_some]
          by_cases a3 : mn s.f0 s.f1 ≤ mx t.f0 t.f1
          · rw [if_pos a3]; simp [a3]
          · rw [if_neg a3, hk]; simp [a1, a2, a3]
theorem refis_ev (l : List S24) (n : Int) (hl : l.length < 1000000) : Ev fun k => stylusref11_Is.f k l n = some (isn n (-1) l && decide ((l.length : Int) > 0)) :=
  refis_l0 n l hl l [] (-1) rfl (.inl ⟨rfl, rfl⟩)

theorem fin_len (S : List S41) : (fin S).length ≤ S.length + 1 := by
  cases S with
  | nil => simp [fin]
  | cons a S => have := mg_len a S; simp only [fin, List.length_map, List.length_cons]; omega

theorem add_ev (l : List S24) (a b n : Int) (S : List S41) (hl : l.length < 1000) (h : Ev fun k => sels_Normal.f k (l ++ [⟨a, b⟩]) n = some (fin S)) :
    Ev fun k => sels_Add.f k l a b n = some (if ((fin S).length : Int) > 16 then ([], 3) else (fin S, 0)) := by
  refine h.mono fun k hk => ?_
  simp only [sels_Add.f, api_Sel.f]
  rw [if_pos (by omega), Option.bind_some, Option.bind_some, if_pos (by simp only [List.length_singleton]; omega), hk, Option.bind_some]
  split <;> rfl

theorem SelsNormal : OpenSelsNormal.Pure := by
  intro x0 x1 x2 h0 h1 h2
  refine Ev.one ?_
  by_cases hl : (x0.length : Int) > 60
  · refine knows_ev.mono fun k hk => ?_
    simp only [styluslaw11_SelsNormal.f]
    rw [if_pos hl, hk]; rfl
  · obtain ⟨S, s1, s2, n1⟩ := normal x0 x2 (by omega)
    have n2 := refnormal x0 x2 (by omega) S s1 s2
    have sl : S.length = x0.length := by have := s2.length; rw [List.length_map] at this; omega
    have fl := fin_len S
    have n3 := same_ev (fin S) (by omega)
    have n4 := is_ev x0 x2 (by omega)
    have n5 := refis_ev x0 x2 (by omega)
    obtain ⟨S', t1, t2, m1⟩ := normal (x0 ++ [⟨x1.f0, x1.f1⟩]) x2 (by simp only [List.length_append, List.length_singleton]; omega)
    have m2 := refnormal (x0 ++ [⟨x1.f0, x1.f1⟩]) x2 (by simp only [List.length_append, List.length_singleton]; omega) S' t1 t2
    have tl : S'.length = x0.length + 1 := by have := t2.length; rw [List.length_map, List.length_append, List.length_singleton] at this; omega
    have fl' := fin_len S'
    have m3 := same_ev (fin S') (by omega)
    have m4 := add_ev x0 x1.f0 x1.f1 x2 S' (by omega) m1
    have hj2 : Ev fun k => styluslaw11_SelsNormal.j2 k true = some true := Ev.step0 fun k => by simp only [styluslaw11_SelsNormal.j2]
    have hj3 : Ev fun k => styluslaw11_SelsNormal.j3 k true = some true := Ev.step0 fun k => by simp only [styluslaw11_SelsNormal.j3]
    have hj1 : Ev fun k => styluslaw11_SelsNormal.j1 k x0 x2 false x1.f0 x1.f1 = some true := by
      refine ((((m2.and m3).and m4).and knows_ev).and (hj2.and hj3)).step fun k hk => ?_
      obtain ⟨⟨⟨⟨k2, k3⟩, k4⟩, kk⟩, kj2, kj3⟩ := hk
      simp only [styluslaw11_SelsNormal.j1]
      rw [if_neg (by decide), k4, Option.bind_some, Option.bind_some, if_pos (by simp only [List.length_nil]; omega), Option.bind_some, Option.bind_some, if_pos (by simp only [List.length_append, List.length_nil, List.length_singleton]; omega), List.nil_append, k2, Option.bind_some]
      by_cases h16 : ((fin S').length : Int) > 16
      · rw [if_pos h16, if_pos h16]
        rw [if_pos (show (((([] : List S24), (3 : Int)).1.length : Nat) : Int) = 0 from rfl), if_pos (show ((([] : List S24), (3 : Int)).2) = 3 from rfl), kk, Option.bind_some]; exact kj2
      · rw [if_neg h16, if_neg h16]
        simp only
        rw [k3, Option.bind_some, if_pos rfl, if_pos trivial, kk, Option.bind_some]; exact kj3
    have hj0 : Ev fun k => styluslaw11_SelsNormal.j0 k x0 x2 false x1.f0 x1.f1 = some true := by
      refine hj1.step fun k hk => ?_
      simp only [styluslaw11_SelsNormal.j0]
      rw [if_neg (by decide)]
      simp only [sels_Span.f, Option.bind_some]
      rw [low_eq, Option.bind_some, if_pos rfl, high_eq, Option.bind_some]
      simp only [bne_self_eq_false]
      exact hk
    refine ((((n1.and n2).and n3).and (n4.and n5)).and hj0).mono fun k hk => ?_
    obtain ⟨⟨⟨⟨k1, k2⟩, k3⟩, k4, k5⟩, k0⟩ := hk
    simp only [styluslaw11_SelsNormal.f]
    rw [if_neg hl, k1, Option.bind_some, k2, Option.bind_some, k3, Option.bind_some, if_pos rfl, k4, Option.bind_some, k5, Option.bind_some, bne_self_eq_false]
    exact k0
end Go.Proofs.Ythbdiambigfgdaf.Pure
