/- The sort of runs, in plain Lean, part B: symMerge and the whole stable sort. -/
import Derived.Test.YthbdiambigfgdafSortA
import Derived.Test.YthbdiambigfgdafPSelsNormalx5
import Derived.Test.YthbdiambigfgdafPSelsNormalx7
namespace Go.Proofs.Ythbdiambigfgdaf.Sort
open Go.RowKit Go.Proofs.Ythbdiambigfgdaf.PSelsNormal Go.Proofs.YthbdiambigfgdafW.PrintWords Go.Proofs.YthbdiambigfgdafW.PrintLast Go.Proofs.YthbdiambigfgdafW.PrintMore
set_option linter.unusedVariables false
set_option linter.unusedSimpArgs false

theorem half {x y : Int} (h0 : 0 ≤ x) (h1 : 0 ≤ y) (h2 : x + y < 4000000000) : wrap64 (IntKind.u64.wrap (wrap64 (x + y)) / 2) = (x + y) / 2 := by
  have e : IntKind.u64.wrap (wrap64 (x + y)) = x + y := by
    rw [w64 (by omega) (by omega)]
    unfold IntKind.wrap
    simp [IntKind.bits, IntKind.signed]
    omega
  rw [e, w64] <;> omega

theorem rd_mem (x : List S41) (i : Int) (h0 : 0 ≤ i) (h1 : i < x.length) : ∃ P Q, x = P ++ rd_T41 x i :: Q ∧ i = P.length := by
  refine ⟨x.take i.toNat, x.drop (i.toNat + 1), ?_, ?_⟩
  · have hi : i.toNat < x.length := by omega
    have e : rd_T41 x i = x[i.toNat] := by simp [rd_T41, List.getD, hi]
    rw [e, ← List.drop_eq_getElem_cons hi, List.take_append_drop]
  · rw [List.length_take]; omega

/-! ### the left part is one element -/
theorem bin0 (P Q B : List S41) (v : S41) (a : Int) (ha : a = P.length) (hB : Sorted B) (hl : (P ++ v :: B ++ Q).length < 1000000000) : ∀ (d : Nat) (B1 M B2 : List S41) (i j : Int), M.length ≤ d → B = B1 ++ M ++ B2 → (∀ u ∈ B1, lt u v) → (∀ u ∈ B2, le v u) → i = P.length + 1 + B1.length → j = i + M.length →
    ∃ C1 C2, B = C1 ++ C2 ∧ (∀ u ∈ C1, lt u v) ∧ (∀ u ∈ C2, le v u) ∧ ∀ R, Ev (fun k => sels_run_26.l1 k (P ++ v :: B ++ Q) (P.length + 1 + C1.length) a = some R) → Ev (fun k => sels_run_26.l0 k (P ++ v :: B ++ Q) a i j = some R) := by
  intro d
  induction d with
  | zero =>
    intro B1 M B2 i j hd hb h1 h2 hi hj
    obtain rfl := List.length_eq_zero_iff.1 (Nat.le_zero.1 hd)
    refine ⟨B1, B2, by simpa using hb, h1, h2, fun R hR => hR.step fun k hk => ?_⟩
    simp only [sels_run_26.l0]
    rw [if_neg (by simp at hj; omega), hi]
    exact hk
  | succ d ih =>
    intro B1 M B2 i j hd hb h1 h2 hi hj
    by_cases hM : M.length = 0
    · exact ih B1 M B2 i j (by omega) hb h1 h2 hi hj
    · have hl' := hl
      have hbl := congrArg List.length hb
      simp only [List.length_append, List.length_cons] at hl' hbl
      let n := ((i + j) / 2 - i).toNat
      have hn : n < M.length := by omega
      have hh : (i + j) / 2 = i + n := by omega
      obtain ⟨M1, u, M2, hMe, hM1⟩ : ∃ M1 u M2, M = M1 ++ u :: M2 ∧ M1.length = n := ⟨M.take n, M[n], M.drop (n + 1), by rw [← List.drop_eq_getElem_cons hn, List.take_append_drop], by rw [List.length_take]; omega⟩
      have hMl := congrArg List.length hMe
      simp only [List.length_append, List.length_cons] at hMl
      obtain ⟨t, ht, hev⟩ := cmp_ev u v
      have ru : rd_T41 (P ++ v :: B ++ Q) ((i + j) / 2) = u := by
        have e : P ++ v :: B ++ Q = P ++ v :: ((B1 ++ M1) ++ u :: (M2 ++ B2 ++ Q)) := by rw [hb, hMe]; simp
        rw [e]; exact rd_at2 _ _ _ _ _ (by simp <;> omega)
      have rv : rd_T41 (P ++ v :: B ++ Q) a = v := by
        have e : P ++ v :: B ++ Q = P ++ v :: (B ++ Q) := by simp
        rw [e]; exact rd_at _ _ _ ha
      have hs : Sorted M := (List.pairwise_append.1 (List.pairwise_append.1 (hb ▸ hB)).1).2.1
      have hs2 := List.pairwise_append.1 (hMe ▸ hs)
      have key : ∀ R, Ev (fun k => (if t < 0 then sels_run_26.l0 k (P ++ v :: B ++ Q) a ((i + j) / 2 + 1) j else sels_run_26.l0 k (P ++ v :: B ++ Q) a i ((i + j) / 2)) = some R) → Ev (fun k => sels_run_26.l0 k (P ++ v :: B ++ Q) a i j = some R) := by
        intro R hR
        refine (hR.and hev).step fun k hk => ?_
        simp only [sels_run_26.l0]
        rw [if_pos (by omega), half (by omega) (by omega) (by omega), if_pos (by omega), if_pos (by simp <;> omega), if_pos (by omega), if_pos (by simp <;> omega), ru, rv, hk.2, Option.bind_some, w64 (n := (i + j) / 2 + 1) (by omega) (by omega)]
        exact hk.1
      by_cases hlt : lt u v
      · obtain ⟨C1, C2, q1, q2, q3, q4⟩ := ih (B1 ++ M1 ++ [u]) M2 B2 ((i + j) / 2 + 1) j (by omega) (by rw [hb, hMe]; simp) (by
          intro z hz
          rcases List.mem_append.1 hz with hz | hz
          · rcases List.mem_append.1 hz with hz | hz
            · exact h1 z hz
            · exact le_lt_trans (hs2.2.2 z hz u (by simp)) hlt
          · obtain rfl := List.mem_singleton.1 hz; exact hlt) h2 (by simp <;> omega) (by omega)
        exact ⟨C1, C2, q1, q2, q3, fun R hR => key R (by simpa only [if_pos (ht.2 hlt)] using q4 R hR)⟩
      · obtain ⟨C1, C2, q1, q2, q3, q4⟩ := ih B1 M1 (u :: M2 ++ B2) i ((i + j) / 2) (by omega) (by rw [hb, hMe]; simp) h1 (by
          intro z hz
          rcases List.mem_append.1 hz with hz | hz
          · rcases List.mem_cons.1 hz with rfl | hz
            · exact hlt
            · exact le_trans hlt ((List.pairwise_cons.1 hs2.2.1).1 z hz)
          · exact h2 z hz) hi (by omega)
        exact ⟨C1, C2, q1, q2, q3, fun R hR => key R (by simpa only [if_neg (fun h => hlt (ht.1 h))] using q4 R hR)⟩

theorem move1 (v : S41) (Q : List S41) : ∀ (B1 P : List S41) (e i : Int), i = P.length → e = P.length + 1 + B1.length → (P ++ v :: B1 ++ Q).length < 1000000000 →
    Ev fun k => sels_run_26.l1 k (P ++ v :: B1 ++ Q) e i = some (P ++ B1 ++ v :: Q) := by
  intro B1
  induction B1 with
  | nil =>
    intro P e i hi he hl
    refine Ev.step0 fun k => ?_
    simp only [List.length_append, List.length_cons, List.length_nil] at hl he
    simp only [sels_run_26.l1]
    rw [w64 (n := e - 1) (by omega) (by omega), if_neg (by omega)]
    simp
  | cons u B1 ih =>
    intro P e i hi he hl
    simp only [List.length_append, List.length_cons] at hl he
    have hE := ih (P ++ [u]) e (i + 1) (by simp <;> omega) (by simp <;> omega) (by simp <;> omega)
    refine hE.step fun k hk => ?_
    have ex : P ++ v :: u :: B1 ++ Q = P ++ v :: ([] ++ u :: (B1 ++ Q)) := by simp
    have e1 : wrap64 (i + 1) = i + 1 := by rw [w64] <;> omega
    simp only [sels_run_26.l1]
    rw [w64 (n := e - 1) (by omega) (by omega), if_pos (by omega), e1, if_pos (by omega), if_pos (by simp <;> omega), if_pos (by omega), if_pos (by simp <;> omega)]
    rw [ex, rd_at2 _ _ _ _ _ (i := i + 1) (by simp <;> omega), rd_at _ _ _ hi, set_at _ _ _ _ hi, set_at2 _ _ _ _ _ _ (by simp <;> omega)]
    simpa using hk

/-! ### the right part is one element -/
theorem bin2 (P Q A : List S41) (v : S41) (m : Int) (hm : m = P.length + A.length) (hA : Sorted A) (hl : (P ++ A ++ v :: Q).length < 1000000000) : ∀ (d : Nat) (A1 M A2 : List S41) (i j : Int), M.length ≤ d → A = A1 ++ M ++ A2 → (∀ u ∈ A1, le u v) → (∀ u ∈ A2, lt v u) → i = P.length + A1.length → j = i + M.length →
    ∃ C1 C2, A = C1 ++ C2 ∧ (∀ u ∈ C1, le u v) ∧ (∀ u ∈ C2, lt v u) ∧ ∀ R, Ev (fun k => sels_run_26.l3 k (P ++ A ++ v :: Q) (P.length + C1.length) m = some R) → Ev (fun k => sels_run_26.l2 k (P ++ A ++ v :: Q) m i j = some R) := by
  intro d
  induction d with
  | zero =>
    intro A1 M A2 i j hd hb h1 h2 hi hj
    obtain rfl := List.length_eq_zero_iff.1 (Nat.le_zero.1 hd)
    refine ⟨A1, A2, by simpa using hb, h1, h2, fun R hR => hR.step fun k hk => ?_⟩
    simp only [sels_run_26.l2]
    rw [if_neg (by simp at hj; omega), hi]
    exact hk
  | succ d ih =>
    intro A1 M A2 i j hd hb h1 h2 hi hj
    by_cases hM : M.length = 0
    · exact ih A1 M A2 i j (by omega) hb h1 h2 hi hj
    · have hl' := hl
      have hbl := congrArg List.length hb
      simp only [List.length_append, List.length_cons] at hl' hbl
      let n := ((i + j) / 2 - i).toNat
      have hn : n < M.length := by omega
      have hh : (i + j) / 2 = i + n := by omega
      obtain ⟨M1, u, M2, hMe, hM1⟩ : ∃ M1 u M2, M = M1 ++ u :: M2 ∧ M1.length = n := ⟨M.take n, M[n], M.drop (n + 1), by rw [← List.drop_eq_getElem_cons hn, List.take_append_drop], by rw [List.length_take]; omega⟩
      have hMl := congrArg List.length hMe
      simp only [List.length_append, List.length_cons] at hMl
      obtain ⟨t, ht, hev⟩ := cmp_ev v u
      have ru : rd_T41 (P ++ A ++ v :: Q) ((i + j) / 2) = u := by
        have e : P ++ A ++ v :: Q = (P ++ A1 ++ M1) ++ u :: (M2 ++ A2 ++ v :: Q) := by rw [hb, hMe]; simp
        rw [e]; exact rd_at _ _ _ (by simp <;> omega)
      have rv : rd_T41 (P ++ A ++ v :: Q) m = v := rd_at _ _ _ (by simp <;> omega)
      have hs : Sorted M := (List.pairwise_append.1 (List.pairwise_append.1 (hb ▸ hA)).1).2.1
      have hs2 := List.pairwise_append.1 (hMe ▸ hs)
      have key : ∀ R, Ev (fun k => (if t < 0 then sels_run_26.l2 k (P ++ A ++ v :: Q) m i ((i + j) / 2) else sels_run_26.l2 k (P ++ A ++ v :: Q) m ((i + j) / 2 + 1) j) = some R) → Ev (fun k => sels_run_26.l2 k (P ++ A ++ v :: Q) m i j = some R) := by
        intro R hR
        refine (hR.and hev).step fun k hk => ?_
        simp only [sels_run_26.l2]
        rw [if_pos (by omega), half (by omega) (by omega) (by omega), if_pos (by omega), if_pos (by simp <;> omega), if_pos (by omega), if_pos (by simp <;> omega), ru, rv, hk.2, Option.bind_some, w64 (n := (i + j) / 2 + 1) (by omega) (by omega)]
        exact hk.1
      by_cases hlt : lt v u
      · obtain ⟨C1, C2, q1, q2, q3, q4⟩ := ih A1 M1 (u :: M2 ++ A2) i ((i + j) / 2) (by omega) (by rw [hb, hMe]; simp) h1 (by
          intro z hz
          rcases List.mem_append.1 hz with hz | hz
          · rcases List.mem_cons.1 hz with rfl | hz
            · exact hlt
            · exact lt_le_trans hlt ((List.pairwise_cons.1 hs2.2.1).1 z hz)
          · exact h2 z hz) hi (by omega)
        exact ⟨C1, C2, q1, q2, q3, fun R hR => key R (by simpa only [if_pos (ht.2 hlt)] using q4 R hR)⟩
      · obtain ⟨C1, C2, q1, q2, q3, q4⟩ := ih (A1 ++ M1 ++ [u]) M2 A2 ((i + j) / 2 + 1) j (by omega) (by rw [hb, hMe]; simp) (by
          intro z hz
          rcases List.mem_append.1 hz with hz | hz
          · rcases List.mem_append.1 hz with hz | hz
            · exact h1 z hz
            · exact le_trans (hs2.2.2 z hz u (by simp)) hlt
          · obtain rfl := List.mem_singleton.1 hz; exact hlt) h2 (by simp <;> omega) (by omega)
        exact ⟨C1, C2, q1, q2, q3, fun R hR => key R (by simpa only [if_neg (fun h => hlt (ht.1 h))] using q4 R hR)⟩

theorem move2 (v : S41) (P : List S41) : ∀ (n : Nat) (A2 Q : List S41) (e i : Int), A2.length = n → i = P.length + A2.length → e = P.length → (P ++ A2 ++ v :: Q).length < 1000000000 →
    Ev fun k => sels_run_26.l3 k (P ++ A2 ++ v :: Q) e i = some (P ++ v :: A2 ++ Q) := by
  intro n
  induction n with
  | zero =>
    intro A2 Q e i hn hi he hl
    obtain rfl := List.length_eq_zero_iff.1 hn
    refine Ev.step0 fun k => ?_
    simp only [sels_run_26.l3]
    rw [if_neg (by simp at hi; omega)]
    simp
  | succ n ih =>
    intro A2 Q e i hn hi he hl
    obtain ⟨S0, u, rfl⟩ : ∃ S0 u, A2 = S0 ++ [u] := ⟨A2.dropLast, A2.getLast (by intro h; simp [h] at hn), (List.dropLast_concat_getLast _).symm⟩
    simp only [List.length_append, List.length_cons, List.length_nil] at hn hl hi
    have hE := ih S0 (u :: Q) e (i - 1) (by omega) (by omega) he (by simp <;> omega)
    refine hE.step fun k hk => ?_
    have ex : P ++ (S0 ++ [u]) ++ v :: Q = (P ++ S0) ++ u :: ([] ++ v :: Q) := by simp
    have e1 : wrap64 (i - 1) = i - 1 := by rw [w64] <;> omega
    simp only [sels_run_26.l3]
    rw [if_pos (by omega), e1, if_pos (by omega), if_pos (by simp <;> omega), if_pos (by omega), if_pos (by simp <;> omega)]
    rw [ex, rd_at _ _ _ (i := i - 1) (by simp <;> omega), rd_at2 _ _ _ _ _ (i := i) (by simp <;> omega), set_at2 _ _ _ _ _ _ (by simp <;> omega), set_at _ _ _ _ (by simp <;> omega)]
    simpa using hk

/-! ### the symmetric search -/
theorem sym (x : List S41) (a m b mid n p s0 r0 : Int) (h0 : 0 ≤ s0) (hr0 : r0 ≤ x.length) (hp0 : 0 ≤ p - (r0 - 1)) (hp1 : p - s0 < x.length) (hx : x.length < 1000000000) (hp : p < 4000000000 ∧ -4000000000 < p) : ∀ (d : Nat) (s r : Int), (r - s).toNat ≤ d → s0 ≤ s → s ≤ r → r ≤ r0 →
    (s = s0 ∨ le (rd_T41 x (s - 1)) (rd_T41 x (p - (s - 1)))) → (r = r0 ∨ lt (rd_T41 x (p - r)) (rd_T41 x r)) →
    ∃ s', s0 ≤ s' ∧ s' ≤ r0 ∧ (s' = s0 ∨ le (rd_T41 x (s' - 1)) (rd_T41 x (p - (s' - 1)))) ∧ (s' = r0 ∨ lt (rd_T41 x (p - s')) (rd_T41 x s')) ∧
      ∀ R, Ev (fun k => (if s' < m then (sels_run_26.j6 k x a m b mid s' (wrap64 (n - s')) (decide (m < (wrap64 (n - s'))))) else (sels_run_26.j6 k x a m b mid s' (wrap64 (n - s')) false)) = some R) → Ev (fun k => sels_run_26.l4 k x a m b mid n s r p = some R) := by
  intro d
  induction d with
  | zero =>
    intro s r hd h1 h2 h3 h4 h5
    obtain rfl : s = r := by omega
    refine ⟨s, h1, h3, h4, h5, fun R hR => hR.step fun k hk => ?_⟩
    simp only [sels_run_26.l4]
    rw [if_neg (by omega)]
    exact hk
  | succ d ih =>
    intro s r hd h1 h2 h3 h4 h5
    by_cases hM : s = r
    · exact ih s r (by omega) h1 h2 h3 h4 h5
    · obtain ⟨t, ht, hev⟩ := cmp_ev (rd_T41 x (p - (s + r) / 2)) (rd_T41 x ((s + r) / 2))
      have key : ∀ R, Ev (fun k => (if t < 0 then sels_run_26.l4 k x a m b mid n s ((s + r) / 2) p else sels_run_26.l4 k x a m b mid n ((s + r) / 2 + 1) r p) = some R) → Ev (fun k => sels_run_26.l4 k x a m b mid n s r p = some R) := by
        intro R hR
        refine (hR.and hev).step fun k hk => ?_
        simp only [sels_run_26.l4]
        rw [if_pos (by omega), half (by omega) (by omega) (by omega), w64 (n := p - _) (by omega) (by omega), if_pos (by omega), if_pos (by omega), if_pos (by omega), if_pos (by omega), hk.2, Option.bind_some, w64 (n := (s + r) / 2 + 1) (by omega) (by omega)]
        exact hk.1
      by_cases hlt : lt (rd_T41 x (p - (s + r) / 2)) (rd_T41 x ((s + r) / 2))
      · obtain ⟨s', q1, q2, q3, q4, q5⟩ := ih s ((s + r) / 2) (by omega) h1 (by omega) (by omega) h4 (.inr hlt)
        exact ⟨s', q1, q2, q3, q4, fun R hR => key R (by simpa only [if_pos (ht.2 hlt)] using q5 R hR)⟩
      · obtain ⟨s', q1, q2, q3, q4, q5⟩ := ih ((s + r) / 2 + 1) r (by omega) (by omega) (by omega) h3 (.inr (by rw [Int.add_sub_cancel]; exact hlt)) h5
        exact ⟨s', q1, q2, q3, q4, fun R hR => key R (by simpa only [if_neg (fun h => hlt (ht.1 h))] using q5 R hR)⟩

theorem sorted_app {A B : List S41} (hA : Sorted A) (hB : Sorted B) (h : ∀ x ∈ A, ∀ y ∈ B, le x y) : Sorted (A ++ B) := List.pairwise_append.2 ⟨hA, hB, h⟩

/-- symMerge merges two sorted parts that lie side by side, stably. -/
theorem symmerge : ∀ (d : Nat) (A B P Q : List S41) (a m b : Int), A.length + B.length ≤ d → Sorted A → Sorted B → 0 < A.length → 0 < B.length → a = P.length → m = P.length + A.length → b = P.length + A.length + B.length → (P ++ A ++ B ++ Q).length < 1000000000 →
    ∃ S, Sorted S ∧ Stab (A ++ B) S ∧ Ev fun k => sels_run_26.f k (P ++ A ++ B ++ Q) a m b = some (P ++ S ++ Q) := by
  intro d
  induction d using Nat.strongRecOn with
  | _ d ih =>
  intro A B P Q a m b hd sA sB hA hB ha hm hb hl
  have hl' := hl
  simp only [List.length_append] at hl'
  have ema : wrap64 (m - a) = A.length := by rw [w64] <;> omega
  have ebm : wrap64 (b - m) = B.length := by rw [w64] <;> omega
  by_cases h1 : A.length = 1
  · obtain ⟨v, rfl⟩ := List.length_eq_one_iff.1 h1
    have e0 : P ++ [v] ++ B ++ Q = P ++ v :: B ++ Q := by simp
    obtain ⟨C1, C2, q1, q2, q3, q4⟩ := bin0 P Q B v a ha sB (by rw [← e0]; exact hl) B.length [] B [] m b (Nat.le_refl _) (by simp) (by simp) (by simp) (by simp <;> omega) (by omega)
    have q5 := move1 v (C2 ++ Q) C1 P (P.length + 1 + C1.length) a ha rfl (by rw [q1] at hl; simp at hl ⊢; omega)
    refine ⟨C1 ++ v :: C2, ?_, ?_, ?_⟩
    · have := List.pairwise_append.1 (q1 ▸ sB)
      refine sorted_app this.1 (List.pairwise_cons.2 ⟨q3, this.2.1⟩) ?_
      intro x hx y hy
      rcases List.mem_cons.1 hy with rfl | hy
      · exact lt_le (q2 x hx)
      · exact this.2.2 x hx y hy
    · have := (stab_move (u := [v]) (v := C1) (by intro x hx y hy; obtain rfl := List.mem_singleton.1 hx; exact q2 y hy)).app (Stab.refl C2)
      rw [q1]
      simpa using this
    · have q6 := q4 (P ++ (C1 ++ v :: C2) ++ Q) (by
        refine q5.mono fun k hk => ?_
        rw [q1]
        simpa using hk)
      refine q6.step fun k hk => ?_
      simp only [sels_run_26.f]
      rw [ema, if_pos (by simp), e0]
      exact hk
  · by_cases h2 : B.length = 1
    · obtain ⟨v, rfl⟩ := List.length_eq_one_iff.1 h2
      have e0 : P ++ A ++ [v] ++ Q = P ++ A ++ v :: Q := by simp
      obtain ⟨C1, C2, q1, q2, q3, q4⟩ := bin2 P Q A v m hm sA (by rw [← e0]; exact hl) A.length [] A [] a m (Nat.le_refl _) (by simp) (by simp) (by simp) (by simp <;> omega) (by omega)
      have q5 := move2 v (P ++ C1) C2.length C2 Q (P.length + C1.length) m rfl (by rw [hm, q1]; simp <;> omega) (by simp) (by rw [q1] at hl; simp at hl ⊢; omega)
      refine ⟨C1 ++ v :: C2, ?_, ?_, ?_⟩
      · have := List.pairwise_append.1 (q1 ▸ sA)
        refine sorted_app this.1 (List.pairwise_cons.2 ⟨fun y hy => lt_le (q3 y hy), this.2.1⟩) ?_
        intro x hx y hy
        rcases List.mem_cons.1 hy with rfl | hy
        · exact q2 x hx
        · exact this.2.2 x hx y hy
      · have := (Stab.refl C1).app (stab_move (u := C2) (v := [v]) (by intro x hx y hy; obtain rfl := List.mem_singleton.1 hy; exact q3 x hx))
        rw [q1]
        simpa using this
      · have q6 := q4 (P ++ (C1 ++ v :: C2) ++ Q) (by
          refine q5.mono fun k hk => ?_
          rw [q1]
          simpa using hk)
        refine q6.step fun k hk => ?_
        simp only [sels_run_26.f]
        rw [ema, if_neg (by omega), ebm, if_pos (by simp), e0]
        exact hk
    · -- both parts have two elements or more
      have hmid : wrap64 (IntKind.u64.wrap (wrap64 (a + b)) / 2) = (a + b) / 2 := half (by omega) (by omega) (by omega)
      obtain ⟨mid, hmd⟩ : ∃ mid : Int, mid = (a + b) / 2 := ⟨_, rfl⟩
      rw [← hmd] at hmid
      have en : wrap64 (mid + m) = mid + m := by rw [w64] <;> omega
      have enb : wrap64 (mid + m - b) = mid + m - b := by rw [w64] <;> omega
      have en1 : wrap64 (mid + m - 1) = mid + m - 1 := by rw [w64] <;> omega
      let s0 : Int := if m > mid then mid + m - b else a
      let r0 : Int := if m > mid then mid else m
      have hs0 : s0 = if m > mid then mid + m - b else a := rfl
      have hr0 : r0 = if m > mid then mid else m := rfl
      have hxl : ((P ++ A ++ B ++ Q).length : Int) = P.length + A.length + B.length + Q.length := by simp <;> omega
      have c0 : a ≤ s0 := by rw [hs0]; split <;> omega
      have c1 : r0 ≤ m := by rw [hr0]; split <;> omega
      have c1' : r0 ≤ mid := by rw [hr0]; split <;> omega
      have c2 : s0 ≤ r0 := by rw [hs0, hr0]; split <;> omega
      have c3 : m ≤ mid + m - r0 := by rw [hr0]; split <;> omega
      have c4 : mid + m - s0 ≤ b := by rw [hs0]; split <;> omega
      obtain ⟨s, p1, p2, p3, p4, p5⟩ := sym (P ++ A ++ B ++ Q) a m b mid (mid + m) (mid + m - 1) s0 r0 (by omega) (by omega) (by omega) (by omega) hl (by omega) (r0 - s0).toNat s0 r0 (Nat.le_refl _) (Int.le_refl _) c2 (Int.le_refl _) (.inl rfl) (.inl rfl)
      -- the four parts
      obtain ⟨A1, A2, rfl, hA1⟩ : ∃ A1 A2, A = A1 ++ A2 ∧ (A1.length : Int) = s - a := ⟨A.take (s - a).toNat, A.drop (s - a).toNat, (List.take_append_drop _ _).symm, by rw [List.length_take]; omega⟩
      obtain ⟨B1, B2, rfl, hB1⟩ : ∃ B1 B2, B = B1 ++ B2 ∧ (B1.length : Int) = mid - s := ⟨B.take (mid - s).toNat, B.drop (mid - s).toNat, (List.take_append_drop _ _).symm, by rw [List.length_take]; omega⟩
      have pA := List.pairwise_append.1 sA
      have pB := List.pairwise_append.1 sB
      simp only [List.length_append] at *
      have k1 : ∀ x ∈ A2, ∀ y ∈ B1, lt y x := by
        intro x hx y hy
        obtain ⟨u, A2', rfl⟩ : ∃ u A2', A2 = u :: A2' := by cases A2 with
          | nil => cases hx
          | cons u l => exact ⟨u, l, rfl⟩
        obtain ⟨B1', w, rfl⟩ : ∃ B1' w, B1 = B1' ++ [w] := ⟨B1.dropLast, B1.getLast (List.ne_nil_of_mem hy), (List.dropLast_concat_getLast _).symm⟩
        simp only [List.length_append, List.length_cons, List.length_nil] at *
        have hne : ¬ s = r0 := by
          intro e
          rw [hr0] at e
          split at e <;> omega
        have hw := p4.resolve_left hne
        have r1 : rd_T41 (P ++ (A1 ++ u :: A2') ++ (B1' ++ [w] ++ B2) ++ Q) s = u := by
          have e : P ++ (A1 ++ u :: A2') ++ (B1' ++ [w] ++ B2) ++ Q = (P ++ A1) ++ u :: (A2' ++ (B1' ++ [w] ++ B2) ++ Q) := by simp
          rw [e]; exact rd_at _ _ _ (by simp <;> omega)
        have r2 : rd_T41 (P ++ (A1 ++ u :: A2') ++ (B1' ++ [w] ++ B2) ++ Q) (mid + m - 1 - s) = w := by
          have e : P ++ (A1 ++ u :: A2') ++ (B1' ++ [w] ++ B2) ++ Q = (P ++ A1 ++ u :: A2' ++ B1') ++ w :: (B2 ++ Q) := by simp
          rw [e]; exact rd_at _ _ _ (by simp <;> omega)
        rw [r1, r2] at hw
        have hxu : le u x := by
          rcases List.mem_cons.1 hx with rfl | hx
          · exact le_refl _
          · exact (List.pairwise_cons.1 pA.2.1).1 x hx
        have hyw : le y w := by
          rcases List.mem_append.1 hy with hy | hy
          · exact (List.pairwise_append.1 pB.1).2.2 y hy w (by simp)
          · obtain rfl := List.mem_singleton.1 hy; exact le_refl _
        exact lt_le_trans (le_lt_trans hyw hw) hxu
      have k2 : ∀ x ∈ A1, ∀ y ∈ B2, le x y := by
        intro x hx y hy
        obtain ⟨u, B2', rfl⟩ : ∃ u B2', B2 = u :: B2' := by cases B2 with
          | nil => cases hy
          | cons u l => exact ⟨u, l, rfl⟩
        obtain ⟨A1', w, rfl⟩ : ∃ A1' w, A1 = A1' ++ [w] := ⟨A1.dropLast, A1.getLast (List.ne_nil_of_mem hx), (List.dropLast_concat_getLast _).symm⟩
        simp only [List.length_append, List.length_cons, List.length_nil] at *
        have hne : ¬ s = s0 := by
          intro e
          rw [hs0] at e
          split at e <;> omega
        have hw := p3.resolve_left hne
        have r1 : rd_T41 (P ++ (A1' ++ [w] ++ A2) ++ (B1 ++ u :: B2') ++ Q) (s - 1) = w := by
          have e : P ++ (A1' ++ [w] ++ A2) ++ (B1 ++ u :: B2') ++ Q = (P ++ A1') ++ w :: (A2 ++ (B1 ++ u :: B2') ++ Q) := by simp
          rw [e]; exact rd_at _ _ _ (by simp <;> omega)
        have r2 : rd_T41 (P ++ (A1' ++ [w] ++ A2) ++ (B1 ++ u :: B2') ++ Q) (mid + m - 1 - (s - 1)) = u := by
          have e : P ++ (A1' ++ [w] ++ A2) ++ (B1 ++ u :: B2') ++ Q = (P ++ (A1' ++ [w] ++ A2) ++ B1) ++ u :: (B2' ++ Q) := by simp
          rw [e]; exact rd_at _ _ _ (by simp <;> omega)
        rw [r1, r2] at hw
        have hxw : le x w := by
          rcases List.mem_append.1 hx with hx | hx
          · exact (List.pairwise_append.1 pA.1).2.2 x hx w (by simp)
          · obtain rfl := List.mem_singleton.1 hx; exact le_refl _
        have hyu : le u y := by
          rcases List.mem_cons.1 hy with rfl | hy
          · exact le_refl _
          · exact (List.pairwise_cons.1 pB.2.1).1 y hy
        exact le_trans (le_trans hxw hw) hyu
      have g1 : a < mid := by omega
      have g2 : mid < b := by omega
      -- the two merges
      obtain ⟨S1, t1, t2, t3⟩ : ∃ S, Sorted S ∧ Stab (A1 ++ B1) S ∧ ((0 < A1.length ∧ 0 < B1.length) → Ev fun k => sels_run_26.f k (P ++ A1 ++ B1 ++ (A2 ++ B2 ++ Q)) a s mid = some (P ++ S ++ (A2 ++ B2 ++ Q))) ∧ (¬ (0 < A1.length ∧ 0 < B1.length) → S = A1 ++ B1) := by
        by_cases hc : 0 < A1.length ∧ 0 < B1.length
        · obtain ⟨S, t1, t2, t3⟩ := ih (A1.length + B1.length) (by omega) A1 B1 P (A2 ++ B2 ++ Q) a s mid (Nat.le_refl _) pA.1 pB.1 hc.1 hc.2 ha (by omega) (by omega) (by simp <;> omega)
          exact ⟨S, t1, t2, fun _ => t3, fun h => absurd hc h⟩
        · refine ⟨A1 ++ B1, ?_, Stab.refl _, fun h => absurd h hc, fun _ => rfl⟩
          rcases Nat.eq_zero_or_pos A1.length with h | h
          · obtain rfl := List.length_eq_zero_iff.1 h; simpa [Sorted] using pB.1
          · obtain rfl := List.length_eq_zero_iff.1 (show B1.length = 0 by omega); simpa [Sorted] using pA.1
      have lS1 := t2.length
      simp only [List.length_append] at lS1
      obtain ⟨S2, t4, t5, t6⟩ : ∃ S, Sorted S ∧ Stab (A2 ++ B2) S ∧ ((0 < A2.length ∧ 0 < B2.length) → Ev fun k => sels_run_26.f k ((P ++ S1) ++ A2 ++ B2 ++ Q) mid (mid + m - s) b = some ((P ++ S1) ++ S ++ Q)) ∧ (¬ (0 < A2.length ∧ 0 < B2.length) → S = A2 ++ B2) := by
        by_cases hc : 0 < A2.length ∧ 0 < B2.length
        · obtain ⟨S, t1, t2, t3⟩ := ih (A2.length + B2.length) (by omega) A2 B2 (P ++ S1) Q mid (mid + m - s) b (Nat.le_refl _) pA.2.1 pB.2.1 hc.1 hc.2 (by simp <;> omega) (by simp <;> omega) (by simp <;> omega) (by simp <;> omega)
          exact ⟨S, t1, t2, fun _ => t3, fun h => absurd hc h⟩
        · refine ⟨A2 ++ B2, ?_, Stab.refl _, fun h => absurd h hc, fun _ => rfl⟩
          rcases Nat.eq_zero_or_pos A2.length with h | h
          · obtain rfl := List.length_eq_zero_iff.1 h; simpa [Sorted] using pB.2.1
          · obtain rfl := List.length_eq_zero_iff.1 (show B2.length = 0 by omega); simpa [Sorted] using pA.2.1
      refine ⟨S1 ++ S2, ?_, ?_, ?_⟩
      · refine sorted_app t1 t4 ?_
        intro x hx y hy
        have hx := (t2.mem x).2 hx
        have hy := (t5.mem y).2 hy
        rcases List.mem_append.1 hx with hx | hx <;> rcases List.mem_append.1 hy with hy | hy
        · exact pA.2.2 x hx y hy
        · exact k2 x hx y hy
        · exact lt_le (k1 y hy x hx)
        · exact pB.2.2 x hx y hy
      · have e1 : A1 ++ A2 ++ (B1 ++ B2) = A1 ++ (A2 ++ B1) ++ B2 := by simp
        have e2 : A1 ++ (B1 ++ A2) ++ B2 = (A1 ++ B1) ++ (A2 ++ B2) := by simp
        rw [e1]
        refine (((Stab.refl A1).app (stab_move k1)).app (Stab.refl B2)).trans ?_
        rw [e2]
        exact t2.app t5
      · -- the code
        have f8b : Ev fun k => (if mid < mid + m - s then (if mid + m - s < b then ((sels_run_26.f k (P ++ S1 ++ (A2 ++ B2) ++ Q) mid (mid + m - s) b).bind fun t147 => (some t147)) else (some (P ++ S1 ++ (A2 ++ B2) ++ Q))) else (some (P ++ S1 ++ (A2 ++ B2) ++ Q))) = some (P ++ (S1 ++ S2) ++ Q) := by
          by_cases hc : 0 < A2.length ∧ 0 < B2.length
          · refine (t6.1 hc).mono fun k hk => ?_
            rw [if_pos (by omega), if_pos (by omega)]
            have e : P ++ S1 ++ (A2 ++ B2) ++ Q = P ++ S1 ++ A2 ++ B2 ++ Q := by simp
            rw [e, hk, Option.bind_some]
            simp
          · have e := t6.2 hc
            refine Ev.mk0 fun k => ?_
            rw [e]
            by_cases h : mid < mid + m - s
            · rw [if_pos h, if_neg (by omega)]; simp
            · rw [if_neg h]; simp
        have f8 : Ev fun k => (if a < s then (sels_run_26.j8 k (P ++ (A1 ++ B1) ++ (A2 ++ B2) ++ Q) a b mid s (mid + m - s) (decide (s < mid))) else (sels_run_26.j8 k (P ++ (A1 ++ B1) ++ (A2 ++ B2) ++ Q) a b mid s (mid + m - s) false)) = some (P ++ (S1 ++ S2) ++ Q) := by
          by_cases hc : 0 < A1.length ∧ 0 < B1.length
          · refine ((t3.1 hc).and f8b).step fun k hk => ?_
            rw [if_pos (by omega)]
            simp only [sels_run_26.j8]
            rw [if_pos (by simp; omega)]
            have e : P ++ (A1 ++ B1) ++ (A2 ++ B2) ++ Q = P ++ A1 ++ B1 ++ (A2 ++ B2 ++ Q) := by simp
            have e2 : P ++ S1 ++ (A2 ++ B2 ++ Q) = P ++ S1 ++ (A2 ++ B2) ++ Q := by simp
            rw [e, hk.1, Option.bind_some, e2]
            exact hk.2
          · have e := t3.2 hc
            subst e
            refine f8b.step fun k hk => ?_
            have e : (if a < s then (sels_run_26.j8 (k + 1) (P ++ (A1 ++ B1) ++ (A2 ++ B2) ++ Q) a b mid s (mid + m - s) (decide (s < mid))) else (sels_run_26.j8 (k + 1) (P ++ (A1 ++ B1) ++ (A2 ++ B2) ++ Q) a b mid s (mid + m - s) false)) = sels_run_26.j8 (k + 1) (P ++ (A1 ++ B1) ++ (A2 ++ B2) ++ Q) a b mid s (mid + m - s) false := by
              split
              · rw [decide_eq_false (by omega)]
              · rfl
            rw [e]
            simp only [sels_run_26.j8]
            rw [if_neg (by simp)]
            exact hk
        have f7 : Ev fun k => sels_run_26.j7 k (P ++ (A1 ++ B1) ++ (A2 ++ B2) ++ Q) a b mid s (mid + m - s) = some (P ++ (S1 ++ S2) ++ Q) := f8.step fun k hk => by simp only [sels_run_26.j7]; exact hk
        have ens : wrap64 (mid + m - s) = mid + m - s := by rw [w64] <;> omega
        have f6 : Ev fun k => (if s < m then (sels_run_26.j6 k (P ++ (A1 ++ A2) ++ (B1 ++ B2) ++ Q) a m b mid s (wrap64 (mid + m - s)) (decide (m < (wrap64 (mid + m - s))))) else (sels_run_26.j6 k (P ++ (A1 ++ A2) ++ (B1 ++ B2) ++ Q) a m b mid s (wrap64 (mid + m - s)) false)) = some (P ++ (S1 ++ S2) ++ Q) := by
          rw [ens]
          by_cases hc : 0 < A2.length ∧ 0 < B1.length
          · have hrot := rotate A2 B1 (P ++ A1) (B2 ++ Q) s m (mid + m - s) hc.1 hc.2 (by simp <;> omega) (by simp <;> omega) (by simp <;> omega) (by simp <;> omega)
            refine (hrot.and f7).step fun k hk => ?_
            rw [if_pos (by omega), decide_eq_true (by omega)]
            simp only [sels_run_26.j6]
            have e : P ++ (A1 ++ A2) ++ (B1 ++ B2) ++ Q = P ++ A1 ++ A2 ++ B1 ++ (B2 ++ Q) := by simp
            have e2 : P ++ A1 ++ B1 ++ A2 ++ (B2 ++ Q) = P ++ (A1 ++ B1) ++ (A2 ++ B2) ++ Q := by simp
            rw [if_pos trivial, e, hk.1, Option.bind_some, e2]
            exact hk.2
          · have e : P ++ (A1 ++ A2) ++ (B1 ++ B2) ++ Q = P ++ (A1 ++ B1) ++ (A2 ++ B2) ++ Q := by
              rcases Nat.eq_zero_or_pos A2.length with h | h
              · obtain rfl := List.length_eq_zero_iff.1 h; simp
              · obtain rfl := List.length_eq_zero_iff.1 (show B1.length = 0 by omega); simp
            rw [e]
            refine f7.step fun k hk => ?_
            have e : (if s < m then (sels_run_26.j6 (k + 1) (P ++ (A1 ++ B1) ++ (A2 ++ B2) ++ Q) a m b mid s (mid + m - s) (decide (m < mid + m - s))) else (sels_run_26.j6 (k + 1) (P ++ (A1 ++ B1) ++ (A2 ++ B2) ++ Q) a m b mid s (mid + m - s) false)) = sels_run_26.j6 (k + 1) (P ++ (A1 ++ B1) ++ (A2 ++ B2) ++ Q) a m b mid s (mid + m - s) false := by
              split
              · rw [decide_eq_false (by omega)]
              · rfl
            rw [e]
            simp only [sels_run_26.j6]
            rw [if_neg (by simp)]
            exact hk
        have f4 := (p5 _ f6).step (q := fun k => sels_run_26.j4 k (P ++ (A1 ++ A2) ++ (B1 ++ B2) ++ Q) a m b mid (mid + m) s0 r0 = some (P ++ (S1 ++ S2) ++ Q)) fun k hk => by simp only [sels_run_26.j4]; rw [en1]; exact hk
        refine f4.step fun k hk => ?_
        simp only [sels_run_26.f]
        rw [ema, if_neg (by omega), ebm, if_neg (by omega), hmid, en, enb]
        by_cases hc : m > mid
        · rw [if_pos hc]
          rw [hs0, hr0, if_pos hc, if_pos hc] at hk
          exact hk
        · rw [if_neg hc]
          rw [hs0, hr0, if_neg hc, if_neg hc] at hk
          exact hk
end Go.Proofs.Ythbdiambigfgdaf.Sort
