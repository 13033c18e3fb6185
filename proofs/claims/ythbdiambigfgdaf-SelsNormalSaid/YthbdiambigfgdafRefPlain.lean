/- The document's Normal: groups that touch become one, again and again: what stays comes to the same as the sweep. -/
import Derived.Test.YthbdiambigfgdafBlkPlain
namespace Go.Proofs.Ythbdiambigfgdaf.Sort
open Go.RowKit Go.Proofs.Ythbdiambigfgdaf.PSelsNormal Go.Proofs.YthbdiambigfgdafW.PrintWords Go.Proofs.YthbdiambigfgdafW.PrintLast Go.Proofs.YthbdiambigfgdafW.PrintMore
set_option linter.unusedVariables false
set_option linter.unusedSimpArgs false

def lo (s : S24) : Int := mn s.f0 s.f1
def hi (s : S24) : Int := mx s.f0 s.f1
theorem lo_hi (s : S24) : lo s ≤ hi s := by unfold lo hi mn mx; (repeat' split) <;> omega
def orun (s : S24) : S41 := ⟨⟨lo s, hi s⟩, cmpI s.f1 s.f0⟩
theorem orun_zero (s : S24) : (orun s).f1 = 0 ↔ s.f0 = s.f1 := by
  show cmpI s.f1 s.f0 = 0 ↔ _
  unfold cmpI; split
  · constructor <;> intro h <;> omega
  · split <;> constructor <;> intro h <;> omega
theorem orun_neg (s : S24) : (orun s).f1 < 0 ↔ s.f1 < s.f0 := by
  show cmpI s.f1 s.f0 < 0 ↔ _
  unfold cmpI; split
  · constructor <;> intro h <;> omega
  · split <;> constructor <;> intro h <;> omega
theorem orun_up (s : S24) : Up (orun s) := lo_hi s

def tch (A B : S48) : Prop := A.f0 ≤ B.f1 ∧ B.f0 ≤ A.f1
instance (A B : S48) : Decidable (tch A B) := by unfold tch; infer_instance
def ahd (own : List S24) (a b : Int) : Bool :=
  if a < 0 then decide (b < 0) else if b < 0 then true else
  if lo (rd_T24 own a) = lo (rd_T24 own b) then (if hi (rd_T24 own a) = hi (rd_T24 own b) then decide (a < b) else decide (hi (rd_T24 own a) < hi (rd_T24 own b))) else decide (lo (rd_T24 own a) < lo (rd_T24 own b))
theorem ahd_iff {own : List S24} {a b : Int} (ha : 0 ≤ a) (hb : 0 ≤ b) : ahd own a b = true ↔ (lo (rd_T24 own a) < lo (rd_T24 own b) ∨ lo (rd_T24 own a) = lo (rd_T24 own b) ∧ (hi (rd_T24 own a) < hi (rd_T24 own b) ∨ hi (rd_T24 own a) = hi (rd_T24 own b) ∧ a < b)) := by
  unfold ahd
  rw [if_neg (by omega), if_neg (by omega)]
  split
  · split
    · simp only [decide_eq_true_eq]; omega
    · simp only [decide_eq_true_eq]; omega
  · simp only [decide_eq_true_eq]; omega
def mrg (own : List S24) (A B : S48) : S48 := ⟨if B.f0 < A.f0 then B.f0 else A.f0, if B.f1 > A.f1 then B.f1 else A.f1, if ahd own B.f2 A.f2 = true then B.f2 else A.f2⟩
def stp (own : List S24) (g : List S48) (i k : Nat) : List S48 := (g.set i (mrg own (g.getD i z48) (g.getD k z48))).eraseIdx k

structure Inv (own : List S24) (Bs : List (List S41 × S41)) (g : List S48) : Prop where
  up : ∀ A ∈ g, A.f0 ≤ A.f1
  cls : ∀ A ∈ g, ∃ B ∈ Bs, B.2.f0.f0 ≤ A.f0 ∧ A.f1 ≤ B.2.f0.f1
  cov : ∀ s ∈ own, ∃ A ∈ g, A.f0 ≤ lo s ∧ hi s ≤ A.f1
  who : ∀ A ∈ g, A.f2 < own.length ∧ (0 ≤ A.f2 → (rd_T24 own A.f2).f0 ≠ (rd_T24 own A.f2).f1 ∧ A.f0 ≤ lo (rd_T24 own A.f2) ∧ hi (rd_T24 own A.f2) ≤ A.f1)
  best : ∀ i : Nat, i < own.length → (rd_T24 own i).f0 ≠ (rd_T24 own i).f1 → ∃ A ∈ g, A.f0 ≤ lo (rd_T24 own i) ∧ hi (rd_T24 own i) ≤ A.f1 ∧ 0 ≤ A.f2 ∧ (A.f2 = i ∨ ahd own A.f2 i = true)

theorem pw_cases {α : Type} {R : α → α → Prop} {l : List α} (h : l.Pairwise R) : ∀ a ∈ l, ∀ b ∈ l, a = b ∨ R a b ∨ R b a := by
  induction l with
  | nil => intro a ha; cases ha
  | cons x l ih =>
    rw [List.pairwise_cons] at h
    intro a ha b hb
    rcases List.mem_cons.1 ha with e1 | ha1 <;> rcases List.mem_cons.1 hb with e2 | hb1
    · exact .inl (e1.trans e2.symm)
    · rw [e1]; exact .inr (.inl (h.1 b hb1))
    · rw [e2]; exact .inr (.inr (h.1 a ha1))
    · exact ih h.2 a ha1 b hb1

/-- Two blocks that share a place are one. -/
theorem Swept.uniq {S : List S41} {Bs : List (List S41 × S41)} (h : Swept S Bs) {B C : List S41 × S41} (hB : B ∈ Bs) (hC : C ∈ Bs) (h1 : B.2.f0.f0 ≤ C.2.f0.f1) (h2 : C.2.f0.f0 ≤ B.2.f0.f1) : B = C := by
  rcases pw_cases h.apart B hB C hC with e | e | e
  · exact e
  · exact absurd e (by omega)
  · exact absurd e (by omega)

theorem mem_stp {own : List S24} {g : List S48} {i k : Nat} {A : S48} (h : A ∈ stp own g i k) : A = mrg own (g.getD i z48) (g.getD k z48) ∨ A ∈ g := by
  have := List.mem_of_mem_eraseIdx h
  rcases List.mem_or_eq_of_mem_set this with h | h
  · exact .inr h
  · exact .inl h
theorem stp_mem {own : List S24} {g : List S48} {i k : Nat} (hik : i ≠ k) (hi : i < g.length) : mrg own (g.getD i z48) (g.getD k z48) ∈ stp own g i k := by
  unfold stp
  rw [List.mem_eraseIdx_iff_getElem?]
  exact ⟨i, hik, by rw [List.getElem?_set_self hi]⟩
theorem stp_old {own : List S24} {g : List S48} {i k : Nat} {A : S48} (h : A ∈ g) : A ∈ stp own g i k ∨ A = g.getD i z48 ∨ A = g.getD k z48 := by
  obtain ⟨j, hj, rfl⟩ := List.mem_iff_getElem.1 h
  by_cases h1 : j = i
  · subst h1; right; left; simp [List.getD_eq_getElem?_getD, hj]
  · by_cases h2 : j = k
    · subst h2; right; right; simp [List.getD_eq_getElem?_getD, hj]
    · left
      unfold stp
      rw [List.mem_eraseIdx_iff_getElem?]
      exact ⟨j, h2, by rw [List.getElem?_set_ne (Ne.symm h1)]; simp [hj]⟩
theorem getD_mem {g : List S48} {i : Nat} (h : i < g.length) : g.getD i z48 ∈ g := by
  rw [List.getD_eq_getElem?_getD, List.getElem?_eq_getElem h]; exact List.getElem_mem h

theorem Inv.step {own : List S24} {S : List S41} {Bs : List (List S41 × S41)} {g : List S48} (hS : Swept S Bs) (h : Inv own Bs g) {i k : Nat} (hik : i < k) (hk : k < g.length) (ht : tch (g.getD i z48) (g.getD k z48)) : Inv own Bs (stp own g i k) := by
  have hA := getD_mem (g := g) (i := i) (by omega)
  have hB := getD_mem (g := g) (i := k) hk
  have hC : mrg own (g.getD i z48) (g.getD k z48) ∈ stp own g i k := stp_mem (by omega) (by omega)
  generalize hcA : g.getD i z48 = A at *
  generalize hcB : g.getD k z48 = B at *
  have m0 : (mrg own A B).f0 = if B.f0 < A.f0 then B.f0 else A.f0 := rfl
  have m1 : (mrg own A B).f1 = if B.f1 > A.f1 then B.f1 else A.f1 := rfl
  have m2 : (mrg own A B).f2 = if ahd own B.f2 A.f2 = true then B.f2 else A.f2 := rfl
  have uA := h.up A hA
  have uB := h.up B hB
  unfold tch at ht
  have cA : (mrg own A B).f0 ≤ A.f0 ∧ A.f1 ≤ (mrg own A B).f1 := by rw [m0, m1]; constructor <;> split <;> omega
  have cB : (mrg own A B).f0 ≤ B.f0 ∧ B.f1 ≤ (mrg own A B).f1 := by rw [m0, m1]; constructor <;> split <;> omega
  have old : ∀ X ∈ g, ∃ Y ∈ stp own g i k, Y.f0 ≤ X.f0 ∧ X.f1 ≤ Y.f1 := by
    intro X hX
    rcases stp_old (own := own) (i := i) (k := k) hX with hX | e | e
    · exact ⟨X, hX, Int.le_refl _, Int.le_refl _⟩
    · rw [hcA] at e; subst e; exact ⟨_, hC, cA⟩
    · rw [hcB] at e; subst e; exact ⟨_, hC, cB⟩
  have new : ∀ X ∈ stp own g i k, X = mrg own A B ∨ X ∈ g := by
    intro X hX
    rcases mem_stp hX with e | e
    · rw [hcA, hcB] at e; exact .inl e
    · exact .inr e
  refine ⟨?_, ?_, ?_, ?_, ?_⟩
  · intro X hX
    rcases new X hX with rfl | hX
    · omega
    · exact h.up X hX
  · intro X hX
    rcases new X hX with rfl | hX
    · obtain ⟨D, hD, d1, d2⟩ := h.cls A hA
      obtain ⟨E, hE, e1, e2⟩ := h.cls B hB
      obtain rfl := hS.uniq hD hE (by omega) (by omega)
      refine ⟨D, hD, ?_, ?_⟩
      · rw [m0]; split <;> omega
      · rw [m1]; split <;> omega
    · exact h.cls X hX
  · intro s hs
    obtain ⟨X, hX, x1, x2⟩ := h.cov s hs
    obtain ⟨Y, hY, y1, y2⟩ := old X hX
    exact ⟨Y, hY, by omega, by omega⟩
  · intro X hX
    rcases new X hX with rfl | hX
    · rw [m2]
      have wA := h.who A hA
      have wB := h.who B hB
      split
      · exact ⟨wB.1, fun h0 => by have := wB.2 h0; exact ⟨this.1, by omega, by omega⟩⟩
      · exact ⟨wA.1, fun h0 => by have := wA.2 h0; exact ⟨this.1, by omega, by omega⟩⟩
    · exact h.who X hX
  · intro j hj hn
    obtain ⟨X, hX, x1, x2, x3, x4⟩ := h.best j hj hn
    rcases stp_old (own := own) (i := i) (k := k) hX with hX | e | e
    · exact ⟨X, hX, x1, x2, x3, x4⟩
    · rw [hcA] at e; subst e
      refine ⟨_, hC, by omega, by omega, ?_⟩
      rw [m2]
      split
      · rename_i ha
        have hb0 : 0 ≤ B.f2 := by
          unfold ahd at ha
          by_cases hb : B.f2 < 0
          · rw [if_pos hb] at ha; simp at ha; omega
          · omega
        refine ⟨hb0, .inr ?_⟩
        rw [ahd_iff hb0 x3] at ha
        rcases x4 with x4 | x4
        · rw [ahd_iff hb0 (by omega), ← x4]; exact ha
        · rw [ahd_iff x3 (by omega)] at x4
          rw [ahd_iff hb0 (by omega)]
          omega
      · exact ⟨x3, x4⟩
    · rw [hcB] at e; subst e
      refine ⟨_, hC, by omega, by omega, ?_⟩
      rw [m2]
      split
      · exact ⟨x3, x4⟩
      · rename_i ha
        have ha0 : 0 ≤ A.f2 := by
          by_cases hb : A.f2 < 0
          · exfalso; apply ha; unfold ahd; rw [if_neg (by omega), if_pos hb]
          · omega
        refine ⟨ha0, ?_⟩
        rw [ahd_iff x3 ha0] at ha
        rcases x4 with x4 | x4
        · by_cases e : A.f2 = j
          · exact .inl e
          · right
            rw [ahd_iff ha0 (by omega), ← x4]
            omega
        · right
          rw [ahd_iff x3 (by omega)] at x4
          rw [ahd_iff ha0 (by omega)]
          by_cases e : A.f2 = X.f2
          · rw [e]; exact x4
          · omega

/-- What a group that stays tells of its block. -/
structure Rep (own : List S24) (q : S41) (A : S48) : Prop where
  lo : A.f0 = q.f0.f0
  hi : A.f1 = q.f0.f1
  lt : A.f2 < own.length
  none : A.f2 < 0 → q.f1 = 0
  some : 0 ≤ A.f2 → (q.f1 < 0 ↔ (rd_T24 own A.f2).f1 < (rd_T24 own A.f2).f0)

theorem rd24_mem {own : List S24} {i : Int} (h0 : 0 ≤ i) (h1 : i < own.length) : rd_T24 own i ∈ own := by
  unfold rd_T24
  rw [List.getD_eq_getElem?_getD, List.getElem?_eq_getElem (by omega)]; exact List.getElem_mem _

theorem Inv.rep {own : List S24} {S : List S41} {Bs : List (List S41 × S41)} {g : List S48} (hS : Swept S Bs) (hsS : Sorted S) (hst : Stab (own.map orun) S) (h : Inv own Bs g)
    (hn : ∀ A ∈ g, ∀ B ∈ g, A = B ∨ ¬ tch A B) : (∀ B ∈ Bs, ∃ A ∈ g, Rep own B.2 A) ∧ ∀ A ∈ g, ∃ B ∈ Bs, Rep own B.2 A := by
  -- each element of S is in a block, and comes of one of own
  have inS : ∀ B ∈ Bs, ∀ x ∈ B.1, x ∈ S := by
    intro B hB x hx
    rw [← hS.flat]
    exact List.mem_flatten.2 ⟨B.1, List.mem_map.2 ⟨B, hB, rfl⟩, hx⟩
  have ofS : ∀ x ∈ S, ∃ s ∈ own, orun s = x := by
    intro x hx
    obtain ⟨s, hs, e⟩ := List.mem_map.1 ((hst.mem x).2 hx)
    exact ⟨s, hs, e⟩
  have blk : ∀ s ∈ own, ∃ B ∈ Bs, orun s ∈ B.1 := by
    intro s hs
    have h1 : orun s ∈ S := (hst.mem _).1 (List.mem_map.2 ⟨s, hs, rfl⟩)
    rw [← hS.flat] at h1
    obtain ⟨l, hl, hx⟩ := List.mem_flatten.1 h1
    obtain ⟨B, hB, rfl⟩ := List.mem_map.1 hl
    exact ⟨B, hB, hx⟩
  -- a group that has a place of a block lies in it
  have inB : ∀ B ∈ Bs, ∀ A ∈ g, A.f0 ≤ B.2.f0.f1 → B.2.f0.f0 ≤ A.f1 → B.2.f0.f0 ≤ A.f0 ∧ A.f1 ≤ B.2.f0.f1 := by
    intro B hB A hA h1 h2
    obtain ⟨C, hC, c1, c2⟩ := h.cls A hA
    have := h.up A hA
    obtain rfl := hS.uniq hB hC (by omega) (by omega)
    exact ⟨c1, c2⟩
  have full : ∀ B ∈ Bs, ∃ A ∈ g, A.f0 = B.2.f0.f0 ∧ A.f1 = B.2.f0.f1 := by
    intro B hB
    have ag := hS.agg B hB
    have le := ag.le
    obtain ⟨x, hx, ex⟩ := ag.lo
    obtain ⟨s, hs, rfl⟩ := ofS x (inS B hB x hx)
    obtain ⟨A, hA, a1, a2⟩ := h.cov s hs
    have ex' : lo s = B.2.f0.f0 := ex
    have lh := lo_hi s
    have wx := ag.within _ hx
    have wx1 : B.2.f0.f0 ≤ lo s ∧ hi s ≤ B.2.f0.f1 := wx
    obtain ⟨b1, b2⟩ := inB B hB A hA (by omega) (by omega)
    refine ⟨A, hA, by omega, ?_⟩
    by_cases hlt : A.f1 < B.2.f0.f1
    · exfalso
      have ua := h.up A hA
      obtain ⟨y, hy, y1, y2⟩ := ag.cov A.f1 (by omega) hlt
      obtain ⟨t, ht, rfl⟩ := ofS y (inS B hB y hy)
      have y1' : lo t ≤ A.f1 := y1
      have y2' : A.f1 < hi t := y2
      obtain ⟨C, hC, c1, c2⟩ := h.cov t ht
      rcases hn A hA C hC with rfl | e
      · omega
      · apply e; unfold tch; omega
    · omega
  have only : ∀ B ∈ Bs, ∀ A ∈ g, A.f0 = B.2.f0.f0 → A.f1 = B.2.f0.f1 → ∀ C ∈ g, C.f0 ≤ B.2.f0.f1 → B.2.f0.f0 ≤ C.f1 → C = A := by
    intro B hB A hA e1 e2 C hC c1 c2
    rcases hn C hC A hA with e | e
    · exact e
    · exfalso; apply e; unfold tch; omega
  have rep : ∀ B ∈ Bs, ∀ A ∈ g, A.f0 = B.2.f0.f0 → A.f1 = B.2.f0.f1 → Rep own B.2 A := by
    intro B hB A hA e1 e2
    have ag := hS.agg B hB
    have w1 := h.who A hA
    -- who lies in A lies in the block
    have inblk : ∀ s ∈ own, A.f0 ≤ lo s → hi s ≤ A.f1 → orun s ∈ B.1 := by
      intro s hs h1 h2
      obtain ⟨C, hC, hx⟩ := blk s hs
      have wc := (hS.agg C hC).within _ hx
      have wc1 : C.2.f0.f0 ≤ lo s ∧ hi s ≤ C.2.f0.f1 := wc
      have lh := lo_hi s
      obtain rfl := hS.uniq hC hB (by omega) (by omega)
      exact hx
    refine ⟨e1, e2, w1.1, ?_, ?_⟩
    · intro hlt
      rcases ag.turn with ⟨h0, _⟩ | ⟨P, x, Q, e, hx, ht, hP⟩
      · exact h0
      · exfalso
        have hxB : x ∈ B.1 := by rw [e]; simp
        obtain ⟨s, hs, rfl⟩ := ofS x (inS B hB x hxB)
        obtain ⟨i, hi', rfl⟩ := List.mem_iff_getElem.1 hs
        have er : rd_T24 own (i : Int) = own[i] := by simp [rd_T24, List.getD_eq_getElem?_getD, hi']
        have hne : (rd_T24 own (i : Int)).f0 ≠ (rd_T24 own (i : Int)).f1 := by rw [er]; exact fun e => hx ((orun_zero _).2 e)
        obtain ⟨C, hC, c1, c2, c3, _⟩ := h.best i hi' hne
        have wx := ag.within _ hxB
        have wx1 : B.2.f0.f0 ≤ lo own[i] ∧ hi own[i] ≤ B.2.f0.f1 := wx
        have lh := lo_hi own[i]
        rw [er] at c1 c2
        have := only B hB A hA e1 e2 C hC (by omega) (by omega)
        subst this
        omega
    · intro h0
      obtain ⟨wn, wl, wh⟩ := w1.2 h0
      have wm := rd24_mem h0 w1.1
      have yB := inblk _ wm wl wh
      have hy0 : (orun (rd_T24 own A.f2)).f1 ≠ 0 := fun e => wn ((orun_zero _).1 e)
      rcases ag.turn with ⟨_, ha⟩ | ⟨P, x, Q, e, hx, ht, hP⟩
      · exact absurd (ha _ yB) hy0
      · -- the first that goes somewhere is who
        have hxB : x ∈ B.1 := by rw [e]; simp
        rw [ht]
        suffices hxy : x = orun (rd_T24 own A.f2) by rw [hxy]; exact orun_neg _
        obtain ⟨w, hw⟩ : ∃ w : Nat, A.f2 = w := ⟨A.f2.toNat, by omega⟩
        have hwl : w < own.length := by have := w1.1; omega
        -- all who go somewhere in the block stand behind who
        have behind : ∀ j : Nat, j < own.length → (rd_T24 own j).f0 ≠ (rd_T24 own j).f1 → A.f0 ≤ lo (rd_T24 own j) → hi (rd_T24 own j) ≤ A.f1 → (A.f2 = j ∨ ahd own A.f2 j = true) := by
          intro j hj hne h1 h2
          obtain ⟨C, hC, c1, c2, c3, c4⟩ := h.best j hj hne
          have lh := lo_hi (rd_T24 own j)
          have := only B hB A hA e1 e2 C hC (by omega) (by omega)
          subst this
          exact c4
        -- the two have one key
        obtain ⟨s, hs, hsx⟩ := ofS x (inS B hB x hxB)
        obtain ⟨i, hi', rfl⟩ := List.mem_iff_getElem.1 hs
        have er : rd_T24 own (i : Int) = own[i] := by simp [rd_T24, List.getD_eq_getElem?_getD, hi']
        have wx := ag.within _ hxB
        have wx1 : B.2.f0.f0 ≤ lo own[i] ∧ hi own[i] ≤ B.2.f0.f1 := by rw [← hsx] at wx; exact wx
        have hbi := behind i hi' (by rw [er]; exact fun e => hx (by rw [← hsx]; exact (orun_zero _).2 e)) (by rw [er]; omega) (by rw [er]; omega)
        have hsub : B.1.Pairwise le := by
          have h1 : Sorted (Bs.map Prod.fst).flatten := by rw [hS.flat]; exact hsS
          exact h1.sublist (List.sublist_flatten_of_mem (List.mem_map.2 ⟨B, hB, rfl⟩))
        have hxle : ∀ y ∈ Q, le x y := by
          rw [e, List.pairwise_append] at hsub
          exact (List.pairwise_cons.1 hsub.2.1).1
        have key1 : le x (orun (rd_T24 own A.f2)) := by
          rw [e] at yB
          rcases List.mem_append.1 yB with hp | hp
          · exact absurd (hP _ hp) hy0
          · rcases List.mem_cons.1 hp with hp | hp
            · rw [hp]; exact le_refl _
            · exact hxle _ hp
        have xlo : x.f0.f0 = lo own[i] := by rw [← hsx]; rfl
        have xhi : x.f0.f1 = hi own[i] := by rw [← hsx]; rfl
        have ylo : (orun (rd_T24 own A.f2)).f0.f0 = lo (rd_T24 own A.f2) := rfl
        have yhi : (orun (rd_T24 own A.f2)).f0.f1 = hi (rd_T24 own A.f2) := rfl
        have keys : x.f0.f0 = lo (rd_T24 own A.f2) ∧ x.f0.f1 = hi (rd_T24 own A.f2) := by
          unfold le Sort.lt at key1
          rw [ylo, yhi] at key1
          rcases hbi with hbi | hbi
          · rw [hbi, er]; exact ⟨xlo, xhi⟩
          · rw [ahd_iff h0 (by omega), er] at hbi
            omega
        -- the first of this key that goes somewhere: in S it is x, in own it is who
        let c : Int × Int := (x.f0.f0, x.f0.f1)
        let p : S41 → Bool := fun z => decide (z.f1 ≠ 0)
        have hkx : key c x = true := by simp [key, c]
        have hpx : p x = true := by simp [p, hx]
        have f1 : (S.filter (key c)).find? p = some x := by
          obtain ⟨U, V, hUV⟩ := List.append_of_mem (List.mem_map.2 ⟨B, hB, rfl⟩ : B.1 ∈ Bs.map Prod.fst)
          have eS : S = U.flatten ++ (P ++ x :: (Q ++ V.flatten)) := by rw [← hS.flat, hUV, e]; simp
          rw [eS, List.filter_append, List.filter_append, List.filter_cons, if_pos hkx, List.find?_append, List.find?_append, List.find?_cons, hpx]
          have n1 : (U.flatten.filter (key c)).find? p = none := by
            rw [List.find?_eq_none]
            intro z hz hpz
            rw [List.mem_filter] at hz
            obtain ⟨l, hl, hzl⟩ := List.mem_flatten.1 hz.1
            -- its block is another one, ahead: yet it shares a place with this one
            have hap : (Bs.map Prod.fst).Pairwise (fun b d => ∀ y ∈ b, ∀ z ∈ d, y.f0.f1 < z.f0.f0) := by
              rw [List.pairwise_map]
              refine hS.apart.imp_of_mem ?_
              intro X Y hX hY hXY y hy z hz
              have a1 := (hS.agg X hX).within y hy
              have a2 := (hS.agg Y hY).within z hz
              omega
            rw [hUV, List.pairwise_append] at hap
            have hzx := hap.2.2 l hl B.1 List.mem_cons_self z hzl x hxB
            have hz2 := hz.2
            simp only [key, c, Bool.and_eq_true, beq_iff_eq] at hz2
            have : x.f0.f0 ≤ x.f0.f1 := by rw [xlo, xhi]; exact lo_hi _
            omega
          have n2 : (P.filter (key c)).find? p = none := by
            rw [List.find?_eq_none]
            intro z hz hpz
            rw [List.mem_filter] at hz
            simp [p, hP z hz.1] at hpz
          rw [n1, n2]; rfl
        have f2 : ((own.map orun).filter (key c)).find? p = some (orun (rd_T24 own A.f2)) := by
          have eo : own = own.take w ++ rd_T24 own A.f2 :: own.drop (w + 1) := by
            have ew : rd_T24 own A.f2 = own[w] := by rw [hw]; simp [rd_T24, List.getD_eq_getElem?_getD, hwl]
            rw [ew, ← List.drop_eq_getElem_cons hwl, List.take_append_drop]
          have hky : key c (orun (rd_T24 own A.f2)) = true := by simp only [key, c, ylo, yhi, keys.1, keys.2]; simp
          have hpy : p (orun (rd_T24 own A.f2)) = true := by simp only [p, decide_eq_true_eq]; exact hy0
          have em : own.map orun = (own.take w).map orun ++ orun (rd_T24 own A.f2) :: (own.drop (w + 1)).map orun := by
            conv => lhs; rw [eo]
            simp
          rw [em, List.filter_append, List.filter_cons, if_pos hky, List.find?_append, List.find?_cons, hpy]
          have n1 : (((own.take w).map orun).filter (key c)).find? p = none := by
            rw [List.find?_eq_none]
            intro z hz hpz
            rw [List.mem_filter] at hz
            obtain ⟨t, ht, rfl⟩ := List.mem_map.1 hz.1
            obtain ⟨j, hj, rfl⟩ := List.mem_iff_getElem.1 ht
            simp only [List.length_take] at hj
            have hjl : j < own.length := by omega
            rw [List.getElem_take] at hz hpz
            have ej : rd_T24 own (j : Int) = own[j] := by simp [rd_T24, List.getD_eq_getElem?_getD, hjl]
            have hz2 := hz.2
            simp only [key, c, Bool.and_eq_true, beq_iff_eq] at hz2
            have z1 : lo own[j] = x.f0.f0 := hz2.1
            have z2 : hi own[j] = x.f0.f1 := hz2.2
            simp only [p, decide_eq_true_eq] at hpz
            have hb := behind j hjl (by rw [ej]; exact fun e => hpz ((orun_zero _).2 e)) (by rw [ej]; omega) (by rw [ej]; omega)
            rcases hb with hb | hb
            · omega
            · rw [ahd_iff h0 (by omega), ej] at hb
              omega
          rw [n1]; rfl
        have := (hst c)
        rw [this, f1] at f2
        exact Option.some.inj f2
  refine ⟨fun B hB => ?_, fun A hA => ?_⟩
  · obtain ⟨A, hA, e1, e2⟩ := full B hB
    exact ⟨A, hA, rep B hB A hA e1 e2⟩
  · obtain ⟨B, hB, b1, b2⟩ := h.cls A hA
    obtain ⟨C, hC, e1, e2⟩ := full B hB
    have := h.up A hA
    have := only B hB C hC e1 e2 A hA (by omega) (by omega)
    subst this
    exact ⟨B, hB, rep B hB A hA e1 e2⟩
end Go.Proofs.Ythbdiambigfgdaf.Sort
