/- MarksPlay: what the marks' methods and the document's functions come to, in plain Lean. -/
import Derived.Test.YthbdiambigfgdaeMarksPlain
import Derived.Test.YthbdiambigfgdaeHandIds
import Derived.Test.YthbdiambigfgdaePMarksPlayx0
import Derived.Test.YthbdiambigfgdaePMarksReadx7
namespace Go.Proofs.Ythbdiambigfgdae.Play
open Go.Proofs.Ythbdiambigfgdae.Pure Go.Proofs.Ythbdiambigfgdae.Hand
open Go.RowKit Go.Proofs.Ythbdiambigfgdae.PMarksRead Go.Proofs.YthbdiambigfgdaeW.PrintWords Go.Proofs.YthbdiambigfgdaeW.PrintLast Go.Proofs.YthbdiambigfgdaeW.PrintMore
open Go.Proofs.Ythbdiambigfgdae.PMarksPlay (S33 S35 rd_T35)
set_option linter.unusedVariables false
set_option linter.unusedSimpArgs false

/-- From some number of rounds on. -/
def Ev (p : Nat → Prop) : Prop := ∃ K, ∀ k, K ≤ k → p k
theorem Ev.mk0 {p : Nat → Prop} (h : ∀ k, p k) : Ev p := ⟨0, fun k _ => h k⟩
theorem Ev.and {p q : Nat → Prop} (h1 : Ev p) (h2 : Ev q) : Ev fun k => p k ∧ q k := by
  obtain ⟨a, ha⟩ := h1
  obtain ⟨b, hb⟩ := h2
  exact ⟨a + b, fun k hk => ⟨ha k (by omega), hb k (by omega)⟩⟩
theorem Ev.mono {p q : Nat → Prop} (h1 : Ev p) (h : ∀ k, p k → q k) : Ev q := by
  obtain ⟨a, ha⟩ := h1
  exact ⟨a, fun k hk => h k (ha k hk)⟩
theorem Ev.step {p q : Nat → Prop} (h1 : Ev p) (h : ∀ k, p k → q (k + 1)) : Ev q := by
  obtain ⟨a, ha⟩ := h1
  refine ⟨a + 1, fun k hk => ?_⟩
  obtain ⟨k', rfl⟩ : ∃ k', k = k' + 1 := ⟨k - 1, by omega⟩
  exact h k' (ha k' (by omega))
theorem Ev.step0 {q : Nat → Prop} (h : ∀ k, q (k + 1)) : Ev q := (Ev.mk0 (p := fun _ => True) fun _ => trivial).step fun k _ => h k
theorem Ev.one {p : Nat → Prop} (h : Ev p) : ∃ k, p k := by obtain ⟨a, ha⟩ := h; exact ⟨a, ha a (Nat.le_refl _)⟩
theorem wr1 (i : Nat) (h : i < 100000000) : wrap64 ((i : Int) + 1) = ((i + 1 : Nat) : Int) := by rw [wrap_of] <;> omega

def cv (x : S94) : S42 := ⟨x.f0.f0.f0, x.f0.f0.f1, x.f0.f1, x.f0.f2, x.f1⟩
theorem rd42 (L : List S42) (q : Nat) (h : q < L.length) : rd_T42 L (q : Int) = L[q] := by simp [rd_T42, h]
theorem rd42_cv (L : List S94) (q : Nat) (h : q < L.length) : rd_T42 (L.map cv) (q : Int) = cv L[q] := by rw [rd42 _ q (by simpa using h)]; simp

structure St (L : List S94) (last : Int) (n : Nat) : Prop where
  rise : Rise L
  ids : ∀ x ∈ L, 1 ≤ x.f1 ∧ x.f1 ≤ last
  ok : ∀ x ∈ L, Ok x
  lo : 0 ≤ last
  hi : last ≤ n
  len : L.length ≤ 60

/-! ### find -/
theorem find_l0 (l : List S42) (id : Int) (hl : l.length ≤ 1000) : ∀ (d i : Nat), l.length - i ≤ d → i ≤ l.length → (∀ j (h : j < l.length), j < i → l[j].f4 ≠ id) →
    (∃ q, ∃ h : q < l.length, l[q].f4 = id ∧ Ev fun k => styluslaw04_find.l0 k l id i = some (q : Int)) ∨ ((∀ x ∈ l, x.f4 ≠ id) ∧ Ev fun k => styluslaw04_find.l0 k l id i = some (-1)) := by
  intro d
  have base : ∀ i : Nat, i = l.length → (∀ j (h : j < l.length), j < i → l[j].f4 ≠ id) → ((∀ x ∈ l, x.f4 ≠ id) ∧ Ev fun k => styluslaw04_find.l0 k l id i = some (-1)) := by
    intro i hi h
    refine ⟨fun x hx => ?_, Ev.step0 fun k => ?_⟩
    · obtain ⟨j, hj, rfl⟩ := List.mem_iff_getElem.1 hx
      exact h j hj (by omega)
    · simp only [styluslaw04_find.l0]
      rw [if_neg (by omega)]
  induction d with
  | zero => intro i h1 h2 h; exact .inr (base i (by omega) h)
  | succ d ih =>
    intro i h1 h2 h
    by_cases e : i = l.length
    · exact .inr (base i e h)
    · have hi : i < l.length := by omega
      by_cases he : l[i].f4 = id
      · left
        refine ⟨i, hi, he, Ev.step0 fun k => ?_⟩
        simp only [styluslaw04_find.l0]
        rw [if_pos (by omega), if_pos (by omega), rd42 l i hi, if_pos he]
      · have key : ∀ r : Int, (Ev fun k => styluslaw04_find.l0 k l id ((i + 1 : Nat) : Int) = some r) → Ev fun k => styluslaw04_find.l0 k l id (i : Int) = some r := by
          intro r hr
          refine hr.step fun k hk => ?_
          simp only [styluslaw04_find.l0]
          rw [if_pos (by omega), if_pos (by omega), rd42 l i hi, if_neg he, wr1 i (by omega)]
          exact hk
        rcases ih (i + 1) (by omega) (by omega) (fun j hj hji => by
            by_cases e2 : j = i
            · subst e2; exact he
            · exact h j hj (by omega)) with ⟨q, hq, e2, h3⟩ | ⟨e2, h3⟩
        · exact .inl ⟨q, hq, e2, key _ h3⟩
        · exact .inr ⟨e2, key _ h3⟩
theorem find_ev (l : List S42) (id : Int) (hl : l.length ≤ 1000) :
    (∃ q, ∃ h : q < l.length, l[q].f4 = id ∧ Ev fun k => styluslaw04_find.f k l id = some (q : Int)) ∨ ((∀ x ∈ l, x.f4 ≠ id) ∧ Ev fun k => styluslaw04_find.f k l id = some (-1)) :=
  find_l0 l id hl l.length 0 (by omega) (by omega) (fun j _ h => by omega)
theorem mfind_no {L : List S94} (hs : Rise L) (hl : L.length ≤ 1000) (t : Int) (h : ∀ x ∈ L, x.f1 ≠ t) (last : Int) (k : Nat) (hk : L.length < k) : ∃ r, marks_Marks_find.f k L last t = some (r, false) := by
  unfold marks_Marks_find.f marks_item_int.f
  obtain ⟨r, b, h1, ht⟩ := bs L hs t hl L.length k 0 L.length (by omega) (Nat.le_refl _) (by omega) hk (fun _ _ h => by omega) (fun _ _ h => by omega)
  have h' : marks_item_int.l0 k L t (L.length : Int) 0 (L.length : Int) = some (r, b) := h1
  rw [h']
  rcases ht with ⟨rfl, p, hp, rfl, e⟩ | ⟨rfl, _⟩
  · exact absurd e (h _ (List.getElem_mem hp))
  · exact ⟨r, rfl⟩

/-! ### may, fair, moves -/
def okb (a b : Int) : Bool := decide (0 ≤ a ∧ a ≤ b ∧ b ≤ 2147483648)
theorem refmay (a b : Int) (c d : Bool) (e : Int) : stylusref04_May.f a b c d e = some (okb a b) := by
  unfold stylusref04_May.f okb
  (repeat' split) <;> (congr 1; first | (rw [decide_eq_decide]; omega) | (rw [eq_comm, decide_eq_false_iff_not]; omega))
theorem mmay (a b : Int) (c d : Bool) : marks_may.f a b c d = some (okb a b) := may_eq a b c d
def fairb (a b : Int) : Bool := decide (0 ≤ a ∧ 0 ≤ b ∧ a + b ≤ 2147483648)
theorem reffair (a b : Int) (l : List Int) : stylusref04_Fair.f a b l = some (fairb a b) := by
  unfold stylusref04_Fair.f fairb
  by_cases h1 : a ≥ 0
  · rw [if_pos h1]
    by_cases h2 : b ≥ 0
    · rw [if_pos h2]
      by_cases h3 : a ≤ 2147483648
      · rw [if_pos h3]
        by_cases h4 : b ≤ 2147483648
        · rw [if_pos h4, wrap_of _ (by omega)]; congr 1; rw [decide_eq_decide]; omega
        · rw [if_neg h4]; congr 1; rw [eq_comm, decide_eq_false_iff_not]; omega
      · rw [if_neg h3]; congr 1; rw [eq_comm, decide_eq_false_iff_not]; omega
    · rw [if_neg h2]; congr 1; rw [eq_comm, decide_eq_false_iff_not]; omega
  · rw [if_neg h1]; congr 1; rw [eq_comm, decide_eq_false_iff_not]; omega
theorem mfair (a b : Int) (l : List Int) : marks_fair.f a b l = some (fairb a b) := by
  unfold marks_fair.f fairb
  by_cases h1 : a ≥ 0
  · rw [if_pos h1]
    by_cases h2 : b ≥ 0
    · rw [if_pos h2]
      by_cases h3 : a ≤ 2147483648
      · rw [if_pos h3, wrap_of _ (by omega)]; congr 1; rw [decide_eq_decide]; omega
      · rw [if_neg h3]; congr 1; rw [eq_comm, decide_eq_false_iff_not]; omega
    · rw [if_neg h2]; congr 1; rw [eq_comm, decide_eq_false_iff_not]; omega
  · rw [if_neg h1]; congr 1; rw [eq_comm, decide_eq_false_iff_not]; omega
def pl (p a b : Int) (n : Nat) (h : Bool) : Int := if p < a then p else if p > a + b then p + n - b else if h = true then a + n else a
theorem refplace {p a b : Int} {l : List Int} {h : Bool} (hp : 0 ≤ p ∧ p ≤ 2147483648) (hf : fairb a b = true) (hl : l.length ≤ 300) : stylusref04_Place.f p a b l h = some (pl p a b l.length h) := by
  unfold stylusref04_Place.f pl
  have hf' := of_decide_eq_true hf
  rw [wrap_of (a + b) (by omega), wrap_of (p - b) (by omega), wrap_of _ (by omega), wrap_of (a + _) (by omega), show p - b + (l.length : Int) = p + l.length - b by omega]
  (repeat' split) <;> rfl
theorem mplace {p a b : Int} {l : List Int} {h : Bool} (hp : 0 ≤ p ∧ p ≤ 2147483648) (hf : fairb a b = true) (hl : l.length ≤ 300) : marks_place.f p a b l h = some (pl p a b l.length h) := by
  unfold marks_place.f pl
  have hf' := of_decide_eq_true hf
  rw [wrap_of (a + b) (by omega), wrap_of (p + (l.length : Int)) (by omega), wrap_of _ (by omega), wrap_of (a + _) (by omega)]
  (repeat' split) <;> rfl
def mvd (a b : Int) (n : Nat) (x : S94) : S94 :=
  ⟨⟨⟨pl x.f0.f0.f0 a b n (!x.f0.f1), if pl x.f0.f0.f1 a b n x.f0.f2 < pl x.f0.f0.f0 a b n (!x.f0.f1) then pl x.f0.f0.f0 a b n (!x.f0.f1) else pl x.f0.f0.f1 a b n x.f0.f2⟩, x.f0.f1, x.f0.f2⟩, x.f1⟩
def okx (x : S94) : Bool := okb x.f0.f0.f0 x.f0.f0.f1
theorem refmove {x : S94} {a b : Int} {l : List Int} (hx : Ok x) (hf : fairb a b = true) (hl : l.length ≤ 300) :
    stylusref04_Move.f (cv x).f0 (cv x).f1 (cv x).f2 (cv x).f3 (cv x).f4 a b l = some ((cv (mvd a b l.length x)).f0, (cv (mvd a b l.length x)).f1, (cv (mvd a b l.length x)).f2, (cv (mvd a b l.length x)).f3, (cv (mvd a b l.length x)).f4) := by
  unfold Ok at hx
  unfold stylusref04_Move.f
  rw [refplace (p := (cv x).f0) (show 0 ≤ x.f0.f0.f0 ∧ x.f0.f0.f0 ≤ 2147483648 by omega) hf hl, Option.bind_some, refplace (p := (cv x).f1) (show 0 ≤ x.f0.f0.f1 ∧ x.f0.f0.f1 ≤ 2147483648 by omega) hf hl, Option.bind_some]
  by_cases h : pl x.f0.f0.f1 a b l.length x.f0.f2 < pl x.f0.f0.f0 a b l.length (!x.f0.f1)
  · refine (if_pos h).trans ?_
    simp only [cv, mvd]; rw [if_pos h]
  · refine (if_neg h).trans ?_
    simp only [cv, mvd]; rw [if_neg h]
theorem mmoved {x : S94} {a b : Int} {l : List Int} (hx : Ok x) (hf : fairb a b = true) (hl : l.length ≤ 300) :
    marks_moved.f x.f0.f0.f0 x.f0.f0.f1 x.f0.f1 x.f0.f2 a b l = some ((mvd a b l.length x).f0.f0.f0, (mvd a b l.length x).f0.f0.f1, x.f0.f1, x.f0.f2) := by
  unfold Ok at hx
  unfold marks_moved.f
  rw [mplace (by omega) hf hl, Option.bind_some, mplace (by omega) hf hl, Option.bind_some]
  simp only [mvd]
  congr 3
  unfold mx
  (repeat' split) <;> omega

/-- Marks.Edit. -/
theorem medit_l0 (L : List S94) (hl : L.length ≤ 1000) (last a b : Int) (ins : List Int) (hL : ∀ x ∈ L, Ok x) (hf : fairb a b = true) (hn : ins.length ≤ 300) : ∀ (R D : List S94), L = D ++ R →
    Ev fun k => marks_Marks_Edit.l0 k (D.map (mvd a b ins.length) ++ R) (L.length : Int) (D.length : Int) L last a b ins = some (if (R.map (mvd a b ins.length)).all okx = true then (0, L.map (mvd a b ins.length), last) else (1, L, last)) := by
  intro R
  induction R with
  | nil =>
    intro D e
    rw [List.append_nil] at e
    subst e
    refine Ev.step0 fun k => ?_
    simp only [marks_Marks_Edit.l0]
    rw [if_neg (by omega)]
    simp
  | cons x R ih =>
    intro D e
    have hlen := congrArg List.length e
    simp only [List.length_append, List.length_cons] at hlen
    have hx : Ok x := hL x (by rw [e]; simp)
    have rx : rd_T94 (D.map (mvd a b ins.length) ++ x :: R) (D.length : Int) = x := by
      rw [rd62 _ D.length (by simp), List.getElem_append_right (by simp)]; simp
    cases ho : okx (mvd a b ins.length x) with
    | true =>
      have h1 := ih (D ++ [x]) (by rw [e]; simp)
      refine h1.step fun k hk => ?_
      simp only [marks_Marks_Edit.l0]
      rw [if_pos (by omega), if_pos (by omega), if_pos (by simp only [List.length_append, List.length_map, List.length_cons]; omega), rx, mmoved hx hf hn, Option.bind_some, mmay, Option.bind_some]
      have ho' : okb (mvd a b ins.length x).f0.f0.f0 (mvd a b ins.length x).f0.f0.f1 = true := ho
      rw [if_pos ho', wr1 _ (by omega), Int.toNat_natCast]
      have es : (D.map (mvd a b ins.length) ++ x :: R).set D.length ⟨⟨⟨(mvd a b ins.length x).f0.f0.f0, (mvd a b ins.length x).f0.f0.f1⟩, x.f0.f1, x.f0.f2⟩, x.f1⟩ = (D ++ [x]).map (mvd a b ins.length) ++ R := by
        rw [List.set_append_right _ _ (by simp)]
        simp [mvd]
      rw [es]
      rw [List.length_append, List.length_singleton] at hk
      rw [hk]
      simp [ho]
    | false =>
      refine Ev.step0 fun k => ?_
      simp only [marks_Marks_Edit.l0]
      rw [if_pos (by omega), if_pos (by omega), if_pos (by simp only [List.length_append, List.length_map, List.length_cons]; omega), rx, mmoved hx hf hn, Option.bind_some, mmay, Option.bind_some]
      have ho' : okb (mvd a b ins.length x).f0.f0.f0 (mvd a b ins.length x).f0.f0.f1 = false := ho
      rw [ho', if_neg (by decide)]
      simp [ho]
theorem medit (L : List S94) (hl : L.length ≤ 1000) (last a b : Int) (ins : List Int) (hL : ∀ x ∈ L, Ok x) (hn : ins.length ≤ 300) :
    Ev fun k => marks_Marks_Edit.f k L last a b ins = some (if fairb a b = true ∧ (L.map (mvd a b ins.length)).all okx = true then (0, L.map (mvd a b ins.length), last) else (1, L, last)) := by
  cases hf : fairb a b with
  | true =>
    refine (medit_l0 L hl last a b ins hL hf hn L [] rfl).mono fun k hk => ?_
    unfold marks_Marks_Edit.f marks_item_53.f
    rw [mfair, Option.bind_some, hf, if_pos rfl, if_pos (by omega), Option.bind_some]
    simpa using hk
  | false =>
    refine Ev.mk0 fun k => ?_
    unfold marks_Marks_Edit.f
    rw [mfair, Option.bind_some, hf, if_neg (by decide), if_neg (by simp)]

/-! ### Stab, Over, All -/
theorem idsS_l0 (p : Int) (L : List S94) (hl : L.length ≤ 1000) : ∀ (R D : List S94) (acc : List Int), L = D ++ R → acc.length ≤ D.length →
    Ev fun k => idsS.l0 p k acc L (L.length : Int) (D.length : Int) = some (acc ++ (R.filter fun x => decide (x.f0.f0.f0 ≤ p) && decide (p < x.f0.f0.f1)).map S94.f1) := by
  intro R
  induction R with
  | nil =>
    intro D acc e ha
    rw [List.append_nil] at e; subst e
    refine Ev.step0 fun k => ?_
    simp only [idsS.l0]; rw [if_neg (by omega)]; simp
  | cons x R ih =>
    intro D acc e ha
    have hlen := congrArg List.length e
    simp only [List.length_append, List.length_cons] at hlen
    have rx : rd_T94 L (D.length : Int) = x := by rw [e, rd62 _ D.length (by simp), List.getElem_append_right (by simp)]; simp
    cases hb : (decide (x.f0.f0.f0 ≤ p) && decide (p < x.f0.f0.f1)) with
    | true =>
      have h1 := ih (D ++ [x]) (acc ++ [x.f1]) (by rw [e]; simp) (by simp only [List.length_append, List.length_singleton]; omega)
      refine h1.step fun k hk => ?_
      rw [List.length_append, List.length_singleton] at hk
      simp only [idsS.l0, stab1.f]
      rw [if_pos (by omega), if_pos (by omega), if_pos (by omega), rx, Option.bind_some, hb, if_pos rfl, if_pos (by omega), wr1 _ (by omega), hk]
      simp [hb]
    | false =>
      have h1 := ih (D ++ [x]) acc (by rw [e]; simp) (by simp only [List.length_append, List.length_singleton]; omega)
      refine h1.step fun k hk => ?_
      rw [List.length_append, List.length_singleton] at hk
      simp only [idsS.l0, stab1.f]
      rw [if_pos (by omega), if_pos (by omega), if_pos (by omega), rx, Option.bind_some, hb, if_neg (by decide), wr1 _ (by omega), hk]
      simp [hb]
theorem idsO_l0 (p q : Int) (L : List S94) (hl : L.length ≤ 1000) : ∀ (R D : List S94) (acc : List Int), L = D ++ R → acc.length ≤ D.length →
    Ev fun k => idsO.l0 p q k acc L (L.length : Int) (D.length : Int) = some (acc ++ (R.filter fun x => decide (x.f0.f0.f0 < q) && decide (p < x.f0.f0.f1)).map S94.f1) := by
  intro R
  induction R with
  | nil =>
    intro D acc e ha
    rw [List.append_nil] at e; subst e
    refine Ev.step0 fun k => ?_
    simp only [idsO.l0]; rw [if_neg (by omega)]; simp
  | cons x R ih =>
    intro D acc e ha
    have hlen := congrArg List.length e
    simp only [List.length_append, List.length_cons] at hlen
    have rx : rd_T94 L (D.length : Int) = x := by rw [e, rd62 _ D.length (by simp), List.getElem_append_right (by simp)]; simp
    cases hb : (decide (x.f0.f0.f0 < q) && decide (p < x.f0.f0.f1)) with
    | true =>
      have h1 := ih (D ++ [x]) (acc ++ [x.f1]) (by rw [e]; simp) (by simp only [List.length_append, List.length_singleton]; omega)
      refine h1.step fun k hk => ?_
      rw [List.length_append, List.length_singleton] at hk
      simp only [idsO.l0, over1.f]
      rw [if_pos (by omega), if_pos (by omega), if_pos (by omega), rx, Option.bind_some, hb, if_pos rfl, if_pos (by omega), wr1 _ (by omega), hk]
      simp [hb]
    | false =>
      have h1 := ih (D ++ [x]) acc (by rw [e]; simp) (by simp only [List.length_append, List.length_singleton]; omega)
      refine h1.step fun k hk => ?_
      rw [List.length_append, List.length_singleton] at hk
      simp only [idsO.l0, over1.f]
      rw [if_pos (by omega), if_pos (by omega), if_pos (by omega), rx, Option.bind_some, hb, if_neg (by decide), wr1 _ (by omega), hk]
      simp [hb]
theorem same_l0 (l : List Int) (hl : l.length ≤ 1000) : ∀ (d i : Nat), l.length - i ≤ d → i ≤ l.length → Ev fun k => styluslaw04_same.l0 k l l i = some true := by
  intro d
  induction d with
  | zero => intro i h1 h2; refine Ev.step0 fun k => ?_; simp only [styluslaw04_same.l0]; rw [if_neg (by omega)]
  | succ d ih =>
    intro i h1 h2
    by_cases e : i = l.length
    · refine Ev.step0 fun k => ?_; simp only [styluslaw04_same.l0]; rw [if_neg (by omega)]
    · refine (ih (i + 1) (by omega) (by omega)).step fun k hk => ?_
      simp only [styluslaw04_same.l0]
      rw [if_pos (by omega), if_pos (by omega), if_pos (by omega), if_pos trivial, wr1 i (by omega)]
      exact hk
theorem same_ev (l : List Int) (hl : l.length ≤ 1000) : Ev fun k => styluslaw04_same.f k l l = some true := by
  refine (same_l0 l hl l.length 0 (by omega) (by omega)).mono fun k hk => ?_
  simp only [styluslaw04_same.f]
  rw [if_pos trivial]
  exact hk

/-! ### the parent -/
def sz (x : S94) : Int := x.f0.f0.f1 - x.f0.f0.f0
def bet (y b : S94) : Bool := decide (sz y < sz b ∨ sz y = sz b ∧ (b.f0.f0.f0 < y.f0.f0.f0 ∨ b.f0.f0.f0 = y.f0.f0.f0 ∧ b.f1 < y.f1))
def pick : Option S94 → List S94 → Option S94
  | o, [] => o
  | none, y :: l => pick (some y) l
  | some b, y :: l => pick (some (if bet y b = true then y else b)) l
theorem or3 (a b c : Int) : Ev fun k => cmp_Or_int.f k [a, b, c] = some (if a ≠ 0 then a else if b ≠ 0 then b else c) := by
  have w0 : wrap64 ((0 : Int) + 1) = 1 := by decide +kernel
  have w1 : wrap64 ((1 : Int) + 1) = 2 := by decide +kernel
  have w2 : wrap64 ((2 : Int) + 1) = 3 := by decide +kernel
  refine ⟨4, fun k hk => ?_⟩
  obtain ⟨k, rfl⟩ : ∃ m, k = m + 4 := ⟨k - 4, by omega⟩
  simp only [cmp_Or_int.f, cmp_Or_int.l0, List.length_cons, List.length_nil, w0, w1, w2]
  by_cases ha : a = 0
  · subst ha
    by_cases hb : b = 0
    · subst hb
      by_cases hc : c = 0
      · subst hc; simp [rd, w0, w1, w2]
      · simp [rd, w0, w1, w2, hc]
    · simp [rd, w0, w1, w2, hb]
  · simp [rd, w0, w1, w2, ha]
def c3 (a b : Int) : Int := if a < b then -1 else if a > b then 1 else 0
theorem par1_ev {y b : S94} (hy : Ok y) (hb : Ok b) : ∃ t : Int, (t < 0 ↔ bet y b = true) ∧ Ev fun k => marks_Marks_Parent_1.f k y.f0.f0.f0 y.f0.f0.f1 y.f0.f1 y.f0.f2 y.f1 b.f0.f0.f0 b.f0.f0.f1 b.f0.f1 b.f0.f2 b.f1 = some t := by
  unfold Ok at hy hb
  have h := or3 (c3 (sz y) (sz b)) (c3 b.f0.f0.f0 y.f0.f0.f0) (c3 b.f1 y.f1)
  have hc : ∀ p q : Int, (c3 p q < 0 ↔ p < q) ∧ (c3 p q = 0 ↔ p = q) := by
    intro p q; unfold c3
    (repeat' split) <;> constructor <;> constructor <;> intro h <;> omega
  have h1 := hc (sz y) (sz b)
  have h2 := hc b.f0.f0.f0 y.f0.f0.f0
  have h3 := hc b.f1 y.f1
  refine ⟨if c3 (sz y) (sz b) ≠ 0 then c3 (sz y) (sz b) else if c3 b.f0.f0.f0 y.f0.f0.f0 ≠ 0 then c3 b.f0.f0.f0 y.f0.f0.f0 else c3 b.f1 y.f1, ?_, h.mono fun k hk => ?_⟩
  · unfold bet
    rw [decide_eq_true_eq]
    (repeat' split) <;> omega
  · unfold marks_Marks_Parent_1.f
    rw [compare_eq, compare_eq, compare_eq, wrap_of _ (by omega), wrap_of _ (by omega)]
    simp only [Option.bind_some]
    have hk' := hk
    unfold sz at hk'
    exact (congrArg (fun z => z.bind fun t => some t) hk').trans rfl
theorem min_l0 (xs : List S94) (hl : xs.length ≤ 1000) (ho : ∀ x ∈ xs, Ok x) : ∀ (R D : List S94) (m : S94), xs = D ++ R → Ok m →
    ∃ m', pick (some m) R = some m' ∧ Ev fun k => marks_item_60.l0 k xs (D.length : Int) m.f0.f0.f0 m.f0.f0.f1 m.f0.f1 m.f0.f2 m.f1 = some (m'.f0.f0.f0, m'.f0.f0.f1, m'.f0.f1, m'.f0.f2, m'.f1) := by
  intro R
  induction R with
  | nil =>
    intro D m e hm
    rw [List.append_nil] at e; subst e
    refine ⟨m, rfl, Ev.step0 fun k => ?_⟩
    simp only [marks_item_60.l0]; rw [if_neg (by omega)]
  | cons y R ih =>
    intro D m e hm
    have hlen := congrArg List.length e
    simp only [List.length_append, List.length_cons] at hlen
    have hy : Ok y := ho y (by rw [e]; simp)
    have ry : rd_T94 xs (D.length : Int) = y := by rw [e, rd62 _ D.length (by simp), List.getElem_append_right (by simp)]; simp
    obtain ⟨t, ht, hev⟩ := par1_ev hy hm
    obtain ⟨m', h1, h2⟩ := ih (D ++ [y]) (if bet y m = true then y else m) (by rw [e]; simp) (by split <;> assumption)
    refine ⟨m', h1, (h2.and hev).step fun k hk => ?_⟩
    obtain ⟨k1, k2⟩ := hk
    rw [List.length_append, List.length_singleton] at k1
    simp only [marks_item_60.l0]
    rw [if_pos (by omega), if_pos (by omega), ry, k2, Option.bind_some, wr1 _ (by omega)]
    by_cases hb : bet y m = true
    · rw [if_pos hb] at k1; rw [if_pos (ht.2 hb)]; exact k1
    · rw [if_neg hb] at k1; rw [if_neg (fun h => hb (ht.1 h))]; exact k1
theorem min_ev (xs : List S94) (hl : xs.length ≤ 1000) (ho : ∀ x ∈ xs, Ok x) (h0 : xs ≠ []) :
    ∃ m', pick none xs = some m' ∧ Ev fun k => marks_item_60.f k xs = some (m'.f0.f0.f0, m'.f0.f0.f1, m'.f0.f1, m'.f0.f2, m'.f1) := by
  match xs, h0 with
  | y :: R, _ =>
    obtain ⟨m', h1, h2⟩ := min_l0 (y :: R) hl ho R [y] y rfl (ho y List.mem_cons_self)
    refine ⟨m', h1, h2.mono fun k hk => ?_⟩
    unfold marks_item_60.f
    have r0 : rd_T94 (y :: R) 0 = y := by simp [rd_T94]
    rw [if_neg (by simp only [List.length_cons]; omega), if_pos (by simp only [List.length_cons]; omega), r0]
    exact hk
def cands (L : List S94) (x : S94) : List S94 := L.filter fun y => !(y.f1 == x.f1) && inn x y
def par (L : List S94) (x : S94) : Int := match pick none (cands L x) with
  | none => 0
  | some m => m.f1
theorem mpar_l0 (L : List S94) (hl : L.length ≤ 1000) (ho : ∀ x ∈ L, Ok x) (q : Nat) (hq : q < L.length) (last : Int) : ∀ (R D : List S94), L = D ++ R →
    Ev fun k => marks_Marks_Parent.l0 k L[q].f1 (q : Int) (cands D L[q]) L (L.length : Int) (D.length : Int) L last = some (par L L[q], 0) := by
  intro R
  induction R with
  | nil =>
    intro D e
    rw [List.append_nil] at e
    subst e
    by_cases hc : cands L L[q] = []
    · refine Ev.step0 fun k => ?_
      simp only [marks_Marks_Parent.l0]
      rw [if_neg (by omega), hc, if_pos (by simp)]
      unfold par; rw [hc]; rfl
    · have hle : (cands L L[q]).length ≤ 1000 := Nat.le_trans (List.length_filter_le _ _) hl
      obtain ⟨m', h1, h2⟩ := min_ev (cands L L[q]) hle (fun x hx => ho x (List.mem_filter.1 hx).1) hc
      refine h2.step fun k hk => ?_
      simp only [marks_Marks_Parent.l0]
      have hp := List.length_pos_iff.2 hc
      rw [if_neg (by omega), if_neg (by omega), hk, Option.bind_some]
      unfold par; rw [h1]
  | cons y R ih =>
    intro D e
    have hlen := congrArg List.length e
    simp only [List.length_append, List.length_cons] at hlen
    have ry : rd_T94 L (D.length : Int) = y := by
      have : L[D.length]'(by omega) = y := by simp only [e]; rw [List.getElem_append_right (by simp)]; simp
      rw [rd62 _ D.length (by omega), this]
    have hcl : (cands D L[q]).length ≤ D.length := List.length_filter_le _ _
    have h1 := ih (D ++ [y]) (by rw [e]; simp)
    rw [List.length_append, List.length_singleton] at h1
    refine h1.step fun k hk => ?_
    simp only [marks_Marks_Parent.l0]
    rw [if_pos (by omega), if_pos (by omega), if_pos (by omega), ry, wr1 _ (by omega)]
    by_cases e1 : y.f1 = L[q].f1
    · rw [if_pos e1]
      have : cands (D ++ [y]) L[q] = cands D L[q] := by unfold cands; rw [List.filter_append]; simp [e1]
      rw [this] at hk; exact hk
    · rw [if_neg e1, if_pos (by omega), if_pos (by omega), rd62 L q hq, in_eq, Option.bind_some]
      by_cases hi : inn L[q] y = true
      · rw [if_pos hi, if_pos (by omega)]
        have : cands (D ++ [y]) L[q] = cands D L[q] ++ [y] := by unfold cands; rw [List.filter_append]; simp [e1, hi]
        rw [this] at hk; exact hk
      · rw [if_neg hi]
        have : cands (D ++ [y]) L[q] = cands D L[q] := by unfold cands; rw [List.filter_append]; simp [hi]
        rw [this] at hk; exact hk
theorem mpar_ev {L : List S94} (hs : Rise L) (hl : L.length ≤ 1000) (ho : ∀ x ∈ L, Ok x) (q : Nat) (hq : q < L.length) (last : Int) : Ev fun k => marks_Marks_Parent.f k L last L[q].f1 = some (par L L[q], 0) := by
  obtain ⟨K, hK⟩ := mpar_l0 L hl ho q hq last L [] rfl
  refine ⟨K + L.length + 1, fun k hk => ?_⟩
  have hk2 := hK k (by omega)
  show marks_Marks_Parent.f k L last L[q].f1 = some (par L L[q], 0)
  unfold marks_Marks_Parent.f
  rw [find_mem hs hl hq last k (by omega)]
  simp only [Option.bind_some, if_true]
  exact hk2
theorem refin (x y : S94) : stylusref04_in.f (cv x).f0 (cv x).f1 (cv x).f2 (cv x).f3 (cv x).f4 (cv y).f0 (cv y).f1 (cv y).f2 (cv y).f3 (cv y).f4 = some (inn x y) := by
  unfold stylusref04_in.f inn cv
  by_cases h1 : x.f0.f0.f0 = y.f0.f0.f0
  · by_cases h2 : x.f0.f0.f1 = y.f0.f0.f1
    · simp [h1, h2]
    · by_cases h3 : y.f0.f0.f0 ≤ x.f0.f0.f0
      · simp [h1, h2, h3]
      · omega
  · by_cases h3 : y.f0.f0.f0 ≤ x.f0.f0.f0
    · simp [h1, h3]
    · simp [h1, h3]
def bidx (L : List S94) (o : Option S94) (b : Int) : Prop := match o with
  | none => b = -1
  | some m => ∃ j : Nat, ∃ h : j < L.length, b = (j : Int) ∧ L[j] = m
theorem refpar_l0 (L : List S94) (hl : L.length ≤ 1000) (ho : ∀ x ∈ L, Ok x) (x : S94) : ∀ (R D : List S94) (b : Int), L = D ++ R → bidx L (pick none (cands D x)) b →
    Ev fun k => stylusref04_Parent.l0 k (L.map cv) b (D.length : Int) (cv x).f0 (cv x).f1 (cv x).f2 (cv x).f3 (cv x).f4 = some (par L x) := by
  have pick_app : ∀ (l : List S94) (o : Option S94) (y : S94), pick o (l ++ [y]) = match pick o l with
      | none => some y
      | some b => some (if bet y b = true then y else b) := by
    intro l
    induction l with
    | nil => intro o y; cases o <;> rfl
    | cons z l ih => intro o y; cases o <;> exact ih _ y
  intro R
  induction R with
  | nil =>
    intro D b e hb
    rw [List.append_nil] at e
    subst e
    refine Ev.step0 fun k => ?_
    simp only [stylusref04_Parent.l0, List.length_map]
    rw [if_neg (by omega)]
    unfold par
    cases hp : pick none (cands L x) with
    | none => rw [hp] at hb; simp only [bidx] at hb; rw [if_pos (by omega)]
    | some m =>
      rw [hp] at hb
      obtain ⟨j, hj, rfl, rfl⟩ := hb
      rw [if_neg (by omega), if_pos (by omega), if_pos (by omega), rd42_cv L j hj]
      rfl
  | cons y R ih =>
    intro D b e hb
    have hlen := congrArg List.length e
    simp only [List.length_append, List.length_cons] at hlen
    have hy : Ok y := ho y (by rw [e]; simp)
    have ey : L[D.length]'(by omega) = y := by simp only [e]; rw [List.getElem_append_right (by simp)]; simp
    have ry : rd_T42 (L.map cv) (D.length : Int) = cv y := by rw [rd42_cv _ D.length (by omega), ey]
    have skip : cands (D ++ [y]) x = cands D x → Ev fun k => stylusref04_Parent.l0 k (L.map cv) b ((D.length + 1 : Nat) : Int) (cv x).f0 (cv x).f1 (cv x).f2 (cv x).f3 (cv x).f4 = some (par L x) := by
      intro h
      have := ih (D ++ [y]) b (by rw [e]; simp) (by rw [h]; exact hb)
      rw [List.length_append, List.length_singleton] at this
      exact this
    have take : bidx L (pick none (cands (D ++ [y]) x)) (D.length : Int) → Ev fun k => stylusref04_Parent.l0 k (L.map cv) (D.length : Int) ((D.length + 1 : Nat) : Int) (cv x).f0 (cv x).f1 (cv x).f2 (cv x).f3 (cv x).f4 = some (par L x) := by
      intro h
      have := ih (D ++ [y]) (D.length : Int) (by rw [e]; simp) h
      rw [List.length_append, List.length_singleton] at this
      exact this
    have keep : bidx L (pick none (cands (D ++ [y]) x)) b → Ev fun k => stylusref04_Parent.l0 k (L.map cv) b ((D.length + 1 : Nat) : Int) (cv x).f0 (cv x).f1 (cv x).f2 (cv x).f3 (cv x).f4 = some (par L x) := by
      intro h
      have := ih (D ++ [y]) b (by rw [e]; simp) h
      rw [List.length_append, List.length_singleton] at this
      exact this
    have j1 : Ev fun k => stylusref04_Parent.j1 k (L.map cv) b (D.length : Int) (if y.f1 = x.f1 then true else !(inn x y)) (cv x).f0 (cv x).f1 (cv x).f2 (cv x).f3 (cv x).f4 (cv y).f0 (cv y).f1 (cv y).f2 (cv y).f3 (cv y).f4 = some (par L x) := by
      by_cases hs : (if y.f1 = x.f1 then true else !(inn x y)) = true
      · refine (skip ?_).step fun k hk => ?_
        · unfold cands; rw [List.filter_append]
          by_cases e1 : y.f1 = x.f1
          · simp [e1]
          · rw [if_neg e1] at hs; simp at hs; simp [hs]
        · simp only [stylusref04_Parent.j1]
          rw [if_pos hs, wr1 _ (by omega)]; exact hk
      · have e1 : ¬ y.f1 = x.f1 := fun h => hs (by rw [if_pos h])
        have hi : inn x y = true := by rw [if_neg e1] at hs; simpa using hs
        have ec : cands (D ++ [y]) x = cands D x ++ [y] := by unfold cands; rw [List.filter_append]; simp [e1, hi]
        have hp := pick_app (cands D x) none y
        rw [← ec] at hp
        cases ho' : pick none (cands D x) with
        | none =>
          rw [ho'] at hp hb
          simp only [bidx] at hb
          refine (take (by rw [hp]; exact ⟨D.length, by omega, rfl, ey⟩)).step fun k hk => ?_
          simp only [stylusref04_Parent.j1]
          rw [if_neg hs, if_pos (by omega), wr1 _ (by omega)]; exact hk
        | some m =>
          rw [ho'] at hp hb
          obtain ⟨j, hj, rfl, rfl⟩ := hb
          have hm : Ok L[j] := ho _ (List.getElem_mem _)
          unfold Ok at hy hm
          have s1 : wrap64 ((cv y).f1 - (cv y).f0) = sz y := by show wrap64 (y.f0.f0.f1 - y.f0.f0.f0) = _; rw [wrap_of _ (by omega)]; rfl
          have s2 : wrap64 ((cv L[j]).f1 - (cv L[j]).f0) = sz L[j] := by show wrap64 (L[j].f0.f0.f1 - L[j].f0.f0.f0) = _; rw [wrap_of _ (by omega)]; rfl
          have tk := take
          have kp := keep
          rw [hp] at tk kp
          have c0 : ∀ z : S94, (cv z).f0 = z.f0.f0.f0 := fun _ => rfl
          have c4 : ∀ z : S94, (cv z).f4 = z.f1 := fun _ => rfl
          by_cases hbt : bet y L[j] = true
          · have hev := tk (by simp only [hbt, if_true]; exact ⟨D.length, by omega, rfl, ey⟩)
            have hb2 := of_decide_eq_true hbt
            refine hev.step fun k hk => ?_
            simp only [stylusref04_Parent.j1, List.length_map]
            rw [if_neg hs, if_neg (by omega), if_pos (by omega), if_pos (by omega), rd42_cv L j hj, s1, s2, wr1 _ (by omega)]
            simp only [c0, c4] at hk ⊢
            by_cases a1 : sz y < sz L[j]
            · rw [if_pos a1]; exact hk
            · rw [if_neg a1, if_pos (by omega)]
              by_cases a2 : y.f0.f0.f0 > L[j].f0.f0.f0
              · rw [if_pos a2]; exact hk
              · rw [if_neg a2, if_pos (by omega), if_pos (by omega)]; exact hk
          · have hev := kp (by simp only [if_neg hbt]; exact ⟨j, hj, rfl, rfl⟩)
            have hb2 : ¬ _ := fun h => hbt (decide_eq_true h)
            refine hev.step fun k hk => ?_
            simp only [stylusref04_Parent.j1, List.length_map]
            rw [if_neg hs, if_neg (by omega), if_pos (by omega), if_pos (by omega), rd42_cv L j hj, s1, s2, wr1 _ (by omega)]
            simp only [c0, c4] at hk ⊢
            by_cases a1 : sz y < sz L[j]
            · exact absurd (.inl a1) hb2
            · rw [if_neg a1]
              by_cases a0 : sz y = sz L[j]
              · rw [if_pos a0]
                by_cases a2 : y.f0.f0.f0 > L[j].f0.f0.f0
                · exact absurd (.inr ⟨a0, .inl a2⟩) hb2
                · rw [if_neg a2]
                  by_cases a3 : y.f0.f0.f0 = L[j].f0.f0.f0
                  · rw [if_pos a3, if_neg (fun h => hb2 (.inr ⟨a0, .inr ⟨a3.symm, h⟩⟩))]; exact hk
                  · rw [if_neg a3]; exact hk
              · rw [if_neg a0]; exact hk
    refine j1.step fun k hk => ?_
    simp only [stylusref04_Parent.l0, List.length_map]
    rw [if_pos (by omega), if_pos (by omega), ry]
    by_cases e1 : (cv y).f4 = (cv x).f4
    · rw [if_pos e1]
      have e1' : y.f1 = x.f1 := e1
      rw [if_pos e1'] at hk; exact hk
    · rw [if_neg e1, refin, Option.bind_some]
      have e1' : ¬ y.f1 = x.f1 := e1
      rw [if_neg e1'] at hk; exact hk
theorem refpar_ev (L : List S94) (hl : L.length ≤ 1000) (ho : ∀ x ∈ L, Ok x) (x : S94) :
    Ev fun k => stylusref04_Parent.f k (L.map cv) (cv x).f0 (cv x).f1 (cv x).f2 (cv x).f3 (cv x).f4 = some (par L x) :=
  refpar_l0 L hl ho x L [] (-1) rfl rfl
end Go.Proofs.Ythbdiambigfgdae.Play
