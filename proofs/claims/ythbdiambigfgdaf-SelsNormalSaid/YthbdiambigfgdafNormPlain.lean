/- Normal and Is of selections, in plain Lean. -/
import Derived.Test.YthbdiambigfgdafSortC
import Derived.Test.YthbdiambigfgdafPSelsNormalx8
import Derived.Test.YthbdiambigfgdafPSelsNormalx9
namespace Go.Proofs.Ythbdiambigfgdaf.Sort
open Go.RowKit Go.Proofs.Ythbdiambigfgdaf.PSelsNormal Go.Proofs.YthbdiambigfgdafW.PrintWords Go.Proofs.YthbdiambigfgdafW.PrintLast Go.Proofs.YthbdiambigfgdafW.PrintMore
set_option linter.unusedVariables false
set_option linter.unusedSimpArgs false

def cmpI (x y : Int) : Int := if x < y then -1 else if x > y then 1 else 0
theorem cmp_eq (x y : Int) : cmp_Compare_int.f x y = some (cmpI x y) := by
  simp only [cmp_Compare_int.f, cmp_isNaN_int.f, Option.bind_some, bne_self_eq_false, cmpI]
  rw [if_neg (by decide), if_neg (by decide)]
  (repeat' split) <;> rfl
def clamp (n x : Int) : Int := mx 0 (mn x n)
/-- A selection's run. -/
def run (n : Int) (s : S24) : S41 := ⟨⟨mn (clamp n s.f0) (clamp n s.f1), mx (clamp n s.f0) (clamp n s.f1)⟩, cmpI (clamp n s.f1) (clamp n s.f0)⟩
def sel (r : S41) : S24 := if r.f1 < 0 then ⟨r.f0.f1, r.f0.f0⟩ else ⟨r.f0.f0, r.f0.f1⟩
def upd (o r : S41) : S41 := ⟨⟨o.f0.f0, mx o.f0.f1 r.f0.f1⟩, if o.f1 = 0 then r.f1 else o.f1⟩
def mg (o : S41) : List S41 → List S41
  | [] => [o]
  | r :: R => if o.f0.f1 < r.f0.f0 then o :: mg r R else mg (upd o r) R
def fin : List S41 → List S24
  | [] => [⟨0, 0⟩]
  | o :: R => (mg o R).map sel

theorem rd24_at (P : List S24) (a : S24) (Q : List S24) {i : Int} (h : i = P.length) : rd_T24 (P ++ a :: Q) i = a := by
  subst h; simp [rd_T24]

theorem mg_ne (o : S41) (R : List S41) : mg o R ≠ [] := by
  induction R generalizing o with
  | nil => simp [mg]
  | cons r R ih => simp only [mg]; split <;> simp [ih]
theorem mg_len (o : S41) (R : List S41) : (mg o R).length ≤ R.length + 1 := by
  induction R generalizing o with
  | nil => simp [mg]
  | cons r R ih =>
    simp only [mg]
    split
    · have := ih r; simp; omega
    · have := ih (upd o r); simp; omega

/-! ### the code of Normal -/
theorem norm_l2 : ∀ (R D : List S41) (O : List S24) (n i : Int), n = D.length + R.length → i = D.length → (D ++ R).length < 100000000 → O.length < 100000000 - R.length →
    Ev fun k => sels_Normal.l2 k O (D ++ R) n i = some (if O ++ R.map sel = [] then [⟨0, 0⟩] else O ++ R.map sel) := by
  intro R
  induction R with
  | nil =>
    intro D O n i hn hi hl ho
    refine Ev.step0 fun k => ?_
    simp only [sels_Normal.l2]
    rw [if_neg (by simp at hn; omega)]
    cases O with
    | nil => simp
    | cons a O => rw [if_neg (by simp; omega)]; simp
  | cons r R ih =>
    intro D O n i hn hi hl ho
    simp only [List.length_append, List.length_cons] at hn hl ho
    have h1 := ih (D ++ [r]) (O ++ [sel r]) n (i + 1) (by (try simp) <;> omega) (by (try simp) <;> omega) (by (try simp) <;> omega) (by (try simp) <;> omega)
    refine h1.step fun k hk => ?_
    simp only [sels_Normal.l2]
    have e1 : wrap64 (i + 1) = i + 1 := by rw [w64] <;> omega
    rw [if_pos (by omega), if_pos (by omega), if_pos (by (try simp) <;> omega), rd_at _ _ _ hi]
    have e2 : ∃ p : Int × Int, sels_run_sel.f r.f0.f0 r.f0.f1 r.f1 = some p ∧ (⟨p.1, p.2⟩ : S24) = sel r := by
      simp only [sels_run_sel.f, sel]
      split
      · exact ⟨_, rfl, rfl⟩
      · exact ⟨_, rfl, rfl⟩
    obtain ⟨p, e2, e3⟩ := e2
    rw [e2, Option.bind_some, if_pos (by omega), e3, e1]
    have e4 : D ++ [r] ++ R = D ++ r :: R := by simp
    have e5 : O ++ [sel r] ++ R.map sel = O ++ (r :: R).map sel := by simp
    rw [e4, e5] at hk
    exact hk

theorem norm_l1 : ∀ (R D O : List S41) (o : S41) (n i : Int), n = D.length + R.length → i = D.length → (D ++ R).length < 10000000 → O.length + R.length < 10000000 → ∀ X,
    Ev (fun k => sels_Normal.l2 k [] (O ++ mg o R) ((O ++ mg o R).length : Int) 0 = some X) → Ev fun k => sels_Normal.l1 k (O ++ [o]) (D ++ R) n i = some X := by
  intro R
  induction R with
  | nil =>
    intro D O o n i hn hi hl ho X hX
    refine hX.step fun k hk => ?_
    simp only [sels_Normal.l1]
    rw [if_neg (by simp at hn; omega)]
    exact hk
  | cons r R ih =>
    intro D O o n i hn hi hl ho X hX
    simp only [List.length_append, List.length_cons] at hn hl ho
    have e1 : wrap64 (i + 1) = i + 1 := by rw [w64] <;> omega
    have e2 : wrap64 (((O ++ [o]).length : Int) - 1) = O.length := by rw [w64] <;> simp <;> omega
    have e4 : D ++ [r] ++ R = D ++ r :: R := by simp
    have key : Ev (fun k => sels_Normal.j2 k (O ++ [o]) O.length (D ++ r :: R) n i (decide (o.f0.f1 < r.f0.f0)) r.f0.f0 r.f0.f1 r.f1 = some X) → Ev fun k => sels_Normal.l1 k (O ++ [o]) (D ++ r :: R) n i = some X := by
      intro h
      refine h.step fun k hk => ?_
      simp only [sels_Normal.l1]
      rw [if_pos (by omega), if_pos (by omega), if_pos (by (try simp) <;> omega), e2, if_neg (by omega), if_pos (by omega), if_pos (by (try simp) <;> omega), rd_at D _ _ hi, rd_at O _ _ rfl]
      exact hk
    apply key
    by_cases h : o.f0.f1 < r.f0.f0
    · have h1 := ih (D ++ [r]) (O ++ [o]) r n (i + 1) (by (try simp) <;> omega) (by (try simp) <;> omega) (by (try simp) <;> omega) (by (try simp) <;> omega) X (by
        have e : O ++ [o] ++ mg r R = O ++ mg o (r :: R) := by simp [mg, h]
        rw [e]; exact hX)
      refine h1.step fun k hk => ?_
      simp only [sels_Normal.j2]
      rw [if_pos (by simp; exact h), if_pos (by (try simp) <;> omega), e1]
      rw [e4] at hk
      exact hk
    · have h1 := ih (D ++ [r]) O (upd o r) n (i + 1) (by (try simp) <;> omega) (by (try simp) <;> omega) (by (try simp) <;> omega) (by (try simp) <;> omega) X (by
        have e : O ++ mg (upd o r) R = O ++ mg o (r :: R) := by simp [mg, h]
        rw [e]; exact hX)
      refine h1.step fun k hk => ?_
      simp only [sels_Normal.j2]
      rw [if_neg (by simp; omega), if_pos (by omega), if_pos (by (try simp) <;> omega), Option.bind_some, rd_at O _ _ rfl, set_at O _ _ _ rfl, rd_at O _ _ rfl, set_at O _ _ _ rfl, e1]
      rw [e4] at hk
      by_cases hz : o.f1 = 0
      · rw [if_pos hz]
        simp only [upd, if_pos hz] at hk
        exact hk
      · rw [if_neg hz]
        simp only [upd, if_neg hz] at hk
        exact hk

theorem norm_start (S : List S41) (hl : S.length < 1000000) : Ev fun k => sels_Normal.l1 k [] S S.length 0 = some (fin S) := by
  cases S with
  | nil =>
    have := norm_l2 [] [] [] 0 0 rfl rfl (by simp) (by simp)
    refine this.step fun k hk => ?_
    simp only [sels_Normal.l1]
    rw [if_neg (by simp)]
    simpa [fin] using hk
  | cons o R =>
    simp only [List.length_cons] at hl
    have hm := mg_len o R
    have h2 := norm_l2 (mg o R) [] [] ((mg o R).length : Int) 0 (by simp) rfl (by (try simp) <;> omega) (by (try simp) <;> omega)
    have h1 := norm_l1 R [o] [] o (((o :: R).length : Nat) : Int) 1 (by (try simp) <;> omega) (by simp) (by (try simp) <;> omega) (by (try simp) <;> omega) (fin (o :: R)) (by
      refine h2.mono fun k hk => ?_
      have e : (if [] ++ (mg o R).map sel = [] then [(⟨0, 0⟩ : S24)] else [] ++ (mg o R).map sel) = fin (o :: R) := by
        simp [fin, mg_ne]
      rw [e] at hk
      simpa using hk)
    have h3 : Ev fun k => sels_Normal.j2 k [] (-1) (o :: R) (((o :: R).length : Nat) : Int) 0 true o.f0.f0 o.f0.f1 o.f1 = some (fin (o :: R)) := by
      refine h1.step fun k hk => ?_
      simp only [sels_Normal.j2]
      rw [if_pos trivial, if_pos (by simp), show wrap64 (0 + 1) = 1 by rw [w64] <;> omega]
      exact hk
    refine h3.step fun k hk => ?_
    simp only [sels_Normal.l1]
    rw [if_pos (by (try simp) <;> omega), if_pos (by omega), if_pos (by (try simp) <;> omega)]
    have e : wrap64 ((([] : List S41).length : Int) - 1) = -1 := by rw [w64] <;> simp
    rw [e, if_pos (by omega)]
    exact hk

theorem norm_l0 (n : Int) : ∀ (R D : List S24) (O : List S41) (m i : Int), m = D.length + R.length → i = D.length → (D ++ R).length < 100000 → O.length + R.length < 100000 →
    ∃ S, Sorted S ∧ Stab (O ++ R.map (run n)) S ∧ Ev fun k => sels_Normal.l0 k O (D ++ R) m i n = some (fin S) := by
  intro R
  induction R with
  | nil =>
    intro D O m i hm hi hl ho
    simp only [List.length_nil] at ho
    obtain ⟨S, s1, s2, s3⟩ := sort O (by omega)
    have e := s2.length
    refine ⟨S, s1, by simpa using s2, ((norm_start S (by omega)).and s3).step fun k hk => ?_⟩
    simp only [sels_Normal.l0]
    rw [if_neg (by simp at hm; omega), hk.2, Option.bind_some, e]
    exact hk.1
  | cons s R ih =>
    intro D O m i hm hi hl ho
    simp only [List.length_append, List.length_cons] at hm hl ho
    obtain ⟨S, s1, s2, s3⟩ := ih (D ++ [s]) (O ++ [run n s]) m (i + 1) (by (try simp) <;> omega) (by (try simp) <;> omega) (by (try simp) <;> omega) (by (try simp) <;> omega)
    refine ⟨S, s1, by simpa using s2, s3.step fun k hk => ?_⟩
    simp only [sels_Normal.l0]
    have e1 : wrap64 (i + 1) = i + 1 := by rw [w64] <;> omega
    rw [if_pos (by omega), if_pos (by omega), if_pos (by (try simp) <;> omega), rd24_at _ _ _ hi]
    simp only [sels_Normal_1.f, sels_Span.f, Option.bind_some, cmp_eq]
    rw [if_pos (by omega), e1]
    have e4 : D ++ [s] ++ R = D ++ s :: R := by simp
    rw [e4] at hk
    exact hk

/-- What Normal answers. -/
theorem normal (l : List S24) (a : Int) (hl : l.length < 100000) : ∃ S, Sorted S ∧ Stab (l.map (run (mx 0 a))) S ∧ Ev fun k => sels_Normal.f k l a = some (fin S) := by
  obtain ⟨S, s1, s2, s3⟩ := norm_l0 (mx 0 a) l [] [] l.length 0 (by simp) rfl (by (try simp) <;> omega) (by (try simp) <;> omega)
  exact ⟨S, s1, by simpa using s2, s3⟩

/-! ### the code of Is -/
def isn (n : Int) : Int → List S24 → Bool
  | _, [] => true
  | q, s :: l => !(decide (mn s.f0 s.f1 ≤ q)) && !(decide (mn s.f0 s.f1 < 0)) && !(decide (mx s.f0 s.f1 > n)) && isn n (mx s.f0 s.f1) l
theorem is_l0 (n : Int) (l : List S24) : ∀ (R D : List S24) (q m i : Int), m = D.length + R.length → i = D.length → (D ++ R).length < 100000000 →
    Ev fun k => sels_Is.l0 k l n q (D ++ R) m i = some (isn n q R && decide ((l.length : Int) > 0)) := by
  intro R
  induction R with
  | nil =>
    intro D q m i hm hi hl
    refine Ev.step0 fun k => ?_
    simp only [sels_Is.l0]
    rw [if_neg (by simp at hm; omega)]
    simp [isn]
  | cons s R ih =>
    intro D q m i hm hi hl
    simp only [List.length_append, List.length_cons] at hm hl
    refine (ih (D ++ [s]) (mx s.f0 s.f1) m (i + 1) (by (try simp) <;> omega) (by (try simp) <;> omega) (by (try simp) <;> omega)).step fun k hk => ?_
    simp only [sels_Is.l0]
    have e1 : wrap64 (i + 1) = i + 1 := by rw [w64] <;> omega
    rw [if_pos (by omega), if_pos (by omega), if_pos (by (try simp) <;> omega), rd24_at _ _ _ hi]
    simp only [sels_Span.f, Option.bind_some, e1, isn]
    have e4 : D ++ [s] ++ R = D ++ s :: R := by simp
    rw [e4] at hk
    by_cases h1 : mn s.f0 s.f1 ≤ q
    · simp [h1]
    · by_cases h2 : mn s.f0 s.f1 < 0
      · simp [h1, h2]
      · by_cases h3 : mx s.f0 s.f1 > n
        · simp [h1, h2, h3]
        · simp only [if_neg h1, if_neg h2, if_neg h3, hk, decide_eq_false h1, decide_eq_false h2, decide_eq_false h3, Bool.not_false, Bool.true_and]
theorem is_ev (l : List S24) (n : Int) (hl : l.length < 100000000) : Ev fun k => sels_Is.f k l n = some (isn n (-1) l && decide ((l.length : Int) > 0)) := by
  have := is_l0 n l l [] (-1) l.length 0 (by simp) rfl (by (try simp) <;> omega)
  exact this

/-! ### what is so of what Normal answers -/
structure In (n : Int) (r : S41) : Prop where
  lo : 0 ≤ r.f0.f0
  mid : r.f0.f0 ≤ r.f0.f1
  hi : r.f0.f1 ≤ n
theorem run_in {n : Int} (hn : 0 ≤ n) (s : S24) : In n (run n s) := by
  constructor <;> simp only [run, clamp, mx, mn] <;> (repeat' split) <;> omega
theorem In.upd {n : Int} {o r : S41} (ho : In n o) (hr : In n r) : In n (upd o r) := by
  obtain ⟨a, b, c⟩ := ho
  obtain ⟨d, e, f⟩ := hr
  constructor <;> simp only [Sort.upd, mx] <;> (repeat' split) <;> omega
theorem sel_mn {n : Int} {r : S41} (h : In n r) : mn (sel r).f0 (sel r).f1 = r.f0.f0 ∧ mx (sel r).f0 (sel r).f1 = r.f0.f1 := by
  obtain ⟨a, b, c⟩ := h
  simp only [sel, mn, mx]
  split <;> simp only <;> constructor <;> split <;> omega
def From (a b : S41) : Prop := a.f0.f0 ≤ b.f0.f0
theorem mg_in {n : Int} : ∀ (R : List S41) (o : S41), In n o → (∀ r ∈ R, In n r) → ∀ q ∈ mg o R, In n q := by
  intro R
  induction R with
  | nil => intro o ho _ q hq; obtain rfl := List.mem_singleton.1 hq; exact ho
  | cons r R ih =>
    intro o ho hR q hq
    have hr := hR r (by simp)
    have hR' : ∀ r ∈ R, In n r := fun x hx => hR x (by simp [hx])
    simp only [mg] at hq
    split at hq
    · rcases List.mem_cons.1 hq with rfl | hq
      · exact ho
      · exact ih r hr hR' q hq
    · exact ih _ (ho.upd hr) hR' q hq
theorem mg_isn {n : Int} : ∀ (R : List S41) (o : S41) (q : Int), In n o → (∀ r ∈ R, In n r) → q < o.f0.f0 → isn n q ((mg o R).map sel) = true := by
  intro R
  induction R with
  | nil =>
    intro o q ho _ hq
    have h := sel_mn ho
    have := ho.lo
    have := ho.hi
    simp only [mg, List.map_cons, List.map_nil, isn, h.1, h.2]
    simp; omega
  | cons r R ih =>
    intro o q ho hR hq
    have hr := hR r (by simp)
    have hR' : ∀ r ∈ R, In n r := fun x hx => hR x (by simp [hx])
    simp only [mg]
    split
    · rename_i h1
      have h := sel_mn ho
      have := ho.lo
      have := ho.hi
      simp only [List.map_cons, isn, h.1, h.2, ih r _ hr hR' h1]
      simp; omega
    · exact ih _ q (ho.upd hr) hR' hq
theorem mg_cover {n : Int} : ∀ (R : List S41) (o : S41), In n o → (∀ r ∈ R, In n r) → (∀ r ∈ R, From o r) → R.Pairwise From → ∀ x ∈ o :: R, ∃ q ∈ mg o R, q.f0.f0 ≤ x.f0.f0 ∧ x.f0.f1 ≤ q.f0.f1 := by
  intro R
  induction R with
  | nil => intro o ho _ _ _ x hx; obtain rfl := List.mem_singleton.1 hx; exact ⟨x, by simp [mg], Int.le_refl _, Int.le_refl _⟩
  | cons r R ih =>
    intro o ho hR hF hP x hx
    have hr := hR r (by simp)
    have hR' : ∀ r ∈ R, In n r := fun x hx => hR x (by simp [hx])
    have hP' := List.pairwise_cons.1 hP
    simp only [mg]
    split
    · rcases List.mem_cons.1 hx with rfl | hx
      · exact ⟨x, by simp, Int.le_refl _, Int.le_refl _⟩
      · obtain ⟨q, h1, h2⟩ := ih r hr hR' hP'.1 hP'.2 x hx
        exact ⟨q, by simp [h1], h2⟩
    · have hb : (upd o r).f0.f0 = o.f0.f0 := rfl
      have hm : o.f0.f1 ≤ (upd o r).f0.f1 ∧ r.f0.f1 ≤ (upd o r).f0.f1 := by simp only [upd, mx]; split <;> omega
      have hor : o.f0.f0 ≤ r.f0.f0 := hF r (by simp)
      have hcov := ih (upd o r) (ho.upd hr) hR' (fun z hz => hF z (by simp [hz])) hP'.2
      rcases List.mem_cons.1 hx with rfl | hx
      · obtain ⟨q, h1, h2, h3⟩ := hcov (upd x r) (by simp)
        exact ⟨q, h1, by omega, by omega⟩
      · rcases List.mem_cons.1 hx with rfl | hx
        · obtain ⟨q, h1, h2, h3⟩ := hcov (upd o x) (by simp)
          exact ⟨q, h1, by omega, by omega⟩
        · exact hcov x (by simp [hx])
theorem sorted_from {S : List S41} (h : Sorted S) : S.Pairwise From := h.imp fun {a b} h => by simp only [le, lt, From] at *; omega

theorem fin_isn {n : Int} (hn : 0 ≤ n) (S : List S41) (hS : ∀ r ∈ S, In n r) : isn n (-1) (fin S) = true ∧ fin S ≠ [] := by
  cases S with
  | nil => simp [fin, isn, mn, mx]; omega
  | cons o R =>
    have ho := hS o (by simp)
    refine ⟨mg_isn R o (-1) ho (fun r hr => hS r (by simp [hr])) (by have := ho.lo; omega), ?_⟩
    simp [fin, mg_ne]

theorem isn_all {n : Int} : ∀ (l : List S24) (q : Int), isn n q l = true → ∀ s ∈ l, q < mn s.f0 s.f1 ∧ 0 ≤ mn s.f0 s.f1 ∧ mx s.f0 s.f1 ≤ n := by
  intro l
  induction l with
  | nil => intro q _ s hs; cases hs
  | cons a l ih =>
    intro q h s hs
    simp only [isn, Bool.and_eq_true, Bool.not_eq_true', decide_eq_false_iff_not] at h
    have hm : mn a.f0 a.f1 ≤ mx a.f0 a.f1 := by simp only [mn, mx]; (repeat' split) <;> omega
    rcases List.mem_cons.1 hs with rfl | hs
    · omega
    · have := ih _ h.2 s hs
      omega
theorem run_id {n : Int} (s : S24) (h0 : 0 ≤ mn s.f0 s.f1) (h1 : mx s.f0 s.f1 ≤ n) : run n s = ⟨⟨mn s.f0 s.f1, mx s.f0 s.f1⟩, cmpI s.f1 s.f0⟩ := by
  have e : clamp n s.f0 = s.f0 ∧ clamp n s.f1 = s.f1 := by
    simp only [clamp, mn, mx] at *
    constructor <;> (repeat' split) <;> (repeat' split at h0) <;> (repeat' split at h1) <;> omega
  simp only [run, e.1, e.2]
theorem sel_run {n : Int} (s : S24) (h0 : 0 ≤ mn s.f0 s.f1) (h1 : mx s.f0 s.f1 ≤ n) : sel (run n s) = s := by
  rw [run_id s h0 h1]
  obtain ⟨a, b⟩ := s
  simp only [sel, cmpI, mn, mx]
  by_cases h : b < a
  · simp only [if_pos h]
    rw [if_pos (by omega), if_neg (by omega)]
  · by_cases h2 : b > a
    · rw [if_neg h, if_pos h2]
      simp only [if_neg h]
      rw [if_neg (by omega), if_pos (by omega)]
    · obtain rfl : a = b := by omega
      simp
theorem runs_sorted {n : Int} : ∀ (l : List S24) (q : Int), isn n q l = true → Sorted (l.map (run n)) := by
  intro l
  induction l with
  | nil => intro q _; exact List.Pairwise.nil
  | cons a l ih =>
    intro q h
    have ha := isn_all _ _ h a (by simp)
    have h' := h
    simp only [isn, Bool.and_eq_true] at h'
    have hall := isn_all _ _ h'.2
    refine List.pairwise_cons.2 ⟨?_, ih _ h'.2⟩
    intro r hr
    obtain ⟨s, hs, rfl⟩ := List.mem_map.1 hr
    have hs' := hall s hs
    rw [run_id a ha.2.1 ha.2.2, run_id s hs'.2.1 hs'.2.2]
    have hm : mn a.f0 a.f1 ≤ mx a.f0 a.f1 := by simp only [mn, mx]; (repeat' split) <;> omega
    simp only [le, lt]
    omega
theorem mg_fix {n : Int} : ∀ (l : List S24) (a : S24) (q : Int), isn n q (a :: l) = true → mg (run n a) (l.map (run n)) = (a :: l).map (run n) := by
  intro l
  induction l with
  | nil => intro a q _; rfl
  | cons b l ih =>
    intro a q h
    have ha := isn_all _ _ h a (by simp)
    have h' := h
    simp only [isn, Bool.and_eq_true] at h'
    have h2 : isn n (mx a.f0 a.f1) (b :: l) = true := by simp only [isn, Bool.and_eq_true]; exact h'.2
    have hb := isn_all _ _ h2 b (by simp)
    have hlt : (run n a).f0.f1 < (run n b).f0.f0 := by
      rw [run_id a ha.2.1 ha.2.2, run_id b hb.2.1 hb.2.2]
      exact hb.1
    simp only [List.map_cons, mg, if_pos hlt]
    rw [ih b _ h2]
    rfl
/-- What is normal stays. -/
theorem fin_fix {n : Int} (l : List S24) (hl : l ≠ []) (h : isn n (-1) l = true) (S : List S41) (h1 : Sorted S) (h2 : Stab (l.map (run n)) S) : fin S = l := by
  obtain rfl := stab_unique _ _ (runs_sorted l _ h) h1 h2
  cases l with
  | nil => exact absurd rfl hl
  | cons a l =>
    simp only [List.map_cons, fin]
    rw [mg_fix l a _ h, List.map_map]
    have hall := isn_all _ _ h
    conv => rhs; rw [← List.map_id (a :: l)]
    refine List.map_congr_left fun s hs => ?_
    have := hall s hs
    simpa using sel_run s this.2.1 this.2.2

/-! ### equal lists -/
theorem same_l0 (l : List S24) : ∀ (R D : List S24) (i : Int), l = D ++ R → i = D.length → l.length < 100000000 → Ev fun k => stylusref11_Same.l0 k l l i = some true := by
  intro R
  induction R with
  | nil =>
    intro D i hl hi hn
    refine Ev.step0 fun k => ?_
    simp only [stylusref11_Same.l0]
    rw [if_neg (by subst hl; simp; omega)]
  | cons s R ih =>
    intro D i hl hi hn
    have hlen := congrArg List.length hl
    simp only [List.length_append, List.length_cons] at hlen
    refine (ih (D ++ [s]) (i + 1) (by rw [hl]; simp) (by (try simp) <;> omega) hn).step fun k hk => ?_
    simp only [stylusref11_Same.l0]
    have e1 : wrap64 (i + 1) = i + 1 := by rw [w64] <;> omega
    rw [if_pos (by omega), if_pos (by omega), if_pos (by omega), if_neg (by simp), e1]
    exact hk
theorem same_ev (l : List S24) (hn : l.length < 100000000) : Ev fun k => stylusref11_Same.f k l l = some true := by
  refine (same_l0 l l [] 0 rfl rfl hn).mono fun k hk => ?_
  simp only [stylusref11_Same.f]
  rw [if_pos trivial]
  exact hk
theorem low_eq (a b : Int) : stylusref11_Low.f a b = some (mn a b) := by
  simp only [stylusref11_Low.f, mn]
  split <;> rfl
theorem high_eq (a b : Int) : stylusref11_High.f a b = some (mx a b) := by
  simp only [stylusref11_High.f, mx]
  (repeat' split) <;> simp <;> omega
end Go.Proofs.Ythbdiambigfgdaf.Sort
