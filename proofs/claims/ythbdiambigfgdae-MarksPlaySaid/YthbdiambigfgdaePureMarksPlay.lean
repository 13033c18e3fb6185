/- MarksPlay: the plain law. -/
import Derived.Test.YthbdiambigfgdaeOpenMarksPlay
import Derived.Test.YthbdiambigfgdaePlayPlain
import Derived.Test.YthbdiambigfgdaePMarksPlayx4
namespace Go.Proofs.Ythbdiambigfgdae.Pure
open Go.Proofs.Ythbdiambigfgdae.OpenMarksPlay Go.Proofs.Ythbdiambigfgdae.Play
open Go.Proofs.Ythbdiambigfgdae.Hand
open Go.RowKit Go.Proofs.Ythbdiambigfgdae.PMarksRead Go.Proofs.YthbdiambigfgdaeW.PrintWords Go.Proofs.YthbdiambigfgdaeW.PrintLast Go.Proofs.YthbdiambigfgdaeW.PrintMore
open Go.Proofs.Ythbdiambigfgdae.PMarksPlay (S33 S35 rd_T35)
open Go.Proofs.Ythbdiambigfgdae
set_option linter.unusedVariables false
set_option linter.unusedSimpArgs false

section
variable (x0 : List S35) (L : List S94) (last : Int) (i : Nat)
/-- What is to be shown of the deeds behind this one. -/
def Next : Prop := Ev fun k => PMarksPlay.lawP.l0 k x0 (L.map cv) last ((i + 1 : Nat) : Int) (L, last) = some true
theorem l3_ev (hL : L.length ≤ 60) (hi : i < 1000) (h : Next x0 L last i) : ∀ (R D : List S94), L = D ++ R →
    Ev fun k => PMarksPlay.lawP.l3 k x0 (L.map cv) last i (D.map S94.f1) (D.length : Int) (L, last) = some true := by
  intro R
  induction R with
  | nil =>
    intro D e
    rw [List.append_nil] at e; subst e
    have h1 : Ev fun k => PMarksRead.marks_Marks_All.f k L last = some (L.map S94.f1) := ⟨L.length + 1, fun k hk => all_eq L (by omega) last k (by omega)⟩
    have h2 := same_ev (L.map S94.f1) (by simp; omega)
    refine ((h.and h1).and h2).step fun k hk => ?_
    obtain ⟨⟨k0, k1⟩, k2⟩ := hk
    simp only [PMarksPlay.lawP.l3, List.length_map]
    rw [if_neg (by omega), PMarksPlay.marks_Marks_All.f, k1]
    simp only [Option.bind_some]
    rw [k2, Option.bind_some, if_pos rfl, wr1 i (by omega)]
    exact k0
  | cons y R ih =>
    intro D e
    have hlen := congrArg List.length e
    simp only [List.length_append, List.length_cons] at hlen
    have ey : L[D.length]'(by omega) = y := by simp only [e]; rw [List.getElem_append_right (by simp)]; simp
    have h1 := ih (D ++ [y]) (by rw [e]; simp)
    rw [List.length_append, List.length_singleton] at h1
    refine h1.step fun k hk => ?_
    simp only [PMarksPlay.lawP.l3, List.length_map]
    rw [if_pos (by omega), if_pos (by omega), if_pos (by omega), rd42_cv L D.length (by omega), ey, wr1 _ (by omega)]
    rw [List.map_append, List.map_singleton] at hk
    exact hk
theorem j16_ev (hL : L.length ≤ 60) (hi : i < 1000) (h : Next x0 L last i) : Ev fun k => PMarksPlay.lawP.j16 k x0 (L.map cv) last i (L, last) = some true := by
  refine (l3_ev x0 L last i hL hi h L [] rfl).step fun k hk => ?_
  simp only [PMarksPlay.lawP.j16]
  exact hk
end

/-- The edit's loop over the document's ranges. -/
theorem l1_ev (x0 : List S35) (L : List S94) (hl : L.length ≤ 60) (ho : ∀ x ∈ L, Ok x) (last : Int) (i : Nat) (e : Int) (st : List S94 × Int) (p0 p1 p2 p3 : Int) (p4 p5 : Bool) (a b : Int) (ins : List Int) (hn : ins.length ≤ 300) (hf : fairb a b = true)
    (good : (L.map (mvd a b ins.length)).all okx = true → Ev fun k => PMarksPlay.lawP.j7 k x0 (L.map cv) last i true ((L.map (mvd a b ins.length)).map cv) (e != 0) st = some true)
    (bad : ¬ (L.map (mvd a b ins.length)).all okx = true → ∀ nx, Ev fun k => PMarksPlay.lawP.j6 k x0 (L.map cv) last i e false nx 0 false st p0 p1 p2 p3 p4 p5 a b ins = some true) : ∀ (R D : List S94), L = D ++ R → (D.map (mvd a b ins.length)).all okx = true →
    Ev fun k => PMarksPlay.lawP.l1 k x0 (L.map cv) last i e true ((D.map (mvd a b ins.length)).map cv) (D.length : Int) st p0 p1 p2 p3 p4 p5 a b ins = some true := by
  intro R
  induction R with
  | nil =>
    intro D ee hg
    rw [List.append_nil] at ee; subst ee
    have h6 : Ev fun k => PMarksPlay.lawP.j6 k x0 (L.map cv) last i e true ((L.map (mvd a b ins.length)).map cv) (L.length : Int) false st p0 p1 p2 p3 p4 p5 a b ins = some true := (good hg).step fun k hk => by
      simp only [PMarksPlay.lawP.j6]
      rw [if_neg (by decide), if_pos trivial]; exact hk
    refine h6.step fun k hk => ?_
    simp only [PMarksPlay.lawP.l1, List.length_map]
    rw [if_neg (by omega)]; exact hk
  | cons y R ih =>
    intro D ee hg
    have hlen := congrArg List.length ee
    simp only [List.length_append, List.length_cons] at hlen
    have ey : L[D.length]'(by omega) = y := by simp only [ee]; rw [List.getElem_append_right (by simp)]; simp
    have hy : Ok y := ho y (by rw [ee]; simp)
    have hmv := refmove (a := a) (b := b) (l := ins) hy hf hn
    have go : ∀ f : Bool, okx (mvd a b ins.length y) = f → (Ev fun k => PMarksPlay.lawP.l1 k x0 (L.map cv) last i e f (((D ++ [y]).map (mvd a b ins.length)).map cv) ((D.length + 1 : Nat) : Int) st p0 p1 p2 p3 p4 p5 a b ins = some true) →
        Ev fun k => PMarksPlay.lawP.l1 k x0 (L.map cv) last i e true ((D.map (mvd a b ins.length)).map cv) (D.length : Int) st p0 p1 p2 p3 p4 p5 a b ins = some true := by
      intro f hfv h1
      have h6 : Ev fun k => PMarksPlay.lawP.j6 k x0 (L.map cv) last i e true ((D.map (mvd a b ins.length)).map cv) (D.length : Int) true st p0 p1 p2 p3 p4 p5 a b ins = some true := h1.step fun k hk => by
        simp only [PMarksPlay.lawP.j6, List.length_map]
        rw [if_pos trivial, if_pos (by omega), if_pos (by omega), rd42_cv L D.length (by omega), ey, hmv, Option.bind_some, refmay, Option.bind_some, if_pos (by omega), wr1 _ (by omega)]
        have hfv' : okb (cv (mvd a b ins.length y)).f0 (cv (mvd a b ins.length y)).f1 = f := hfv
        rw [hfv']
        rw [List.map_append, List.map_append, List.map_singleton, List.map_singleton] at hk
        exact hk
      refine h6.step fun k hk => ?_
      simp only [PMarksPlay.lawP.l1, List.length_map]
      rw [if_pos (by omega)]; exact hk
    cases hv : okx (mvd a b ins.length y) with
    | true =>
      refine go true hv ?_
      have := ih (D ++ [y]) (by rw [ee]; simp) (by rw [List.map_append, List.all_append, hg]; simp [hv])
      rw [List.length_append, List.length_singleton] at this
      exact this
    | false =>
      refine go false hv ?_
      have hb : ¬ (L.map (mvd a b ins.length)).all okx = true := by
        rw [ee, List.map_append, List.all_append]; simp [hv]
      refine (bad hb (((D ++ [y]).map (mvd a b ins.length)).map cv)).step fun k hk => ?_
      simp only [PMarksPlay.lawP.l1, List.length_map]
      have e6 : ∀ z : Int, PMarksPlay.lawP.j6 k x0 (L.map cv) last i e false (((D ++ [y]).map (mvd a b ins.length)).map cv) z false st p0 p1 p2 p3 p4 p5 a b ins = PMarksPlay.lawP.j6 k x0 (L.map cv) last i e false (((D ++ [y]).map (mvd a b ins.length)).map cv) 0 false st p0 p1 p2 p3 p4 p5 a b ins := by
        intro z
        cases k with
        | zero => simp only [PMarksPlay.lawP.j6]
        | succ k => simp only [PMarksPlay.lawP.j6, Bool.false_eq_true, if_false]
      split
      · rw [e6]; exact hk
      · rw [e6]; exact hk

/-- Which ranges are told of a place (What 4), or of a span (What 5). -/
def want (p0 p1 p2 p3 : Int) (x : S94) : Bool := if p0 = 4 then decide (x.f0.f0.f0 ≤ p1) && decide (p1 < x.f0.f0.f1) else decide (x.f0.f0.f0 < p3) && decide (p2 < x.f0.f0.f1)
theorem l2_ev (x0 : List S35) (L : List S94) (hl : L.length ≤ 60) (last : Int) (i : Nat) (p0 p1 p2 p3 : Int) (hp : p0 = 4 ∨ p0 = 5) (p4 p5 : Bool) (a b : Int) (ins : List Int)
    (h : Ev fun k => PMarksPlay.lawP.j14 k x0 (L.map cv) last i ((L.filter (want p0 p1 p2 p3)).map S94.f1) ((L.filter (want p0 p1 p2 p3)).map S94.f1) (L, last) = some true) : ∀ (R D : List S94), L = D ++ R →
    Ev fun k => PMarksPlay.lawP.l2 k x0 (L.map cv) last i ((D.filter (want p0 p1 p2 p3)).map S94.f1) (D.length : Int) (L, last) p0 p1 p2 p3 p4 p5 a b ins = some true := by
  intro R
  induction R with
  | nil =>
    intro D ee
    rw [List.append_nil] at ee; subst ee
    have s1 := idsS_l0 p1 L (by omega) L [] [] rfl (by simp)
    have s2 := idsO_l0 p2 p3 L (by omega) L [] [] rfl (by simp)
    refine ((h.and s1).and s2).step fun k hk => ?_
    obtain ⟨⟨k0, k1⟩, k2⟩ := hk
    have k1' : idsS.f p1 k L last = some ((L.filter fun x => decide (x.f0.f0.f0 ≤ p1) && decide (p1 < x.f0.f0.f1)).map S94.f1) := by unfold idsS.f; simpa using k1
    have k2' : idsO.f p2 p3 k L last = some ((L.filter fun x => decide (x.f0.f0.f0 < p3) && decide (p2 < x.f0.f0.f1)).map S94.f1) := by unfold idsO.f; simpa using k2
    simp only [PMarksPlay.lawP.l2, List.length_map]
    rw [if_neg (by omega), PMarksPlay.marks_Marks_Stab.f, k1']
    simp only [Option.bind_some]
    rcases hp with rfl | rfl
    · rw [if_neg (by decide)]
      have ew : want 4 p1 p2 p3 = fun x => decide (x.f0.f0.f0 ≤ p1) && decide (p1 < x.f0.f0.f1) := by funext x; unfold want; rw [if_pos rfl]
      rw [ew] at k0 ⊢; exact k0
    · rw [if_pos rfl, PMarksPlay.marks_Marks_Over.f, k2']
      simp only [Option.bind_some]
      have ew : want 5 p1 p2 p3 = fun x => decide (x.f0.f0.f0 < p3) && decide (p2 < x.f0.f0.f1) := by funext x; unfold want; rw [if_neg (by decide)]
      rw [ew] at k0 ⊢; exact k0
  | cons y R ih =>
    intro D ee
    have hlen := congrArg List.length ee
    simp only [List.length_append, List.length_cons] at hlen
    have ey : L[D.length]'(by omega) = y := by simp only [ee]; rw [List.getElem_append_right (by simp)]; simp
    have ry : rd_T42 (L.map cv) (D.length : Int) = cv y := by rw [rd42_cv _ D.length (by omega), ey]
    have hfl : (D.filter (want p0 p1 p2 p3)).length ≤ D.length := List.length_filter_le _ _
    have h1 := ih (D ++ [y]) (by rw [ee]; simp)
    rw [List.length_append, List.length_singleton] at h1
    have h13 : Ev fun k => PMarksPlay.lawP.j13 k x0 (L.map cv) last i ((D.filter (want p0 p1 p2 p3)).map S94.f1) (D.length : Int) (want p0 p1 p2 p3 y) (L, last) p0 p1 p2 p3 p4 p5 a b ins = some true := by
      refine h1.step fun k hk => ?_
      simp only [PMarksPlay.lawP.j13, List.length_map]
      rw [List.filter_append] at hk
      cases hw : want p0 p1 p2 p3 y with
      | true =>
        rw [if_pos rfl, if_pos (by omega), if_pos (by omega), if_pos (by omega), ry, wr1 _ (by omega)]
        simp only [List.filter_cons, hw, if_true, List.filter_nil, List.map_append, List.map_singleton] at hk
        exact hk
      | false =>
        rw [if_neg (by decide), wr1 _ (by omega)]
        simp only [List.filter_cons, hw, Bool.false_eq_true, if_false, List.filter_nil, List.append_nil] at hk
        exact hk
    have h12 : Ev fun k => PMarksPlay.lawP.j12 k x0 (L.map cv) last i ((D.filter (want p0 p1 p2 p3)).map S94.f1) (D.length : Int) (decide (y.f0.f0.f0 ≤ p1) && decide (p1 < y.f0.f0.f1)) (decide (y.f0.f0.f0 < p3) && decide (p2 < y.f0.f0.f1)) (L, last) p0 p1 p2 p3 p4 p5 a b ins = some true := by
      refine h13.step fun k hk => ?_
      simp only [PMarksPlay.lawP.j12]
      rcases hp with rfl | rfl
      · rw [if_pos rfl]
        unfold want at hk
        rw [if_pos rfl] at hk
        cases hh : (decide (y.f0.f0.f0 ≤ p1) && decide (p1 < y.f0.f0.f1)) with
        | true => rw [if_pos rfl]; rw [hh] at hk; exact hk
        | false => rw [if_neg (by decide), if_neg (by decide)]; rw [hh] at hk; exact hk
      · rw [if_neg (by decide), if_pos rfl]
        unfold want at hk
        rw [if_neg (by decide)] at hk; exact hk
    have h11 : Ev fun k => PMarksPlay.lawP.j11 k x0 (L.map cv) last i ((D.filter (want p0 p1 p2 p3)).map S94.f1) (D.length : Int) (decide (y.f0.f0.f0 ≤ p1) && decide (p1 < y.f0.f0.f1)) (L, last) p0 p1 p2 p3 p4 p5 a b ins = some true := by
      refine h12.step fun k hk => ?_
      simp only [PMarksPlay.lawP.j11, List.length_map]
      rw [if_pos (by omega), if_pos (by omega), ry]
      by_cases hh : (cv y).f0 < p3
      · rw [if_pos hh]
        have hh' : y.f0.f0.f0 < p3 := hh
        simp only [hh', decide_true, Bool.true_and] at hk; exact hk
      · rw [if_neg hh]
        have hh' : ¬ y.f0.f0.f0 < p3 := hh
        simp only [hh', decide_false, Bool.false_and] at hk; exact hk
    refine h11.step fun k hk => ?_
    simp only [PMarksPlay.lawP.l2, List.length_map]
    rw [if_pos (by omega), if_pos (by omega), ry]
    by_cases hh : (cv y).f0 ≤ p1
    · rw [if_pos hh]
      have hh' : y.f0.f0.f0 ≤ p1 := hh
      simp only [hh', decide_true, Bool.true_and] at hk; exact hk
    · rw [if_neg hh]
      have hh' : ¬ y.f0.f0.f0 ≤ p1 := hh
      simp only [hh', decide_false, Bool.false_and] at hk; exact hk

/-- One deed. -/
theorem deed_ev (x0 : List S35) (h0 : ∀ e ∈ x0, Q35 e) (L : List S94) (last : Int) (i : Nat) (hi : i < x0.length) (hx : x0.length ≤ 100) (st : St L last i)
    (next : ∀ L' last', St L' last' (i + 1) → Next x0 L' last' i) : Ev fun k => PMarksPlay.lawP.l0 k x0 (L.map cv) last (i : Int) (L, last) = some true := by
  have hlen := st.len
  obtain ⟨d, hd⟩ : ∃ d, rd_T35 x0 (i : Int) = d := ⟨_, rfl⟩
  have keep : Ev fun k => PMarksPlay.lawP.j16 k x0 (L.map cv) last i (L, last) = some true :=
    j16_ev x0 L last i hlen (by omega) (next L last ⟨st.rise, st.ids, st.ok, st.lo, by have := st.hi; omega, st.len⟩)
  by_cases hn : ((d.f3.f2).length : Int) > 300
  · refine Ev.step0 fun k => ?_
    simp only [PMarksPlay.lawP.l0]
    rw [if_pos (by omega), if_pos (by omega), hd, if_pos hn]; rfl
  have hll := st.hi
  have hlo := st.lo
  have wl : wrap64 (last + 1) = last + 1 := wrap_of _ (by omega)
  -- where the number's range is
  obtain ⟨t, ht, hfind⟩ : ∃ t : Int, (Ev fun k => styluslaw04_find.f k (L.map cv) d.f1 = some t) ∧ ((t = -1 ∧ ∀ x ∈ L, x.f1 ≠ d.f1) ∨ ∃ q, ∃ h : q < L.length, t = (q : Int) ∧ L[q].f1 = d.f1) := by
    rcases find_ev (L.map cv) d.f1 (by simp; omega) with ⟨q, hq, e, h⟩ | ⟨e, h⟩
    · have hq' : q < L.length := by simpa using hq
      exact ⟨_, h, .inr ⟨q, hq', rfl, by rw [List.getElem_map] at e; exact e⟩⟩
    · exact ⟨_, h, .inl ⟨rfl, fun x hx => e (cv x) (List.mem_map.2 ⟨x, hx, rfl⟩)⟩⟩
  by_cases w0 : d.f0 = 0
  · -- a range is added
    have new : okb d.f2.f0.f0 d.f2.f0.f1 = true → ¬ (L.length : Int) ≥ 60 → Ev fun k => PMarksPlay.lawP.j16 k x0 (L.map cv ++ [⟨d.f2.f0.f0, d.f2.f0.f1, d.f2.f1, d.f2.f2, last + 1⟩]) (last + 1) i (L ++ [⟨⟨⟨d.f2.f0.f0, d.f2.f0.f1⟩, d.f2.f1, d.f2.f2⟩, last + 1⟩], last + 1) = some true := by
      intro hm hf
      have hm' := of_decide_eq_true hm
      have := j16_ev x0 (L ++ [⟨⟨⟨d.f2.f0.f0, d.f2.f0.f1⟩, d.f2.f1, d.f2.f2⟩, last + 1⟩]) (last + 1) i (by simp only [List.length_append, List.length_singleton]; omega) (by omega) (next _ _ ⟨?_, ?_, ?_, by omega, by omega, by simp only [List.length_append, List.length_singleton]; omega⟩)
      · rw [List.map_append] at this; exact this
      · unfold Rise
        rw [List.map_append, List.pairwise_append]
        refine ⟨st.rise, by simp, ?_⟩
        intro p hp q hq
        simp only [List.map_singleton, List.mem_singleton] at hq
        obtain ⟨x, hx, rfl⟩ := List.mem_map.1 hp
        have := st.ids x hx; omega
      · intro x hx
        rcases List.mem_append.1 hx with hx | hx
        · have := st.ids x hx; omega
        · rw [List.mem_singleton.1 hx]; exact ⟨by show 1 ≤ last + 1; omega, Int.le_refl _⟩
      · intro x hx
        rcases List.mem_append.1 hx with hx | hx
        · exact st.ok x hx
        · rw [List.mem_singleton.1 hx]; exact hm'
    have k1 : Ev fun k => PMarksPlay.lawP.j1 k x0 (L.map cv) last i false (L, last) = some true := keep.step fun k hk => by
      simp only [PMarksPlay.lawP.j1]; rw [if_neg (by decide)]; exact hk
    have k3 : Ev fun k => PMarksPlay.lawP.j3 k x0 (L.map cv) last i false (L, last) = some true := keep.step fun k hk => by
      simp only [PMarksPlay.lawP.j3]; rw [if_neg (by decide)]; exact hk
    cases hm : okb d.f2.f0.f0 d.f2.f0.f1 with
    | false =>
      refine (k3.and ht).step fun k hk => ?_
      obtain ⟨hk, hf⟩ := hk
      simp only [PMarksPlay.lawP.l0]
      rw [if_pos (by omega), if_pos (by omega), hd, if_neg hn, hf, Option.bind_some, if_pos w0, PMarksPlay.marks_Marks_Add.f, mmay, Option.bind_some, hm, if_neg (by decide)]
      simp only [Option.bind_some, styluslaw04_as.f]
      rw [refmay, Option.bind_some, hm, if_neg (by decide), if_pos trivial]
      exact hk
    | true =>
      by_cases h60 : (L.length : Int) ≥ 60
      · refine (k1.and ht).step fun k hk => ?_
        obtain ⟨hk, hf⟩ := hk
        simp only [PMarksPlay.lawP.l0]
        rw [if_pos (by omega), if_pos (by omega), hd, if_neg hn, hf, Option.bind_some, if_pos w0, PMarksPlay.marks_Marks_Add.f, mmay, Option.bind_some, hm, if_pos rfl]
        simp only
        rw [if_pos (by omega)]
        simp only [Option.bind_some, styluslaw04_as.f]
        rw [refmay, Option.bind_some, hm, if_pos rfl, List.length_map, if_pos h60, if_pos trivial]
        exact hk
      · have k2 : Ev fun k => PMarksPlay.lawP.j2 k x0 (L.map cv) (last + 1) i false (L ++ [⟨⟨⟨d.f2.f0.f0, d.f2.f0.f1⟩, d.f2.f1, d.f2.f2⟩, last + 1⟩], last + 1) d.f0 d.f1 d.f2.f0.f0 d.f2.f0.f1 d.f2.f1 d.f2.f2 d.f3.f0 d.f3.f1 d.f3.f2 = some true := (new hm h60).step fun k hk => by
          simp only [PMarksPlay.lawP.j2]
          rw [if_neg (by decide), Option.bind_some, if_pos (by simp only [List.length_nil, List.length_map]; omega), Option.bind_some, styluslaw04_as.f]
          simp only [Option.bind_some, List.nil_append]
          rw [if_pos (by simp only [List.length_map]; omega)]
          exact hk
        refine (k2.and ht).step fun k hk => ?_
        obtain ⟨hk, hf⟩ := hk
        simp only [PMarksPlay.lawP.l0]
        rw [if_pos (by omega), if_pos (by omega), hd, if_neg hn, hf, Option.bind_some, if_pos w0, PMarksPlay.marks_Marks_Add.f, mmay, Option.bind_some, hm, if_pos rfl]
        simp only
        rw [if_neg (by omega)]
        simp only [Option.bind_some, styluslaw04_as.f]
        rw [refmay, Option.bind_some, hm, if_pos rfl, List.length_map, if_neg h60, if_pos trivial, wl]
        exact hk
  by_cases w1 : d.f0 = 1
  · -- one is taken away
    rcases hfind with ⟨rfl, hno⟩ | ⟨q, hq, rfl, hid⟩
    · have k4 : Ev fun k => PMarksPlay.lawP.j4 k x0 (L.map cv) last i (-1) false (L, last) = some true := keep.step fun k hk => by
        simp only [PMarksPlay.lawP.j4]; rw [if_neg (by decide), if_neg (by decide)]; exact hk
      obtain ⟨K, hK⟩ := k4.and ht
      refine ⟨K + L.length + 2, fun k hk => ?_⟩
      obtain ⟨k, rfl⟩ : ∃ m, k = m + 1 := ⟨k - 1, by omega⟩
      obtain ⟨hk4, hf⟩ := hK k (by omega)
      obtain ⟨r, hr⟩ := mfind_no st.rise (by omega) d.f1 hno last k (by omega)
      simp only [PMarksPlay.lawP.l0]
      rw [if_pos (by omega), if_pos (by omega), hd, if_neg hn, hf, Option.bind_some, if_neg w0, if_pos w1, PMarksPlay.marks_Marks_Remove.f, hr]
      simp only [Option.bind_some]
      rw [if_neg (by decide)]
      simp only [Option.bind_some]
      rw [if_pos (by decide), if_pos trivial, if_neg (by decide)]
      exact hk4
    · have hsub : (L.eraseIdx q).Sublist L := List.eraseIdx_sublist _ _
      have hle : (L.eraseIdx q).length ≤ L.length := hsub.length_le
      have kn := j16_ev x0 (L.eraseIdx q) last i (by omega) (by omega) (next _ _ ⟨(st.rise).sublist (hsub.map _), fun x hx => st.ids x (hsub.subset hx), fun x hx => st.ok x (hsub.subset hx), st.lo, by omega, by omega⟩)
      have k4 : Ev fun k => PMarksPlay.lawP.j4 k x0 (L.map cv) last i (q : Int) false (L.eraseIdx q, last) = some true := kn.step fun k hk => by
        simp only [PMarksPlay.lawP.j4, List.length_map]
        have e2 : (((q + 1 : Nat) : Int)).toNat = q + 1 := by omega
        rw [if_neg (by decide), if_pos (by omega), Option.bind_some, if_pos (by omega), if_pos (by omega), Option.bind_some, Int.toNat_natCast, if_pos (by simp only [List.length_nil, List.length_take, List.length_map]; omega), Option.bind_some, wr1 q (by omega), if_pos (by omega), if_pos (by omega), Option.bind_some, e2, if_pos (by simp only [List.length_append, List.length_nil, List.length_take, List.length_drop, List.length_map]; omega), List.nil_append, ← List.eraseIdx_eq_take_drop_succ]
        have ee : (L.map cv).eraseIdx q = (L.eraseIdx q).map cv := by rw [List.eraseIdx_eq_take_drop_succ, List.eraseIdx_eq_take_drop_succ]; simp
        rw [ee]; exact hk
      obtain ⟨K, hK⟩ := k4.and ht
      refine ⟨K + L.length + 2, fun k hk => ?_⟩
      obtain ⟨k, rfl⟩ : ∃ m, k = m + 1 := ⟨k - 1, by omega⟩
      obtain ⟨hk4, hf⟩ := hK k (by omega)
      have hr := find_mem st.rise (by omega) hq last k (by omega)
      rw [hid] at hr
      simp only [PMarksPlay.lawP.l0]
      rw [if_pos (by omega), if_pos (by omega), hd, if_neg hn, hf, Option.bind_some, if_neg w0, if_pos w1, PMarksPlay.marks_Marks_Remove.f, hr]
      simp only [Option.bind_some]
      rw [if_pos trivial, if_pos (by omega)]
      simp only [Option.bind_some]
      rw [if_neg (by omega), if_pos (by omega), Int.toNat_natCast]
      exact hk4
  by_cases w2 : d.f0 = 2
  · -- all are moved
    have hins : d.f3.f2.length ≤ 300 := by omega
    have me := medit L (by omega) last d.f3.f0 d.f3.f1 d.f3.f2 st.ok hins
    have j7f : Ev fun k => PMarksPlay.lawP.j7 k x0 (L.map cv) last i false [] false (L, last) = some true := keep.step fun k hk => by
      simp only [PMarksPlay.lawP.j7]; rw [if_neg (by decide), if_neg (by decide)]; exact hk
    have bad6 : ∀ (nx : List S42) (z : Int) (p0 p1 p2 p3 : Int) (p4 p5 : Bool) (a b : Int) (ins : List Int), Ev fun k => PMarksPlay.lawP.j6 k x0 (L.map cv) last i 1 false nx z false (L, last) p0 p1 p2 p3 p4 p5 a b ins = some true := by
      intro nx z p0 p1 p2 p3 p4 p5 a b ins
      have h7 : Ev fun k => PMarksPlay.lawP.j7 k x0 (L.map cv) last i false nx false (L, last) = some true := keep.step fun k hk => by
        simp only [PMarksPlay.lawP.j7]; rw [if_neg (by decide), if_neg (by decide)]; exact hk
      refine h7.step fun k hk => ?_
      simp only [PMarksPlay.lawP.j6]
      rw [if_neg (by decide), if_neg (by decide), if_pos trivial]; exact hk
    have fin : ∀ (r : Int) (L' : List S94), (Ev fun k => marks_Marks_Edit.f k L last d.f3.f0 d.f3.f1 d.f3.f2 = some (r, L', last)) → (Ev fun k => PMarksPlay.lawP.l1 k x0 (L.map cv) last i r (fairb d.f3.f0 d.f3.f1) [] 0 (L', last) d.f0 d.f1 d.f2.f0.f0 d.f2.f0.f1 d.f2.f1 d.f2.f2 d.f3.f0 d.f3.f1 d.f3.f2 = some true) →
        Ev fun k => PMarksPlay.lawP.l0 k x0 (L.map cv) last (i : Int) (L, last) = some true := by
      intro r L' h1 h2
      refine ((h1.and h2).and ht).step fun k hk => ?_
      obtain ⟨⟨hk1, hk2⟩, hf⟩ := hk
      simp only [PMarksPlay.lawP.l0]
      rw [if_pos (by omega), if_pos (by omega), hd, if_neg hn, hf, Option.bind_some, if_neg w0, if_neg w1, if_pos w2, PMarksPlay.marks_Marks_Edit.f, hk1]
      simp only [Option.bind_some]
      rw [reffair, Option.bind_some]
      exact hk2
    cases hfr : fairb d.f3.f0 d.f3.f1 with
    | false =>
      rw [hfr, if_neg (by simp)] at me
      refine fin 1 L me ?_
      rw [hfr]
      refine (bad6 [] 0 d.f0 d.f1 d.f2.f0.f0 d.f2.f0.f1 d.f2.f1 d.f2.f2 d.f3.f0 d.f3.f1 d.f3.f2).step fun k hk => ?_
      simp only [PMarksPlay.lawP.l1]
      split <;> exact hk
    | true =>
      by_cases hall : (L.map (mvd d.f3.f0 d.f3.f1 d.f3.f2.length)).all okx = true
      · rw [if_pos ⟨hfr, hall⟩] at me
        refine fin 0 _ me ?_
        rw [hfr]
        have ids : (L.map (mvd d.f3.f0 d.f3.f1 d.f3.f2.length)).map S94.f1 = L.map S94.f1 := by rw [List.map_map]; rfl
        have kn := j16_ev x0 (L.map (mvd d.f3.f0 d.f3.f1 d.f3.f2.length)) last i (by simpa using hlen) (by omega) (next _ _ ⟨by unfold Rise; rw [ids]; exact st.rise, (fun x hx => by
          obtain ⟨y, hy, rfl⟩ := List.mem_map.1 hx
          exact st.ids y hy), (fun x hx => by have h1 := List.all_eq_true.1 hall x hx; unfold okx okb at h1; have h2 := of_decide_eq_true h1; exact h2), st.lo, by omega, by simpa using hlen⟩)
        refine l1_ev x0 L hlen st.ok last i 0 _ _ _ _ _ _ _ _ _ _ hins hfr (fun _ => kn.step fun k hk => ?_) (fun hb => absurd hall hb) L [] rfl rfl
        simp only [PMarksPlay.lawP.j7]
        rw [if_neg (by decide), if_pos trivial]; exact hk
      · rw [if_neg (fun h => hall h.2)] at me
        refine fin 1 L me ?_
        rw [hfr]
        exact l1_ev x0 L hlen st.ok last i 1 _ _ _ _ _ _ _ _ _ _ hins hfr (fun h => absurd h hall) (fun _ nx => bad6 nx 0 _ _ _ _ _ _ _ _ _) L [] rfl rfl
  by_cases w3 : d.f0 = 3
  · -- one is asked for
    rcases hfind with ⟨rfl, hno⟩ | ⟨q, hq, rfl, hid⟩
    · have k8 : Ev fun k => PMarksPlay.lawP.j8 k x0 (L.map cv) last i (-1) false (L, last) d.f0 d.f1 d.f2.f0.f0 d.f2.f0.f1 d.f2.f1 d.f2.f2 d.f3.f0 d.f3.f1 d.f3.f2 0 0 false false = some true := keep.step fun k hk => by
        simp only [PMarksPlay.lawP.j8]; rw [if_neg (by decide), if_neg (by decide)]; exact hk
      obtain ⟨K, hK⟩ := k8.and ht
      refine ⟨K + L.length + 2, fun k hk => ?_⟩
      obtain ⟨k, rfl⟩ : ∃ m, k = m + 1 := ⟨k - 1, by omega⟩
      obtain ⟨hk8, hf⟩ := hK k (by omega)
      obtain ⟨r, hr⟩ := mfind_no st.rise (by omega) d.f1 hno last k (by omega)
      simp only [PMarksPlay.lawP.l0]
      rw [if_pos (by omega), if_pos (by omega), hd, if_neg hn, hf, Option.bind_some, if_neg w0, if_neg w1, if_neg w2, if_pos w3, PMarksPlay.marks_Marks_Get.f, marks_Marks_Get.f, hr]
      simp only [Option.bind_some]
      rw [if_neg (by decide)]
      simp only [Option.bind_some]
      rw [if_pos (by decide), if_pos trivial, if_neg (by decide), if_neg (by decide)]
      exact hk8
    · have k8 : Ev fun k => PMarksPlay.lawP.j8 k x0 (L.map cv) last i (q : Int) false (L, last) d.f0 d.f1 d.f2.f0.f0 d.f2.f0.f1 d.f2.f1 d.f2.f2 d.f3.f0 d.f3.f1 d.f3.f2 L[q].f0.f0.f0 L[q].f0.f0.f1 L[q].f0.f1 L[q].f0.f2 = some true := keep.step fun k hk => by
        simp only [PMarksPlay.lawP.j8, List.length_map]
        rw [if_neg (by decide), if_pos (by omega), styluslaw04_as.f]
        simp only [Option.bind_some]
        rw [if_pos (by omega), if_pos (by omega), rd42_cv L q hq, ← hid, if_neg (by simp [cv])]
        exact hk
      obtain ⟨K, hK⟩ := k8.and ht
      refine ⟨K + L.length + 2, fun k hk => ?_⟩
      obtain ⟨k, rfl⟩ : ∃ m, k = m + 1 := ⟨k - 1, by omega⟩
      obtain ⟨hk8, hf⟩ := hK k (by omega)
      have hr := get_mem st.rise (by omega) (List.getElem_mem hq) last k (by omega)
      rw [hid] at hr
      simp only [PMarksPlay.lawP.l0]
      rw [if_pos (by omega), if_pos (by omega), hd, if_neg hn, hf, Option.bind_some, if_neg w0, if_neg w1, if_neg w2, if_pos w3, PMarksPlay.marks_Marks_Get.f, hr]
      simp only [Option.bind_some]
      rw [if_neg (by omega), if_pos (by omega)]
      exact hk8
  -- places, spans, parents, and others
  have k9 : ∀ b : Bool, b = (d.f0 == 4 || d.f0 == 5) → Ev fun k => PMarksPlay.lawP.j9 k x0 (L.map cv) last i t d.f0 b (L, last) d.f0 d.f1 d.f2.f0.f0 d.f2.f0.f1 d.f2.f1 d.f2.f2 d.f3.f0 d.f3.f1 d.f3.f2 = some true := by
    intro b hb
    cases hb2 : (d.f0 == 4 || d.f0 == 5) with
    | true =>
      rw [hb2] at hb; subst hb
      have h45 : d.f0 = 4 ∨ d.f0 = 5 := by simpa using hb2
      have k14 : Ev fun k => PMarksPlay.lawP.j14 k x0 (L.map cv) last i ((L.filter (want d.f0 d.f1 d.f2.f0.f0 d.f2.f0.f1)).map S94.f1) ((L.filter (want d.f0 d.f1 d.f2.f0.f0 d.f2.f0.f1)).map S94.f1) (L, last) = some true := by
        have hs := same_ev ((L.filter (want d.f0 d.f1 d.f2.f0.f0 d.f2.f0.f1)).map S94.f1) (by have := List.length_filter_le (want d.f0 d.f1 d.f2.f0.f0 d.f2.f0.f1) L; simp only [List.length_map]; omega)
        refine (keep.and hs).step fun k hk => ?_
        simp only [PMarksPlay.lawP.j14]
        rw [hk.2, Option.bind_some, if_pos rfl]; exact hk.1
      have h2 := l2_ev x0 L hlen last i d.f0 d.f1 d.f2.f0.f0 d.f2.f0.f1 h45 d.f2.f1 d.f2.f2 d.f3.f0 d.f3.f1 d.f3.f2 k14 L [] rfl
      refine h2.step fun k hk => ?_
      simp only [PMarksPlay.lawP.j9]
      rw [if_pos trivial]; exact hk
    | false =>
      rw [hb2] at hb; subst hb
      by_cases w6 : d.f0 = 6
      · rcases hfind with ⟨rfl, hno⟩ | ⟨q, hq, rfl, hid⟩
        · have k15 : Ev fun k => PMarksPlay.lawP.j15 k x0 (L.map cv) last i (-1) 0 false (L, last) = some true := keep.step fun k hk => by
            simp only [PMarksPlay.lawP.j15]; rw [if_neg (by decide), if_neg (by decide)]; exact hk
          obtain ⟨K, hK⟩ := k15
          refine ⟨K + L.length + 2, fun k hk => ?_⟩
          obtain ⟨k, rfl⟩ : ∃ m, k = m + 1 := ⟨k - 1, by omega⟩
          have hk15 := hK k (by omega)
          obtain ⟨r, hr⟩ := mfind_no st.rise (by omega) d.f1 hno last k (by omega)
          simp only [PMarksPlay.lawP.j9]
          rw [if_neg (by decide), if_pos w6, PMarksPlay.marks_Marks_Parent.f, marks_Marks_Parent.f, hr]
          simp only [Option.bind_some]
          rw [if_neg (by decide)]
          simp only [Option.bind_some]
          rw [if_pos (by decide), if_pos trivial, if_pos trivial, if_neg (by decide)]
          exact hk15
        · have m1 := mpar_ev st.rise (by omega) st.ok q hq last
          have m2 := refpar_ev L (by omega) st.ok L[q]
          have k15 : Ev fun k => PMarksPlay.lawP.j15 k x0 (L.map cv) last i (q : Int) (par L L[q]) false (L, last) = some true := (keep.and m2).step fun k hk => by
            simp only [PMarksPlay.lawP.j15, List.length_map]
            rw [if_neg (by decide), if_pos (by omega), if_pos (by omega), if_pos (by omega), rd42_cv L q hq, hk.2, Option.bind_some, if_pos rfl]; exact hk.1
          refine (k15.and m1).step fun k hk => ?_
          obtain ⟨hk15, hm⟩ := hk
          rw [hid] at hm
          simp only [PMarksPlay.lawP.j9]
          rw [if_neg (by decide), if_pos w6, PMarksPlay.marks_Marks_Parent.f, hm]
          simp only [Option.bind_some]
          rw [if_neg (by omega), if_pos (by omega)]
          exact hk15
      · refine keep.step fun k hk => ?_
        simp only [PMarksPlay.lawP.j9]
        rw [if_neg (by decide), if_neg w6]; exact hk
  by_cases w4 : d.f0 = 4
  · refine ((k9 (d.f0 == 4) (by simp [w4])).and ht).step fun k hk => ?_
    obtain ⟨hk, hf⟩ := hk
    simp only [PMarksPlay.lawP.l0]
    rw [if_pos (by omega), if_pos (by omega), hd, if_neg hn, hf, Option.bind_some, if_neg w0, if_neg w1, if_neg w2, if_neg w3, if_pos w4]
    exact hk
  · refine ((k9 (d.f0 == 5) (by simp [w4])).and ht).step fun k hk => ?_
    obtain ⟨hk, hf⟩ := hk
    simp only [PMarksPlay.lawP.l0]
    rw [if_pos (by omega), if_pos (by omega), hd, if_neg hn, hf, Option.bind_some, if_neg w0, if_neg w1, if_neg w2, if_neg w3, if_neg w4]
    exact hk

theorem deeds_ev (x0 : List S35) (h0 : ∀ e ∈ x0, Q35 e) (hx : x0.length ≤ 100) : ∀ (d i : Nat) (L : List S94) (last : Int), x0.length - i ≤ d → i ≤ x0.length → St L last i →
    Ev fun k => PMarksPlay.lawP.l0 k x0 (L.map cv) last (i : Int) (L, last) = some true := by
  intro d
  have base : ∀ (i : Nat) (L : List S94) (last : Int), i = x0.length → Ev fun k => PMarksPlay.lawP.l0 k x0 (L.map cv) last (i : Int) (L, last) = some true := by
    intro i L last e
    refine Ev.step0 fun k => ?_
    simp only [PMarksPlay.lawP.l0]
    rw [if_neg (by omega)]; rfl
  induction d with
  | zero => intro i L last h1 h2 st; exact base i L last (by omega)
  | succ d ih =>
    intro i L last h1 h2 st
    by_cases e : i = x0.length
    · exact base i L last e
    · exact deed_ev x0 h0 L last i (by omega) hx st fun L' last' st' => ih (i + 1) L' last' (by omega) (by omega) st'

theorem MarksPlay : OpenMarksPlay.Pure := by
  intro x0 h0
  refine Ev.one ?_
  by_cases hl : (x0.length : Int) > 100
  · refine Ev.mk0 fun k => ?_
    unfold PMarksPlay.lawP.f PMarksPlay.marks_New.f
    rw [Option.bind_some, if_pos hl]; rfl
  · refine (deeds_ev x0 h0.2 (by omega) x0.length 0 [] 0 (by omega) (by omega) ⟨List.Pairwise.nil, by simp, by simp, by omega, by omega, by simp⟩).mono fun k hk => ?_
    unfold PMarksPlay.lawP.f PMarksPlay.marks_New.f
    rw [Option.bind_some, if_neg hl]; exact hk
end Go.Proofs.Ythbdiambigfgdae.Pure
