/- The document's Normal comes to the same as the program's: in plain Lean. -/
import Derived.Test.YthbdiambigfgdafRefEv
namespace Go.Proofs.Ythbdiambigfgdaf.Sort
open Go.RowKit Go.Proofs.Ythbdiambigfgdaf.PSelsNormal Go.Proofs.YthbdiambigfgdafW.PrintWords Go.Proofs.YthbdiambigfgdafW.PrintLast Go.Proofs.YthbdiambigfgdafW.PrintMore
set_option linter.unusedVariables false
set_option linter.unusedSimpArgs false

def osel (own : List S24) (A : S48) : S24 := if 0 ≤ A.f2 then (if (rd_T24 own A.f2).f1 < (rd_T24 own A.f2).f0 then ⟨A.f1, A.f0⟩ else ⟨A.f0, A.f1⟩) else ⟨A.f0, A.f1⟩
theorem Rep.osel {own : List S24} {q : S41} {A : S48} (h : Rep own q A) : osel own A = sel q := by
  unfold Sort.osel sel
  by_cases h0 : 0 ≤ A.f2
  · rw [if_pos h0]
    by_cases h1 : q.f1 < 0
    · rw [if_pos h1, if_pos ((h.some h0).1 h1), h.lo, h.hi]
    · rw [if_neg h1, if_neg (fun e => h1 ((h.some h0).2 e)), h.lo, h.hi]
  · rw [if_neg h0]
    have := h.none (by omega)
    rw [if_neg (by omega), h.lo, h.hi]

theorem l5_end (own : List S24) (g : List S48) (out : List S24) (b : Nat) (hg : g.length < 1000000) (ho : out.length < 1000000) (hb : b < g.length) (hw : (g.getD b z48).f2 < own.length) (X : List S24)
    (h : Ev fun n => stylusref11_Normal.l4 n own (g.eraseIdx b) (out ++ [osel own (g.getD b z48)]) = some X) (i : Int) (hi : i = g.length) : Ev fun n => stylusref11_Normal.l5 n own g out b i = some X := by
  generalize hA : g.getD b z48 = A at *
  have e1 : ((b : Int)).toNat = b := by omega
  have e2 : (((b + 1 : Nat) : Int)).toNat = b + 1 := by omega
  have h15 : Ev fun n => stylusref11_Normal.j15 n own (g.eraseIdx b) out (osel own A).f0 (osel own A).f1 = some X := h.step fun n hn => by
    simp only [stylusref11_Normal.j15]
    rw [if_pos (by omega)]; exact hn
  have h14 : Ev fun n => stylusref11_Normal.j14 n own (g.eraseIdx b) out (osel own A).f0 (osel own A).f1 = some X := h15.step fun n hn => by
    simp only [stylusref11_Normal.j14]; exact hn
  refine (h15.and h14).step fun n hn => ?_
  obtain ⟨n15, n14⟩ := hn
  simp only [stylusref11_Normal.l5]
  rw [if_neg (by omega), if_pos (by omega), if_pos (by omega), Option.bind_some, if_pos (by omega), Option.bind_some, wr1 b (by omega), e1, e2]
  rw [if_pos (by simp only [List.length_nil, List.length_take]; omega), Option.bind_some, if_pos (by omega), if_pos (by omega), Option.bind_some]
  rw [if_pos (by simp only [List.length_append, List.length_nil, List.length_take, List.length_drop]; omega), Option.bind_some, erase_take, rd48_nat, hA]
  unfold osel at n15 n14
  by_cases h0 : 0 ≤ A.f2
  · rw [if_pos h0, if_pos h0, if_pos hw]
    rw [if_pos h0] at n14
    by_cases h1 : (rd_T24 own A.f2).f1 < (rd_T24 own A.f2).f0
    · rw [if_pos h1] at n14 ⊢; exact n14
    · rw [if_neg h1] at n14 ⊢; exact n14
  · rw [if_neg h0]
    rw [if_neg h0] at n15
    exact n15

theorem l5_scan (own : List S24) (g : List S48) (out : List S24) (hg : g.length < 1000000) (X : List S24)
    (h : ∀ b : Nat, b < g.length → (∀ j, j < g.length → (g.getD b z48).f0 ≤ (g.getD j z48).f0) → Ev fun n => stylusref11_Normal.l5 n own g out b (g.length : Int) = some X) :
    ∀ (d i b : Nat), g.length - i ≤ d → b < i → i ≤ g.length → (∀ j, j < i → (g.getD b z48).f0 ≤ (g.getD j z48).f0) → Ev fun n => stylusref11_Normal.l5 n own g out b i = some X := by
  intro d
  induction d with
  | zero =>
    intro i b hd hb hi hm
    obtain rfl : i = g.length := by omega
    exact h b hb hm
  | succ d ih =>
    intro i b hd hb hi hm
    by_cases e : i = g.length
    · subst e; exact h b hb hm
    · by_cases hlt : (g.getD i z48).f0 < (g.getD b z48).f0
      · refine (ih (i + 1) i (by omega) (by omega) (by omega) (fun j hj => ?_)).step fun n hn => ?_
        · by_cases e : j = i
          · subst e; exact Int.le_refl _
          · have := hm j (by omega); omega
        · simp only [stylusref11_Normal.l5]
          rw [if_pos (by omega), if_pos (by omega), if_pos (by omega), if_pos (by omega), rd48_nat, rd48_nat, if_pos hlt, wr1 i (by omega)]
          exact hn
      · refine (ih (i + 1) b (by omega) (by omega) (by omega) (fun j hj => ?_)).step fun n hn => ?_
        · by_cases e : j = i
          · subst e; omega
          · exact hm j (by omega)
        · simp only [stylusref11_Normal.l5]
          rw [if_pos (by omega), if_pos (by omega), if_pos (by omega), if_pos (by omega), rd48_nat, rd48_nat, if_neg hlt, wr1 i (by omega)]
          exact hn

theorem l4_ev (own : List S24) : ∀ (F : List S41) (g : List S48) (out : List S24), F.Pairwise (fun p q => p.f0.f1 < q.f0.f0) → (∀ q ∈ F, q.f0.f0 ≤ q.f0.f1) → (∀ q ∈ F, ∃ A ∈ g, Rep own q A) → (∀ A ∈ g, ∃ q ∈ F, Rep own q A) →
    g.Pairwise (fun A B => A.f0 ≠ B.f0) → g.length < 1000000 → out.length + g.length < 1000000 → Ev fun n => stylusref11_Normal.l4 n own g out = some (if out ++ F.map sel = [] then [⟨0, 0⟩] else out ++ F.map sel) := by
  intro F
  induction F with
  | nil =>
    intro g out _ _ _ h2 _ hg ho
    have hg0 : g = [] := by
      cases g with
      | nil => rfl
      | cons A g => obtain ⟨q, hq, _⟩ := h2 A List.mem_cons_self; cases hq
    subst hg0
    refine Ev.step0 fun n => ?_
    simp only [stylusref11_Normal.l4]
    rw [if_neg (by simp)]
    cases out with
    | nil => rw [if_pos (by simp)]; simp
    | cons a O => rw [if_neg (by simp; omega)]; simp
  | cons q F ih =>
    intro g out hp hu h1 h2 hd hg ho
    rw [List.pairwise_cons] at hp
    obtain ⟨A0, hA0, r0⟩ := h1 q List.mem_cons_self
    have hq := hu q List.mem_cons_self
    have hgl : 0 < g.length := List.length_pos_of_mem hA0
    have h5 : Ev fun n => stylusref11_Normal.l5 n own g out ((0 : Nat) : Int) ((1 : Nat) : Int) = some (if out ++ (q :: F).map sel = [] then [⟨0, 0⟩] else out ++ (q :: F).map sel) := by
      refine l5_scan own g out hg _ ?_ g.length 1 0 (by omega) (by omega) (by omega) (fun j hj => by have e : j = 0 := (by omega); rw [e]; exact Int.le_refl _)
      intro b hb hm
      have hAm : g.getD b z48 ∈ g := getD_mem hb
      obtain ⟨q', hq', r'⟩ := h2 _ hAm
      obtain ⟨j0, hj0, e0⟩ := List.mem_iff_getElem.1 hA0
      have hmin := hm j0 hj0
      have ej : g.getD j0 z48 = A0 := by simp [List.getD_eq_getElem?_getD, hj0, e0]
      rw [ej, r0.lo, r'.lo] at hmin
      have eq : q' = q := by
        rcases List.mem_cons.1 hq' with e | e
        · exact e
        · have := hp.1 q' e; omega
      subst eq
      have eb : g[b]? = some (g.getD b z48) := by simp [List.getD_eq_getElem?_getD, hb]
      refine l5_end own g out b hg (by omega) hb r'.lt _ ?_ _ rfl
      rw [r'.osel]
      have hl : (g.eraseIdx b).length = g.length - 1 := by rw [List.length_eraseIdx, if_pos hb]
      have := ih (g.eraseIdx b) (out ++ [sel q']) hp.2 (fun q hq => hu q (List.mem_cons_of_mem _ hq)) ?_ ?_ (hd.sublist (List.eraseIdx_sublist _ _)) (by omega) (by simp only [List.length_append, List.length_singleton]; omega)
      · simpa using this
      · intro q'' hq''
        obtain ⟨A, hA, r⟩ := h1 q'' (List.mem_cons_of_mem _ hq'')
        obtain ⟨j, hj, e⟩ := List.mem_iff_getElem.1 hA
        refine ⟨A, ?_, r⟩
        rw [List.mem_eraseIdx_iff_getElem?]
        refine ⟨j, fun ejb => ?_, by rw [List.getElem?_eq_getElem hj, e]⟩
        subst ejb
        have e3 : g.getD j z48 = A := by simp [List.getD_eq_getElem?_getD, hj, e]
        rw [e3] at r'
        have h3 := hp.1 q'' hq''
        have h4 := r'.lo
        have h5 := r.lo
        omega
      · intro A hA
        rw [List.mem_eraseIdx_iff_getElem?] at hA
        obtain ⟨j, hjb, ej⟩ := hA
        obtain ⟨hj, e⟩ := List.getElem?_eq_some_iff.1 ej
        obtain ⟨q'', hq'', r⟩ := h2 A (by rw [← e]; exact List.getElem_mem _)
        rcases List.mem_cons.1 hq'' with e2 | e2
        · exfalso
          subst e2
          have e3 : g[b].f0 = g[j].f0 := by
            have : g.getD b z48 = g[b] := by simp [List.getD_eq_getElem?_getD, hb]
            rw [this] at r'
            rw [r'.lo, e, r.lo]
          rw [List.pairwise_iff_getElem] at hd
          rcases Nat.lt_or_gt_of_ne hjb with hlt | hlt
          · exact hd j b hj hb hlt e3.symm
          · exact hd b j hb hj hlt e3
        · exact ⟨q'', e2, r⟩
    refine h5.step fun n hn => ?_
    simp only [stylusref11_Normal.l4]
    rw [if_pos (by omega)]
    exact hn

def cl (n : Int) (s : S24) : S24 := ⟨clamp n s.f0, clamp n s.f1⟩
def grp (i : Nat) (s : S24) : S48 := ⟨lo s, hi s, if s.f0 = s.f1 then -1 else (i : Int)⟩
theorem run_cl (n : Int) (s : S24) : run n s = orun (cl n s) := rfl
theorem within_eq {n : Int} (hn : 0 ≤ n) (p : Int) : stylusref11_within.f p n = some (clamp n p) := by
  simp only [stylusref11_within.f, clamp, mx, mn]
  by_cases h1 : p > n
  · rw [if_pos h1, if_neg (by omega)]
    congr 1; (repeat' split) <;> omega
  · rw [if_neg h1]
    by_cases h2 : p < 0
    · rw [if_pos h2]; congr 1; (repeat' split) <;> omega
    · rw [if_neg h2]; congr 1; (repeat' split) <;> omega

theorem l0_ev (l : List S24) (n : Int) (hn : 0 ≤ n) (hl : l.length < 1000000) (X : List S24) (h : Ev fun k => stylusref11_Normal.l1 k (l.map (cl n)) ((l.map (cl n)).mapIdx grp) = some X) :
    ∀ (R D : List S24), l = D ++ R → Ev fun k => stylusref11_Normal.l0 k l n (D.map (cl n)) ((D.map (cl n)).mapIdx grp) (D.length : Int) = some X := by
  intro R
  induction R with
  | nil =>
    intro D e
    rw [List.append_nil] at e
    subst e
    refine h.step fun k hk => ?_
    simp only [stylusref11_Normal.l0]
    rw [if_neg (by omega)]; exact hk
  | cons s R ih =>
    intro D e
    have hlen := congrArg List.length e
    simp only [List.length_append, List.length_cons] at hlen
    have h1 := ih (D ++ [s]) (by rw [e]; simp)
    rw [List.map_append, List.map_singleton, List.mapIdx_concat, List.length_append, List.length_singleton] at h1
    have rs : rd_T24 l (D.length : Int) = s := by rw [e]; exact rd24_at _ _ _ rfl
    have h2 : Ev fun k => stylusref11_Normal.j2 k l n (D.map (cl n) ++ [cl n s]) ((D.map (cl n)).mapIdx grp) (D.length : Int) (if (cl n s).f0 = (cl n s).f1 then -1 else (D.length : Int)) (cl n s).f0 (cl n s).f1 = some X := by
      refine h1.step fun k hk => ?_
      simp only [stylusref11_Normal.j2]
      rw [lo_ev, Option.bind_some, hi_ev, Option.bind_some, if_pos (by simp only [List.length_mapIdx, List.length_map]; omega), wr1 _ (by omega)]
      simp only [grp, List.length_map] at hk
      exact hk
    refine h2.step fun k hk => ?_
    simp only [stylusref11_Normal.l0]
    rw [if_pos (by omega), if_pos (by omega), rs, within_eq hn, Option.bind_some, within_eq hn, Option.bind_some, if_pos (by simp only [List.length_map]; omega), Option.bind_some]
    by_cases e1 : clamp n s.f0 = clamp n s.f1
    · rw [if_pos e1]
      rw [if_pos (show (cl n s).f0 = (cl n s).f1 from e1)] at hk
      exact hk
    · rw [if_neg e1]
      rw [if_neg (show ¬ (cl n s).f0 = (cl n s).f1 from e1)] at hk
      exact hk

theorem Inv.start {own : List S24} {S : List S41} {Bs : List (List S41 × S41)} (hS : Swept S Bs) (hst : Stab (own.map orun) S) : Inv own Bs (own.mapIdx grp) := by
  have er : ∀ i (h : i < own.length), rd_T24 own (i : Int) = own[i] := fun i h => by simp [rd_T24, List.getD_eq_getElem?_getD, h]
  refine ⟨?_, ?_, ?_, ?_, ?_⟩
  · intro A hA
    obtain ⟨i, hi, rfl⟩ := List.mem_mapIdx.1 hA
    exact lo_hi _
  · intro A hA
    obtain ⟨i, hi', rfl⟩ := List.mem_mapIdx.1 hA
    have h1 : orun own[i] ∈ S := (hst.mem _).1 (List.mem_map.2 ⟨_, List.getElem_mem _, rfl⟩)
    rw [← hS.flat] at h1
    obtain ⟨l, hl, hx⟩ := List.mem_flatten.1 h1
    obtain ⟨B, hB, rfl⟩ := List.mem_map.1 hl
    exact ⟨B, hB, (hS.agg B hB).within _ hx⟩
  · intro s hs
    obtain ⟨i, hi', rfl⟩ := List.mem_iff_getElem.1 hs
    exact ⟨grp i own[i], List.mem_mapIdx.2 ⟨i, hi', rfl⟩, Int.le_refl _, Int.le_refl _⟩
  · intro A hA
    obtain ⟨i, hi', rfl⟩ := List.mem_mapIdx.1 hA
    have e2 : (grp i own[i]).f2 = if own[i].f0 = own[i].f1 then -1 else (i : Int) := rfl
    rw [e2]
    by_cases h : own[i].f0 = own[i].f1
    · rw [if_pos h]; exact ⟨by omega, fun h0 => by omega⟩
    · rw [if_neg h, er i hi']; exact ⟨by omega, fun _ => ⟨h, Int.le_refl _, Int.le_refl _⟩⟩
  · intro i hi' hne
    rw [er i hi'] at hne
    have e2 : (grp i own[i]).f2 = (i : Int) := by show (if _ then _ else _) = _; rw [if_neg hne]
    exact ⟨grp i own[i], List.mem_mapIdx.2 ⟨i, hi', rfl⟩, by rw [er i hi']; exact Int.le_refl _, by rw [er i hi']; exact Int.le_refl _, by rw [e2]; omega, .inl e2⟩

/-- The document's Normal. -/
theorem refnormal (l : List S24) (a : Int) (hl : l.length < 100000) (S : List S41) (hs : Sorted S) (hst : Stab (l.map (run (mx 0 a))) S) : Ev fun k => stylusref11_Normal.f k l a = some (fin S) := by
  have hn : 0 ≤ mx 0 a := by unfold mx; split <;> omega
  have hst' : Stab ((l.map (cl (mx 0 a))).map orun) S := by rw [List.map_map]; exact hst
  have hup : ∀ r ∈ S, Up r := by
    intro r hr
    obtain ⟨s, _, rfl⟩ := List.mem_map.1 ((hst'.mem r).2 hr)
    exact orun_up s
  obtain ⟨Bs, hS, hfin⟩ : ∃ Bs, Swept S Bs ∧ (if [] ++ (Bs.map Prod.snd).map sel = [] then [⟨0, 0⟩] else [] ++ (Bs.map Prod.snd).map sel) = fin S := by
    cases S with
    | nil => exact ⟨[], ⟨rfl, (fun B hB => by cases hB), List.Pairwise.nil⟩, rfl⟩
    | cons o R =>
      obtain ⟨Bs, h1, h2⟩ := swept hs hup
      refine ⟨Bs, h1, ?_⟩
      rw [← h2, List.nil_append, if_neg (by simp [mg_ne])]
      rfl
  have hlen : (l.map (cl (mx 0 a))).length < 100000 := by simpa using hl
  have h1 := l1_ev (l.map (cl (mx 0 a))) hS (fin S) (fun g hI hg hnt => by
    have hpw : ∀ A ∈ g, ∀ B ∈ g, A = B ∨ ¬ tch A B := by
      intro A hA B hB
      obtain ⟨i, hi', rfl⟩ := List.mem_iff_getElem.1 hA
      obtain ⟨j, hj', rfl⟩ := List.mem_iff_getElem.1 hB
      have ei : g.getD i z48 = g[i] := by simp [List.getD_eq_getElem?_getD, hi']
      have ej : g.getD j z48 = g[j] := by simp [List.getD_eq_getElem?_getD, hj']
      rcases Nat.lt_trichotomy i j with h | h | h
      · right; have := hnt i j h hj'; rw [ei, ej] at this; exact this
      · left; subst h; rfl
      · right; have := hnt j i h hi'; rw [ei, ej] at this; intro t; apply this; unfold tch at t ⊢; omega
    have hrep := hI.rep hS hs hst' hpw
    have := l4_ev (l.map (cl (mx 0 a))) (Bs.map Prod.snd) g [] (by rw [List.pairwise_map]; exact hS.apart) (fun q hq => by obtain ⟨B, hB, rfl⟩ := List.mem_map.1 hq; exact (hS.agg B hB).le)
      (fun q hq => by obtain ⟨B, hB, rfl⟩ := List.mem_map.1 hq; exact hrep.1 B hB) (fun A hA => by obtain ⟨B, hB, r⟩ := hrep.2 A hA; exact ⟨B.2, List.mem_map.2 ⟨B, hB, rfl⟩, r⟩)
      (by
        rw [List.pairwise_iff_getElem]
        intro i j hi' hj' hij e
        have ei : g.getD i z48 = g[i] := by simp [List.getD_eq_getElem?_getD, hi']
        have ej : g.getD j z48 = g[j] := by simp [List.getD_eq_getElem?_getD, hj']
        have := hnt i j hij hj'
        rw [ei, ej] at this
        apply this
        have u1 := hI.up g[i] (List.getElem_mem _)
        have u2 := hI.up g[j] (List.getElem_mem _)
        unfold tch; omega) hg (by simpa using hg)
    rw [hfin] at this
    exact this) _ ((l.map (cl (mx 0 a))).mapIdx grp) (Nat.le_refl _) (by simp only [List.length_mapIdx]; omega) (Inv.start hS hst')
  have h0 := l0_ev l (mx 0 a) hn (by omega) (fin S) h1 l [] rfl
  have hj : Ev fun k => stylusref11_Normal.j0 k l (mx 0 a) = some (fin S) := h0.step fun k hk => by
    simp only [stylusref11_Normal.j0]; exact hk
  refine hj.mono fun k hk => ?_
  unfold stylusref11_Normal.f
  by_cases ha : a < 0
  · rw [if_pos ha]
    have : mx 0 a = 0 := by unfold mx; split <;> omega
    rw [this] at hk; exact hk
  · rw [if_neg ha]
    have : mx 0 a = a := by unfold mx; split <;> omega
    rw [this] at hk; exact hk
end Go.Proofs.Ythbdiambigfgdaf.Sort
