/- KeymapPlays, the plain law: whatever deeds come, the map and the document's row hold the same binds, each key once, so both tell each key alike. -/
import Derived.Test.YthbdiambigfgdacOpenKeymapPlays
import Derived.Test.YthbdiambigfgdacPureKeymapFinds
import Derived.Test.YthbdiambigfgdacHandRel
namespace Go.Proofs.Ythbdiambigfgdac.Pure
open Go.Proofs.Ythbdiambigfgdac.OpenKeymapPlays
open Go.RowKit Go.Proofs.Ythbdiambigfgdac.PKeymapFinds Go.Proofs.Ythbdiambigfgdac.PKeymapPlays Go.Proofs.YthbdiambigfgdacW.PrintWords Go.Proofs.YthbdiambigfgdacW.PrintLast Go.Proofs.Ythbdiambigfgdac.Op
open Hand

instance eq23 : DecidableEq S23 := fun a b => decidable_of_iff (a.f0 = b.f0 ∧ a.f1 = b.f1 ∧ a.f2 = b.f2) (by cases a; cases b; simp)
theorem nd0 : Rel binds0 binds0 := ⟨List.Perm.refl _, by unfold Nd; decide +kernel⟩

theorem l1_true (l r : List S43) (h : Rel l r) (hr : r.length ≤ 100) (fs : List S39) (hf : fs.length ≤ 100000) : ∀ (d k i : Nat), i ≤ fs.length → fs.length - i = d → d + 101 < k → styluslaw21_KeymapPlays.l1 k (r.map conv) fs (i : Int) l = some true := by
  intro d
  induction d with
  | zero =>
    intro k i h0 hd hk
    obtain ⟨k, rfl⟩ : ∃ m, k = m + 1 := ⟨k - 1, by omega⟩
    simp only [styluslaw21_KeymapPlays.l1]
    rw [if_neg (by omega)]
    rfl
  | succ d ih =>
    intro k i h0 hd hk
    obtain ⟨k, rfl⟩ : ∃ m, k = m + 1 := ⟨k - 1, by omega⟩
    have step := ih k (i + 1) (by omega) (by omega) (by omega)
    simp only [styluslaw21_KeymapPlays.l1]
    rw [if_pos (by omega), if_pos (by omega)]
    generalize rd_T39 fs (i : Int) = y
    have hfe := find_eq ⟨y.f0, y.f1, y.f2⟩ r (by omega) k (by omega)
    simp only at hfe
    rw [hfe, keymap_Map_Find.f]
    simp only [Option.bind_some]
    rw [if_pos (h.find _), wrap_of _ (by omega), show ((i : Int) + 1) = ((i + 1 : Nat) : Int) by omega]
    exact step

theorem j3_true (x0 : List S35) (l r : List S43) (h : Rel l r) (hr : r.length ≤ 100) (i k : Nat) (hi : i ≤ 100000) (hk : 200 < k) (a n q0 q1 q2 : Int) (step : styluslaw21_KeymapPlays.l0 (k - 1) x0 (r.map conv) ((i + 1 : Nat) : Int) l = some true) :
    styluslaw21_KeymapPlays.j3 k x0 (r.map conv) (i : Int) l a n q0 q1 q2 = some true := by
  obtain ⟨k, rfl⟩ : ∃ m, k = m + 1 := ⟨k - 1, by omega⟩
  have hfe := find_eq ⟨q0, q1, q2⟩ r (by omega) k (by omega)
  simp only at hfe
  simp only [styluslaw21_KeymapPlays.j3]
  rw [hfe, keymap_Map_Find.f]
  simp only [Option.bind_some]
  rw [if_pos (h.find _), wrap_of _ (by omega), show ((i : Int) + 1) = ((i + 1 : Nat) : Int) by omega]
  exact step

theorem is_both (c : Int) (hc : -9223372036854775808 ≤ c ∧ c ≤ 9223372036854775807) (k : Nat) (hk : 12 ≤ k) : ∃ b, keymap_Is.f 12 c = some b ∧ stylusref21_Is.f k c = some b := by
  obtain ⟨b, h1, h2⟩ := is_eq c hc 12 (by omega)
  exact ⟨b, h1, at_rounds (stylusref21_Is.mono _) hk h2⟩

theorem cutMap (r : List S43) (i : Nat) : (([] : List S39) ++ (r.map conv).take ((i : Int)).toNat) ++ (r.map conv).drop ((i + 1 : Nat) : Int).toNat = (r.eraseIdx i).map conv := by
  rw [Int.toNat_natCast, Int.toNat_natCast, List.nil_append, List.eraseIdx_eq_take_drop_succ, List.map_append, List.map_take, List.map_drop]

theorem l0_end (x0 : List S35) (l r : List S43) (h : Rel l r) (hr : r.length ≤ 100) (k : Nat) (hk : 300 < k) : styluslaw21_KeymapPlays.l0 k x0 (r.map conv) (x0.length : Int) l = some true := by
  obtain ⟨k, rfl⟩ : ∃ m, k = m + 1 := ⟨k - 1, by omega⟩
  have hl := l1_true l r h hr stylusref21_First.l (by rw [stylusref21_First.len]; omega) 50 k 0 (by omega) (by rw [stylusref21_First.len]) (by omega)
  have hf : stylusref21_First.f = some stylusref21_First.l := by unfold stylusref21_First.f; rfl
  generalize stylusref21_First.l = fs at hl hf
  simp only [styluslaw21_KeymapPlays.l0]
  rw [if_neg (by omega), hf]
  simp only [Option.bind_some]
  exact hl

/-- What a round goes on with. -/
def Next (x0 : List S35) (i k : Nat) (a n q0 q1 q2 : Int) : Prop := ∀ (l' r' : List S43), Rel l' r' → r'.length ≤ 100 → ∀ k', k - 2 ≤ k' → k' ≤ k → styluslaw21_KeymapPlays.j3 k' x0 (r'.map conv) (i : Int) l' a n q0 q1 q2 = some true

theorem bind_part (x0 : List S35) (i k : Nat) (a n q0 q1 q2 : Int) (hk : 200 < k) (hn : -9223372036854775808 ≤ n ∧ n ≤ 9223372036854775807) (next : Next x0 i k a n q0 q1 q2) (l r : List S43) (h : Rel l r) (hr : r.length ≤ 100) (at_ : Int) (hat : idxFrom (isKey ⟨q0, q1, q2⟩) 0 r = at_) :
    ((keymap_Map_Bind.f l q0 q1 q2 n).bind fun bt111 => ((stylusref21_Is.f k n).bind fun t113 => (if t113 = true then (if at_ < 0 then (styluslaw21_KeymapPlays.j1 k x0 (r.map conv) (i : Int) at_ bt111.1 (decide (((r.map conv).length : Int) ≥ 100)) bt111.2 a n q0 q1 q2) else (styluslaw21_KeymapPlays.j1 k x0 (r.map conv) (i : Int) at_ bt111.1 false bt111.2 a n q0 q1 q2)) else (if bt111.1 = 1 then (styluslaw21_KeymapPlays.j3 k x0 (r.map conv) (i : Int) bt111.2 a n q0 q1 q2) else (some false))))) = some true := by
  have hlen := h.len
  obtain ⟨k2, rfl⟩ : ∃ m, k = m + 1 := ⟨k - 1, by omega⟩
  obtain ⟨b, hb1, hb2⟩ := is_both n hn (k2 + 1) (by omega)
  rw [keymap_Map_Bind.f, hb1, hb2]
  simp only [Option.bind_some]
  cases b with
  | false =>
    rw [if_neg (by decide)]
    simp only [Option.bind_some]
    rw [if_neg (by decide)]
    first | rw [if_pos rfl] | rw [if_pos trivial]
    exact next l r h hr _ (by omega) (by omega)
  | true =>
    first | rw [if_pos rfl] | rw [if_pos trivial]
    rcases idx_spec ⟨q0, q1, q2⟩ r 0 with ⟨h1, _⟩ | ⟨j, hj, h1, _⟩
    · have hl := h.neg ⟨q0, q1, q2⟩ (by omega)
      have ha : at_ = -1 := by omega
      subst ha
      rw [if_neg (by omega)]
      by_cases hf : 100 ≤ l.length
      · rw [if_pos hf]
        simp only [Option.bind_some]
        first | rw [if_pos rfl] | rw [if_pos trivial]
        rw [if_pos (by omega)]
        simp only [styluslaw21_KeymapPlays.j1]
        rw [if_pos (decide_eq_true (by rw [List.length_map]; omega))]
        first | rw [if_pos rfl] | rw [if_pos trivial]
        exact next l r h hr _ (by omega) (by omega)
      · rw [if_neg hf]
        simp only [Option.bind_some]
        first | rw [if_pos rfl] | rw [if_pos trivial]
        rw [if_pos (by omega)]
        simp only [styluslaw21_KeymapPlays.j1]
        rw [if_neg (by rw [decide_eq_true_eq, List.length_map]; omega)]
        first | rw [if_pos rfl] | rw [if_pos trivial]
        rw [if_neg (by omega), if_pos (by rw [List.length_map]; omega)]
        have := next _ _ (h.add ⟨q0, q1, q2⟩ n (by omega)) (by simp; omega) k2 (by omega) (by omega)
        rw [List.map_append] at this
        exact this
    · rw [Nat.zero_add] at h1
      have ha : at_ = (j : Int) := by omega
      subst ha
      obtain ⟨j', hj', h2, h3, h4⟩ := h.pos ⟨q0, q1, q2⟩ hj h1
      have hR := h.set hj hj' h3 n
      rw [h4] at hR
      have hc := cutMap r j
      have hM : (r.eraseIdx j ++ [(⟨⟨q0, q1, q2⟩, n⟩ : S43)]).map conv = (([] : List S39) ++ (r.map conv).take ((j : Int)).toNat) ++ (r.map conv).drop ((j + 1 : Nat) : Int).toNat ++ [⟨q0, q1, q2, n⟩] := by
        rw [hc, List.map_append]
        rfl
      have hL : (r.eraseIdx j ++ [(⟨⟨q0, q1, q2⟩, n⟩ : S43)]).length ≤ 100 := by
        rw [List.length_append, List.length_eraseIdx_of_lt hj]
        simp; omega
      have := next _ _ hR hL k2 (by omega) (by omega)
      rw [hM] at this
      rw [h2, if_pos (by omega), Int.toNat_natCast]
      simp only [Option.bind_some]
      first | rw [if_pos rfl] | rw [if_pos trivial]
      rw [if_neg (by omega)]
      simp only [styluslaw21_KeymapPlays.j1]
      rw [if_neg (by decide)]
      first | rw [if_pos rfl] | rw [if_pos trivial]
      rw [if_pos (by omega), Option.bind_some, if_pos (by omega), if_pos (by rw [List.length_map]; omega), Option.bind_some, if_pos (by simp; omega), Option.bind_some]
      rw [wrap_of _ (by omega), show ((j : Int) + 1) = ((j + 1 : Nat) : Int) by omega, if_pos (by omega), if_pos (by rw [List.length_map]; omega), Option.bind_some, if_pos (by simp; omega), Option.bind_some, if_pos (by simp; omega)]
      exact this

theorem drop_part (x0 : List S35) (i k : Nat) (a n q0 q1 q2 : Int) (hk : 200 < k) (next : Next x0 i k a n q0 q1 q2) (l r : List S43) (h : Rel l r) (hr : r.length ≤ 100) (at_ : Int) (hat : idxFrom (isKey ⟨q0, q1, q2⟩) 0 r = at_) :
    ((keymap_Map_Drop.f l q0 q1 q2).bind fun bt137 => (if at_ < 0 then (if bt137.1 = 4 then (if at_ ≥ 0 then (styluslaw21_KeymapPlays.j2 k x0 (r.map conv) (i : Int) at_ (bt137.1 != 0) bt137.2 a n q0 q1 q2) else (styluslaw21_KeymapPlays.j2 k x0 (r.map conv) (i : Int) at_ false bt137.2 a n q0 q1 q2)) else (styluslaw21_KeymapPlays.j2 k x0 (r.map conv) (i : Int) at_ true bt137.2 a n q0 q1 q2)) else (if at_ ≥ 0 then (styluslaw21_KeymapPlays.j2 k x0 (r.map conv) (i : Int) at_ (bt137.1 != 0) bt137.2 a n q0 q1 q2) else (styluslaw21_KeymapPlays.j2 k x0 (r.map conv) (i : Int) at_ false bt137.2 a n q0 q1 q2)))) = some true := by
  have hlen := h.len
  obtain ⟨k2, rfl⟩ : ∃ m, k = m + 1 := ⟨k - 1, by omega⟩
  rw [keymap_Map_Drop.f]
  rcases idx_spec ⟨q0, q1, q2⟩ r 0 with ⟨h1, _⟩ | ⟨j, hj, h1, _⟩
  · have hl := h.neg ⟨q0, q1, q2⟩ (by omega)
    have ha : at_ = -1 := by omega
    subst ha
    rw [if_neg (by omega)]
    simp only [Option.bind_some]
    rw [if_pos (by omega)]
    first | rw [if_pos rfl] | rw [if_pos trivial]
    rw [if_neg (by omega)]
    simp only [styluslaw21_KeymapPlays.j2]
    rw [if_neg (by decide), if_neg (by omega)]
    exact next l r h hr _ (by omega) (by omega)
  · rw [Nat.zero_add] at h1
    have ha : at_ = (j : Int) := by omega
    subst ha
    obtain ⟨j', hj', h2, h3, h4⟩ := h.pos ⟨q0, q1, q2⟩ hj h1
    have hR := h.erase hj hj' h3
    have hc := cutMap r j
    have hL : (r.eraseIdx j).length ≤ 100 := by
      rw [List.length_eraseIdx_of_lt hj]; omega
    have := next _ _ hR hL k2 (by omega) (by omega)
    rw [← hc] at this
    rw [h2, if_pos (by omega), Int.toNat_natCast]
    simp only [Option.bind_some]
    rw [if_neg (by omega), if_pos (by omega)]
    simp only [styluslaw21_KeymapPlays.j2]
    rw [if_neg (by decide), if_pos (by omega), Option.bind_some, if_pos (by omega), if_pos (by rw [List.length_map]; omega), Option.bind_some, if_pos (by simp; omega), Option.bind_some]
    rw [wrap_of _ (by omega), show ((j : Int) + 1) = ((j + 1 : Nat) : Int) by omega, if_pos (by omega), if_pos (by rw [List.length_map]; omega), Option.bind_some, if_pos (by simp; omega)]
    exact this

theorem l0_true (x0 : List S35) (hx : x0.length ≤ 200) (hq : ∀ x ∈ x0, -9223372036854775808 ≤ x.f1 ∧ x.f1 ≤ 9223372036854775807) : ∀ (d k i : Nat) (l r : List S43), Rel l r → r.length ≤ 100 → i ≤ x0.length → x0.length - i = d → 4 * d + 300 < k → styluslaw21_KeymapPlays.l0 k x0 (r.map conv) (i : Int) l = some true := by
  intro d
  induction d with
  | zero =>
    intro k i l r h hr h0 hd hk
    obtain rfl : i = x0.length := by omega
    exact l0_end x0 l r h hr k (by omega)
  | succ d ih =>
    intro k i l r h hr h0 hd hk
    obtain ⟨k, rfl⟩ : ∃ m, k = m + 1 := ⟨k - 1, by omega⟩
    have hi : i < x0.length := by omega
    have hrd : rd_T35 x0 (i : Int) = x0[i] := by simp [rd_T35, hi]
    have hxq := hq _ (List.getElem_mem hi)
    simp only [styluslaw21_KeymapPlays.l0]
    rw [if_pos (by omega), if_pos (by omega), hrd]
    generalize x0[i] = x at hxq
    obtain ⟨a, n, q0, q1, q2⟩ := x
    simp only at hxq ⊢
    have hat := at_eq r (by omega) ⟨q0, q1, q2⟩ k (by omega)
    simp only at hat
    rw [hat]
    simp only [Option.bind_some]
    have next : Next x0 i k a n q0 q1 q2 := fun l' r' h' hr' k' h1 h2 =>
      j3_true x0 l' r' h' hr' i k' (by omega) (by omega) _ _ _ _ _ (ih (k' - 1) (i + 1) l' r' h' hr' (by omega) (by omega) (by omega))
    by_cases ha0 : a = 0
    · rw [if_pos ha0]
      exact bind_part x0 i k a n q0 q1 q2 (by omega) hxq next l r h hr _ rfl
    · rw [if_neg ha0]
      by_cases ha1 : a = 1
      · rw [if_pos ha1]
        exact drop_part x0 i k a n q0 q1 q2 (by omega) next l r h hr _ rfl
      · rw [if_neg ha1]
        exact next l r h hr _ (by omega) (by omega)

theorem KeymapPlays : OpenKeymapPlays.Pure := by
  intro l hl
  by_cases h : l.length ≤ 200
  · refine ⟨2000, ?_⟩
    unfold styluslaw21_KeymapPlays.f
    rw [keymap_New.f]
    simp only [Option.bind_some]
    rw [if_neg (by omega), show stylusref21_First.f = some stylusref21_First.l from rfl]
    simp only [Option.bind_some]
    rw [first_eq]
    exact l0_true l h (fun x hx => i64_of _ (hl.2 x hx).2.1) l.length 2000 0 binds0 binds0 nd0 (by decide) (by omega) (by omega) (by omega)
  · refine ⟨1, ?_⟩
    unfold styluslaw21_KeymapPlays.f
    rw [keymap_New.f]
    simp only [Option.bind_some]
    rw [if_pos (by omega)]
    rfl
end Go.Proofs.Ythbdiambigfgdac.Pure
