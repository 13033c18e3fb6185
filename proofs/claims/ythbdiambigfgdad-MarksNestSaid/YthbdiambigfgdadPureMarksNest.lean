/- MarksNest, the plain law: whatever was added and edited, the numbers rise and the ranges may be; a parent stands above its child, so a way by parents ends. -/
import Derived.Test.YthbdiambigfgdadOpenMarksNest
import Derived.Test.YthbdiambigfgdadMarksPlain
namespace Go.Proofs.Ythbdiambigfgdad.Pure
open Go.Proofs.Ythbdiambigfgdad.OpenMarksNest
open Go.RowKit Go.Proofs.Ythbdiambigfgdad.PMarksRead Go.Proofs.Ythbdiambigfgdad.PMarksNest Go.Proofs.YthbdiambigfgdadW.PrintWords Go.Proofs.YthbdiambigfgdadW.PrintLast Go.Proofs.Ythbdiambigfgdad.Op

/-- How long a range is. -/
def size (x : S62) : Int := x.f0.f0.f1 - x.f0.f0.f0
/-- Does y stand above x? -/
def above (x y : S62) : Bool := decide (size x < size y ∨ (size x = size y ∧ y.f1 < x.f1))
theorem above_trans {x y z : S62} (h : above x y = true) (h' : above y z = true) : above x z = true := by
  simp only [above, decide_eq_true_eq] at *
  omega
theorem above_irrefl (x : S62) : above x x = false := by simp [above]
theorem inn_above {x y : S62} (h : inn x y = true) : above x y = true ∧ y.f0.f0.f0 ≤ x.f0.f0.f0 ∧ x.f0.f0.f1 ≤ y.f0.f0.f1 := by
  unfold inn at h
  split at h
  · rename_i hc
    simp only [Bool.and_eq_true, beq_iff_eq] at hc
    simp only [decide_eq_true_eq] at h
    refine ⟨?_, by omega, by omega⟩
    unfold above size
    rw [decide_eq_true_eq]
    omega
  · rename_i hc
    simp only [Bool.and_eq_true, beq_iff_eq] at hc
    simp only [Bool.and_eq_true, decide_eq_true_eq] at h
    refine ⟨?_, by omega, by omega⟩
    unfold above size
    rw [decide_eq_true_eq]
    omega
def rank (L : List S62) (x : S62) : Nat := (L.filter (above x)).length
theorem filter_le {L : List S62} {p q : S62 → Bool} (h : ∀ z, p z = true → q z = true) : (L.filter p).length ≤ (L.filter q).length := by
  induction L with
  | nil => simp
  | cons a L ih =>
    simp only [List.filter_cons]
    by_cases hp : p a = true
    · rw [if_pos hp, if_pos (h a hp)]
      simp only [List.length_cons]
      omega
    · rw [if_neg hp]
      split
      · simp only [List.length_cons]
        omega
      · exact ih
theorem filter_lt {L : List S62} {p q : S62 → Bool} (h : ∀ z, p z = true → q z = true) {y : S62} (hy : y ∈ L) (h1 : q y = true) (h2 : p y = false) : (L.filter p).length < (L.filter q).length := by
  induction L with
  | nil => simp at hy
  | cons a L ih =>
    simp only [List.filter_cons]
    rcases List.mem_cons.1 hy with e | hy
    · subst e
      rw [if_neg (by simp [h2]), if_pos h1]
      have := filter_le (L := L) h
      simp only [List.length_cons]
      omega
    · have := ih hy
      by_cases hp : p a = true
      · rw [if_pos hp, if_pos (h a hp)]
        simp only [List.length_cons]
        omega
      · rw [if_neg hp]
        split
        · simp only [List.length_cons]
          omega
        · exact this
theorem rank_lt {L : List S62} {x y : S62} (h : above x y = true) (hy : y ∈ L) : rank L y < rank L x :=
  filter_lt (fun _ hz => above_trans h hz) hy h (above_irrefl y)
theorem rank_le (L : List S62) (x : S62) : rank L x ≤ L.length := List.length_filter_le _ _

def Inv (L : List S62) (last : Int) : Prop := Rise L ∧ (∀ i ∈ L.map S62.f1, 1 ≤ i ∧ i ≤ last) ∧ (∀ x ∈ L, Ok x) ∧ 0 ≤ last ∧ last ≤ 60 ∧ L.length ≤ 60

theorem chain (L : List S62) (last : Int) (hI : Inv L last) (i : Nat) (K0 : Nat) (hi : i ≤ 1000) (next : ∀ k, K0 < k → styluslaw04_MarksNest.l2 k (L.map S62.f1) ((i + 1 : Nat) : Int) (L, last) = some true) :
    ∀ (d k n : Nat) (id : Int), (id = 0 ∨ ∃ x ∈ L, x.f1 = id ∧ rank L x < d) → n + d ≤ L.length + 1 → K0 + 2 * d + 2200 < k → styluslaw04_MarksNest.l3 k (L.map S62.f1) (i : Int) id (n : Int) (L, last) = some true := by
  have zero : ∀ (k n : Nat), K0 + 2200 < k → styluslaw04_MarksNest.l3 k (L.map S62.f1) (i : Int) 0 (n : Int) (L, last) = some true := by
    intro k n hk
    obtain ⟨k, rfl⟩ : ∃ m, k = m + 1 := ⟨k - 1, by omega⟩
    simp only [styluslaw04_MarksNest.l3]
    first | rw [if_pos rfl] | rw [if_pos trivial] | skip
    rw [wrap_of _ (by omega), show (i : Int) + 1 = ((i + 1 : Nat) : Int) by omega]
    exact next k (by omega)
  intro d
  induction d with
  | zero =>
    intro k n id h hn hk
    rcases h with rfl | ⟨x, _, _, h⟩
    · exact zero k n (by omega)
    · omega
  | succ d ih =>
    intro k n id h hn hk
    rcases h with rfl | ⟨x, hx, rfl, hr⟩
    · exact zero k n (by omega)
    · obtain ⟨hs, hids, hok, hl0, hl1, hlen⟩ := hI
      obtain ⟨k, rfl⟩ : ∃ m, k = m + 1 := ⟨k - 1, by omega⟩
      have hid := hids x.f1 (List.mem_map_of_mem hx)
      have hox := hok x hx
      obtain ⟨p, hp, hpp⟩ := parent_mem hs (by omega) hx last k (by omega)
      simp only [styluslaw04_MarksNest.l3]
      rw [if_neg (by omega), PMarksNest.marks_Marks_Get.f, get_mem hs (by omega) hx last k (by omega), Option.bind_some, Option.bind_some]
      simp only
      rw [PMarksNest.marks_Marks_Parent.f, hp, Option.bind_some, Option.bind_some]
      simp only
      have hlm : (L.map S62.f1).length = L.length := List.length_map ..
      have hf : decide (x.f0.f0.f0 > x.f0.f0.f1) = false := decide_eq_false (by have := hox.2.1; omega)
      first | rw [if_pos rfl] | rw [if_pos trivial] | skip
      first | rw [if_pos rfl] | rw [if_pos trivial] | skip
      rw [if_neg (by rw [hlm]; omega), hf]
      obtain ⟨k, rfl⟩ : ∃ m, k = m + 1 := ⟨k - 1, by omega⟩
      simp only [styluslaw04_MarksNest.j5]
      rw [if_neg (by decide), wrap_of _ (by omega), show (n : Int) + 1 = ((n + 1 : Nat) : Int) by omega]
      rcases hpp with rfl | ⟨y, hy, rfl, hne, hin⟩
      · first | rw [if_pos rfl] | rw [if_pos trivial] | skip
        exact zero k (n + 1) (by omega)
      · have hyd := hids y.f1 (List.mem_map_of_mem hy)
        obtain ⟨ha, h1, h2⟩ := inn_above hin
        rw [if_neg (by omega), PMarksNest.marks_Marks_Get.f, get_mem hs (by omega) hy last k (by omega), Option.bind_some, Option.bind_some]
        simp only
        first | rw [if_pos rfl] | rw [if_pos trivial] | skip
        rw [if_neg (by omega), if_neg (by omega)]
        exact ih k (n + 1) y.f1 (.inr ⟨y, hy, rfl, by have := rank_lt ha hy; omega⟩) (by omega) (by omega)

theorem l2_true (L : List S62) (last : Int) (hI : Inv L last) : ∀ (d k i : Nat), i ≤ L.length → L.length - i = d → 3000 * d + 3000 < k → styluslaw04_MarksNest.l2 k (L.map S62.f1) (i : Int) (L, last) = some true := by
  have hlm : (L.map S62.f1).length = L.length := List.length_map ..
  have hlen : L.length ≤ 60 := hI.2.2.2.2.2
  intro d
  induction d with
  | zero =>
    intro k i h0 hd hk
    obtain ⟨k, rfl⟩ : ∃ m, k = m + 1 := ⟨k - 1, by omega⟩
    simp only [styluslaw04_MarksNest.l2]
    rw [if_neg (by rw [hlm]; omega)]
    rfl
  | succ d ih =>
    intro k i h0 hd hk
    obtain ⟨k, rfl⟩ : ∃ m, k = m + 1 := ⟨k - 1, by omega⟩
    have hi : i < L.length := by omega
    simp only [styluslaw04_MarksNest.l2]
    rw [if_pos (by rw [hlm]; omega), if_pos (by omega)]
    have hrd : rd (L.map S62.f1) (i : Int) = L[i].f1 := by simp [rd, hi]
    rw [hrd]
    exact chain L last hI i (3000 * d + 3000) (by omega) (fun k' hk' => ih k' (i + 1) (by omega) (by omega) hk') (L.length + 1) k 0 L[i].f1 (.inr ⟨L[i], List.getElem_mem hi, rfl, by have := rank_le L L[i]; omega⟩) (by omega) (by omega)

theorem l1_true (E : List S36) (hE : E.length ≤ 30) : ∀ (d k i : Nat) (L : List S62) (last : Int), Inv L last → i ≤ E.length → E.length - i = d → d + 200000 < k → styluslaw04_MarksNest.l1 k E (i : Int) (L, last) = some true := by
  intro d
  induction d with
  | zero =>
    intro k i L last hI h0 hd hk
    obtain ⟨k, rfl⟩ : ∃ m, k = m + 1 := ⟨k - 1, by omega⟩
    have hlen : L.length ≤ 60 := hI.2.2.2.2.2
    simp only [styluslaw04_MarksNest.l1]
    rw [if_neg (by omega), PMarksNest.marks_Marks_All.f, all_eq L (by omega) last k (by omega), Option.bind_some, Option.bind_some]
    exact l2_true L last hI L.length k 0 (by omega) (by omega) (by omega)
  | succ d ih =>
    intro k i L last hI h0 hd hk
    obtain ⟨k, rfl⟩ : ∃ m, k = m + 1 := ⟨k - 1, by omega⟩
    have hlen : L.length ≤ 60 := hI.2.2.2.2.2
    simp only [styluslaw04_MarksNest.l1]
    rw [if_pos (by omega), if_pos (by omega)]
    split
    · rfl
    · obtain ⟨r, L', he, hm, hok⟩ := edit_eq L (by omega) last (rd_T36 E (i : Int)).f0 (rd_T36 E (i : Int)).f1 (rd_T36 E (i : Int)).f2 hI.2.2.1 k (by omega)
      rw [PMarksNest.marks_Marks_Edit.f, he, Option.bind_some, Option.bind_some, wrap_of _ (by omega), show (i : Int) + 1 = ((i + 1 : Nat) : Int) by omega]
      have hl' : L'.length = L.length := by simpa using congrArg List.length hm
      exact ih k (i + 1) L' last ⟨by unfold Rise; rw [hm]; exact hI.1, by rw [hm]; exact hI.2.1, hok, hI.2.2.2.1, hI.2.2.2.2.1, by omega⟩ (by omega) (by omega) (by omega)

theorem l0_true (R : List S33) (hR : R.length ≤ 60) (E : List S36) (hE : E.length ≤ 30) : ∀ (d k i : Nat) (L : List S62) (last : Int), Inv L last → last ≤ i → L.length ≤ i → i ≤ R.length → R.length - i = d → d + 300000 < k → styluslaw04_MarksNest.l0 k R E (i : Int) (L, last) = some true := by
  intro d
  induction d with
  | zero =>
    intro k i L last hI h1 h2 h0 hd hk
    obtain ⟨k, rfl⟩ : ∃ m, k = m + 1 := ⟨k - 1, by omega⟩
    simp only [styluslaw04_MarksNest.l0]
    rw [if_neg (by omega)]
    exact l1_true E hE E.length k 0 L last hI (by omega) (by omega) (by omega)
  | succ d ih =>
    intro k i L last hI h1 h2 h0 hd hk
    obtain ⟨k, rfl⟩ : ∃ m, k = m + 1 := ⟨k - 1, by omega⟩
    simp only [styluslaw04_MarksNest.l0]
    rw [if_pos (by omega), if_pos (by omega), marks_Marks_Add.f, may_eq, Option.bind_some, wrap_of ((i : Int) + 1) (by omega), show (i : Int) + 1 = ((i + 1 : Nat) : Int) by omega]
    generalize rd_T33 R (i : Int) = x
    obtain ⟨hs, hids, hok, hl0, hl1, hlen⟩ := hI
    by_cases hm : 0 ≤ x.f0.f0 ∧ x.f0.f0 ≤ x.f0.f1 ∧ x.f0.f1 ≤ 2147483648
    · rw [if_pos (decide_eq_true hm), if_neg (by simp only; omega), Option.bind_some, wrap_of _ (by simp only; omega)]
      refine ih k (i + 1) _ _ ⟨?_, ?_, ?_, by simp only; omega, by simp only; omega, by simp; omega⟩ (by simp only; omega) (by simp; omega) (by omega) (by omega) (by omega)
      · unfold Rise
        rw [List.map_append, List.pairwise_append]
        refine ⟨hs, by simp, fun a ha b hb => ?_⟩
        simp only [List.map_cons, List.map_nil, List.mem_singleton] at hb
        have := hids a ha
        omega
      · intro a ha
        rw [List.map_append] at ha
        rcases List.mem_append.1 ha with ha | ha
        · have := hids a ha
          simp only
          omega
        · simp only [List.map_cons, List.map_nil, List.mem_singleton] at ha
          simp only
          omega
      · intro y hy
        rcases List.mem_append.1 hy with hy | hy
        · exact hok y hy
        · obtain rfl := List.mem_singleton.1 hy
          exact hm
    · rw [if_neg (by simpa using hm), Option.bind_some]
      exact ih k (i + 1) L last ⟨hs, hids, hok, hl0, hl1, hlen⟩ (by omega) (by omega) (by omega) (by omega) (by omega)

theorem MarksNest : OpenMarksNest.Pure := by
  intro R E _ _
  refine ⟨400000, ?_⟩
  unfold styluslaw04_MarksNest.f
  rw [marks_New.f, Option.bind_some]
  have j0 : ∀ c, (c = false → R.length ≤ 60 ∧ E.length ≤ 30) → styluslaw04_MarksNest.j0 400000 R E c ([], 0) = some true := by
    intro c hc
    obtain ⟨k, hk, hk2⟩ : ∃ m, 400000 = m + 1 ∧ 390000 < m := ⟨399999, rfl, by omega⟩
    rw [hk]
    simp only [styluslaw04_MarksNest.j0]
    cases c with
    | true => rw [if_pos rfl]; rfl
    | false =>
      rw [if_neg (by decide)]
      obtain ⟨h1, h2⟩ := hc rfl
      exact l0_true R h1 E h2 R.length k 0 [] 0 ⟨by simp [Rise], by simp, by simp, by omega, by omega, by simp⟩ (by omega) (by simp) (by omega) (by omega) (by omega)
  by_cases h1 : R.length ≤ 60
  · rw [if_neg (by omega)]
    exact j0 _ (fun h => ⟨h1, by have := of_decide_eq_false h; omega⟩)
  · rw [if_pos (by omega)]
    exact j0 true (fun h => by cases h)
end Go.Proofs.Ythbdiambigfgdad.Pure
