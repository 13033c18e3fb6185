/- Marks, plain: what find, Get, Parent, All and Edit answer over rows whose numbers rise; no program in sight. -/
import Derived.Test.YthbdiambigfgdaePMarksReadx6
import Derived.Test.YthbdiambigfgdaePMarksReadx5
import Derived.Test.YthbdiambigfgdaePMarksReadx4
import Derived.Test.YthbdiambigfgdaePMarksReadx3
import Derived.Test.YthbdiambigfgdaePMarksReadx2
namespace Go.Proofs.Ythbdiambigfgdae.Pure
open Go.RowKit Go.Proofs.Ythbdiambigfgdae.PMarksRead Go.Proofs.YthbdiambigfgdaeW.PrintWords Go.Proofs.YthbdiambigfgdaeW.PrintLast

theorem wrap_of (x : Int) (h : -9223372036854775808 ≤ x ∧ x ≤ 9223372036854775807) : wrap64 x = x := by unfold wrap64; omega
theorem half_of (i j : Nat) (h : i + j ≤ 100000) : wrap64 ((IntKind.u64.wrap (wrap64 ((i : Int) + (j : Int)))) / 2) = (((i + j) / 2 : Nat) : Int) := by
  rw [wrap_of ((i : Int) + (j : Int)) (by omega)]
  have : IntKind.u64.wrap ((i : Int) + (j : Int)) = (i : Int) + (j : Int) := by
    simp [IntKind.wrap, IntKind.signed, IntKind.bits]
    omega
  rw [this, wrap_of _ (by omega)]
  omega
theorem rd62 (L : List S94) (q : Nat) (h : q < L.length) : rd_T94 L (q : Int) = L[q] := by simp [rd_T94, h]
theorem compare_eq (a b : Int) : cmp_Compare_int.f a b = some (if a < b then -1 else if a > b then 1 else 0) := by
  unfold cmp_Compare_int.f cmp_isNaN_int.f
  simp only [Option.bind_some, bne_self_eq_false, Bool.false_eq_true, if_false]
  split
  · rfl
  · split <;> rfl

def Ok (x : S94) : Prop := 0 ≤ x.f0.f0.f0 ∧ x.f0.f0.f0 ≤ x.f0.f0.f1 ∧ x.f0.f0.f1 ≤ 2147483648
def Rise (L : List S94) : Prop := (L.map S94.f1).Pairwise (· < ·)
theorem Rise.lt {L : List S94} (h : Rise L) {i j : Nat} (hi : i < L.length) (hj : j < L.length) (hij : i < j) : L[i].f1 < L[j].f1 := by
  have := List.pairwise_iff_getElem.1 h i j (by simpa using hi) (by simpa using hj) hij
  simpa using this
theorem Rise.uniq {L : List S94} (h : Rise L) {i j : Nat} (hi : i < L.length) (hj : j < L.length) (e : L[i].f1 = L[j].f1) : i = j := by
  rcases Nat.lt_trichotomy i j with h1 | h1 | h1
  · have := h.lt hi hj h1; omega
  · exact h1
  · have := h.lt hj hi h1; omega

/-- What the search tells. -/
def Tells (L : List S94) (t : Int) (r : Int) (b : Bool) : Prop := (b = true ∧ ∃ q, ∃ h : q < L.length, r = (q : Int) ∧ L[q].f1 = t) ∨ (b = false ∧ ∀ x ∈ L, x.f1 ≠ t)

theorem bs_end (L : List S94) (hs : Rise L) (t : Int) (k i : Nat) (hi : i ≤ L.length) (h1 : ∀ q (h : q < L.length), q < i → L[q].f1 < t) (h2 : ∀ q (h : q < L.length), i ≤ q → t ≤ L[q].f1) :
    ∃ r b, marks_item_int.l0 (k + 1) L t (L.length : Int) (i : Int) (i : Int) = some (r, b) ∧ Tells L t r b := by
  simp only [marks_item_int.l0]
  rw [if_neg (by omega)]
  by_cases hlt : i < L.length
  · rw [if_pos (by omega), if_pos (by omega), if_pos (by omega), rd62 L i hlt, marks_Marks_find_1.f, compare_eq]
    simp only [Option.bind_some]
    have h3 := h2 i hlt (Nat.le_refl _)
    refine ⟨_, _, rfl, ?_⟩
    by_cases e : L[i].f1 = t
    · refine .inl ⟨?_, i, hlt, rfl, e⟩
      rw [if_neg (by omega), if_neg (by omega)]
      rfl
    · refine .inr ⟨?_, fun x hx ex => ?_⟩
      · rw [if_neg (by omega), if_pos (by omega)]
        rfl
      · obtain ⟨q, hq, rfl⟩ := List.mem_iff_getElem.1 hx
        rcases Nat.lt_trichotomy q i with hc | hc | hc
        · have := h1 q hq hc; omega
        · subst hc; exact e ex
        · have := hs.lt hlt hq hc; omega
  · rw [if_neg (by omega)]
    refine ⟨_, _, rfl, .inr ⟨rfl, fun x hx ex => ?_⟩⟩
    obtain ⟨q, hq, rfl⟩ := List.mem_iff_getElem.1 hx
    have := h1 q hq (by omega)
    omega

theorem bs (L : List S94) (hs : Rise L) (t : Int) (hl : L.length ≤ 1000) : ∀ (d k i j : Nat), i ≤ j → j ≤ L.length → j - i ≤ d → d < k → (∀ q (h : q < L.length), q < i → L[q].f1 < t) → (∀ q (h : q < L.length), j ≤ q → t ≤ L[q].f1) →
    ∃ r b, marks_item_int.l0 k L t (L.length : Int) (i : Int) (j : Int) = some (r, b) ∧ Tells L t r b := by
  intro d
  induction d with
  | zero =>
    intro k i j h0 hj hd hk h1 h2
    obtain ⟨k, rfl⟩ : ∃ m, k = m + 1 := ⟨k - 1, by omega⟩
    obtain rfl : i = j := by omega
    exact bs_end L hs t k i hj h1 h2
  | succ d ih =>
    intro k i j h0 hj hd hk h1 h2
    obtain ⟨k, rfl⟩ : ∃ m, k = m + 1 := ⟨k - 1, by omega⟩
    by_cases hij : i < j
    · have hh := half_of i j (by omega)
      have hm : (i + j) / 2 < L.length := by omega
      simp only [marks_item_int.l0]
      rw [if_pos (by omega), hh, if_pos (by omega), if_pos (by omega), rd62 L _ hm, marks_Marks_find_1.f, compare_eq]
      simp only [Option.bind_some]
      by_cases hc : L[(i + j) / 2].f1 < t
      · rw [if_pos hc, if_pos (by omega), wrap_of _ (by omega), show (((i + j) / 2 : Nat) : Int) + 1 = (((i + j) / 2 + 1 : Nat) : Int) by omega]
        refine ih k _ j (by omega) hj (by omega) (by omega) (fun q hq hqi => ?_) h2
        by_cases e : q = (i + j) / 2
        · subst e; exact hc
        · have := hs.lt hq hm (by omega); omega
      · have hn : ¬ (if L[(i + j) / 2].f1 < t then (-1 : Int) else if L[(i + j) / 2].f1 > t then 1 else 0) < 0 := by
          rw [if_neg hc]; split <;> omega
        rw [if_neg hn]
        refine ih k i _ (by omega) (by omega) (by omega) (by omega) h1 (fun q hq hqi => ?_)
        by_cases e : q = (i + j) / 2
        · subst e; omega
        · have := hs.lt hm hq (by omega); omega
    · obtain rfl : i = j := by omega
      exact bs_end L hs t k i hj h1 h2

theorem find_mem {L : List S94} (hs : Rise L) (hl : L.length ≤ 1000) {q : Nat} (hq : q < L.length) (last : Int) (k : Nat) (hk : L.length < k) : marks_Marks_find.f k L last L[q].f1 = some ((q : Int), true) := by
  unfold marks_Marks_find.f marks_item_int.f
  obtain ⟨r, b, h, ht⟩ := bs L hs L[q].f1 hl L.length k 0 L.length (by omega) (Nat.le_refl _) (by omega) hk (fun _ _ h => by omega) (fun _ _ h => by omega)
  have h' : marks_item_int.l0 k L L[q].f1 (L.length : Int) 0 (L.length : Int) = some (r, b) := h
  rw [h']
  rcases ht with ⟨rfl, p, hp, rfl, e⟩ | ⟨_, e⟩
  · rw [hs.uniq hp hq e]
  · exact absurd rfl (e _ (List.getElem_mem hq))

theorem get_mem {L : List S94} (hs : Rise L) (hl : L.length ≤ 1000) {x : S94} (hx : x ∈ L) (last : Int) (k : Nat) (hk : L.length < k) : marks_Marks_Get.f k L last x.f1 = some (x.f0.f0.f0, x.f0.f0.f1, x.f0.f1, x.f0.f2, 0) := by
  obtain ⟨q, hq, rfl⟩ := List.mem_iff_getElem.1 hx
  unfold marks_Marks_Get.f
  rw [find_mem hs hl hq last k hk]
  simp only [Option.bind_some, if_true]
  rw [if_pos (by omega), if_pos (by omega), rd62 L q hq]

theorem or_l0 (xs : List Int) (hx : xs.length = 3) : ∀ (d k i : Nat), i ≤ 3 → 3 - i = d → d < k → ∃ r, cmp_Or_int.l0 k 0 xs 3 (i : Int) = some r := by
  intro d
  induction d with
  | zero =>
    intro k i h0 hd hk
    obtain ⟨k, rfl⟩ : ∃ m, k = m + 1 := ⟨k - 1, by omega⟩
    simp only [cmp_Or_int.l0]
    rw [if_neg (by omega)]
    exact ⟨_, rfl⟩
  | succ d ih =>
    intro k i h0 hd hk
    obtain ⟨k, rfl⟩ : ∃ m, k = m + 1 := ⟨k - 1, by omega⟩
    simp only [cmp_Or_int.l0]
    rw [if_pos (by omega), if_pos (by omega), if_pos (by omega)]
    split
    · rw [wrap_of _ (by omega), show (i : Int) + 1 = ((i + 1 : Nat) : Int) by omega]
      exact ih k (i + 1) (by omega) (by omega) (by omega)
    · exact ⟨_, rfl⟩
theorem cmp_some (k : Nat) (hk : 3 < k) (a b : Int) (c d : Bool) (e a' b' : Int) (c' d' : Bool) (e' : Int) : ∃ r, marks_Marks_Parent_1.f k a b c d e a' b' c' d' e' = some r := by
  unfold marks_Marks_Parent_1.f
  rw [compare_eq, compare_eq, compare_eq]
  simp only [Option.bind_some]
  unfold cmp_Or_int.f
  obtain ⟨r, h⟩ := or_l0 [_, _, _] rfl 3 k 0 (by omega) (by omega) hk
  exact ⟨r, by
    have h' := h
    simp only [List.length_cons, List.length_nil] at *
    exact (congrArg (fun z => z.bind fun t => some t) h').trans rfl⟩

theorem min_l0 (xs : List S94) (hl : xs.length ≤ 1000) : ∀ (d k i : Nat) (m : S94), m ∈ xs → i ≤ xs.length → xs.length - i = d → d + 5 < k → ∃ m' ∈ xs, marks_item_60.l0 k xs (i : Int) m.f0.f0.f0 m.f0.f0.f1 m.f0.f1 m.f0.f2 m.f1 = some (m'.f0.f0.f0, m'.f0.f0.f1, m'.f0.f1, m'.f0.f2, m'.f1) := by
  intro d
  induction d with
  | zero =>
    intro k i m hm h0 hd hk
    obtain ⟨k, rfl⟩ : ∃ m, k = m + 1 := ⟨k - 1, by omega⟩
    refine ⟨m, hm, ?_⟩
    simp only [marks_item_60.l0]
    rw [if_neg (by omega)]
  | succ d ih =>
    intro k i m hm h0 hd hk
    obtain ⟨k, rfl⟩ : ∃ m, k = m + 1 := ⟨k - 1, by omega⟩
    have hi : i < xs.length := by omega
    simp only [marks_item_60.l0]
    rw [if_pos (by omega), if_pos (by omega), rd62 xs i hi]
    obtain ⟨r, hr⟩ := cmp_some k (by omega) xs[i].f0.f0.f0 xs[i].f0.f0.f1 xs[i].f0.f1 xs[i].f0.f2 xs[i].f1 m.f0.f0.f0 m.f0.f0.f1 m.f0.f1 m.f0.f2 m.f1
    rw [hr, wrap_of _ (by omega), show (i : Int) + 1 = ((i + 1 : Nat) : Int) by omega]
    simp only [Option.bind_some]
    split
    · exact ih k (i + 1) xs[i] (List.getElem_mem hi) (by omega) (by omega) (by omega)
    · exact ih k (i + 1) m hm (by omega) (by omega) (by omega)
theorem min_mem (xs : List S94) (hl : xs.length ≤ 1000) (h0 : 0 < xs.length) (k : Nat) (hk : xs.length + 5 < k) : ∃ m ∈ xs, marks_item_60.f k xs = some (m.f0.f0.f0, m.f0.f0.f1, m.f0.f1, m.f0.f2, m.f1) := by
  unfold marks_item_60.f
  rw [if_neg (by omega), if_pos (by omega), show (0 : Int) = ((0 : Nat) : Int) from rfl, rd62 xs 0 h0]
  exact min_l0 xs hl (xs.length - 1) k 1 xs[0] (List.getElem_mem h0) (by omega) (by omega) (by omega)

/-- Does x lie in y? -/
def inn (x y : S94) : Bool := if (x.f0.f0.f0 == y.f0.f0.f0 && (x.f0.f0.f1 == y.f0.f0.f1)) = true then decide (x.f1 > y.f1) else decide (y.f0.f0.f0 ≤ x.f0.f0.f0) && decide (x.f0.f0.f1 ≤ y.f0.f0.f1)
theorem in_eq (x y : S94) : marks_item_in.f x.f0.f0.f0 x.f0.f0.f1 x.f0.f1 x.f0.f2 x.f1 y.f0.f0.f0 y.f0.f0.f1 y.f0.f1 y.f0.f2 y.f1 = some (inn x y) := by
  unfold marks_item_in.f inn
  split
  · rfl
  · split
    · rename_i h; simp [h]
    · rename_i h; simp [h]

theorem parent_l0 (L : List S94) (hl : L.length ≤ 1000) (q : Nat) (hq : q < L.length) (last : Int) : ∀ (d k i : Nat) (acc : List S94), acc.length ≤ i → (∀ y ∈ acc, y ∈ L ∧ y.f1 ≠ L[q].f1 ∧ inn L[q] y = true) → i ≤ L.length → L.length - i = d → d + 1010 < k →
    ∃ p, marks_Marks_Parent.l0 k L[q].f1 (q : Int) acc L (L.length : Int) (i : Int) L last = some (p, 0) ∧ (p = 0 ∨ ∃ y ∈ L, y.f1 = p ∧ y.f1 ≠ L[q].f1 ∧ inn L[q] y = true) := by
  intro d
  induction d with
  | zero =>
    intro k i acc ha hacc h0 hd hk
    obtain ⟨k, rfl⟩ : ∃ m, k = m + 1 := ⟨k - 1, by omega⟩
    simp only [marks_Marks_Parent.l0]
    rw [if_neg (by omega)]
    by_cases he : acc.length = 0
    · rw [if_pos (by omega)]
      exact ⟨0, rfl, .inl rfl⟩
    · rw [if_neg (by omega)]
      obtain ⟨m, hm, hf⟩ := min_mem acc (by omega) (by omega) k (by omega)
      rw [hf]
      obtain ⟨h1, h2, h3⟩ := hacc m hm
      exact ⟨m.f1, rfl, .inr ⟨m, h1, rfl, h2, h3⟩⟩
  | succ d ih =>
    intro k i acc ha hacc h0 hd hk
    obtain ⟨k, rfl⟩ : ∃ m, k = m + 1 := ⟨k - 1, by omega⟩
    have hi : i < L.length := by omega
    simp only [marks_Marks_Parent.l0]
    rw [if_pos (by omega), if_pos (by omega), if_pos (by omega), rd62 L i hi, wrap_of _ (by omega), show (i : Int) + 1 = ((i + 1 : Nat) : Int) by omega]
    by_cases e : L[i].f1 = L[q].f1
    · rw [if_pos e]
      exact ih k (i + 1) acc (by omega) hacc (by omega) (by omega) (by omega)
    · rw [if_neg e, if_pos (by omega), if_pos (by omega), rd62 L q hq, in_eq, Option.bind_some]
      by_cases hb : inn L[q] L[i] = true
      · rw [if_pos hb, if_pos (by omega)]
        refine ih k (i + 1) _ (by simp; omega) (fun y hy => ?_) (by omega) (by omega) (by omega)
        rcases List.mem_append.1 hy with hy | hy
        · exact hacc y hy
        · obtain rfl := List.mem_singleton.1 hy
          exact ⟨List.getElem_mem hi, e, hb⟩
      · rw [if_neg hb]
        exact ih k (i + 1) acc (by omega) hacc (by omega) (by omega) (by omega)

theorem parent_mem {L : List S94} (hs : Rise L) (hl : L.length ≤ 1000) {x : S94} (hx : x ∈ L) (last : Int) (k : Nat) (hk : 2100 < k) :
    ∃ p, marks_Marks_Parent.f k L last x.f1 = some (p, 0) ∧ (p = 0 ∨ ∃ y ∈ L, y.f1 = p ∧ y.f1 ≠ x.f1 ∧ inn x y = true) := by
  obtain ⟨q, hq, rfl⟩ := List.mem_iff_getElem.1 hx
  unfold marks_Marks_Parent.f
  rw [find_mem hs hl hq last k (by omega)]
  simp only [Option.bind_some, if_true]
  exact parent_l0 L hl q hq last L.length k 0 [] (by simp) (fun y hy => by simp at hy) (by omega) (by omega) (by omega)

theorem ids_l0 (L : List S94) (hl : L.length ≤ 1000) : ∀ (d k i : Nat) (acc : List Int), acc.length ≤ i → i ≤ L.length → L.length - i = d → d < k → marks_Marks_ids.l0 k acc L (L.length : Int) (i : Int) = some (acc ++ (L.drop i).map S94.f1) := by
  intro d
  induction d with
  | zero =>
    intro k i acc ha h0 hd hk
    obtain ⟨k, rfl⟩ : ∃ m, k = m + 1 := ⟨k - 1, by omega⟩
    simp only [marks_Marks_ids.l0]
    rw [if_neg (by omega), List.drop_eq_nil_of_le (by omega)]
    simp
  | succ d ih =>
    intro k i acc ha h0 hd hk
    obtain ⟨k, rfl⟩ : ∃ m, k = m + 1 := ⟨k - 1, by omega⟩
    have hi : i < L.length := by omega
    simp only [marks_Marks_ids.l0]
    rw [if_pos (by omega), if_pos (by omega), if_pos (by omega), marks_Marks_All_1.f, Option.bind_some, if_pos rfl, if_pos (by omega), rd62 L i hi, wrap_of _ (by omega), show (i : Int) + 1 = ((i + 1 : Nat) : Int) by omega, ih k (i + 1) _ (by simp; omega) (by omega) (by omega) (by omega), List.drop_eq_getElem_cons hi]
    simp only [List.map_cons, List.append_assoc, List.cons_append, List.nil_append]
theorem all_eq (L : List S94) (hl : L.length ≤ 1000) (last : Int) (k : Nat) (hk : L.length < k) : marks_Marks_All.f k L last = some (L.map S94.f1) := by
  unfold marks_Marks_All.f marks_Marks_ids.f
  have := ids_l0 L hl L.length k 0 [] (by simp) (by omega) (by omega) hk
  simp only [List.nil_append, List.drop_zero] at this
  have h' : marks_Marks_ids.l0 k [] L (L.length : Int) 0 = some (L.map S94.f1) := this
  rw [h']
  rfl

theorem place_some (p a b : Int) (l : List Int) (c : Bool) : ∃ r, marks_place.f p a b l c = some r := by
  unfold marks_place.f
  (repeat' split) <;> exact ⟨_, rfl⟩
theorem moved_some (a b : Int) (c d : Bool) (e f : Int) (l : List Int) : ∃ p, marks_moved.f a b c d e f l = some p := by
  unfold marks_moved.f
  obtain ⟨r, h⟩ := place_some a e f l (!c)
  obtain ⟨s, h'⟩ := place_some b e f l d
  rw [h, h']
  exact ⟨_, rfl⟩
theorem may_eq (a b : Int) (c d : Bool) : marks_may.f a b c d = some (decide (0 ≤ a ∧ a ≤ b ∧ b ≤ 2147483648)) := by
  unfold marks_may.f
  (repeat' split) <;> (congr 1; first | (rw [decide_eq_decide]; omega) | (rw [eq_comm, decide_eq_false_iff_not]; omega))

theorem edit_l0 (L : List S94) (hl : L.length ≤ 1000) (last a b : Int) (ins : List Int) (hL : ∀ x ∈ L, Ok x) : ∀ (d k i : Nat) (X : List S94), X.map S94.f1 = L.map S94.f1 → (∀ q (h : q < X.length), q < i → Ok X[q]) → i ≤ L.length → L.length - i = d → d < k →
    ∃ r L', marks_Marks_Edit.l0 k X (L.length : Int) (i : Int) L last a b ins = some (r, L', last) ∧ L'.map S94.f1 = L.map S94.f1 ∧ ∀ x ∈ L', Ok x := by
  intro d
  induction d with
  | zero =>
    intro k i X hX hok h0 hd hk
    obtain ⟨k, rfl⟩ : ∃ m, k = m + 1 := ⟨k - 1, by omega⟩
    have hlen : X.length = L.length := by simpa using congrArg List.length hX
    simp only [marks_Marks_Edit.l0]
    rw [if_neg (by omega)]
    refine ⟨0, X, rfl, hX, fun x hx => ?_⟩
    obtain ⟨q, hq, rfl⟩ := List.mem_iff_getElem.1 hx
    exact hok q hq (by omega)
  | succ d ih =>
    intro k i X hX hok h0 hd hk
    obtain ⟨k, rfl⟩ : ∃ m, k = m + 1 := ⟨k - 1, by omega⟩
    have hlen : X.length = L.length := by simpa using congrArg List.length hX
    have hi : i < X.length := by omega
    simp only [marks_Marks_Edit.l0]
    rw [if_pos (by omega), if_pos (by omega), if_pos (by omega), rd62 X i hi]
    obtain ⟨⟨p1, p2, p3, p4⟩, hp⟩ := moved_some X[i].f0.f0.f0 X[i].f0.f0.f1 X[i].f0.f1 X[i].f0.f2 a b ins
    rw [hp, Option.bind_some, may_eq, Option.bind_some]
    by_cases hm : 0 ≤ p1 ∧ p1 ≤ p2 ∧ p2 ≤ 2147483648
    · rw [if_pos (decide_eq_true hm), wrap_of _ (by omega), show (i : Int) + 1 = ((i + 1 : Nat) : Int) by omega, Int.toNat_natCast]
      refine ih k (i + 1) _ ?_ (fun q hq hqi => ?_) (by omega) (by omega) (by omega)
      · rw [← hX, List.map_set]
        apply List.ext_getElem
        · simp
        · intro n h1 h2
          rw [List.getElem_set]
          split
          · rename_i e; subst e; simp
          · rfl
      · rw [List.getElem_set]
        split
        · exact hm
        · exact hok q (by simpa using hq) (by omega)
    · rw [if_neg (by simpa using hm)]
      exact ⟨1, L, rfl, rfl, hL⟩
theorem edit_eq (L : List S94) (hl : L.length ≤ 1000) (last a b : Int) (ins : List Int) (hL : ∀ x ∈ L, Ok x) (k : Nat) (hk : L.length < k) :
    ∃ r L', marks_Marks_Edit.f k L last a b ins = some (r, L', last) ∧ L'.map S94.f1 = L.map S94.f1 ∧ ∀ x ∈ L', Ok x := by
  unfold marks_Marks_Edit.f
  have hf : ∃ c, marks_fair.f a b ins = some c := by
    unfold marks_fair.f
    (repeat' split) <;> exact ⟨_, rfl⟩
  obtain ⟨c, hc⟩ := hf
  rw [hc, Option.bind_some]
  cases c with
  | false =>
    rw [if_neg (by decide)]
    exact ⟨1, L, rfl, rfl, hL⟩
  | true =>
    rw [if_pos rfl, marks_item_53.f, if_pos (by omega), Option.bind_some]
    exact edit_l0 L hl last a b ins hL L.length k 0 L rfl (fun _ _ h => by omega) (by omega) (by omega) hk
end Go.Proofs.Ythbdiambigfgdae.Pure
