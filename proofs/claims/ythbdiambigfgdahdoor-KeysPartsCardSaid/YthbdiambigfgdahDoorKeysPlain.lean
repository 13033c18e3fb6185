/- The keys' decoder in plain Lean: bytes fed in parts tell what they tell at once. `told` may be any function. -/
import Derived.Test.YthbdiambigfgdahDoorUtfF
namespace Go.Proofs.YthbdiambigfgdahDoor.Keys
open Go.Proofs.YthbdiambigfgdahDoor.Ut

abbrev K := Int × Int × Int
abbrev Step := Nat × K
def K0 : K := (0, 0, 0)

section
variable (told : List Int → Int → K)

def seqF (u : List Int) : Nat → Nat → Step
  | 0, _ => (0, K0)
  | f + 1, i =>
    if h : i < u.length then
      if 64 ≤ u[i] ∧ u[i] ≤ 126 then (i + 3, told (u.take i) u[i])
      else if u[i] < 48 ∨ 63 < u[i] ∨ 12 ≤ i then (i + 2, K0)
      else seqF u f (i + 1)
    else (0, K0)

def plainF (b : List Int) : Step :=
  match b with
  | [] => (0, K0)
  | c :: t =>
    if c = 13 then (1, (2, 0, 0)) else if c = 10 then (1, (2, 0, 4)) else if c = 9 then (1, (3, 0, 0))
    else if c = 8 ∨ c = 127 then (1, (4, 0, 0)) else if c < 32 then (1, (1, c + 96, 4))
    else ((F (c :: t)).2.toNat, (1, (F (c :: t)).1, 0))

/-- What is behind an escape, b without it. -/
def behindF (b : List Int) : Step :=
  match b with
  | [] => (0, K0)
  | c :: t =>
    if c = 27 then (1, K0)
    else if c = 91 then seqF told t (t.length + 1) 0
    else if c = 79 then
      match t with
      | [] => (0, K0)
      | e :: _ => if 64 ≤ e ∧ e ≤ 126 then (3, told [] e) else (2, K0)
    else if 0 < (plainF (c :: t)).1 then ((plainF (c :: t)).1 + 1, ((plainF (c :: t)).2.1, (plainF (c :: t)).2.2.1, (plainF (c :: t)).2.2.2 + 2))
    else plainF (c :: t)

def firstF (b : List Int) : Step :=
  match b with
  | [] => (0, K0)
  | c :: t => if c = 27 then behindF told t else plainF (c :: t)

def feedF : Nat → List Int → List K × List Int
  | 0, b => ([], b)
  | f + 1, b =>
    if b = [] then ([], [])
    else if (firstF told b).1 = 0 then ([], b)
    else ((if (firstF told b).2.1 ≠ 0 then [(firstF told b).2] else []) ++ (feedF f (b.drop (firstF told b).1)).1, (feedF f (b.drop (firstF told b).1)).2)
def feed (b : List Int) : List K × List Int := feedF told (b.length + 1) b
end

theorem F_le (l : List Int) : 0 ≤ (F l).2 ∧ (F l).2 ≤ l.length := by
  match l with
  | [] => simp [F]
  | [a] => simp only [F]; (repeat' split) <;> simp
  | [a, b] => simp only [F]; (repeat' split) <;> simp
  | [a, b, c] => simp only [F]; (repeat' split) <;> simp
  | a :: b :: c :: d :: t => simp only [F]; (repeat' split) <;> simp <;> omega
theorem F_ext (l t : List Int) (h : 0 < (F l).2) : F (l ++ t) = F l := by
  have cc : ∀ a b : Int, C2 a b → 194 ≤ a ∧ a < 224 := fun a b h => ⟨h.1, h.2.1⟩
  match l with
  | [] => simp [F] at h
  | [a] =>
    by_cases h1 : a < 128
    · rw [List.singleton_append, F_1 _ _ h1, F_1 _ _ h1]
    · by_cases h2 : 194 ≤ a ∧ a < 245
      · rw [F_x a h2.1 h2.2] at h; simp at h
      · rw [List.singleton_append, F_0 a _ (by omega) (by omega), F_0 a _ (by omega) (by omega)]
  | [a, b] =>
    by_cases h1 : a < 128
    · rw [List.cons_append, F_1 _ _ h1, F_1 _ _ h1]
    · by_cases h2 : 194 ≤ a ∧ a < 245
      · by_cases h3 : a < 224
        · rw [List.cons_append, List.cons_append, List.nil_append, F_2 a b _ h2.1 h3, F_2 a b _ h2.1 h3]
        · rw [F_y a b (by omega)] at h
          by_cases hp : P2 a b
          · rw [if_pos hp] at h; simp at h
          · rw [F_y a b (by omega), if_neg hp]
            match t with
            | [] => rw [List.append_nil, F_y a b (by omega), if_neg hp]
            | [c] =>
              have n3 : ¬ C3 a b c := fun h => hp ⟨h.1, by omega, h.2.2.1, h.2.2.2.1, h.2.2.2.2.1, h.2.2.2.2.2.1, fun e => by have := h.2.1; omega, fun e => by have := h.2.1; omega⟩
              have n2 : ¬ C2 a b := fun h => by have := h.2.1; omega
              have n4 : ¬ P3 a b c := fun h => hp h.2.1
              simp [F, h1, n2, n3, n4]
            | c :: d :: t =>
              have n3 : ¬ C3 a b c := fun h => hp ⟨h.1, by omega, h.2.2.1, h.2.2.2.1, h.2.2.2.2.1, h.2.2.2.2.2.1, fun e => by have := h.2.1; omega, fun e => by have := h.2.1; omega⟩
              have n2 : ¬ C2 a b := fun h => by have := h.2.1; omega
              have n4 : ¬ C4 a b c d := fun h => hp ⟨by have := h.1; omega, by omega, h.2.2.1, h.2.2.2.1, fun e => by have := h.1; omega, fun e => by have := h.1; omega, h.2.2.2.2.1, h.2.2.2.2.2.1⟩
              simp [F, h1, n2, n3, n4]
      · rw [List.cons_append, F_0 a _ (by omega) (by omega), F_0 a _ (by omega) (by omega)]
  | [a, b, c] =>
    by_cases h1 : a < 128
    · rw [List.cons_append, F_1 _ _ h1, F_1 _ _ h1]
    · by_cases h2 : 194 ≤ a ∧ a < 245
      · by_cases h3 : a < 224
        · rw [List.cons_append, List.cons_append, F_2 a b _ h2.1 h3, F_2 a b _ h2.1 h3]
        · by_cases h4 : a < 240
          · rw [List.cons_append, List.cons_append, List.cons_append, F_3 a b c _ (by omega) h4, F_3 a b c _ (by omega) h4]
          · rw [F_z a b c (by omega)] at h
            by_cases hp : P3 a b c
            · rw [if_pos hp] at h; simp at h
            · rw [F_z a b c (by omega), if_neg hp]
              match t with
              | [] => rw [List.append_nil, F_z a b c (by omega), if_neg hp]
              | d :: t =>
                have n2 : ¬ C2 a b := fun h => by have := h.2.1; omega
                have n3 : ¬ C3 a b c := fun h => by have := h.2.1; omega
                have n4 : ¬ C4 a b c d := fun h => hp ⟨h.1, ⟨by have := h.1; omega, by omega, h.2.2.1, h.2.2.2.1, fun e => by have := h.1; omega, fun e => by have := h.1; omega, h.2.2.2.2.1, h.2.2.2.2.2.1⟩, h.2.2.2.2.2.2.1, h.2.2.2.2.2.2.2.1⟩
                simp [F, h1, n2, n3, n4]
      · rw [List.cons_append, F_0 a _ (by omega) (by omega), F_0 a _ (by omega) (by omega)]
  | a :: b :: c :: d :: l => simp only [List.cons_append, F]

section
variable (told : List Int → Int → K)

theorem seq_le (u : List Int) : ∀ (f i : Nat), (seqF told u f i).1 ≤ u.length + 2 := by
  intro f
  induction f with
  | zero => intro i; simp [seqF]
  | succ f ih =>
    intro i
    simp only [seqF]
    split
    · split
      · simp; omega
      · split
        · simp; omega
        · exact ih _
    · simp
theorem seq_ext (u t : List Int) : ∀ (f g i : Nat), u.length ≤ f + i → u.length + t.length ≤ g + i → 0 < (seqF told u f i).1 → seqF told (u ++ t) g i = seqF told u f i := by
  intro f
  induction f with
  | zero => intro g i hf hg h; simp [seqF] at h
  | succ f ih =>
    intro g i hf hg h
    by_cases hi : i < u.length
    · obtain ⟨g', rfl⟩ : ∃ g', g = g' + 1 := ⟨g - 1, by omega⟩
      have e1 : (u ++ t)[i]'(by simp; omega) = u[i] := List.getElem_append_left hi
      have e2 : (u ++ t).take i = u.take i := List.take_append_of_le_length (by omega)
      simp only [seqF, dif_pos hi, dif_pos (show i < (u ++ t).length by simp; omega), e1, e2] at h ⊢
      split
      · rfl
      · split
        · rfl
        · rename_i n1 n2
          rw [if_neg n1, if_neg n2] at h
          exact ih g' (i + 1) (by omega) (by omega) h
    · simp only [seqF, dif_neg hi] at h
      simp at h

theorem plain_le (b : List Int) : (plainF b).1 ≤ b.length := by
  match b with
  | [] => simp [plainF]
  | c :: t =>
    have := F_le (c :: t)
    simp only [plainF]
    (repeat' split) <;> simp at this ⊢ <;> omega
theorem plain_ext (b t : List Int) (h : 0 < (plainF b).1) : plainF (b ++ t) = plainF b := by
  match b with
  | [] => simp [plainF] at h
  | c :: b =>
    have e := F_ext (c :: b) t
    rw [List.cons_append] at e ⊢
    simp only [plainF] at h ⊢
    (repeat' split) <;> try rfl
    rename_i h1 h2 h3 h4 h5
    rw [if_neg h1, if_neg h2, if_neg h3, if_neg h4, if_neg h5] at h
    rw [e (by simp at h; omega)]
theorem behind_le (b : List Int) : (behindF told b).1 ≤ b.length + 1 := by
  match b with
  | [] => simp [behindF]
  | c :: t =>
    have h1 := plain_le (c :: t)
    have h2 := seq_le told t (t.length + 1) 0
    simp only [behindF]
    split
    · simp
    · split
      · simp; omega
      · split
        · match t with
          | [] => simp
          | e :: _ => simp only []; split <;> simp
        · split
          · simp at h1 ⊢; omega
          · omega
theorem behind_ext (b t : List Int) (h : 0 < (behindF told b).1) : behindF told (b ++ t) = behindF told b := by
  match b with
  | [] => simp [behindF] at h
  | c :: b =>
    have e1 := seq_ext told b t (b.length + 1) ((b ++ t).length + 1) 0 (by omega) (by simp)
    have e2 := plain_ext (c :: b) t
    rw [List.cons_append] at e2 ⊢
    simp only [behindF] at h ⊢
    split
    · rfl
    · rename_i n1
      split
      · rename_i n2
        rw [if_neg n1, if_pos n2] at h
        exact e1 h
      · rename_i n2
        split
        · rename_i n3
          rw [if_neg n1, if_neg n2, if_pos n3] at h
          match b with
          | [] => simp at h
          | e :: b => rfl
        · rename_i n3
          rw [if_neg n1, if_neg n2, if_neg n3] at h
          by_cases hp : 0 < (plainF (c :: b)).1
          · rw [e2 hp]
          · rw [if_neg hp] at h; exact absurd h hp
theorem first_le (b : List Int) : (firstF told b).1 ≤ b.length := by
  match b with
  | [] => simp [firstF]
  | c :: t =>
    have h1 := plain_le (c :: t)
    have h2 := behind_le told t
    simp only [firstF]
    split
    · simpa using h2
    · exact h1
theorem first_ext (b t : List Int) (h : 0 < (firstF told b).1) : firstF told (b ++ t) = firstF told b := by
  match b with
  | [] => simp [firstF] at h
  | c :: b =>
    have e1 := behind_ext told b t
    have e2 := plain_ext (c :: b) t
    rw [List.cons_append] at e2 ⊢
    simp only [firstF] at h ⊢
    by_cases n : c = 27
    · simp only [if_pos n] at h ⊢; exact e1 h
    · simp only [if_neg n] at h ⊢; exact e2 h

theorem feedF_fuel : ∀ (f g : Nat) (b : List Int), b.length < f → b.length < g → feedF told f b = feedF told g b := by
  intro f
  induction f with
  | zero => intro g b h; omega
  | succ f ih =>
    intro g b hf hg
    obtain ⟨g, rfl⟩ : ∃ g', g = g' + 1 := ⟨g - 1, by omega⟩
    simp only [feedF]
    split
    · rfl
    · split
      · rfl
      · rename_i h1 h2
        have hb : 0 < b.length := List.length_pos_iff.2 h1
        rw [ih g (b.drop (firstF told b).1) (by simp; omega) (by simp; omega)]
theorem feed_nil : feed told [] = ([], []) := by simp [feed, feedF]
theorem feed_stop (b : List Int) (h : (firstF told b).1 = 0) : feed told b = ([], b) := by
  unfold feed feedF
  by_cases hb : b = []
  · rw [if_pos hb, hb]
  · rw [if_neg hb, if_pos h]
theorem feed_step (b : List Int) (h : (firstF told b).1 ≠ 0) :
    feed told b = ((if (firstF told b).2.1 ≠ 0 then [(firstF told b).2] else []) ++ (feed told (b.drop (firstF told b).1)).1, (feed told (b.drop (firstF told b).1)).2) := by
  have hb : b ≠ [] := by rintro rfl; simp [firstF] at h
  have hl : 0 < b.length := List.length_pos_iff.2 hb
  conv => lhs; unfold feed feedF
  rw [if_neg hb, if_neg h]
  have e := feedF_fuel told b.length ((b.drop (firstF told b).1).length + 1) (b.drop (firstF told b).1) (by simp; omega) (by omega)
  rw [e]
  rfl

theorem feed_parts_n : ∀ (n : Nat) (a b : List Int), a.length ≤ n → feed told (a ++ b) = ((feed told a).1 ++ (feed told ((feed told a).2 ++ b)).1, (feed told ((feed told a).2 ++ b)).2) := by
  intro n
  induction n with
  | zero =>
    intro a b h
    obtain rfl : a = [] := List.length_eq_zero_iff.1 (by omega)
    rw [feed_nil, List.nil_append, List.nil_append]
  | succ n ih =>
    intro a b h
    by_cases hs : (firstF told a).1 = 0
    · rw [feed_stop told a hs, List.nil_append]
    · have hl := first_le told a
      have e := first_ext told a b (by omega)
      rw [feed_step told (a ++ b) (by rw [e]; exact hs), e, List.drop_append_of_le_length hl, ih _ b (by simp; omega), feed_step told a hs]
      simp only [List.append_assoc]
theorem feed_parts (a b : List Int) : feed told (a ++ b) = ((feed told a).1 ++ (feed told ((feed told a).2 ++ b)).1, (feed told ((feed told a).2 ++ b)).2) := feed_parts_n told a.length a b (Nat.le_refl _)
theorem feed_rest_le : ∀ (n : Nat) (b : List Int), b.length ≤ n → (feed told b).2.length ≤ b.length := by
  intro n
  induction n with
  | zero =>
    intro b h
    obtain rfl : b = [] := List.length_eq_zero_iff.1 (by omega)
    rw [feed_nil]; simp
  | succ n ih =>
    intro b h
    by_cases hs : (firstF told b).1 = 0
    · rw [feed_stop told b hs]; exact Nat.le_refl _
    · rw [feed_step told b hs]
      have := ih (b.drop (firstF told b).1) (by simp; omega)
      simp at this ⊢
      omega
theorem feed_keys_le : ∀ (n : Nat) (b : List Int), b.length ≤ n → (feed told b).1.length ≤ b.length := by
  intro n
  induction n with
  | zero =>
    intro b h
    obtain rfl : b = [] := List.length_eq_zero_iff.1 (by omega)
    rw [feed_nil]; simp
  | succ n ih =>
    intro b h
    by_cases hs : (firstF told b).1 = 0
    · rw [feed_stop told b hs]; simp
    · rw [feed_step told b hs]
      have := ih (b.drop (firstF told b).1) (by simp; omega)
      have hl := first_le told b
      simp at this ⊢
      split <;> simp <;> omega
end
end Go.Proofs.YthbdiambigfgdahDoor.Keys
