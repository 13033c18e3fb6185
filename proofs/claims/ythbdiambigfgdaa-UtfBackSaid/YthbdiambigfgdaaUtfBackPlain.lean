/- Plain facts on runes' bytes read back: each right rune is read as it was, whatever comes behind; what is read is right runes, no more than the bytes. No condition. -/
import Derived.Test.YthbdiambigfgdaaUtfDec
namespace Go.Proofs.Ythbdiambigfgdaa.Ut
open Go.RowKit Hand Go.Proofs.YthbdiambigfgdaaW.PrintWords

def fix (r : Int) : Int := if Ok r then r else 65533
theorem fix_ok (r : Int) : Ok (fix r) := by
  unfold fix
  split
  · assumption
  · decide
theorem enc_fix (r : Int) : enc r = one (fix r) := by
  unfold enc fix
  split <;> rfl

theorem one_byte (r : Int) (h : Ok r) : ∀ x ∈ one r, Byte x := by
  unfold Ok at h
  unfold one
  (repeat' split) <;> intro x hx <;> simp only [List.mem_cons, List.not_mem_nil, or_false] at hx <;> unfold Byte <;> omega

theorem F_one (r : Int) (t : List Int) (h : Ok r) : F (one r ++ t) = (r, ((one r).length : Int)) := by
  unfold Ok at h
  unfold one
  by_cases h1 : r < 128
  · rw [if_pos h1]; exact F_1 r t h1
  rw [if_neg h1]
  by_cases h2 : r < 2048
  · rw [if_pos h2]
    show F ((192 + r / 64) :: (128 + r % 64) :: t) = _
    rw [F_2 _ _ _ (by omega) (by omega), if_pos (by omega)]
    unfold R2
    simp only [List.length_cons, List.length_nil]
    congr 1
    omega
  rw [if_neg h2]
  by_cases h3 : r < 65536
  · rw [if_pos h3]
    show F ((224 + r / 4096) :: (128 + r / 64 % 64) :: (128 + r % 64) :: t) = _
    rw [F_3 _ _ _ _ (by omega) (by omega), if_pos (by unfold C3; omega)]
    unfold R3
    simp only [List.length_cons, List.length_nil]
    congr 1
    omega
  rw [if_neg h3]
  show F ((240 + r / 262144) :: (128 + r / 4096 % 64) :: (128 + r / 64 % 64) :: (128 + r % 64) :: t) = _
  rw [F_4 _ _ _ _ _ (by omega), if_pos (by unfold C4; omega)]
  unfold R4
  simp only [List.length_cons, List.length_nil]
  congr 1
  omega
theorem G_one (r : Int) (t : List Int) (h : Ok r) : G (one r ++ t) = (r, ((one r).length : Int)) := by
  unfold G
  have := one_len r
  rw [F_one r t h, if_neg (by dsimp only; omega)]

theorem decF_fuel (f : Nat) : ∀ (f' : Nat) (l : List Int), l.length ≤ f → l.length ≤ f' → decF f l = decF f' l := by
  induction f with
  | zero =>
    intro f' l h _
    obtain rfl : l = [] := List.eq_nil_of_length_eq_zero (by omega)
    rw [decF_nil, decF_nil]
  | succ f ih =>
    intro f' l h h'
    by_cases h0 : l = []
    · subst h0; rw [decF_nil, decF_nil]
    · have hl : 0 < l.length := List.length_pos_iff.2 h0
      obtain ⟨f', rfl⟩ : ∃ m, f' = m + 1 := ⟨f' - 1, by omega⟩
      have hg := G_snd l h0
      simp only [decF]
      rw [if_neg h0, if_neg h0, ih f' _ (by rw [List.length_drop]; omega) (by rw [List.length_drop]; omega)]

def decA (l : List Int) : List Int := decF l.length l
theorem decA_cons (l : List Int) (h : l ≠ []) : decA l = (G l).1 :: decA (l.drop (G l).2.toNat) := by
  have hl : 0 < l.length := List.length_pos_iff.2 h
  have hg := G_snd l h
  unfold decA
  obtain ⟨m, hm⟩ : ∃ m, l.length = m + 1 := ⟨l.length - 1, by omega⟩
  rw [hm]
  simp only [decF]
  rw [if_neg h]
  congr 1
  exact decF_fuel _ _ _ (by rw [List.length_drop]; omega) (by omega)

theorem decA_one (r : Int) (t : List Int) (h : Ok r) : decA (one r ++ t) = r :: decA t := by
  have := one_len r
  rw [decA_cons _ (by intro e; have := congrArg List.length e; simp only [List.length_append, List.length_nil] at this; omega), G_one r t h]
  simp only [Int.toNat_natCast]
  rw [List.drop_left]

theorem decA_enc (l b : List Int) : decA (l.flatMap enc ++ b) = l.map fix ++ decA b := by
  induction l with
  | nil => rfl
  | cons x l ih =>
    rw [List.flatMap_cons, List.append_assoc, enc_fix, decA_one _ _ (fix_ok x), ih]
    rfl

theorem G_ok (l : List Int) (h : l ≠ []) (hb : ∀ x ∈ l, Byte x) : Ok (G l).1 := by
  have key : ∀ (n : Nat) (a b c d : Int), Byte a → Ok (H n a b c d).1 := by
    intro n a b c d ha
    unfold Byte at ha
    unfold H
    split
    · unfold Ok; dsimp only; omega
    split
    · rename_i h2
      unfold C2 at h2
      unfold Ok R2; dsimp only; omega
    split
    · rename_i h3
      unfold C3 at h3
      unfold Ok R3; dsimp only; omega
    split
    · rename_i h4
      unfold C4 at h4
      unfold Ok R4; dsimp only; omega
    · decide
  match l, h with
  | [a], _ => rw [G_1]; exact key _ _ _ _ _ (hb a (by simp))
  | [a, b], _ => rw [G_2]; exact key _ _ _ _ _ (hb a (by simp))
  | [a, b, c], _ => rw [G_3]; exact key _ _ _ _ _ (hb a (by simp))
  | a :: b :: c :: d :: t, _ => rw [G_4 a b c d t 4 (by omega)]; exact key _ _ _ _ _ (hb a (by simp))

theorem decF_ok (f : Nat) : ∀ l : List Int, (∀ x ∈ l, Byte x) → ∀ x ∈ decF f l, Ok x := by
  induction f with
  | zero => intro l _ x hx; simp [decF] at hx
  | succ f ih =>
    intro l hb x hx
    by_cases h : l = []
    · subst h; rw [decF_nil] at hx; cases hx
    · simp only [decF] at hx
      rw [if_neg h] at hx
      rcases List.mem_cons.1 hx with rfl | hx
      · exact G_ok l h hb
      · exact ih _ (fun y hy => hb y (List.mem_of_mem_drop hy)) x hx
theorem decF_len' (f : Nat) : ∀ l : List Int, (decF f l).length ≤ f := by
  induction f with
  | zero => intro l; simp [decF]
  | succ f ih =>
    intro l
    simp only [decF]
    split
    · simp
    · simp only [List.length_cons]; have := ih (l.drop (G l).2.toNat); omega

theorem flat_byte (l : List Int) : ∀ x ∈ l.flatMap enc, Byte x := by
  intro x hx
  obtain ⟨r, _, hr⟩ := List.mem_flatMap.1 hx
  rw [enc_fix] at hr
  exact one_byte _ (fix_ok r) x hr
theorem flat_len (l : List Int) : (l.flatMap enc).length ≤ 4 * l.length := by
  induction l with
  | nil => simp
  | cons x l ih => have := enc_len x; simp only [List.flatMap_cons, List.length_append, List.length_cons]; omega
theorem map_fix (l : List Int) (h : ∀ x ∈ l, Ok x) : l.map fix = l := by
  conv => rhs; rw [← List.map_id l]
  exact List.map_congr_left fun x hx => by unfold fix; rw [if_pos (h x hx)]; rfl
end Go.Proofs.Ythbdiambigfgdaa.Ut
