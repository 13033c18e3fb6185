/- Plain facts on reading bytes as runes: what a list of bytes begins with (F), and that the model's own reading of a string is that. No condition. -/
import Derived.Test.YthbdiambigfgdaaUtfPlain
namespace Go.Proofs.Ythbdiambigfgdaa.Ut
open Go.RowKit Hand Go.Proofs.YthbdiambigfgdaaW.PrintWords

def Byte (x : Int) : Prop := 0 ≤ x ∧ x ≤ 255
def C2 (a b : Int) : Prop := 194 ≤ a ∧ a < 224 ∧ 128 ≤ b ∧ b ≤ 191
def C3 (a b c : Int) : Prop := 224 ≤ a ∧ a < 240 ∧ 128 ≤ b ∧ b ≤ 191 ∧ (a = 224 → 160 ≤ b) ∧ (a = 237 → b ≤ 159) ∧ 128 ≤ c ∧ c ≤ 191
def C4 (a b c d : Int) : Prop := 240 ≤ a ∧ a < 245 ∧ 128 ≤ b ∧ b ≤ 191 ∧ (a = 240 → 144 ≤ b) ∧ (a = 244 → b ≤ 143) ∧ 128 ≤ c ∧ c ≤ 191 ∧ 128 ≤ d ∧ d ≤ 191
instance (a b : Int) : Decidable (C2 a b) := by unfold C2; exact inferInstance
instance (a b c : Int) : Decidable (C3 a b c) := by unfold C3; exact inferInstance
instance (a b c d : Int) : Decidable (C4 a b c d) := by unfold C4; exact inferInstance
def R2 (a b : Int) : Int := (a - 192) * 64 + (b - 128)
def R3 (a b c : Int) : Int := (a - 224) * 4096 + (b - 128) * 64 + (c - 128)
def R4 (a b c d : Int) : Int := (a - 240) * 262144 + (b - 128) * 4096 + (c - 128) * 64 + (d - 128)

/-- a and b begin more than two bytes; a, b and c more than three. -/
def P2 (a b : Int) : Prop := 224 ≤ a ∧ a < 245 ∧ 128 ≤ b ∧ b ≤ 191 ∧ (a = 224 → 160 ≤ b) ∧ (a = 237 → b ≤ 159) ∧ (a = 240 → 144 ≤ b) ∧ (a = 244 → b ≤ 143)
def P3 (a b c : Int) : Prop := 240 ≤ a ∧ P2 a b ∧ 128 ≤ c ∧ c ≤ 191
instance (a b : Int) : Decidable (P2 a b) := by unfold P2; exact inferInstance
instance (a b c : Int) : Decidable (P3 a b c) := by unfold P3; exact inferInstance
/-- What bytes begin with: the rune, and how many bytes (0: they are not whole). -/
def F : List Int → Int × Int
  | [] => (0, 0)
  | [a] => if a < 128 then (a, 1) else if 194 ≤ a ∧ a < 245 then (0, 0) else (65533, 1)
  | [a, b] => if a < 128 then (a, 1) else if C2 a b then (R2 a b, 2) else if P2 a b then (0, 0) else (65533, 1)
  | [a, b, c] => if a < 128 then (a, 1) else if C2 a b then (R2 a b, 2) else if C3 a b c then (R3 a b c, 3) else if P3 a b c then (0, 0) else (65533, 1)
  | a :: b :: c :: d :: _ => if a < 128 then (a, 1) else if C2 a b then (R2 a b, 2) else if C3 a b c then (R3 a b c, 3) else if C4 a b c d then (R4 a b c d, 4) else (65533, 1)
def G (l : List Int) : Int × Int := if (F l).2 = 0 then (65533, 1) else F l

/-- The model's reading, as numbers. -/
def dec (n : Nat) (a b c d : Nat) : Nat × Nat :=
  if a < 128 then (a, 1)
  else if a / 32 = 6 ∧ 1 < n ∧ b / 64 = 2 then (if 128 ≤ (a % 32) * 64 + b % 64 then ((a % 32) * 64 + b % 64, 2) else (65533, 1))
  else if a / 16 = 14 ∧ (1 < n ∧ b / 64 = 2) ∧ 2 < n ∧ c / 64 = 2 then
    (if 2048 ≤ (a % 16) * 4096 + (b % 64) * 64 + c % 64 ∧ Ok (((a % 16) * 4096 + (b % 64) * 64 + c % 64 : Nat) : Int) then ((a % 16) * 4096 + (b % 64) * 64 + c % 64, 3) else (65533, 1))
  else if a / 8 = 30 ∧ (1 < n ∧ b / 64 = 2) ∧ (2 < n ∧ c / 64 = 2) ∧ 3 < n ∧ d / 64 = 2 then
    (if 65536 ≤ (a % 8) * 262144 + (b % 64) * 4096 + (c % 64) * 64 + d % 64 ∧ Ok (((a % 8) * 262144 + (b % 64) * 4096 + (c % 64) * 64 + d % 64 : Nat) : Int) then ((a % 8) * 262144 + (b % 64) * 4096 + (c % 64) * 64 + d % 64, 4) else (65533, 1))
  else (65533, 1)

theorem decode_dec (s : ByteArray) (p : Nat) : Utf8.decode s p = dec (s.size - p) (s.get! p).toNat (s.get! (p + 1)).toNat (s.get! (p + 2)).toNat (s.get! (p + 3)).toNat := by
  have e1 : (p + 1 < s.size) ↔ (1 < s.size - p) := by omega
  have e2 : (p + 2 < s.size) ↔ (2 < s.size - p) := by omega
  have e3 : (p + 3 < s.size) ↔ (3 < s.size - p) := by omega
  unfold Utf8.decode dec
  simp only [Nat.add_zero, Bool.and_eq_true, beq_iff_eq, decide_eq_true_eq, Utf8.runeError, ge_iff_le, valid_iff, e1, e2, e3, and_assoc]

theorem get_lt (s : ByteArray) (i : Nat) : (s.get! i).toNat < 256 := (s.get! i).toNat_lt

theorem drop_get (s : ByteArray) (p : Nat) (h : p < s.size) : (bytesOf s).drop p = ((s.get! p).toNat : Int) :: (bytesOf s).drop (p + 1) := by
  rw [List.drop_eq_getElem_cons (by rw [bytesOf_length]; exact h)]
  congr 1
  have h' : p < s.data.size := h
  simp only [bytesOf, List.getElem_map, ByteArray.get!, Array.getElem_toList]
  rw [getElem!_pos s.data p h']
theorem drop_none (s : ByteArray) (p : Nat) (h : s.size ≤ p) : (bytesOf s).drop p = [] := List.drop_eq_nil_of_le (by rw [bytesOf_length]; exact h)

/-- The same in one row of tests, of so many bytes. -/
def H (n : Nat) (a b c d : Int) : Int × Int :=
  if a < 128 then (a, 1) else if 1 < n ∧ C2 a b then (R2 a b, 2) else if 2 < n ∧ C3 a b c then (R3 a b c, 3) else if 3 < n ∧ C4 a b c d then (R4 a b c d, 4) else (65533, 1)

theorem dec_H (n : Nat) (a b c d : Nat) (ha : a < 256) (hb : b < 256) (hc : c < 256) (hd : d < 256) :
    ((dec n a b c d).1 : Int) = (H n a b c d).1 ∧ ((dec n a b c d).2 : Int) = (H n a b c d).2 := by
  by_cases h1 : a < 128
  · have hH : H n a b c d = ((a : Int), 1) := by unfold H; rw [if_pos (by omega)]
    have hD : dec n a b c d = (a, 1) := by unfold dec; rw [if_pos h1]
    rw [hH, hD]; exact ⟨rfl, rfl⟩
  by_cases h2 : 1 < n ∧ C2 a b
  · have hH : H n a b c d = (R2 a b, 2) := by unfold H; rw [if_neg (by omega), if_pos h2]
    unfold C2 at h2
    have hD : dec n a b c d = ((a % 32) * 64 + b % 64, 2) := by unfold dec; rw [if_neg h1, if_pos (by omega), if_pos (by omega)]
    rw [hH, hD]; unfold R2; exact ⟨by dsimp only; omega, rfl⟩
  by_cases h3 : 2 < n ∧ C3 a b c
  · have hH : H n a b c d = (R3 a b c, 3) := by unfold H; rw [if_neg (by omega), if_neg h2, if_pos h3]
    unfold C3 at h3
    have hD : dec n a b c d = ((a % 16) * 4096 + (b % 64) * 64 + c % 64, 3) := by
      unfold dec; rw [if_neg h1, if_neg (by omega), if_pos (by omega), if_pos ⟨by omega, by unfold Ok; omega⟩]
    rw [hH, hD]; unfold R3; exact ⟨by dsimp only; omega, rfl⟩
  by_cases h4 : 3 < n ∧ C4 a b c d
  · have hH : H n a b c d = (R4 a b c d, 4) := by unfold H; rw [if_neg (by omega), if_neg h2, if_neg h3, if_pos h4]
    unfold C4 at h4
    have hD : dec n a b c d = ((a % 8) * 262144 + (b % 64) * 4096 + (c % 64) * 64 + d % 64, 4) := by
      unfold dec; rw [if_neg h1, if_neg (by omega), if_neg (by omega), if_pos (by omega), if_pos ⟨by omega, by unfold Ok; omega⟩]
    rw [hH, hD]; unfold R4; exact ⟨by dsimp only; omega, rfl⟩
  have hH : H n a b c d = (65533, 1) := by unfold H; rw [if_neg (by omega), if_neg h2, if_neg h3, if_neg h4]
  unfold C2 at h2
  unfold C3 at h3
  unfold C4 at h4
  have hD : dec n a b c d = (65533, 1) := by
    unfold dec Ok
    (repeat' split) <;> first | rfl | (exfalso; omega)
  rw [hH, hD]; exact ⟨rfl, rfl⟩

theorem G_1 (a : Int) : G [a] = H 1 a 0 0 0 := by
  unfold G H F
  simp only [show ¬ (1 < 1) from by omega, show ¬ (2 < 1) from by omega, show ¬ (3 < 1) from by omega, false_and, if_false]
  by_cases h1 : a < 128
  · simp [h1]
  · by_cases h2 : 194 ≤ a ∧ a < 245
    · simp [h1, h2]
    · rw [if_neg h1, if_neg h1, if_neg h2]; rfl
theorem G_2 (a b : Int) : G [a, b] = H 2 a b 0 0 := by
  unfold G H F
  simp only [show (1 < 2) from by omega, show ¬ (2 < 2) from by omega, show ¬ (3 < 2) from by omega, true_and, false_and, if_false]
  by_cases h1 : a < 128
  · simp [h1]
  by_cases h2 : C2 a b
  · simp [h1, h2]
  by_cases h3 : P2 a b
  · simp [h1, h2, h3]
  · simp [h1, h2, h3]
theorem G_3 (a b c : Int) : G [a, b, c] = H 3 a b c 0 := by
  unfold G H F
  simp only [show (1 < 3) from by omega, show (2 < 3) from by omega, show ¬ (3 < 3) from by omega, true_and, false_and, if_false]
  by_cases h1 : a < 128
  · simp [h1]
  by_cases h2 : C2 a b
  · simp [h1, h2]
  by_cases h4 : C3 a b c
  · simp [h1, h2, h4]
  by_cases h3 : P3 a b c
  · simp [h1, h2, h3, h4]
  · simp [h1, h2, h3, h4]
theorem G_4 (a b c d : Int) (t : List Int) (n : Nat) (hn : 3 < n) : G (a :: b :: c :: d :: t) = H n a b c d := by
  unfold G H F
  simp only [show (1 < n) from by omega, show (2 < n) from by omega, hn, true_and]
  by_cases h1 : a < 128
  · simp [h1]
  by_cases h2 : C2 a b
  · simp [h1, h2]
  by_cases h4 : C3 a b c
  · simp [h1, h2, h4]
  by_cases h3 : C4 a b c d
  · simp [h1, h2, h3, h4]
  · simp [h1, h2, h3, h4]
/-- Bytes that are not there count for nothing. -/
theorem H_0 (n : Nat) (a b c d b' c' d' : Int) (hb : 1 < n → b' = b) (hc : 2 < n → c' = c) (hd : 3 < n → d' = d) : H n a b c d = H n a b' c' d' := by
  unfold H
  by_cases h1 : 1 < n
  · rw [hb h1]
    by_cases h2 : 2 < n
    · rw [hc h2]
      by_cases h3 : 3 < n
      · rw [hd h3]
      · simp only [h3, false_and, if_false]
    · simp only [h2, show ¬ 3 < n from by omega, false_and, if_false]
  · simp only [h1, show ¬ 2 < n from by omega, show ¬ 3 < n from by omega, false_and, if_false]

theorem decode_G (s : ByteArray) (p : Nat) (h : p < s.size) :
    ((Utf8.decode s p).1 : Int) = (G ((bytesOf s).drop p)).1 ∧ ((Utf8.decode s p).2 : Int) = (G ((bytesOf s).drop p)).2 := by
  have e : G ((bytesOf s).drop p) = H (s.size - p) (s.get! p).toNat (s.get! (p + 1)).toNat (s.get! (p + 2)).toNat (s.get! (p + 3)).toNat := by
    rw [drop_get s p h]
    by_cases h1 : p + 1 < s.size
    · rw [drop_get s (p + 1) h1]
      by_cases h2 : p + 2 < s.size
      · rw [drop_get s (p + 2) h2]
        by_cases h3 : p + 3 < s.size
        · rw [drop_get s (p + 3) h3]; exact G_4 _ _ _ _ _ _ (by omega)
        · rw [drop_none s (p + 3) (by omega), G_3, show s.size - p = 3 by omega]; exact H_0 _ _ _ _ _ _ _ _ (fun _ => rfl) (fun _ => rfl) (fun h => by omega)
      · rw [drop_none s (p + 2) (by omega), G_2, show s.size - p = 2 by omega]; exact H_0 _ _ _ _ _ _ _ _ (fun _ => rfl) (fun h => by omega) (fun h => by omega)
    · rw [drop_none s (p + 1) (by omega), G_1, show s.size - p = 1 by omega]; exact H_0 _ _ _ _ _ _ _ _ (fun h => by omega) (fun h => by omega) (fun h => by omega)
  rw [e, decode_dec]
  exact dec_H _ _ _ _ _ (get_lt _ _) (get_lt _ _) (get_lt _ _) (get_lt _ _)

/-- Bytes as runes. -/
def decF : Nat → List Int → List Int
  | 0, _ => []
  | f + 1, l => if l = [] then [] else (G l).1 :: decF f (l.drop (G l).2.toNat)
theorem decF_nil (f : Nat) : decF f [] = [] := by cases f <;> simp [decF]

theorem H_snd (n : Nat) (hn : 1 ≤ n) (a b c d : Int) : 1 ≤ (H n a b c d).2 ∧ (H n a b c d).2 ≤ n ∧ (H n a b c d).2 ≤ 4 := by
  unfold H
  (repeat' split) <;> dsimp only <;> omega
theorem G_snd (l : List Int) (h : l ≠ []) : 1 ≤ (G l).2 ∧ (G l).2 ≤ l.length ∧ (G l).2 ≤ 4 := by
  match l, h with
  | [a], _ => rw [G_1]; exact H_snd 1 (by omega) _ _ _ _
  | [a, b], _ => rw [G_2]; exact H_snd 2 (by omega) _ _ _ _
  | [a, b, c], _ => rw [G_3]; exact H_snd 3 (by omega) _ _ _ _
  | a :: b :: c :: d :: t, _ => rw [G_4 a b c d t 4 (by omega)]; have := H_snd 4 (by omega) a b c d; simp only [List.length_cons]; omega

theorem runes_dec (s : ByteArray) (f p : Nat) : runesFrom s f p = decF f ((bytesOf s).drop p) := by
  induction f generalizing p with
  | zero => rfl
  | succ f ih =>
    by_cases h : p < s.size
    · have hg := decode_G s p h
      have hne : (bytesOf s).drop p ≠ [] := by rw [drop_get s p h]; simp
      simp only [runesFrom, decF]
      rw [if_pos h, if_neg hne, ih, List.drop_drop, hg.1]
      congr 3; omega
    · simp only [runesFrom]
      rw [if_neg h, drop_none s p (by omega), decF_nil]

theorem bytes_strOf (l : List Int) (hl : ∀ x ∈ l, Byte x) : bytesOf (strOfNums l) = l := by
  unfold bytesOf
  rw [strOfNums_data, List.map_map]
  conv => rhs; rw [← List.map_id l]
  apply List.map_congr_left
  intro x hx
  have := hl x hx
  unfold Byte at this
  simp only [Function.comp, u8_nat, id]
  omega
theorem decAll_eq (l : List Int) (hl : ∀ x ∈ l, Byte x) : decAll l = decF l.length l := by
  unfold decAll
  rw [runes_dec, bytes_strOf l hl, strOfNums_size, List.drop_zero]

/-! What F is, by how many bytes the first one begins -/
theorem F_1 (a : Int) (t : List Int) (h : a < 128) : F (a :: t) = (a, 1) := by
  match t with
  | [] => simp [F, h]
  | [b] => simp [F, h]
  | [b, c] => simp [F, h]
  | b :: c :: d :: t => simp [F, h]
theorem F_0 (a : Int) (t : List Int) (h : 128 ≤ a) (h' : a < 194 ∨ 245 ≤ a) : F (a :: t) = (65533, 1) := by
  match t with
  | [] => simp [F, show ¬ a < 128 by omega, show ¬ (194 ≤ a ∧ a < 245) by omega]
  | [b] => simp [F, show ¬ a < 128 by omega, show ¬ C2 a b by unfold C2; omega, show ¬ P2 a b by unfold P2; omega]
  | [b, c] => simp [F, show ¬ a < 128 by omega, show ¬ C2 a b by unfold C2; omega, show ¬ C3 a b c by unfold C3; omega, show ¬ P3 a b c by unfold P3 P2; omega]
  | b :: c :: d :: t => simp [F, show ¬ a < 128 by omega, show ¬ C2 a b by unfold C2; omega, show ¬ C3 a b c by unfold C3; omega, show ¬ C4 a b c d by unfold C4; omega]
theorem F_x (a : Int) (h : 194 ≤ a) (h' : a < 245) : F [a] = (0, 0) := by simp [F, show ¬ a < 128 by omega, h, h']
theorem F_2 (a b : Int) (t : List Int) (h : 194 ≤ a) (h' : a < 224) : F (a :: b :: t) = if 128 ≤ b ∧ b ≤ 191 then (R2 a b, 2) else (65533, 1) := by
  have e : C2 a b ↔ (128 ≤ b ∧ b ≤ 191) := by unfold C2; omega
  match t with
  | [] => simp [F, show ¬ a < 128 by omega, e, show ¬ P2 a b by unfold P2; omega]
  | [c] => simp [F, show ¬ a < 128 by omega, e, show ¬ C3 a b c by unfold C3; omega, show ¬ P3 a b c by unfold P3 P2; omega]
  | c :: d :: t => simp [F, show ¬ a < 128 by omega, e, show ¬ C3 a b c by unfold C3; omega, show ¬ C4 a b c d by unfold C4; omega]
theorem F_y (a b : Int) (h : 224 ≤ a) : F [a, b] = if P2 a b then (0, 0) else (65533, 1) := by
  simp [F, show ¬ a < 128 by omega, show ¬ C2 a b by unfold C2; omega]
theorem F_3 (a b c : Int) (t : List Int) (h : 224 ≤ a) (h' : a < 240) : F (a :: b :: c :: t) = if C3 a b c then (R3 a b c, 3) else (65533, 1) := by
  match t with
  | [] => simp [F, show ¬ a < 128 by omega, show ¬ C2 a b by unfold C2; omega, show ¬ P3 a b c by unfold P3 P2; omega]
  | d :: t => simp [F, show ¬ a < 128 by omega, show ¬ C2 a b by unfold C2; omega, show ¬ C4 a b c d by unfold C4; omega]
theorem F_z (a b c : Int) (h : 240 ≤ a) : F [a, b, c] = if P3 a b c then (0, 0) else (65533, 1) := by
  simp [F, show ¬ a < 128 by omega, show ¬ C2 a b by unfold C2; omega, show ¬ C3 a b c by unfold C3; omega]
theorem F_4 (a b c d : Int) (t : List Int) (h : 240 ≤ a) : F (a :: b :: c :: d :: t) = if C4 a b c d then (R4 a b c d, 4) else (65533, 1) := by
  simp [F, show ¬ a < 128 by omega, show ¬ C2 a b by unfold C2; omega, show ¬ C3 a b c by unfold C3; omega]
end Go.Proofs.Ythbdiambigfgdaa.Ut
