/- What bytes begin with, as runes (F), in plain Lean. -/
import Derived.RowKit3
namespace Go.Proofs.YthbdiambigfgdahDoor.Ut

def Byte (x : Int) : Prop := 0 ≤ x ∧ x ≤ 255
def C2 (a b : Int) : Prop := 194 ≤ a ∧ a < 224 ∧ 128 ≤ b ∧ b ≤ 191
def C3 (a b c : Int) : Prop := 224 ≤ a ∧ a < 240 ∧ 128 ≤ b ∧ b ≤ 191 ∧ (a = 224 → 160 ≤ b) ∧ (a = 237 → b ≤ 159) ∧ 128 ≤ c ∧ c ≤ 191
def C4 (a b c d : Int) : Prop := 240 ≤ a ∧ a < 245 ∧ 128 ≤ b ∧ b ≤ 191 ∧ (a = 240 → 144 ≤ b) ∧ (a = 244 → b ≤ 143) ∧ 128 ≤ c ∧ c ≤ 191 ∧ 128 ≤ d ∧ d ≤ 191
instance (a b : Int) : Decidable (C2 a b) := by unfold C2; exact inferInstance
instance (a b c : Int) : Decidable (C3 a b c) := by unfold C3; exact inferInstance
instance (a b c d : Int) : Decidable (C4 a b c d) := by unfold C4; exact inferInstance
def R2 (a b : Int) : Int := (a - 192) * 64 + (b - 128)
def R3 (a b c : Int) : Int := (a - 224) * 4096 + (b - 128) * 64 + (c - 128)
def R4 (a b c d : Int) : Int := (a - 240) * 262144 + (b - 128) * 4096 + (c - 128) * 64 + (d - 128)

/-- a and b begin more than two bytes; a, b and c more than three. -/
def P2 (a b : Int) : Prop := 224 ≤ a ∧ a < 245 ∧ 128 ≤ b ∧ b ≤ 191 ∧ (a = 224 → 160 ≤ b) ∧ (a = 237 → b ≤ 159) ∧ (a = 240 → 144 ≤ b) ∧ (a = 244 → b ≤ 143)
def P3 (a b c : Int) : Prop := 240 ≤ a ∧ P2 a b ∧ 128 ≤ c ∧ c ≤ 191
instance (a b : Int) : Decidable (P2 a b) := by unfold P2; exact inferInstance
instance (a b c : Int) : Decidable (P3 a b c) := by unfold P3; exact inferInstance
/-- What bytes begin with: the rune, and how many bytes (0: they are not whole). -/
def F : List Int → Int × Int
  | [] => (0, 0)
  | [a] => if a < 128 then (a, 1) else if 194 ≤ a ∧ a < 245 then (0, 0) else (65533, 1)
  | [a, b] => if a < 128 then (a, 1) else if C2 a b then (R2 a b, 2) else if P2 a b then (0, 0) else (65533, 1)
  | [a, b, c] => if a < 128 then (a, 1) else if C2 a b then (R2 a b, 2) else if C3 a b c then (R3 a b c, 3) else if P3 a b c then (0, 0) else (65533, 1)
  | a :: b :: c :: d :: _ => if a < 128 then (a, 1) else if C2 a b then (R2 a b, 2) else if C3 a b c then (R3 a b c, 3) else if C4 a b c d then (R4 a b c d, 4) else (65533, 1)
/-! What F is, by how many bytes the first one begins -/
theorem F_1 (a : Int) (t : List Int) (h : a < 128) : F (a :: t) = (a, 1) := by
  match t with
  | [] => simp [F, h]
  | [b] => simp [F, h]
  | [b, c] => simp [F, h]
  | b :: c :: d :: t => simp [F, h]
theorem F_0 (a : Int) (t : List Int) (h : 128 ≤ a) (h' : a < 194 ∨ 245 ≤ a) : F (a :: t) = (65533, 1) := by
  match t with
  | [] => simp [F, show ¬ a < 128 by omega, show ¬ (194 ≤ a ∧ a < 245) by omega]
  | [b] => simp [F, show ¬ a < 128 by omega, show ¬ C2 a b by unfold C2; omega, show ¬ P2 a b by unfold P2; omega]
  | [b, c] => simp [F, show ¬ a < 128 by omega, show ¬ C2 a b by unfold C2; omega, show ¬ C3 a b c by unfold C3; omega, show ¬ P3 a b c by unfold P3 P2; omega]
  | b :: c :: d :: t => simp [F, show ¬ a < 128 by omega, show ¬ C2 a b by unfold C2; omega, show ¬ C3 a b c by unfold C3; omega, show ¬ C4 a b c d by unfold C4; omega]
theorem F_x (a : Int) (h : 194 ≤ a) (h' : a < 245) : F [a] = (0, 0) := by simp [F, show ¬ a < 128 by omega, h, h']
theorem F_2 (a b : Int) (t : List Int) (h : 194 ≤ a) (h' : a < 224) : F (a :: b :: t) = if 128 ≤ b ∧ b ≤ 191 then (R2 a b, 2) else (65533, 1) := by
  have e : C2 a b ↔ (128 ≤ b ∧ b ≤ 191) := by unfold C2; omega
  match t with
  | [] => simp [F, show ¬ a < 128 by omega, e, show ¬ P2 a b by unfold P2; omega]
  | [c] => simp [F, show ¬ a < 128 by omega, e, show ¬ C3 a b c by unfold C3; omega, show ¬ P3 a b c by unfold P3 P2; omega]
  | c :: d :: t => simp [F, show ¬ a < 128 by omega, e, show ¬ C3 a b c by unfold C3; omega, show ¬ C4 a b c d by unfold C4; omega]
theorem F_y (a b : Int) (h : 224 ≤ a) : F [a, b] = if P2 a b then (0, 0) else (65533, 1) := by
  simp [F, show ¬ a < 128 by omega, show ¬ C2 a b by unfold C2; omega]
theorem F_3 (a b c : Int) (t : List Int) (h : 224 ≤ a) (h' : a < 240) : F (a :: b :: c :: t) = if C3 a b c then (R3 a b c, 3) else (65533, 1) := by
  match t with
  | [] => simp [F, show ¬ a < 128 by omega, show ¬ C2 a b by unfold C2; omega, show ¬ P3 a b c by unfold P3 P2; omega]
  | d :: t => simp [F, show ¬ a < 128 by omega, show ¬ C2 a b by unfold C2; omega, show ¬ C4 a b c d by unfold C4; omega]
theorem F_z (a b c : Int) (h : 240 ≤ a) : F [a, b, c] = if P3 a b c then (0, 0) else (65533, 1) := by
  simp [F, show ¬ a < 128 by omega, show ¬ C2 a b by unfold C2; omega, show ¬ C3 a b c by unfold C3; omega]
theorem F_4 (a b c d : Int) (t : List Int) (h : 240 ≤ a) : F (a :: b :: c :: d :: t) = if C4 a b c d then (R4 a b c d, 4) else (65533, 1) := by
  simp [F, show ¬ a < 128 by omega, show ¬ C2 a b by unfold C2; omega, show ¬ C3 a b c by unfold C3; omega]
end Go.Proofs.YthbdiambigfgdahDoor.Ut
