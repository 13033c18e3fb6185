/- utf.First, as printed, answers what bytes begin with (F), in plain Lean. -/
import Derived.Test.YthbdiambigfgdahDoorPKeysFirstx3
import Derived.Test.YthbdiambigfgdahDoorKeysPlain
namespace Go.Proofs.YthbdiambigfgdahDoor.Keys
open Go.RowKit Go.Proofs.YthbdiambigfgdahDoor.PKeysFirst Go.Proofs.YthbdiambigfgdahDoorW.PrintWords Go.Proofs.YthbdiambigfgdahDoorW.PrintLast Go.Proofs.YthbdiambigfgdahDoorW.PrintMore
open Hand Ut
set_option linter.unusedVariables false
set_option linter.unusedSimpArgs false
theorem wrap32_of (x : Int) (h : -2147483648 ≤ x ∧ x ≤ 2147483647) : wrap32 x = x := by unfold wrap32; omega
theorem rd_at (l : List Int) (i : Nat) (h : i < l.length) : rd l (i : Int) = l[i] := by simp [rd, h]
/-! The program's First -/
def bg (a : Int) : Int × Int × Int :=
  if a < 128 then (1, 0, 0) else if a < 194 ∨ 245 ≤ a then (0, 0, 0)
  else (if a < 224 then 2 else if a < 240 then 3 else 4, if a = 224 then 160 else if a = 240 then 144 else 128, if a = 237 then 159 else if a = 244 then 143 else 191)
theorem begins_all : (List.range 256).all (fun n => utf_begins.f 3 (n : Int) == some (bg n)) = true := by decide +kernel
theorem begins_eq (a : Int) (h : Byte a) (k : Nat) (hk : 3 ≤ k) : utf_begins.f k a = some (bg a) := by
  obtain ⟨n, rfl⟩ : ∃ n : Nat, a = n := ⟨a.toNat, by unfold Byte at h; omega⟩
  have hn : n ∈ List.range 256 := by unfold Byte at h; rw [List.mem_range]; omega
  exact at_rounds (utf_begins.mono _) hk (by simpa using List.all_eq_true.1 begins_all n hn)

theorem l0_end (k : Nat) (x0 u : List Int) (m i n lo hi : Int) (h : ¬ i < m) : utf_First.l0 (k + 1) x0 u m i n lo hi = utf_First.l0 (k + 1) x0 [] 0 0 n lo hi := by
  simp only [utf_First.l0]; rw [if_neg h, if_neg (c := (0 : Int) < 0) (by omega)]
theorem l0_step (k : Nat) (x0 u : List Int) (i : Nat) (n lo hi : Int) (h : i < u.length) (hu : u.length ≤ 10) :
    utf_First.l0 (k + 1) x0 u u.length i n lo hi = if (i = 0 ∧ (u[i] < lo ∨ u[i] > hi)) ∨ u[i] < 128 ∨ u[i] ≥ 192 then some (65533, 1) else utf_First.l0 k x0 u u.length ((i + 1 : Nat) : Int) n lo hi := by
  simp only [utf_First.l0]
  rw [if_pos (by omega), if_pos (by omega), if_pos (by omega), rd_at u i h, wrap_of _ (by omega)]
  by_cases h0 : i = 0
  · subst h0
    rw [if_pos (by omega)]
    by_cases h1 : u[0] < lo
    · simp [h1]
    by_cases h2 : u[0] > hi
    · simp [h2]
    by_cases h3 : u[0] < 128
    · simp [h3]
    by_cases h4 : u[0] ≥ 192
    · simp [h4]
    · simp [h1, h2, h3, h4]
  · rw [if_neg (by omega)]
    by_cases h3 : u[i] < 128
    · simp [h3]
    by_cases h4 : u[i] ≥ 192
    · simp [h4]
    · simp [h0, h3, h4]

theorem l1_end (k : Nat) (r : Int) (u : List Int) (m i n lo hi : Int) (h : ¬ i < m) : utf_First.l1 (k + 1) r u m i n lo hi = some (r, n) := by
  simp only [utf_First.l1]; rw [if_neg h]
theorem l1_step (k : Nat) (r : Int) (u : List Int) (i : Nat) (n lo hi : Int) (h : i < u.length) (hu : u.length ≤ 10) (h0 : 0 ≤ r) (h1 : r < 1048576) (hx : 128 ≤ u[i]) (hx' : u[i] ≤ 191) :
    utf_First.l1 (k + 1) r u u.length i n lo hi = utf_First.l1 k (r * 64 + (u[i] - 128)) u u.length ((i + 1 : Nat) : Int) n lo hi := by
  simp only [utf_First.l1]
  rw [if_pos (by omega), if_pos (by omega), if_pos (by omega), rd_at u i h, wrap_of _ (by omega), u8_and63 _ (by omega) (by omega), wrap32_of (r * 64) (by omega), wrap32_of (u[i] % 64) (by omega),
    i32_or6 _ _ (by omega) (by omega) (by omega) (by omega) (by omega)]
  congr 1; omega

/-- The end of the loop: the first byte begins n of them. -/
theorem t_0 (k : Nat) (x0 : List Int) (lo hi : Int) : utf_First.l0 (k + 1) x0 [] 0 0 0 lo hi = some (65533, 1) := by
  simp only [utf_First.l0]; rw [if_neg (by omega)]; simp
theorem t_1 (k : Nat) (a : Int) (t : List Int) (ha : Byte a) (lo hi : Int) : utf_First.l0 (k + 1) (a :: t) [] 0 0 1 lo hi = some (a, 1) := by
  unfold Byte at ha
  have hl : (0 : Int) < ((a :: t).length : Int) := by simp only [List.length_cons]; omega
  have hl2 : ¬ ((a :: t).length : Int) < 1 := by simp only [List.length_cons]; omega
  have hw := wrap32_of a (by omega)
  simp only [utf_First.l0, hl2, hl, show ¬ ((0 : Int) < 0) from by omega, show ¬ ((1 : Int) = 0) from by omega, if_false, if_true, show rd (a :: t) 0 = a from rfl, hw]
theorem t_few (k : Nat) (x0 : List Int) (n lo hi : Int) (h : 2 ≤ n) (hl : (x0.length : Int) < n) : utf_First.l0 (k + 1) x0 [] 0 0 n lo hi = some (0, 0) := by
  simp only [utf_First.l0]; rw [if_neg (by omega), if_neg (by omega), if_pos hl]
theorem t_n (k : Nat) (a : Int) (t : List Int) (ha : Byte a) (n lo hi r : Int) (h : 2 ≤ n) (h4 : n ≤ 4) (hl : n ≤ ((a :: t).length : Int))
    (hr : bits .and .i32 a (wrap32 ((shl .i32 1 (7 - n)) - 1)) = r) :
    utf_First.l0 (k + 1) (a :: t) [] 0 0 n lo hi = utf_First.l1 k r (t.take (n.toNat - 1)) (t.take (n.toNat - 1)).length 0 n lo hi := by
  unfold Byte at ha
  have e : ((a :: t).take n.toNat).drop 1 = t.take (n.toNat - 1) := by
    obtain ⟨m, hm⟩ : ∃ m, n.toNat = m + 1 := ⟨n.toNat - 1, by omega⟩
    rw [hm]; rfl
  simp only [utf_First.l0]
  rw [if_neg (by omega), if_neg (by omega), if_neg (by omega), if_neg (by omega), if_pos (by simp only [List.length_cons]; omega), wrap_of (7 - n) (by omega), if_pos (by omega), if_pos (by omega), if_pos hl, e, show rd (a :: t) 0 = a from rfl, wrap32_of a (by omega), hr]

theorem f_of (k : Nat) (a : Int) (t : List Int) (n lo hi : Int) (m : Nat) (hb : utf_begins.f k a = some (n, lo, hi)) (hm : mn ((a :: t).length : Int) (mx 1 n) = ((m + 1 : Nat) : Int)) (hmt : m ≤ t.length) :
    utf_First.f k (a :: t) = utf_First.l0 k (a :: t) (t.take m) (t.take m).length 0 n lo hi := by
  unfold utf_First.f
  have e : cutL (a :: t) 1 ((m + 1 : Nat) : Int) = t.take m := by
    unfold cutL
    rw [Int.toNat_natCast, List.take_succ_cons]; rfl
  rw [if_neg (by simp only [List.length_cons]; omega), if_pos (by simp only [List.length_cons]; omega), show rd (a :: t) 0 = a from rfl, hb]
  simp only [Option.bind_some]
  rw [hm, if_pos (by omega), if_pos (by simp only [List.length_cons]; omega), e]

theorem and_31 (a : Int) (h : 194 ≤ a) (h' : a < 224) : bits .and .i32 a (wrap32 ((shl .i32 1 (7 - 2)) - 1)) = a - 192 := by
  have := bits_mask .i32 31 (by decide) wraps_i32 5 (by decide) a (by omega) (by omega)
  rw [show wrap32 ((shl .i32 1 (7 - 2)) - 1) = (2 : Int) ^ 5 - 1 by decide +kernel, this]; omega
theorem and_15 (a : Int) (h : 224 ≤ a) (h' : a < 240) : bits .and .i32 a (wrap32 ((shl .i32 1 (7 - 3)) - 1)) = a - 224 := by
  have := bits_mask .i32 31 (by decide) wraps_i32 4 (by decide) a (by omega) (by omega)
  rw [show wrap32 ((shl .i32 1 (7 - 3)) - 1) = (2 : Int) ^ 4 - 1 by decide +kernel, this]; omega
theorem and_7 (a : Int) (h : 240 ≤ a) (h' : a < 245) : bits .and .i32 a (wrap32 ((shl .i32 1 (7 - 4)) - 1)) = a - 240 := by
  have := bits_mask .i32 31 (by decide) wraps_i32 3 (by decide) a (by omega) (by omega)
  rw [show wrap32 ((shl .i32 1 (7 - 4)) - 1) = (2 : Int) ^ 3 - 1 by decide +kernel, this]; omega

theorem first_eq (l : List Int) (hl : ∀ x ∈ l, Byte x) (k : Nat) (hk : 20 ≤ k) : utf_First.f k l = some (F l) := by
  obtain ⟨k, rfl⟩ : ∃ m, k = m + 20 := ⟨k - 20, by omega⟩
  match l with
  | [] => unfold utf_First.f; rw [if_pos (by simp)]; rfl
  | a :: t =>
    have ha := hl a (by simp)
    have hb := begins_eq a ha (k + 20) (by omega)
    have ha' := ha
    unfold Byte at ha'
    by_cases h1 : a < 128
    · rw [show bg a = (1, 0, 0) by unfold bg; rw [if_pos h1]] at hb
      rw [f_of _ a t 1 0 0 0 hb (by unfold mn mx; simp only [List.length_cons]; (repeat' split) <;> omega) (by omega), show k + 20 = k + 19 + 1 from rfl, l0_end _ _ _ _ _ _ _ _ (by simp), t_1 _ a t ha, F_1 a t h1]
    by_cases h0 : a < 194 ∨ 245 ≤ a
    · rw [show bg a = (0, 0, 0) by unfold bg; rw [if_neg h1, if_pos h0]] at hb
      rw [f_of _ a t 0 0 0 0 hb (by unfold mn mx; simp only [List.length_cons]; (repeat' split) <;> omega) (by omega), show k + 20 = k + 19 + 1 from rfl, l0_end _ _ _ _ _ _ _ _ (by simp), t_0, F_0 a t (by omega) h0]
    have hlo : 194 ≤ a := by omega
    have hhi : a < 245 := by omega
    by_cases h2 : a < 224
    · rw [show bg a = (2, 128, 191) by unfold bg; rw [if_neg h1, if_neg h0, if_pos h2, if_neg (by omega), if_neg (by omega), if_neg (by omega), if_neg (by omega)]] at hb
      match t with
      | [] =>
        rw [f_of _ a [] 2 _ _ 0 hb (by unfold mn mx; simp) (by omega), show k + 20 = k + 19 + 1 from rfl, l0_end _ _ _ _ _ _ _ _ (by simp), t_few _ _ _ _ _ (by omega) (by simp), F_x a hlo hhi]
      | b :: t =>
        rw [f_of _ a (b :: t) 2 _ _ 1 hb (by unfold mn mx; simp only [List.length_cons]; (repeat' split) <;> omega) (by simp), show k + 20 = k + 19 + 1 from rfl, List.take_succ_cons, List.take_zero,
          show (0 : Int) = ((0 : Nat) : Int) from rfl, l0_step _ _ [b] 0 _ _ _ (by simp) (by simp), F_2 a b t hlo h2]
        by_cases hb : 128 ≤ b ∧ b ≤ 191
        · rw [if_neg (by simp; omega), if_pos hb, show k + 19 = k + 18 + 1 from rfl, l0_end _ _ _ _ _ _ _ _ (by simp), t_n _ a (b :: t) ha 2 _ _ _ (by omega) (by omega) (by simp; omega) (and_31 a hlo h2)]
          rw [show (2 : Int).toNat - 1 = 1 from rfl, List.take_succ_cons, List.take_zero, show (0 : Int) = ((0 : Nat) : Int) from rfl, l1_step _ _ [b] 0 _ _ _ (by simp) (by simp) (by omega) (by omega) hb.1 hb.2,
            l1_end _ _ _ _ _ _ _ _ (by simp)]
          rfl
        · rw [if_pos (by simp; omega), if_neg hb]
    by_cases h3 : a < 240
    · obtain ⟨lo, hi, hbg, hlo', hhi'⟩ : ∃ lo hi : Int, bg a = (3, lo, hi) ∧ (lo = if a = 224 then 160 else 128) ∧ (hi = if a = 237 then 159 else 191) :=
        ⟨_, _, by unfold bg; rw [if_neg h1, if_neg h0, if_neg h2, if_pos h3, if_neg (show ¬ a = 240 by omega), if_neg (show ¬ a = 244 by omega)], rfl, rfl⟩
      rw [hbg] at hb
      have hl1 : 128 ≤ lo ∧ (a = 224 → lo = 160) ∧ (¬ a = 224 → lo = 128) := by rw [hlo']; split <;> omega
      have hh1 : hi ≤ 191 ∧ (a = 237 → hi = 159) ∧ (¬ a = 237 → hi = 191) := by rw [hhi']; split <;> omega
      clear hlo' hhi'
      match t with
      | [] =>
        rw [f_of _ a [] 3 _ _ 0 hb (by unfold mn mx; simp) (by omega), show k + 20 = k + 19 + 1 from rfl, l0_end _ _ _ _ _ _ _ _ (by simp), t_few _ _ _ _ _ (by omega) (by simp), F_x a hlo hhi]
      | [b] =>
        rw [f_of _ a [b] 3 _ _ 1 hb (by unfold mn mx; simp) (by simp), show k + 20 = k + 19 + 1 from rfl, List.take_succ_cons, List.take_zero,
          show (0 : Int) = ((0 : Nat) : Int) from rfl, l0_step _ _ [b] 0 _ _ _ (by simp) (by simp), F_y a b (by omega)]
        by_cases hp : P2 a b
        · have hp' := hp
          unfold P2 at hp'
          rw [if_neg (by simp; omega), if_pos hp, show k + 19 = k + 18 + 1 from rfl, l0_end _ _ _ _ _ _ _ _ (by simp), t_few _ _ _ _ _ (by omega) (by simp)]
        · have hp' := hp
          unfold P2 at hp'
          rw [if_pos (by simp; omega), if_neg hp]
      | b :: c :: t =>
        rw [f_of _ a (b :: c :: t) 3 _ _ 2 hb (by unfold mn mx; simp only [List.length_cons]; (repeat' split) <;> omega) (by simp), show k + 20 = k + 19 + 1 from rfl, List.take_succ_cons, List.take_succ_cons, List.take_zero,
          show (0 : Int) = ((0 : Nat) : Int) from rfl, l0_step _ _ [b, c] 0 _ _ _ (by simp) (by simp), F_3 a b c t (by omega) h3]
        by_cases hp : C3 a b c
        · have hp' := hp
          unfold C3 at hp'
          rw [if_neg (by simp; omega), show k + 19 = k + 18 + 1 from rfl, l0_step _ _ [b, c] 1 _ _ _ (by simp) (by simp), if_neg (by simp; omega), if_pos hp, show k + 18 = k + 17 + 1 from rfl,
            l0_end _ _ _ _ _ _ _ _ (by simp), t_n _ a (b :: c :: t) ha 3 _ _ _ (by omega) (by omega) (by simp; omega) (and_15 a (by omega) h3)]
          rw [show (3 : Int).toNat - 1 = 2 from rfl, List.take_succ_cons, List.take_succ_cons, List.take_zero, show (0 : Int) = ((0 : Nat) : Int) from rfl,
            l1_step _ _ [b, c] 0 _ _ _ (by simp) (by simp) (by omega) (by omega) (by simp; omega) (by simp; omega),
            l1_step _ _ [b, c] 1 _ _ _ (by simp) (by simp) (by simp; omega) (by simp; omega) (by simp; omega) (by simp; omega), l1_end _ _ _ _ _ _ _ _ (by simp)]
          unfold R3; simp only [List.getElem_cons_zero, List.getElem_cons_succ]; congr 2; omega
        · have hp' := hp
          unfold C3 at hp'
          rw [if_neg hp]
          by_cases hq : (b < lo ∨ b > hi) ∨ b < 128 ∨ b ≥ 192
          · rw [if_pos (by simp; omega)]
          · rw [if_neg (by simp; omega), show k + 19 = k + 18 + 1 from rfl, l0_step _ _ [b, c] 1 _ _ _ (by simp) (by simp), if_pos (by simp; omega)]
    · obtain ⟨lo, hi, hbg, hlo', hhi'⟩ : ∃ lo hi : Int, bg a = (4, lo, hi) ∧ (lo = if a = 240 then 144 else 128) ∧ (hi = if a = 244 then 143 else 191) :=
        ⟨_, _, by unfold bg; rw [if_neg h1, if_neg h0, if_neg h2, if_neg h3, if_neg (show ¬ a = 224 by omega), if_neg (show ¬ a = 237 by omega)], rfl, rfl⟩
      rw [hbg] at hb
      have hl1 : 128 ≤ lo ∧ (a = 240 → lo = 144) ∧ (¬ a = 240 → lo = 128) := by rw [hlo']; split <;> omega
      have hh1 : hi ≤ 191 ∧ (a = 244 → hi = 143) ∧ (¬ a = 244 → hi = 191) := by rw [hhi']; split <;> omega
      clear hlo' hhi'
      match t with
      | [] =>
        rw [f_of _ a [] 4 _ _ 0 hb (by unfold mn mx; simp) (by omega), show k + 20 = k + 19 + 1 from rfl, l0_end _ _ _ _ _ _ _ _ (by simp), t_few _ _ _ _ _ (by omega) (by simp), F_x a hlo hhi]
      | [b] =>
        rw [f_of _ a [b] 4 _ _ 1 hb (by unfold mn mx; simp) (by simp), show k + 20 = k + 19 + 1 from rfl, List.take_succ_cons, List.take_zero,
          show (0 : Int) = ((0 : Nat) : Int) from rfl, l0_step _ _ [b] 0 _ _ _ (by simp) (by simp), F_y a b (by omega)]
        by_cases hp : P2 a b
        · have hp' := hp
          unfold P2 at hp'
          rw [if_neg (by simp; omega), if_pos hp, show k + 19 = k + 18 + 1 from rfl, l0_end _ _ _ _ _ _ _ _ (by simp), t_few _ _ _ _ _ (by omega) (by simp)]
        · have hp' := hp
          unfold P2 at hp'
          rw [if_pos (by simp; omega), if_neg hp]
      | [b, c] =>
        rw [f_of _ a [b, c] 4 _ _ 2 hb (by unfold mn mx; simp) (by simp), show k + 20 = k + 19 + 1 from rfl, List.take_succ_cons, List.take_succ_cons, List.take_zero,
          show (0 : Int) = ((0 : Nat) : Int) from rfl, l0_step _ _ [b, c] 0 _ _ _ (by simp) (by simp), F_z a b c (by omega)]
        by_cases hp : P3 a b c
        · have hp' := hp
          unfold P3 P2 at hp'
          rw [if_neg (by simp; omega), show k + 19 = k + 18 + 1 from rfl, l0_step _ _ [b, c] 1 _ _ _ (by simp) (by simp), if_neg (by simp; omega), if_pos hp, show k + 18 = k + 17 + 1 from rfl,
            l0_end _ _ _ _ _ _ _ _ (by simp), t_few _ _ _ _ _ (by omega) (by simp)]
        · have hp' := hp
          unfold P3 P2 at hp'
          rw [if_neg hp]
          by_cases hq : (b < lo ∨ b > hi) ∨ b < 128 ∨ b ≥ 192
          · rw [if_pos (by simp; omega)]
          · rw [if_neg (by simp; omega), show k + 19 = k + 18 + 1 from rfl, l0_step _ _ [b, c] 1 _ _ _ (by simp) (by simp), if_pos (by simp; omega)]
      | b :: c :: d :: t =>
        rw [f_of _ a (b :: c :: d :: t) 4 _ _ 3 hb (by unfold mn mx; simp only [List.length_cons]; (repeat' split) <;> omega) (by simp), show k + 20 = k + 19 + 1 from rfl, List.take_succ_cons, List.take_succ_cons, List.take_succ_cons, List.take_zero,
          show (0 : Int) = ((0 : Nat) : Int) from rfl, l0_step _ _ [b, c, d] 0 _ _ _ (by simp) (by simp), F_4 a b c d t (by omega)]
        by_cases hp : C4 a b c d
        · have hp' := hp
          unfold C4 at hp'
          rw [if_neg (by simp; omega), show k + 19 = k + 18 + 1 from rfl, l0_step _ _ [b, c, d] 1 _ _ _ (by simp) (by simp), if_neg (by simp; omega), show k + 18 = k + 17 + 1 from rfl,
            l0_step _ _ [b, c, d] 2 _ _ _ (by simp) (by simp), if_neg (by simp; omega), if_pos hp, show k + 17 = k + 16 + 1 from rfl,
            l0_end _ _ _ _ _ _ _ _ (by simp), t_n _ a (b :: c :: d :: t) ha 4 _ _ _ (by omega) (by omega) (by simp; omega) (and_7 a (by omega) hhi)]
          rw [show (4 : Int).toNat - 1 = 3 from rfl, List.take_succ_cons, List.take_succ_cons, List.take_succ_cons, List.take_zero, show (0 : Int) = ((0 : Nat) : Int) from rfl,
            l1_step _ _ [b, c, d] 0 _ _ _ (by simp) (by simp) (by omega) (by omega) (by simp; omega) (by simp; omega),
            l1_step _ _ [b, c, d] 1 _ _ _ (by simp) (by simp) (by simp; omega) (by simp; omega) (by simp; omega) (by simp; omega),
            l1_step _ _ [b, c, d] 2 _ _ _ (by simp) (by simp) (by simp; omega) (by simp; omega) (by simp; omega) (by simp; omega), l1_end _ _ _ _ _ _ _ _ (by simp)]
          unfold R4; simp only [List.getElem_cons_zero, List.getElem_cons_succ]; congr 2; omega
        · have hp' := hp
          unfold C4 at hp'
          rw [if_neg hp]
          by_cases hq : (b < lo ∨ b > hi) ∨ b < 128 ∨ b ≥ 192
          · rw [if_pos (by simp; omega)]
          · rw [if_neg (by simp; omega), show k + 19 = k + 18 + 1 from rfl, l0_step _ _ [b, c, d] 1 _ _ _ (by simp) (by simp)]
            by_cases hq' : c < 128 ∨ c ≥ 192
            · rw [if_pos (by simp; omega)]
            · rw [if_neg (by simp; omega), show k + 18 = k + 17 + 1 from rfl, l0_step _ _ [b, c, d] 2 _ _ _ (by simp) (by simp), if_pos (by simp; omega)]

end Go.Proofs.YthbdiambigfgdahDoor.Keys
