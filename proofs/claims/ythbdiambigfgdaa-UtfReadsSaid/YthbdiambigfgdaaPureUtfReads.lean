/- UtfReads: the first rune of any bytes, and all, are what the document says; no condition. -/
import Derived.Test.YthbdiambigfgdaaPUtfReadsx5
import Derived.Test.YthbdiambigfgdaaUtfDec
namespace Go.Proofs.Ythbdiambigfgdaa.Pure
open Go.RowKit Go.Proofs.Ythbdiambigfgdaa.PUtfReads Go.Proofs.YthbdiambigfgdaaW.PrintWords Go.Proofs.YthbdiambigfgdaaW.PrintLast Go.Proofs.YthbdiambigfgdaaW.PrintMore
open Hand Ut

/-! The program's First -/
def bg (a : Int) : Int × Int × Int :=
  if a < 128 then (1, 0, 0) else if a < 194 ∨ 245 ≤ a then (0, 0, 0)
  else (if a < 224 then 2 else if a < 240 then 3 else 4, if a = 224 then 160 else if a = 240 then 144 else 128, if a = 237 then 159 else if a = 244 then 143 else 191)
theorem begins_all : (List.range 256).all (fun n => utf_begins.f 3 (n : Int) == some (bg n)) = true := by decide +kernel
theorem begins_eq (a : Int) (h : Byte a) (k : Nat) (hk : 3 ≤ k) : utf_begins.f k a = some (bg a) := by
  obtain ⟨n, rfl⟩ : ∃ n : Nat, a = n := ⟨a.toNat, by unfold Byte at h; omega⟩
  have hn : n ∈ List.range 256 := by unfold Byte at h; rw [List.mem_range]; omega
  exact at_rounds (utf_begins.mono _) hk (by simpa using List.all_eq_true.1 begins_all n hn)

theorem l0_end (k : Nat) (x0 u : List Int) (m i n lo hi : Int) (h : ¬ i < m) : utf_First.l0 (k + 1) x0 u m i n lo hi = utf_First.l0 (k + 1) x0 [] 0 0 n lo hi := by
  simp only [utf_First.l0]; rw [if_neg h, if_neg (c := (0 : Int) < 0) (by omega)]
theorem l0_step (k : Nat) (x0 u : List Int) (i : Nat) (n lo hi : Int) (h : i < u.length) (hu : u.length ≤ 10) :
    utf_First.l0 (k + 1) x0 u u.length i n lo hi = if (i = 0 ∧ (u[i] < lo ∨ u[i] > hi)) ∨ u[i] < 128 ∨ u[i] ≥ 192 then some (65533, 1) else utf_First.l0 k x0 u u.length ((i + 1 : Nat) : Int) n lo hi := by
  simp only [utf_First.l0]
  rw [if_pos (by omega), if_pos (by omega), if_pos (by omega), rd_at u i h, wrap_of _ (by omega)]
  by_cases h0 : i = 0
  · subst h0
    rw [if_pos (by omega)]
    by_cases h1 : u[0] < lo
    · simp [h1]
    by_cases h2 : u[0] > hi
    · simp [h2]
    by_cases h3 : u[0] < 128
    · simp [h3]
    by_cases h4 : u[0] ≥ 192
    · simp [h4]
    · simp [h1, h2, h3, h4]
  · rw [if_neg (by omega)]
    by_cases h3 : u[i] < 128
    · simp [h3]
    by_cases h4 : u[i] ≥ 192
    · simp [h4]
    · simp [h0, h3, h4]

theorem l1_end (k : Nat) (r : Int) (u : List Int) (m i n lo hi : Int) (h : ¬ i < m) : utf_First.l1 (k + 1) r u m i n lo hi = some (r, n) := by
  simp only [utf_First.l1]; rw [if_neg h]
theorem l1_step (k : Nat) (r : Int) (u : List Int) (i : Nat) (n lo hi : Int) (h : i < u.length) (hu : u.length ≤ 10) (h0 : 0 ≤ r) (h1 : r < 1048576) (hx : 128 ≤ u[i]) (hx' : u[i] ≤ 191) :
    utf_First.l1 (k + 1) r u u.length i n lo hi = utf_First.l1 k (r * 64 + (u[i] - 128)) u u.length ((i + 1 : Nat) : Int) n lo hi := by
  simp only [utf_First.l1]
  rw [if_pos (by omega), if_pos (by omega), if_pos (by omega), rd_at u i h, wrap_of _ (by omega), u8_and63 _ (by omega) (by omega), wrap32_of (r * 64) (by omega), wrap32_of (u[i] % 64) (by omega),
    i32_or6 _ _ (by omega) (by omega) (by omega) (by omega) (by omega)]
  congr 1; omega

/-- The end of the loop: the first byte begins n of them. -/
theorem t_0 (k : Nat) (x0 : List Int) (lo hi : Int) : utf_First.l0 (k + 1) x0 [] 0 0 0 lo hi = some (65533, 1) := by
  simp only [utf_First.l0]; rw [if_neg (by omega)]; simp
theorem t_1 (k : Nat) (a : Int) (t : List Int) (ha : Byte a) (lo hi : Int) : utf_First.l0 (k + 1) (a :: t) [] 0 0 1 lo hi = some (a, 1) := by
  unfold Byte at ha
  have hl : (0 : Int) < ((a :: t).length : Int) := by simp only [List.length_cons]; omega
  have hl2 : ¬ ((a :: t).length : Int) < 1 := by simp only [List.length_cons]; omega
  have hw := wrap32_of a (by omega)
  simp only [utf_First.l0, hl2, hl, show ¬ ((0 : Int) < 0) from by omega, show ¬ ((1 : Int) = 0) from by omega, if_false, if_true, show rd (a :: t) 0 = a from rfl, hw]
theorem t_few (k : Nat) (x0 : List Int) (n lo hi : Int) (h : 2 ≤ n) (hl : (x0.length : Int) < n) : utf_First.l0 (k + 1) x0 [] 0 0 n lo hi = some (0, 0) := by
  simp only [utf_First.l0]; rw [if_neg (by omega), if_neg (by omega), if_pos hl]
theorem t_n (k : Nat) (a : Int) (t : List Int) (ha : Byte a) (n lo hi r : Int) (h : 2 ≤ n) (h4 : n ≤ 4) (hl : n ≤ ((a :: t).length : Int))
    (hr : bits .and .i32 a (wrap32 ((shl .i32 1 (7 - n)) - 1)) = r) :
    utf_First.l0 (k + 1) (a :: t) [] 0 0 n lo hi = utf_First.l1 k r (t.take (n.toNat - 1)) (t.take (n.toNat - 1)).length 0 n lo hi := by
  unfold Byte at ha
  have e : ((a :: t).take n.toNat).drop 1 = t.take (n.toNat - 1) := by
    obtain ⟨m, hm⟩ : ∃ m, n.toNat = m + 1 := ⟨n.toNat - 1, by omega⟩
    rw [hm]; rfl
  simp only [utf_First.l0]
  rw [if_neg (by omega), if_neg (by omega), if_neg (by omega), if_neg (by omega), if_pos (by simp only [List.length_cons]; omega), wrap_of (7 - n) (by omega), if_pos (by omega), if_pos (by omega), if_pos hl, e, show rd (a :: t) 0 = a from rfl, wrap32_of a (by omega), hr]

theorem f_of (k : Nat) (a : Int) (t : List Int) (n lo hi : Int) (m : Nat) (hb : utf_begins.f k a = some (n, lo, hi)) (hm : mn ((a :: t).length : Int) (mx 1 n) = ((m + 1 : Nat) : Int)) (hmt : m ≤ t.length) :
    utf_First.f k (a :: t) = utf_First.l0 k (a :: t) (t.take m) (t.take m).length 0 n lo hi := by
  unfold utf_First.f
  have e : cutL (a :: t) 1 ((m + 1 : Nat) : Int) = t.take m := by
    unfold cutL
    rw [Int.toNat_natCast, List.take_succ_cons]; rfl
  rw [if_neg (by simp only [List.length_cons]; omega), if_pos (by simp only [List.length_cons]; omega), show rd (a :: t) 0 = a from rfl, hb]
  simp only [Option.bind_some]
  rw [hm, if_pos (by omega), if_pos (by simp only [List.length_cons]; omega), e]

theorem and_31 (a : Int) (h : 194 ≤ a) (h' : a < 224) : bits .and .i32 a (wrap32 ((shl .i32 1 (7 - 2)) - 1)) = a - 192 := by
  have := bits_mask .i32 31 (by decide) wraps_i32 5 (by decide) a (by omega) (by omega)
  rw [show wrap32 ((shl .i32 1 (7 - 2)) - 1) = (2 : Int) ^ 5 - 1 by decide +kernel, this]; omega
theorem and_15 (a : Int) (h : 224 ≤ a) (h' : a < 240) : bits .and .i32 a (wrap32 ((shl .i32 1 (7 - 3)) - 1)) = a - 224 := by
  have := bits_mask .i32 31 (by decide) wraps_i32 4 (by decide) a (by omega) (by omega)
  rw [show wrap32 ((shl .i32 1 (7 - 3)) - 1) = (2 : Int) ^ 4 - 1 by decide +kernel, this]; omega
theorem and_7 (a : Int) (h : 240 ≤ a) (h' : a < 245) : bits .and .i32 a (wrap32 ((shl .i32 1 (7 - 4)) - 1)) = a - 240 := by
  have := bits_mask .i32 31 (by decide) wraps_i32 3 (by decide) a (by omega) (by omega)
  rw [show wrap32 ((shl .i32 1 (7 - 4)) - 1) = (2 : Int) ^ 3 - 1 by decide +kernel, this]; omega

theorem first_eq (l : List Int) (hl : ∀ x ∈ l, Byte x) (k : Nat) (hk : 20 ≤ k) : utf_First.f k l = some (F l) := by
  obtain ⟨k, rfl⟩ : ∃ m, k = m + 20 := ⟨k - 20, by omega⟩
  match l with
  | [] => unfold utf_First.f; rw [if_pos (by simp)]; rfl
  | a :: t =>
    have ha := hl a (by simp)
    have hb := begins_eq a ha (k + 20) (by omega)
    have ha' := ha
    unfold Byte at ha'
    by_cases h1 : a < 128
    · rw [show bg a = (1, 0, 0) by unfold bg; rw [if_pos h1]] at hb
      rw [f_of _ a t 1 0 0 0 hb (by unfold mn mx; simp only [List.length_cons]; (repeat' split) <;> omega) (by omega), show k + 20 = k + 19 + 1 from rfl, l0_end _ _ _ _ _ _ _ _ (by simp), t_1 _ a t ha, F_1 a t h1]
    by_cases h0 : a < 194 ∨ 245 ≤ a
    · rw [show bg a = (0, 0, 0) by unfold bg; rw [if_neg h1, if_pos h0]] at hb
      rw [f_of _ a t 0 0 0 0 hb (by unfold mn mx; simp only [List.length_cons]; (repeat' split) <;> omega) (by omega), show k + 20 = k + 19 + 1 from rfl, l0_end _ _ _ _ _ _ _ _ (by simp), t_0, F_0 a t (by omega) h0]
    have hlo : 194 ≤ a := by omega
    have hhi : a < 245 := by omega
    by_cases h2 : a < 224
    · rw [show bg a = (2, 128, 191) by unfold bg; rw [if_neg h1, if_neg h0, if_pos h2, if_neg (by omega), if_neg (by omega), if_neg (by omega), if_neg (by omega)]] at hb
      match t with
      | [] =>
        rw [f_of _ a [] 2 _ _ 0 hb (by unfold mn mx; simp) (by omega), show k + 20 = k + 19 + 1 from rfl, l0_end _ _ _ _ _ _ _ _ (by simp), t_few _ _ _ _ _ (by omega) (by simp), F_x a hlo hhi]
      | b :: t =>
        rw [f_of _ a (b :: t) 2 _ _ 1 hb (by unfold mn mx; simp only [List.length_cons]; (repeat' split) <;> omega) (by simp), show k + 20 = k + 19 + 1 from rfl, List.take_succ_cons, List.take_zero,
          show (0 : Int) = ((0 : Nat) : Int) from rfl, l0_step _ _ [b] 0 _ _ _ (by simp) (by simp), F_2 a b t hlo h2]
        by_cases hb : 128 ≤ b ∧ b ≤ 191
        · rw [if_neg (by simp; omega), if_pos hb, show k + 19 = k + 18 + 1 from rfl, l0_end _ _ _ _ _ _ _ _ (by simp), t_n _ a (b :: t) ha 2 _ _ _ (by omega) (by omega) (by simp; omega) (and_31 a hlo h2)]
          rw [show (2 : Int).toNat - 1 = 1 from rfl, List.take_succ_cons, List.take_zero, show (0 : Int) = ((0 : Nat) : Int) from rfl, l1_step _ _ [b] 0 _ _ _ (by simp) (by simp) (by omega) (by omega) hb.1 hb.2,
            l1_end _ _ _ _ _ _ _ _ (by simp)]
          rfl
        · rw [if_pos (by simp; omega), if_neg hb]
    by_cases h3 : a < 240
    · obtain ⟨lo, hi, hbg, hlo', hhi'⟩ : ∃ lo hi : Int, bg a = (3, lo, hi) ∧ (lo = if a = 224 then 160 else 128) ∧ (hi = if a = 237 then 159 else 191) :=
        ⟨_, _, by unfold bg; rw [if_neg h1, if_neg h0, if_neg h2, if_pos h3, if_neg (show ¬ a = 240 by omega), if_neg (show ¬ a = 244 by omega)], rfl, rfl⟩
      rw [hbg] at hb
      have hl1 : 128 ≤ lo ∧ (a = 224 → lo = 160) ∧ (¬ a = 224 → lo = 128) := by rw [hlo']; split <;> omega
      have hh1 : hi ≤ 191 ∧ (a = 237 → hi = 159) ∧ (¬ a = 237 → hi = 191) := by rw [hhi']; split <;> omega
      clear hlo' hhi'
      match t with
      | [] =>
        rw [f_of _ a [] 3 _ _ 0 hb (by unfold mn mx; simp) (by omega), show k + 20 = k + 19 + 1 from rfl, l0_end _ _ _ _ _ _ _ _ (by simp), t_few _ _ _ _ _ (by omega) (by simp), F_x a hlo hhi]
      | [b] =>
        rw [f_of _ a [b] 3 _ _ 1 hb (by unfold mn mx; simp) (by simp), show k + 20 = k + 19 + 1 from rfl, List.take_succ_cons, List.take_zero,
          show (0 : Int) = ((0 : Nat) : Int) from rfl, l0_step _ _ [b] 0 _ _ _ (by simp) (by simp), F_y a b (by omega)]
        by_cases hp : P2 a b
        · have hp' := hp
          unfold P2 at hp'
          rw [if_neg (by simp; omega), if_pos hp, show k + 19 = k + 18 + 1 from rfl, l0_end _ _ _ _ _ _ _ _ (by simp), t_few _ _ _ _ _ (by omega) (by simp)]
        · have hp' := hp
          unfold P2 at hp'
          rw [if_pos (by simp; omega), if_neg hp]
      | b :: c :: t =>
        rw [f_of _ a (b :: c :: t) 3 _ _ 2 hb (by unfold mn mx; simp only [List.length_cons]; (repeat' split) <;> omega) (by simp), show k + 20 = k + 19 + 1 from rfl, List.take_succ_cons, List.take_succ_cons, List.take_zero,
          show (0 : Int) = ((0 : Nat) : Int) from rfl, l0_step _ _ [b, c] 0 _ _ _ (by simp) (by simp), F_3 a b c t (by omega) h3]
        by_cases hp : C3 a b c
        · have hp' := hp
          unfold C3 at hp'
          rw [if_neg (by simp; omega), show k + 19 = k + 18 + 1 from rfl, l0_step _ _ [b, c] 1 _ _ _ (by simp) (by simp), if_neg (by simp; omega), if_pos hp, show k + 18 = k + 17 + 1 from rfl,
            l0_end _ _ _ _ _ _ _ _ (by simp), t_n _ a (b :: c :: t) ha 3 _ _ _ (by omega) (by omega) (by simp; omega) (and_15 a (by omega) h3)]
          rw [show (3 : Int).toNat - 1 = 2 from rfl, List.take_succ_cons, List.take_succ_cons, List.take_zero, show (0 : Int) = ((0 : Nat) : Int) from rfl,
            l1_step _ _ [b, c] 0 _ _ _ (by simp) (by simp) (by omega) (by omega) (by simp; omega) (by simp; omega),
            l1_step _ _ [b, c] 1 _ _ _ (by simp) (by simp) (by simp; omega) (by simp; omega) (by simp; omega) (by simp; omega), l1_end _ _ _ _ _ _ _ _ (by simp)]
          unfold R3; simp only [List.getElem_cons_zero, List.getElem_cons_succ]; congr 2; omega
        · have hp' := hp
          unfold C3 at hp'
          rw [if_neg hp]
          by_cases hq : (b < lo ∨ b > hi) ∨ b < 128 ∨ b ≥ 192
          · rw [if_pos (by simp; omega)]
          · rw [if_neg (by simp; omega), show k + 19 = k + 18 + 1 from rfl, l0_step _ _ [b, c] 1 _ _ _ (by simp) (by simp), if_pos (by simp; omega)]
    · obtain ⟨lo, hi, hbg, hlo', hhi'⟩ : ∃ lo hi : Int, bg a = (4, lo, hi) ∧ (lo = if a = 240 then 144 else 128) ∧ (hi = if a = 244 then 143 else 191) :=
        ⟨_, _, by unfold bg; rw [if_neg h1, if_neg h0, if_neg h2, if_neg h3, if_neg (show ¬ a = 224 by omega), if_neg (show ¬ a = 237 by omega)], rfl, rfl⟩
      rw [hbg] at hb
      have hl1 : 128 ≤ lo ∧ (a = 240 → lo = 144) ∧ (¬ a = 240 → lo = 128) := by rw [hlo']; split <;> omega
      have hh1 : hi ≤ 191 ∧ (a = 244 → hi = 143) ∧ (¬ a = 244 → hi = 191) := by rw [hhi']; split <;> omega
      clear hlo' hhi'
      match t with
      | [] =>
        rw [f_of _ a [] 4 _ _ 0 hb (by unfold mn mx; simp) (by omega), show k + 20 = k + 19 + 1 from rfl, l0_end _ _ _ _ _ _ _ _ (by simp), t_few _ _ _ _ _ (by omega) (by simp), F_x a hlo hhi]
      | [b] =>
        rw [f_of _ a [b] 4 _ _ 1 hb (by unfold mn mx; simp) (by simp), show k + 20 = k + 19 + 1 from rfl, List.take_succ_cons, List.take_zero,
          show (0 : Int) = ((0 : Nat) : Int) from rfl, l0_step _ _ [b] 0 _ _ _ (by simp) (by simp), F_y a b (by omega)]
        by_cases hp : P2 a b
        · have hp' := hp
          unfold P2 at hp'
          rw [if_neg (by simp; omega), if_pos hp, show k + 19 = k + 18 + 1 from rfl, l0_end _ _ _ _ _ _ _ _ (by simp), t_few _ _ _ _ _ (by omega) (by simp)]
        · have hp' := hp
          unfold P2 at hp'
          rw [if_pos (by simp; omega), if_neg hp]
      | [b, c] =>
        rw [f_of _ a [b, c] 4 _ _ 2 hb (by unfold mn mx; simp) (by simp), show k + 20 = k + 19 + 1 from rfl, List.take_succ_cons, List.take_succ_cons, List.take_zero,
          show (0 : Int) = ((0 : Nat) : Int) from rfl, l0_step _ _ [b, c] 0 _ _ _ (by simp) (by simp), F_z a b c (by omega)]
        by_cases hp : P3 a b c
        · have hp' := hp
          unfold P3 P2 at hp'
          rw [if_neg (by simp; omega), show k + 19 = k + 18 + 1 from rfl, l0_step _ _ [b, c] 1 _ _ _ (by simp) (by simp), if_neg (by simp; omega), if_pos hp, show k + 18 = k + 17 + 1 from rfl,
            l0_end _ _ _ _ _ _ _ _ (by simp), t_few _ _ _ _ _ (by omega) (by simp)]
        · have hp' := hp
          unfold P3 P2 at hp'
          rw [if_neg hp]
          by_cases hq : (b < lo ∨ b > hi) ∨ b < 128 ∨ b ≥ 192
          · rw [if_pos (by simp; omega)]
          · rw [if_neg (by simp; omega), show k + 19 = k + 18 + 1 from rfl, l0_step _ _ [b, c] 1 _ _ _ (by simp) (by simp), if_pos (by simp; omega)]
      | b :: c :: d :: t =>
        rw [f_of _ a (b :: c :: d :: t) 4 _ _ 3 hb (by unfold mn mx; simp only [List.length_cons]; (repeat' split) <;> omega) (by simp), show k + 20 = k + 19 + 1 from rfl, List.take_succ_cons, List.take_succ_cons, List.take_succ_cons, List.take_zero,
          show (0 : Int) = ((0 : Nat) : Int) from rfl, l0_step _ _ [b, c, d] 0 _ _ _ (by simp) (by simp), F_4 a b c d t (by omega)]
        by_cases hp : C4 a b c d
        · have hp' := hp
          unfold C4 at hp'
          rw [if_neg (by simp; omega), show k + 19 = k + 18 + 1 from rfl, l0_step _ _ [b, c, d] 1 _ _ _ (by simp) (by simp), if_neg (by simp; omega), show k + 18 = k + 17 + 1 from rfl,
            l0_step _ _ [b, c, d] 2 _ _ _ (by simp) (by simp), if_neg (by simp; omega), if_pos hp, show k + 17 = k + 16 + 1 from rfl,
            l0_end _ _ _ _ _ _ _ _ (by simp), t_n _ a (b :: c :: d :: t) ha 4 _ _ _ (by omega) (by omega) (by simp; omega) (and_7 a (by omega) hhi)]
          rw [show (4 : Int).toNat - 1 = 3 from rfl, List.take_succ_cons, List.take_succ_cons, List.take_succ_cons, List.take_zero, show (0 : Int) = ((0 : Nat) : Int) from rfl,
            l1_step _ _ [b, c, d] 0 _ _ _ (by simp) (by simp) (by omega) (by omega) (by simp; omega) (by simp; omega),
            l1_step _ _ [b, c, d] 1 _ _ _ (by simp) (by simp) (by simp; omega) (by simp; omega) (by simp; omega) (by simp; omega),
            l1_step _ _ [b, c, d] 2 _ _ _ (by simp) (by simp) (by simp; omega) (by simp; omega) (by simp; omega) (by simp; omega), l1_end _ _ _ _ _ _ _ _ (by simp)]
          unfold R4; simp only [List.getElem_cons_zero, List.getElem_cons_succ]; congr 2; omega
        · have hp' := hp
          unfold C4 at hp'
          rw [if_neg hp]
          by_cases hq : (b < lo ∨ b > hi) ∨ b < 128 ∨ b ≥ 192
          · rw [if_pos (by simp; omega)]
          · rw [if_neg (by simp; omega), show k + 19 = k + 18 + 1 from rfl, l0_step _ _ [b, c, d] 1 _ _ _ (by simp) (by simp)]
            by_cases hq' : c < 128 ∨ c ≥ 192
            · rw [if_pos (by simp; omega)]
            · rw [if_neg (by simp; omega), show k + 18 = k + 17 + 1 from rfl, l0_step _ _ [b, c, d] 2 _ _ _ (by simp) (by simp), if_pos (by simp; omega)]

/-! The document's First -/
theorem key_ok (r : Int) (b : Bool) (hb : b = true ↔ Ok r) : some b = some (decide (Ok r)) := by
  congr 1; rw [Bool.eq_iff_iff, hb, decide_eq_true_eq]

theorem refRight_eq (r : Int) : stylusref01_Right.f r = some (decide (Ok r)) := by
  unfold stylusref01_Right.f
  (repeat' split) <;> apply key_ok <;> simp [Ok] <;> omega

theorem refOne_eq (r : Int) (h : Ok r) : stylusref01_one.f r = some (one r) := by
  unfold Ok at h
  have e1 : Int.tdiv r 64 = r / 64 := Int.tdiv_eq_ediv_of_nonneg (by omega)
  have e2 : Int.tdiv r 4096 = r / 4096 := Int.tdiv_eq_ediv_of_nonneg (by omega)
  have e3 : Int.tdiv r 262144 = r / 262144 := Int.tdiv_eq_ediv_of_nonneg (by omega)
  have m1 : Int.tmod r 64 = r % 64 := Int.tmod_eq_emod_of_nonneg (by omega)
  unfold stylusref01_one.f one
  rw [e1, e2, e3, m1]
  rw [wrap32_of (r / 64) (by omega), wrap32_of (r / 4096) (by omega), wrap32_of (r / 262144) (by omega)]
  have m2 : Int.tmod (r / 64) 64 = r / 64 % 64 := Int.tmod_eq_emod_of_nonneg (by omega)
  have m3 : Int.tmod (r / 4096) 64 = r / 4096 % 64 := Int.tmod_eq_emod_of_nonneg (by omega)
  rw [m2, m3]
  by_cases h1 : r < 128
  · rw [if_pos h1, if_pos h1]; congr 2; omega
  rw [if_neg h1, if_neg h1]
  by_cases h2 : r < 2048
  · rw [if_pos h2, if_pos h2, wrap32_of _ (by omega), wrap32_of _ (by omega)]; congr 2
    · omega
    · congr 1; omega
  rw [if_neg h2, if_neg h2]
  by_cases h3 : r < 65536
  · rw [if_pos h3, if_pos h3, wrap32_of _ (by omega), wrap32_of _ (by omega), wrap32_of _ (by omega)]; congr 2
    · omega
    · congr 1
      · omega
      · congr 1; omega
  rw [if_neg h3, if_neg h3, wrap32_of _ (by omega), wrap32_of _ (by omega), wrap32_of _ (by omega), wrap32_of _ (by omega)]; congr 2
  · omega
  · congr 1
    · omega
    · congr 1
      · omega
      · congr 1; omega


theorem v_end (k : Nat) (l : List Int) (n r i : Int) (h : ¬ i < n) : stylusref01_value.l0 (k + 1) l n r i = some (r, true) := by
  simp only [stylusref01_value.l0]; rw [if_neg h]
theorem v_step (k : Nat) (l : List Int) (i : Nat) (r : Int) (h : i < l.length) (hl : l.length ≤ 10) (h0 : 0 ≤ r) (h1 : r < 1048576) (hx : Byte l[i]) :
    stylusref01_value.l0 (k + 1) l l.length r i = if l[i] < 128 ∨ l[i] > 191 then some (0, false) else stylusref01_value.l0 k l l.length (64 * r + l[i] - 128) ((i + 1 : Nat) : Int) := by
  unfold Byte at hx
  simp only [stylusref01_value.l0]
  rw [if_pos (by omega), if_pos (by omega), if_pos (by omega), rd_at l i h, wrap_of _ (by omega), wrap32_of (64 * r) (by omega), wrap32_of l[i] (by omega), wrap32_of (64 * r + l[i]) (by omega), wrap32_of _ (by omega)]
  by_cases h3 : l[i] < 128
  · simp [h3]
  by_cases h4 : l[i] > 191
  · simp [h4]
  · simp [h3, h4]
/-- A first byte, held against where those of n bytes begin. -/
theorem v_j0 (k : Nat) (l : List Int) (n a base room : Int) (hn : n ≠ 4) (ha : Byte a) (hb : 0 ≤ base ∧ base + room < 1000 ∧ 0 ≤ room) :
    stylusref01_value.j0 (k + 3) l n a base room = if a < base ∨ a ≥ base + room then some (0, false) else stylusref01_value.l0 k l n (a - base) 1 := by
  unfold Byte at ha
  rw [show k + 3 = k + 2 + 1 from rfl]
  simp only [stylusref01_value.j0, stylusref01_value.j1, stylusref01_value.j2]
  rw [if_neg hn, wrap32_of (base + room) (by omega), wrap32_of (a - base) (by omega)]
  by_cases h1 : a < base
  · simp [h1]
  by_cases h2 : a ≥ base + room
  · simp [h1, h2]
  · simp [h1, h2]
theorem v_j0_4 (k : Nat) (l : List Int) (a base room : Int) (ha : Byte a) :
    stylusref01_value.j0 (k + 3) l 4 a base room = if a < 240 ∨ a ≥ 248 then some (0, false) else stylusref01_value.l0 k l 4 (a - 240) 1 := by
  unfold Byte at ha
  rw [show k + 3 = k + 2 + 1 from rfl]
  simp only [stylusref01_value.j0, stylusref01_value.j1, stylusref01_value.j2]
  rw [if_pos trivial, show wrap32 (240 + 8) = 248 from wrap32_of _ (by omega), wrap32_of (a - 240) (by omega)]
  by_cases h1 : a < 240
  · simp [h1]
  by_cases h2 : a ≥ 248
  · simp [h1, h2]
  · simp [h1, h2]

theorem whole_of (k : Nat) (l : List Int) (r : Int) (hv : stylusref01_value.f k l = some (r, true)) : stylusref01_whole.f k l = some (if Ok r then (r, ((one r).length : Int) == (l.length : Int)) else (0, false)) := by
  unfold stylusref01_whole.f
  rw [hv]
  simp only [Option.bind_some, if_true, refRight_eq, decide_eq_true_eq]
  by_cases h : Ok r
  · rw [if_pos h, if_pos h, refOne_eq r h]; rfl
  · rw [if_neg h, if_neg h]
theorem whole_no (k : Nat) (l : List Int) (r : Int) (hv : stylusref01_value.f k l = some (r, false)) : stylusref01_whole.f k l = some (0, false) := by
  unfold stylusref01_whole.f
  rw [hv]
  simp only [Option.bind_some, Bool.false_eq_true, if_false]
theorem one_1 (r : Int) : ((one r).length : Int) = 1 ↔ r < 128 := by unfold one; (repeat' split) <;> simp <;> omega
theorem one_2 (r : Int) : ((one r).length : Int) = 2 ↔ 128 ≤ r ∧ r < 2048 := by unfold one; (repeat' split) <;> simp <;> omega
theorem one_3 (r : Int) : ((one r).length : Int) = 3 ↔ 2048 ≤ r ∧ r < 65536 := by unfold one; (repeat' split) <;> simp <;> omega
theorem one_4 (r : Int) : ((one r).length : Int) = 4 ↔ 65536 ≤ r := by unfold one; (repeat' split) <;> simp <;> omega

/-- What the document's whole tells of bytes. -/
def Whole (l : List Int) (p : Int × Bool) : Prop := ∀ k, 10 ≤ k → stylusref01_whole.f k l = some p
theorem whole_up (l : List Int) (p : Int × Bool) (h : stylusref01_whole.f 10 l = some p) : Whole l p := fun _ hk => at_rounds (stylusref01_whole.mono _) hk h

theorem whole_1 (a : Int) (ha : Byte a) : ∃ p, Whole [a] p ∧ (p.2 = true ↔ a < 128) ∧ (a < 128 → p.1 = a) := by
  have ha' := ha
  unfold Byte at ha'
  have hv : stylusref01_value.f 10 [a] = some (a, decide (a < 128)) := by
    unfold stylusref01_value.f
    rw [if_pos (by simp), if_pos (by simp), show rd [a] 0 = a from rfl, wrap32_of a (by omega)]
  by_cases h : a < 128
  · rw [decide_eq_true h] at hv
    exact ⟨_, whole_up _ _ (whole_of _ _ _ hv), by rw [if_pos (by unfold Ok; omega)]; simp only [List.length_singleton, beq_iff_eq]; exact ⟨fun _ => h, fun _ => (one_1 a).2 h⟩, fun _ => by rw [if_pos (by unfold Ok; omega)]⟩
  · rw [decide_eq_false h] at hv
    exact ⟨_, whole_up _ _ (whole_no _ _ _ hv), by simp; omega, fun h' => absurd h' h⟩

theorem whole_2 (a b : Int) (ha : Byte a) (hb : Byte b) : ∃ p, Whole [a, b] p ∧ (p.2 = true ↔ C2 a b) ∧ (C2 a b → p.1 = R2 a b) := by
  have ha' := ha
  unfold Byte at ha'
  have hv : stylusref01_value.f 10 [a, b] = if a < 192 ∨ a ≥ 224 then some (0, false) else if b < 128 ∨ b > 191 then some (0, false) else some (64 * (a - 192) + b - 128, true) := by
    unfold stylusref01_value.f
    rw [if_pos (by simp), if_neg (by simp), if_neg (by simp), show rd [a, b] 0 = a from rfl, wrap32_of a (by omega), show (10 : Nat) = 7 + 3 from rfl, v_j0 _ _ _ _ _ _ (by simp) ha (by omega)]
    by_cases h1 : a < 192 ∨ a ≥ 224
    · rw [if_pos (by omega), if_pos h1]
    · rw [if_neg (by omega), if_neg h1, show (7 : Nat) = 6 + 1 from rfl, show (1 : Int) = ((1 : Nat) : Int) from rfl, v_step _ [a, b] 1 _ (by simp) (by simp) (by omega) (by omega) hb]
      simp only [List.getElem_cons_succ, List.getElem_cons_zero]
      rw [show (6 : Nat) = 5 + 1 from rfl, v_end _ _ _ _ _ (by simp)]
  by_cases h1 : a < 192 ∨ a ≥ 224
  · rw [if_pos h1] at hv
    exact ⟨_, whole_up _ _ (whole_no _ _ _ hv), by unfold C2; simp; omega, fun h => by unfold C2 at h; omega⟩
  rw [if_neg h1] at hv
  by_cases h2 : b < 128 ∨ b > 191
  · rw [if_pos h2] at hv
    exact ⟨_, whole_up _ _ (whole_no _ _ _ hv), by unfold C2; simp; omega, fun h => by unfold C2 at h; omega⟩
  rw [if_neg h2] at hv
  refine ⟨_, whole_up _ _ (whole_of _ _ _ hv), ?_, ?_⟩
  · rw [if_pos (by unfold Ok; omega)]
    simp only [List.length_cons, List.length_nil, beq_iff_eq]
    have := one_2 (64 * (a - 192) + b - 128)
    unfold C2; omega
  · intro h; rw [if_pos (by unfold Ok; omega)]; unfold R2; dsimp only; omega

theorem whole_3 (a b c : Int) (ha : Byte a) (hb : Byte b) (hc : Byte c) : ∃ p, Whole [a, b, c] p ∧ (p.2 = true ↔ C3 a b c) ∧ (C3 a b c → p.1 = R3 a b c) := by
  have ha' := ha
  unfold Byte at ha'
  have hv : stylusref01_value.f 10 [a, b, c] = if a < 224 ∨ a ≥ 240 then some (0, false) else if b < 128 ∨ b > 191 then some (0, false) else if c < 128 ∨ c > 191 then some (0, false) else some (64 * (64 * (a - 224) + b - 128) + c - 128, true) := by
    unfold stylusref01_value.f
    rw [if_pos (by simp), if_neg (by simp), if_pos (by simp), show rd [a, b, c] 0 = a from rfl, wrap32_of a (by omega), show (10 : Nat) = 7 + 3 from rfl, v_j0 _ _ _ _ _ _ (by simp) ha (by omega)]
    by_cases h1 : a < 224 ∨ a ≥ 240
    · rw [if_pos (by omega), if_pos h1]
    · rw [if_neg (by omega), if_neg h1, show (7 : Nat) = 6 + 1 from rfl, show (1 : Int) = ((1 : Nat) : Int) from rfl, v_step _ [a, b, c] 1 _ (by simp) (by simp) (by omega) (by omega) hb]
      simp only [List.getElem_cons_succ, List.getElem_cons_zero]
      by_cases h2 : b < 128 ∨ b > 191
      · rw [if_pos h2, if_pos h2]
      · rw [if_neg h2, if_neg h2, show (6 : Nat) = 5 + 1 from rfl, v_step _ [a, b, c] 2 _ (by simp) (by simp) (by omega) (by omega) hc]
        simp only [List.getElem_cons_succ, List.getElem_cons_zero]
        rw [show (5 : Nat) = 4 + 1 from rfl, v_end _ _ _ _ _ (by simp)]
  by_cases h1 : a < 224 ∨ a ≥ 240
  · rw [if_pos h1] at hv
    exact ⟨_, whole_up _ _ (whole_no _ _ _ hv), by unfold C3; simp; omega, fun h => by unfold C3 at h; omega⟩
  rw [if_neg h1] at hv
  by_cases h2 : b < 128 ∨ b > 191
  · rw [if_pos h2] at hv
    exact ⟨_, whole_up _ _ (whole_no _ _ _ hv), by unfold C3; simp; omega, fun h => by unfold C3 at h; omega⟩
  rw [if_neg h2] at hv
  by_cases h3 : c < 128 ∨ c > 191
  · rw [if_pos h3] at hv
    exact ⟨_, whole_up _ _ (whole_no _ _ _ hv), by unfold C3; simp; omega, fun h => by unfold C3 at h; omega⟩
  rw [if_neg h3] at hv
  refine ⟨_, whole_up _ _ (whole_of _ _ _ hv), ?_, ?_⟩
  · by_cases hk : Ok (64 * (64 * (a - 224) + b - 128) + c - 128)
    · rw [if_pos hk]
      simp only [List.length_cons, List.length_nil, beq_iff_eq]
      have := one_3 (64 * (64 * (a - 224) + b - 128) + c - 128)
      unfold Ok at hk
      unfold C3; omega
    · rw [if_neg hk]
      unfold Ok at hk
      unfold C3; simp; omega
  · intro h; unfold C3 at h; rw [if_pos (by unfold Ok; omega)]; unfold R3; dsimp only; omega

theorem whole_4 (a b c d : Int) (ha : Byte a) (hb : Byte b) (hc : Byte c) (hd : Byte d) : ∃ p, Whole [a, b, c, d] p ∧ (p.2 = true ↔ C4 a b c d) ∧ (C4 a b c d → p.1 = R4 a b c d) := by
  have ha' := ha
  unfold Byte at ha'
  have hv : stylusref01_value.f 10 [a, b, c, d] = if a < 240 ∨ a ≥ 248 then some (0, false) else if b < 128 ∨ b > 191 then some (0, false) else if c < 128 ∨ c > 191 then some (0, false) else if d < 128 ∨ d > 191 then some (0, false) else some (64 * (64 * (64 * (a - 240) + b - 128) + c - 128) + d - 128, true) := by
    unfold stylusref01_value.f
    rw [if_pos (by simp), if_neg (by simp), if_neg (by simp), show rd [a, b, c, d] 0 = a from rfl, wrap32_of a (by omega), show (10 : Nat) = 7 + 3 from rfl, show (([a, b, c, d] : List Int).length : Int) = 4 from rfl, v_j0_4 _ _ _ _ _ ha]
    by_cases h1 : a < 240 ∨ a ≥ 248
    · rw [if_pos h1, if_pos h1]
    · rw [if_neg h1, if_neg h1, show (7 : Nat) = 6 + 1 from rfl, show (1 : Int) = ((1 : Nat) : Int) from rfl, show (4 : Int) = (([a, b, c, d] : List Int).length : Int) from rfl, v_step _ [a, b, c, d] 1 _ (by simp) (by simp) (by omega) (by omega) hb]
      simp only [List.getElem_cons_succ, List.getElem_cons_zero]
      by_cases h2 : b < 128 ∨ b > 191
      · rw [if_pos h2, if_pos h2]
      · rw [if_neg h2, if_neg h2, show (6 : Nat) = 5 + 1 from rfl, v_step _ [a, b, c, d] 2 _ (by simp) (by simp) (by omega) (by omega) hc]
        simp only [List.getElem_cons_succ, List.getElem_cons_zero]
        by_cases h3 : c < 128 ∨ c > 191
        · rw [if_pos h3, if_pos h3]
        · rw [if_neg h3, if_neg h3, show (5 : Nat) = 4 + 1 from rfl, v_step _ [a, b, c, d] 3 _ (by simp) (by simp) (by omega) (by omega) hd]
          simp only [List.getElem_cons_succ, List.getElem_cons_zero]
          rw [show (4 : Nat) = 3 + 1 from rfl, v_end _ _ _ _ _ (by simp)]
  by_cases h1 : a < 240 ∨ a ≥ 248
  · rw [if_pos h1] at hv
    exact ⟨_, whole_up _ _ (whole_no _ _ _ hv), by unfold C4; simp; omega, fun h => by unfold C4 at h; omega⟩
  rw [if_neg h1] at hv
  by_cases h2 : b < 128 ∨ b > 191
  · rw [if_pos h2] at hv
    exact ⟨_, whole_up _ _ (whole_no _ _ _ hv), by unfold C4; simp; omega, fun h => by unfold C4 at h; omega⟩
  rw [if_neg h2] at hv
  by_cases h3 : c < 128 ∨ c > 191
  · rw [if_pos h3] at hv
    exact ⟨_, whole_up _ _ (whole_no _ _ _ hv), by unfold C4; simp; omega, fun h => by unfold C4 at h; omega⟩
  rw [if_neg h3] at hv
  by_cases h4 : d < 128 ∨ d > 191
  · rw [if_pos h4] at hv
    exact ⟨_, whole_up _ _ (whole_no _ _ _ hv), by unfold C4; simp; omega, fun h => by unfold C4 at h; omega⟩
  rw [if_neg h4] at hv
  refine ⟨_, whole_up _ _ (whole_of _ _ _ hv), ?_, ?_⟩
  · by_cases hk : Ok (64 * (64 * (64 * (a - 240) + b - 128) + c - 128) + d - 128)
    · rw [if_pos hk]
      simp only [List.length_cons, List.length_nil, beq_iff_eq]
      have := one_4 (64 * (64 * (64 * (a - 240) + b - 128) + c - 128) + d - 128)
      unfold Ok at hk
      unfold C4; omega
    · rw [if_neg hk]
      unfold Ok at hk
      unfold C4; simp; omega
  · intro h; unfold C4 at h; rw [if_pos (by unfold Ok; omega)]; unfold R4; dsimp only; omega

/-! begun: what is missing is tried as low, and as high, as it can be -/
def pad (l : List Int) : Nat → Int → List Int
  | 0, _ => l
  | j + 1, x => pad (l ++ [x]) j x
theorem b_pad (x0 : List Int) (n : Nat) (hn : n ≤ 4) (j : Nat) : ∀ (k : Nat) (lo hi : List Int) (p q : Int × Bool), 10 ≤ k → lo.length + j = n → hi.length = lo.length →
    Whole (pad lo j 128) p → Whole (pad hi j 191) q →
    stylusref01_begun.l1 (k + j + 1) x0 n lo hi = if p.2 = true ∨ q.2 = true then some true else stylusref01_begun.l0 k x0 ((n + 1 : Nat) : Int) := by
  induction j with
  | zero =>
    intro k lo hi p q hk hl hh hp hq
    have hp' : stylusref01_whole.f k lo = some p := hp k hk
    have hq' : stylusref01_whole.f k hi = some q := hq k hk
    simp only [stylusref01_begun.l1]
    rw [if_neg (by omega), hp', hq']
    simp only [Option.bind_some]
    rw [wrap_of _ (by omega)]
    by_cases h1 : p.2 = true
    · simp [h1]
    by_cases h2 : q.2 = true
    · simp [h2]
    · simp [h1, h2]
  | succ j ih =>
    intro k lo hi p q hk hl hh hp hq
    rw [show k + (j + 1) + 1 = (k + j + 1) + 1 by omega]
    simp only [stylusref01_begun.l1]
    rw [if_pos (by omega), if_pos (by omega), if_pos (by omega)]
    exact ih k _ _ p q hk (by simp; omega) (by simp; omega) hp hq
theorem b_step (x0 : List Int) (n j : Nat) (hn : n ≤ 4) (hj : x0.length + j = n) (k : Nat) (hk : 10 ≤ k) (p q : Int × Bool) (hp : Whole (pad x0 j 128) p) (hq : Whole (pad x0 j 191) q) :
    stylusref01_begun.l0 (k + j + 2) x0 n = if p.2 = true ∨ q.2 = true then some true else stylusref01_begun.l0 k x0 ((n + 1 : Nat) : Int) := by
  rw [show k + j + 2 = (k + j + 1) + 1 from rfl]
  simp only [stylusref01_begun.l0, Option.bind_some, List.nil_append, List.length_nil, Nat.zero_add]
  rw [if_pos (by omega), if_pos (by omega), if_pos (by omega)]
  exact b_pad x0 n hn j k x0 x0 p q hk hj rfl hp hq
theorem b_end (k : Nat) (x0 : List Int) : stylusref01_begun.l0 (k + 1) x0 ((4 + 1 : Nat) : Int) = some false := by
  simp only [stylusref01_begun.l0]; rw [if_neg (by omega)]

theorem by128 : Byte 128 := by unfold Byte; omega
theorem by191 : Byte 191 := by unfold Byte; omega

theorem begun_1 (a : Int) (ha : Byte a) (k : Nat) (hk : 60 ≤ k) : stylusref01_begun.f k [a] = some (decide (194 ≤ a ∧ a < 245)) := by
  obtain ⟨k, rfl⟩ : ∃ m, k = m + 60 := ⟨k - 60, by omega⟩
  obtain ⟨p2, w2, i2, _⟩ := whole_2 a 128 ha by128
  obtain ⟨q2, x2, y2, _⟩ := whole_2 a 191 ha by191
  obtain ⟨p3, w3, i3, _⟩ := whole_3 a 128 128 ha by128 by128
  obtain ⟨q3, x3, y3, _⟩ := whole_3 a 191 191 ha by191 by191
  obtain ⟨p4, w4, i4, _⟩ := whole_4 a 128 128 128 ha by128 by128 by128
  obtain ⟨q4, x4, y4, _⟩ := whole_4 a 191 191 191 ha by191 by191 by191
  unfold stylusref01_begun.f
  rw [show wrap64 ((([a] : List Int).length : Int) + 1) = ((2 : Nat) : Int) from wrap_of _ (by simp), show k + 60 = (k + 57) + 1 + 2 from rfl, b_step [a] 2 1 (by omega) rfl _ (by omega) p2 q2 w2 x2,
    show k + 57 = (k + 53) + 2 + 2 from rfl, b_step [a] 3 2 (by omega) rfl _ (by omega) p3 q3 w3 x3, show k + 53 = (k + 48) + 3 + 2 from rfl, b_step [a] 4 3 (by omega) rfl _ (by omega) p4 q4 w4 x4, b_end (k + 47)]
  unfold C2 at i2 y2
  unfold C3 at i3 y3
  unfold C4 at i4 y4
  simp only [i2, y2, i3, y3, i4, y4]
  by_cases h2 : 194 ≤ a ∧ a < 224
  · rw [if_pos (by omega), decide_eq_true (by omega)]
  rw [if_neg (by omega)]
  by_cases h3 : 224 ≤ a ∧ a < 240
  · rw [if_pos (by omega), decide_eq_true (by omega)]
  rw [if_neg (by omega)]
  by_cases h4 : 240 ≤ a ∧ a < 245
  · rw [if_pos (by omega), decide_eq_true (by omega)]
  rw [if_neg (by omega), decide_eq_false (by omega)]

theorem begun_2 (a b : Int) (ha : Byte a) (hb : Byte b) (k : Nat) (hk : 60 ≤ k) : stylusref01_begun.f k [a, b] = some (decide (P2 a b)) := by
  obtain ⟨k, rfl⟩ : ∃ m, k = m + 60 := ⟨k - 60, by omega⟩
  obtain ⟨p3, w3, i3, _⟩ := whole_3 a b 128 ha hb by128
  obtain ⟨q3, x3, y3, _⟩ := whole_3 a b 191 ha hb by191
  obtain ⟨p4, w4, i4, _⟩ := whole_4 a b 128 128 ha hb by128 by128
  obtain ⟨q4, x4, y4, _⟩ := whole_4 a b 191 191 ha hb by191 by191
  unfold stylusref01_begun.f
  rw [show wrap64 ((([a, b] : List Int).length : Int) + 1) = ((3 : Nat) : Int) from wrap_of _ (by simp), 
    show k + 60 = (k + 57) + 1 + 2 from rfl, b_step [a, b] 3 1 (by omega) rfl _ (by omega) p3 q3 w3 x3, show k + 57 = (k + 53) + 2 + 2 from rfl, b_step [a, b] 4 2 (by omega) rfl _ (by omega) p4 q4 w4 x4, b_end (k + 52)]
  unfold C3 at i3 y3
  unfold C4 at i4 y4
  simp only [i3, y3, i4, y4]
  by_cases h3 : a < 240
  · by_cases h : 224 ≤ a ∧ 128 ≤ b ∧ b ≤ 191 ∧ (a = 224 → 160 ≤ b) ∧ (a = 237 → b ≤ 159)
    · rw [if_pos (by omega), decide_eq_true (show P2 a b from by unfold P2; omega)]
    · rw [if_neg (by omega), if_neg (by omega), decide_eq_false (show ¬ P2 a b from by unfold P2; omega)]
  · rw [if_neg (by omega)]
    by_cases h : a < 245 ∧ 128 ≤ b ∧ b ≤ 191 ∧ (a = 240 → 144 ≤ b) ∧ (a = 244 → b ≤ 143)
    · rw [if_pos (by omega), decide_eq_true (show P2 a b from by unfold P2; omega)]
    · rw [if_neg (by omega), decide_eq_false (show ¬ P2 a b from by unfold P2; omega)]

theorem begun_3 (a b c : Int) (ha : Byte a) (hb : Byte b) (hc : Byte c) (k : Nat) (hk : 60 ≤ k) : stylusref01_begun.f k [a, b, c] = some (decide (P3 a b c)) := by
  obtain ⟨k, rfl⟩ : ∃ m, k = m + 60 := ⟨k - 60, by omega⟩
  obtain ⟨p4, w4, i4, _⟩ := whole_4 a b c 128 ha hb hc by128
  obtain ⟨q4, x4, y4, _⟩ := whole_4 a b c 191 ha hb hc by191
  unfold stylusref01_begun.f
  rw [show wrap64 ((([a, b, c] : List Int).length : Int) + 1) = ((4 : Nat) : Int) from wrap_of _ (by simp),
    show k + 60 = (k + 57) + 1 + 2 from rfl, b_step [a, b, c] 4 1 (by omega) rfl _ (by omega) p4 q4 w4 x4, b_end (k + 56)]
  unfold C4 at i4 y4
  simp only [i4, y4]
  by_cases h : 240 ≤ a ∧ a < 245 ∧ 128 ≤ b ∧ b ≤ 191 ∧ (a = 240 → 144 ≤ b) ∧ (a = 244 → b ≤ 143) ∧ 128 ≤ c ∧ c ≤ 191
  · rw [if_pos (by omega), decide_eq_true (show P3 a b c from by unfold P3 P2; omega)]
  · rw [if_neg (by omega), decide_eq_false (show ¬ P3 a b c from by unfold P3 P2; omega)]

/-! First -/
theorem r_step (k : Nat) (l : List Int) (n : Nat) (hn : 1 ≤ n) (hn4 : n ≤ 4) (hl : n ≤ l.length) (hk : 10 ≤ k) (p : Int × Bool) (hp : Whole (l.take n) p) :
    stylusref01_First.l0 (k + 2) l n = if p.2 = true then some (p.1, (n : Int)) else stylusref01_First.l0 k l ((n + 1 : Nat) : Int) := by
  rw [show k + 2 = k + 1 + 1 from rfl]
  simp only [stylusref01_First.l0, stylusref01_First.j1, decide_eq_true_eq]
  rw [if_pos (by omega), if_pos (by omega), if_pos (by omega), if_pos (by omega), Int.toNat_natCast, hp k hk]
  simp only [Option.bind_some]
  rw [wrap_of _ (by omega)]; rfl
theorem r_few (k : Nat) (l : List Int) (n : Nat) (hn4 : n ≤ 4) (h0 : 0 < l.length) (hl : n = l.length + 1) (b : Bool) (hb : stylusref01_begun.f k l = some b) :
    stylusref01_First.l0 (k + 2) l n = if b = true then some (0, 0) else some (65533, 1) := by
  rw [show k + 2 = k + 1 + 1 from rfl]
  simp only [stylusref01_First.l0, stylusref01_First.j1, decide_eq_true_eq]
  rw [if_pos (by omega), if_neg (by omega), if_neg (by omega), if_pos (by omega), hb]; rfl
theorem r_many (k : Nat) (l : List Int) (h0 : 4 ≤ l.length) :
    stylusref01_First.l0 (k + 2) l ((4 + 1 : Nat) : Int) = some (65533, 1) := by
  rw [show k + 2 = k + 1 + 1 from rfl]
  simp only [stylusref01_First.l0, stylusref01_First.j1]
  rw [if_neg (by omega)]
  simp only [Bool.false_eq_true, if_false]
  rw [if_neg (by omega), if_neg (by omega)]

theorem refFirst_eq (l : List Int) (hl : ∀ x ∈ l, Byte x) (k : Nat) (hk : 80 ≤ k) : stylusref01_First.f k l = some (F l) := by
  obtain ⟨k, rfl⟩ : ∃ m, k = m + 80 := ⟨k - 80, by omega⟩
  unfold stylusref01_First.f
  match l with
  | [] =>
    obtain ⟨m, hm⟩ : ∃ m, m = k + 78 := ⟨_, rfl⟩
    rw [show k + 80 = m + 1 + 1 by omega]
    simp only [stylusref01_First.l0, stylusref01_First.j1]
    rw [if_pos (by omega), if_neg (by simp), if_pos (by simp)]; rfl
  | [a] =>
    have ha := hl a (by simp)
    obtain ⟨p1, w1, i1, e1⟩ := whole_1 a ha
    rw [show (1 : Int) = ((1 : Nat) : Int) from rfl, show k + 80 = (k + 78) + 2 from rfl, r_step _ [a] 1 (by omega) (by omega) (by simp) (by omega) p1 w1,
      show k + 78 = (k + 76) + 2 from rfl, r_few _ [a] (1 + 1) (by omega) (by simp) rfl _ (begun_1 a ha _ (by omega))]
    by_cases h : a < 128
    · rw [if_pos (i1.2 h), e1 h, F_1 a [] h]; rfl
    · rw [if_neg (fun h' => h (i1.1 h'))]
      simp only [decide_eq_true_eq, F]
      rw [if_neg h]; split <;> rfl
  | [a, b] =>
    have ha := hl a (by simp)
    have hb := hl b (by simp)
    obtain ⟨p1, w1, i1, e1⟩ := whole_1 a ha
    obtain ⟨p2, w2, i2, e2⟩ := whole_2 a b ha hb
    rw [show (1 : Int) = ((1 : Nat) : Int) from rfl, show k + 80 = (k + 78) + 2 from rfl, r_step _ [a, b] 1 (by omega) (by omega) (by simp) (by omega) p1 w1,
      show k + 78 = (k + 76) + 2 from rfl, r_step _ [a, b] (1 + 1) (by omega) (by omega) (by simp) (by omega) p2 w2,
      show k + 76 = (k + 74) + 2 from rfl, r_few _ [a, b] (1 + 1 + 1) (by omega) (by simp) rfl _ (begun_2 a b ha hb _ (by omega))]
    simp only [F, decide_eq_true_eq]
    by_cases h : a < 128
    · rw [if_pos (i1.2 h), if_pos h, e1 h]; rfl
    rw [if_neg (fun h' => h (i1.1 h')), if_neg h]
    by_cases h2 : C2 a b
    · rw [if_pos (i2.2 h2), if_pos h2, e2 h2]; rfl
    rw [if_neg (fun h' => h2 (i2.1 h')), if_neg h2]
    split <;> rfl
  | [a, b, c] =>
    have ha := hl a (by simp)
    have hb := hl b (by simp)
    have hc := hl c (by simp)
    obtain ⟨p1, w1, i1, e1⟩ := whole_1 a ha
    obtain ⟨p2, w2, i2, e2⟩ := whole_2 a b ha hb
    obtain ⟨p3, w3, i3, e3⟩ := whole_3 a b c ha hb hc
    rw [show (1 : Int) = ((1 : Nat) : Int) from rfl, show k + 80 = (k + 78) + 2 from rfl, r_step _ [a, b, c] 1 (by omega) (by omega) (by simp) (by omega) p1 w1,
      show k + 78 = (k + 76) + 2 from rfl, r_step _ [a, b, c] (1 + 1) (by omega) (by omega) (by simp) (by omega) p2 w2,
      show k + 76 = (k + 74) + 2 from rfl, r_step _ [a, b, c] (1 + 1 + 1) (by omega) (by omega) (by simp) (by omega) p3 w3,
      show k + 74 = (k + 72) + 2 from rfl, r_few _ [a, b, c] (1 + 1 + 1 + 1) (by omega) (by simp) rfl _ (begun_3 a b c ha hb hc _ (by omega))]
    simp only [F, decide_eq_true_eq]
    by_cases h : a < 128
    · rw [if_pos (i1.2 h), if_pos h, e1 h]; rfl
    rw [if_neg (fun h' => h (i1.1 h')), if_neg h]
    by_cases h2 : C2 a b
    · rw [if_pos (i2.2 h2), if_pos h2, e2 h2]; rfl
    rw [if_neg (fun h' => h2 (i2.1 h')), if_neg h2]
    by_cases h3 : C3 a b c
    · rw [if_pos (i3.2 h3), if_pos h3, e3 h3]; rfl
    rw [if_neg (fun h' => h3 (i3.1 h')), if_neg h3]
    split <;> rfl
  | a :: b :: c :: d :: t =>
    have ha := hl a (by simp)
    have hb := hl b (by simp)
    have hc := hl c (by simp)
    have hd := hl d (by simp)
    obtain ⟨p1, w1, i1, e1⟩ := whole_1 a ha
    obtain ⟨p2, w2, i2, e2⟩ := whole_2 a b ha hb
    obtain ⟨p3, w3, i3, e3⟩ := whole_3 a b c ha hb hc
    obtain ⟨p4, w4, i4, e4⟩ := whole_4 a b c d ha hb hc hd
    rw [show (1 : Int) = ((1 : Nat) : Int) from rfl, show k + 80 = (k + 78) + 2 from rfl, r_step _ (a :: b :: c :: d :: t) 1 (by omega) (by omega) (by simp) (by omega) p1 w1,
      show k + 78 = (k + 76) + 2 from rfl, r_step _ (a :: b :: c :: d :: t) (1 + 1) (by omega) (by omega) (by simp) (by omega) p2 w2,
      show k + 76 = (k + 74) + 2 from rfl, r_step _ (a :: b :: c :: d :: t) (1 + 1 + 1) (by omega) (by omega) (by simp) (by omega) p3 w3,
      show k + 74 = (k + 72) + 2 from rfl, r_step _ (a :: b :: c :: d :: t) (1 + 1 + 1 + 1) (by omega) (by omega) (by simp) (by omega) p4 w4,
      show k + 72 = (k + 70) + 2 from rfl, r_many _ (a :: b :: c :: d :: t) (by simp)]
    simp only [F]
    by_cases h : a < 128
    · rw [if_pos (i1.2 h), if_pos h, e1 h]; rfl
    rw [if_neg (fun h' => h (i1.1 h')), if_neg h]
    by_cases h2 : C2 a b
    · rw [if_pos (i2.2 h2), if_pos h2, e2 h2]; rfl
    rw [if_neg (fun h' => h2 (i2.1 h')), if_neg h2]
    by_cases h3 : C3 a b c
    · rw [if_pos (i3.2 h3), if_pos h3, e3 h3]; rfl
    rw [if_neg (fun h' => h3 (i3.1 h')), if_neg h3]
    by_cases h4 : C4 a b c d
    · rw [if_pos (i4.2 h4), if_pos h4, e4 h4]; rfl
    rw [if_neg (fun h' => h4 (i4.1 h')), if_neg h4]

/-! Decode, and the law -/
theorem refDec_l0 (f : Nat) : ∀ (k : Nat) (l acc : List Int), (∀ x ∈ l, Byte x) → l.length ≤ f → f + 100 < k → acc.length + f < 1000000 →
    stylusref01_Decode.l0 k l acc = some (acc ++ decF f l) := by
  induction f with
  | zero =>
    intro k l acc hl h0 hk _
    obtain ⟨k, rfl⟩ : ∃ m, k = m + 1 := ⟨k - 1, by omega⟩
    obtain rfl : l = [] := List.eq_nil_of_length_eq_zero (by omega)
    simp [stylusref01_Decode.l0, decF]
  | succ f ih =>
    intro k l acc hl h0 hk ha
    obtain ⟨k, rfl⟩ : ∃ m, k = m + 1 := ⟨k - 1, by omega⟩
    simp only [stylusref01_Decode.l0, decF]
    by_cases hn : l = []
    · subst hn; simp
    have hp : 0 < l.length := List.length_pos_iff.2 hn
    have hg := G_snd l hn
    rw [if_pos (by omega), if_neg hn, refFirst_eq l hl k (by omega)]
    simp only [Option.bind_some]
    by_cases h2 : (F l).2 = 0
    · have hG : G l = (65533, 1) := by unfold G; rw [if_pos h2]
      rw [if_pos h2, if_pos (by omega), if_pos (by omega), hG, ih k (l.drop 1) _ (fun x hx => hl x (List.mem_of_mem_drop hx)) (by simp; omega) (by omega) (by simp; omega)]
      simp
    · have hG : G l = F l := by unfold G; rw [if_neg h2]
      rw [hG] at hg ⊢
      rw [if_neg h2, if_pos (by omega), if_pos (by omega), if_pos (by omega), ih k _ _ (fun x hx => hl x (List.mem_of_mem_drop hx)) (by simp; omega) (by omega) (by simp; omega)]
      simp

theorem same_l0 (l : List Int) (hl : l.length ≤ 100000) (d : Nat) : ∀ (k i : Nat), i ≤ l.length → l.length - i = d → d < k → stylusref01_Same.l0 k l l i = some true := by
  induction d with
  | zero =>
    intro k i h0 hd hk
    obtain ⟨k, rfl⟩ : ∃ m, k = m + 1 := ⟨k - 1, by omega⟩
    simp only [stylusref01_Same.l0]; rw [if_neg (by omega)]
  | succ d ih =>
    intro k i h0 hd hk
    obtain ⟨k, rfl⟩ : ∃ m, k = m + 1 := ⟨k - 1, by omega⟩
    simp only [stylusref01_Same.l0]
    rw [if_pos (by omega), if_pos (by omega), if_pos (by omega), if_pos trivial, wrap_of _ (by omega), show ((i : Int) + 1) = ((i + 1 : Nat) : Int) by omega]
    exact ih k (i + 1) (by omega) (by omega) (by omega)
theorem same_eq (l : List Int) (hl : l.length ≤ 100000) (k : Nat) (hk : l.length < k) : stylusref01_Same.f k l l = some true := by
  unfold stylusref01_Same.f
  rw [if_pos rfl]
  exact same_l0 l hl l.length k 0 (by omega) (by omega) hk

theorem decF_len (f : Nat) : ∀ l : List Int, (decF f l).length ≤ f := by
  induction f with
  | zero => intro l; simp [decF]
  | succ f ih => intro l; simp only [decF]; split; · simp
                 · have := ih (l.drop (G l).2.toNat); simp; omega

theorem knows_20 : styluslaw01_knows.f 20 = some true := by decide +kernel
theorem knows_eq (k : Nat) (hk : 20 ≤ k) : styluslaw01_knows.f k = some true := at_rounds styluslaw01_knows.mono hk knows_20

theorem UtfReads : styluslaw01_UtfReads.Pure := by
  intro l _ _ hw
  have hl : ∀ x ∈ l, Byte x := fun x hx => u8_of x (hw x hx)
  refine ⟨l.length + 200, ?_⟩
  unfold styluslaw01_UtfReads.f
  rw [knows_eq _ (by omega)]
  by_cases h : (l.length : Int) > 1000
  · rw [if_pos h]; rfl
  · rw [if_neg h, first_eq l hl _ (by omega), refFirst_eq l hl _ (by omega)]
    simp only [Option.bind_some, if_true]
    have hd := decF_len l.length l
    unfold utf_Decode.f stylusref01_Decode.f
    rw [if_pos (by omega), decAll_eq l hl, refDec_l0 l.length _ l [] hl (Nat.le_refl _) (by omega) (by simp; omega)]
    simp only [Option.bind_some, List.nil_append]
    rw [same_eq _ (by omega) _ (by omega)]
    simp
end Go.Proofs.Ythbdiambigfgdaa.Pure
