/- keys.first, as printed, answers what KeysPlain's firstF says, in plain Lean. -/
import Derived.Test.YthbdiambigfgdahDoorUtfEq
import Derived.Test.YthbdiambigfgdahDoorPKeysAllx1
namespace Go.Proofs.YthbdiambigfgdahDoor.Keys
open Go.RowKit Go.Proofs.YthbdiambigfgdahDoorW.PrintWords Go.Proofs.YthbdiambigfgdahDoorW.PrintLast Go.Proofs.YthbdiambigfgdahDoorW.PrintMore
open Hand Ut
set_option linter.unusedVariables false
set_option linter.unusedSimpArgs false

def told (a : List Int) (c : Int) : K := toldV (strOfNums a) c
def enc (s : Step) : Int × Int × Int × Int := ((s.1 : Int), s.2.1, s.2.2.1, s.2.2.2)
theorem strOfNums_size' (a : List Int) : (strOfNums a).size = a.length := by simp [strOfNums, ByteArray.size]
theorem told_f (a : List Int) (c : Int) (h : a.length ≤ 1000) : PKeysFirst.keys_told.f (strOfNums a) c = some (told a c) := by
  unfold PKeysFirst.keys_told.f
  rw [if_pos (by rw [strOfNums_size']; exact h)]
  rfl
theorem last_f (c : Int) : PKeysFirst.keys_last.f c = some (decide (64 ≤ c ∧ c ≤ 126)) := by
  unfold PKeysFirst.keys_last.f
  by_cases h : c ≥ 64
  · rw [if_pos h]
    congr 1
    have : 64 ≤ c := h
    simp [this]
  · rw [if_neg h]
    have : ¬ 64 ≤ c := h
    simp [this]
theorem w64 (i : Nat) (h : i < 100000) : wrap64 (i : Int) = (i : Int) := by rw [wrap_of]; omega
theorem w1 (i : Nat) (j : Int) (h : i < 100000) (hj : 0 ≤ j ∧ j < 100) : wrap64 ((i : Int) + j) = (i : Int) + j := by rw [wrap_of]; omega

theorem seq_l0 (l : List Int) (hl : l.length ≤ 1000) (h2 : 2 ≤ l.length) : ∀ (d k i f : Nat), i + d = 13 → d + 1 ≤ k → (l.drop 2).length < f + i →
    PKeysFirst.keys_sequence.l0 k l (l.drop 2) ((l.drop 2).length : Int) (i : Int) = some (enc (seqF told (l.drop 2) f i)) := by
  have hul : (l.drop 2).length + 2 = l.length := by simp; omega
  have htk : ∀ i : Nat, (l.take (2 + i)).drop 2 = (l.drop 2).take i := fun i => by rw [List.drop_take, Nat.add_sub_cancel_left]
  generalize hu : l.drop 2 = u at *
  intro d
  induction d with
  | zero =>
    intro k i f hi hk hf
    obtain ⟨k, rfl⟩ : ∃ k', k = k' + 1 := ⟨k - 1, by omega⟩
    simp only [PKeysFirst.keys_sequence.l0]
    by_cases h : i < u.length
    · obtain ⟨f, rfl⟩ : ∃ f', f = f' + 1 := ⟨f - 1, by omega⟩
      rw [if_pos (by omega), if_pos (by omega), if_pos (by omega), rd_at u i h, last_f, Option.bind_some]
      simp only [seqF, dif_pos h]
      by_cases hc : 64 ≤ u[i] ∧ u[i] ≤ 126
      · rw [if_pos (by simpa using hc), show ((2 : Int) + (i : Int)) = ((2 + i : Nat) : Int) by omega, w64 _ (by omega), if_pos (by omega), if_pos (by omega), Int.toNat_natCast, htk, told_f _ _ (by simp; omega), Option.bind_some, if_pos hc, w1 i 3 (by omega) (by omega)]
        simp [enc]
      · rw [if_neg (by simpa using hc), if_neg hc]
        by_cases a1 : u[i] < 48
        · rw [if_pos a1, if_pos (Or.inl a1), w1 i 2 (by omega) (by omega)]; simp [enc, K0]
        · rw [if_neg a1]
          by_cases a2 : u[i] > 63
          · rw [if_pos a2, if_pos (Or.inr (Or.inl a2)), w1 i 2 (by omega) (by omega)]; simp [enc, K0]
          · rw [if_neg a2, if_pos (by omega), if_pos (Or.inr (Or.inr (by omega))), w1 i 2 (by omega) (by omega)]; simp [enc, K0]
    · rw [if_neg (by omega)]
      cases f with
      | zero => simp [seqF, enc, K0]
      | succ f => simp [seqF, h, enc, K0]
  | succ d ih =>
    intro k i f hi hk hf
    obtain ⟨k, rfl⟩ : ∃ k', k = k' + 1 := ⟨k - 1, by omega⟩
    simp only [PKeysFirst.keys_sequence.l0]
    by_cases h : i < u.length
    · obtain ⟨f, rfl⟩ : ∃ f', f = f' + 1 := ⟨f - 1, by omega⟩
      rw [if_pos (by omega), if_pos (by omega), if_pos (by omega), rd_at u i h, last_f, Option.bind_some]
      simp only [seqF, dif_pos h]
      by_cases hc : 64 ≤ u[i] ∧ u[i] ≤ 126
      · rw [if_pos (by simpa using hc), show ((2 : Int) + (i : Int)) = ((2 + i : Nat) : Int) by omega, w64 _ (by omega), if_pos (by omega), if_pos (by omega), Int.toNat_natCast, htk, told_f _ _ (by simp; omega), Option.bind_some, if_pos hc, w1 i 3 (by omega) (by omega)]
        simp [enc]
      · rw [if_neg (by simpa using hc), if_neg hc]
        by_cases a1 : u[i] < 48
        · rw [if_pos a1, if_pos (Or.inl a1), w1 i 2 (by omega) (by omega)]; simp [enc, K0]
        · rw [if_neg a1]
          by_cases a2 : u[i] > 63
          · rw [if_pos a2, if_pos (Or.inr (Or.inl a2)), w1 i 2 (by omega) (by omega)]; simp [enc, K0]
          · rw [if_neg a2]
            by_cases a3 : 12 ≤ i
            · rw [if_pos (by omega), if_pos (Or.inr (Or.inr a3)), w1 i 2 (by omega) (by omega)]; simp [enc, K0]
            · rw [if_neg (by omega), if_neg (by omega), w1 i 1 (by omega) (by omega)]
              exact ih k (i + 1) f (by omega) (by omega) (by omega)
    · rw [if_neg (by omega)]
      cases f with
      | zero => simp [seqF, enc, K0]
      | succ f => simp [seqF, h, enc, K0]

theorem seq_f (l : List Int) (hl : l.length ≤ 1000) (h2 : 2 ≤ l.length) (k : Nat) (hk : 20 ≤ k) : PKeysFirst.keys_sequence.f k l = some (enc (seqF told (l.drop 2) ((l.drop 2).length + 1) 0)) := by
  unfold PKeysFirst.keys_sequence.f
  rw [if_pos (by omega)]
  exact seq_l0 l hl h2 13 k 0 _ rfl (by omega) (by omega)

theorem bytes_tail {c : Int} {t : List Int} (h : ∀ x ∈ c :: t, Byte x) : ∀ x ∈ t, Byte x := fun x hx => h x (by simp [hx])

/-- Over the first print, where no escape stands ahead. -/
theorem plain_f (c : Int) (t : List Int) (hb : ∀ x ∈ c :: t, Byte x) (hc : c ≠ 27) (k : Nat) (hk : 30 ≤ k) : PKeysFirst.keys_first.f k (c :: t) = some (enc (plainF (c :: t))) := by
  have h0 : Byte c := hb c (by simp)
  unfold Byte at h0
  have hr : rd (c :: t) 0 = c := rfl
  have hF := first_eq (c :: t) hb (k - 1) (by omega)
  obtain ⟨k, rfl⟩ : ∃ k', k = k' + 1 := ⟨k - 1, by omega⟩
  unfold PKeysFirst.keys_first.f
  rw [if_pos (by simp), hr, if_neg hc]
  simp only [plainF]
  by_cases a1 : c = 13
  · rw [if_pos a1, if_pos a1] <;> rfl
  rw [if_neg a1, if_neg a1]
  by_cases a2 : c = 10
  · rw [if_pos a2, if_pos a2] <;> rfl
  rw [if_neg a2, if_neg a2]
  by_cases a3 : c = 9
  · rw [if_pos a3, if_pos a3] <;> rfl
  rw [if_neg a3, if_neg a3]
  simp only [PKeysFirst.keys_first.j0]
  by_cases a4 : c = 8
  · rw [if_pos a4, if_pos (Or.inl a4)] <;> rfl
  rw [if_neg a4]
  by_cases a5 : c = 127
  · rw [if_pos (by simp [a5]), if_pos (Or.inr a5)] <;> rfl
  rw [if_neg (by simp [a5]), if_neg (c := c = 8 ∨ c = 127) (by omega)]
  by_cases a6 : c < 32
  · rw [if_pos a6, if_pos a6, wrap32_of c (by omega), wrap32_of (c + 96) (by omega)] <;> rfl
  rw [if_neg a6, if_neg a6]
  have hn := F_le (c :: t)
  rw [show k + 1 - 1 = k from rfl] at hF
  rw [hF, Option.bind_some]
  have : (((F (c :: t)).2.toNat : Nat) : Int) = (F (c :: t)).2 := by omega
  simp [enc, this]

theorem plain_mods (b : List Int) : (plainF b).2.2.2 = 0 ∨ (plainF b).2.2.2 = 4 := by
  cases b with
  | nil => exact Or.inl rfl
  | cons c t =>
    simp only [plainF]
    (repeat' split) <;> simp

theorem behind_f (t : List Int) (hb : ∀ x ∈ (27 : Int) :: t, Byte x) (hl : t.length < 1000) (k : Nat) (hk : 40 ≤ k) : PKeysBehind.keys_behind.f k (27 :: t) = some (enc (behindF told t)) := by
  unfold PKeysBehind.keys_behind.f
  cases t with
  | nil => rw [if_pos (by rfl)]; rfl
  | cons c t =>
    have hr : rd ((27 : Int) :: c :: t) 1 = c := rfl
    rw [if_neg (by simp; omega), if_pos (by simp; omega), hr]
    simp only [behindF]
    by_cases a1 : c = 27
    · rw [if_pos a1, if_pos a1]; rfl
    rw [if_neg a1, if_neg a1]
    by_cases a2 : c = 91
    · rw [if_pos a2, if_pos a2, seq_f _ (by simp at hl ⊢; omega) (by simp) k (by omega), Option.bind_some]; rfl
    rw [if_neg a2, if_neg a2]
    by_cases a3 : c = 79
    · rw [if_pos a3, if_pos a3]
      cases t with
      | nil => rw [if_pos (by rfl)]; rfl
      | cons e t =>
        have hr2 : rd ((27 : Int) :: c :: e :: t) 2 = e := rfl
        rw [if_neg (by simp; omega), if_pos (by simp; omega), hr2, last_f, Option.bind_some]
        by_cases a4 : 64 ≤ e ∧ e ≤ 126
        · have ht := told_f [] e (by simp)
          have hs : strOfNums [] = (⟨#[]⟩ : ByteArray) := rfl
          rw [hs] at ht
          rw [if_pos (by simpa using a4), ht, Option.bind_some]
          simp [enc, a4]
        · rw [if_neg (by simpa using a4)]
          simp [enc, a4, K0]
    rw [if_neg a3, if_neg a3, if_pos (by simp; omega)]
    have hd : Hand.dropL ((27 : Int) :: c :: t) 1 = c :: t := rfl
    have hf := plain_f c t (bytes_tail hb) a1 k (by omega)
    have hp := plain_le (c :: t)
    have hm := plain_mods (c :: t)
    simp only [hd, hf, Option.bind_some]
    by_cases hz : 0 < (plainF (c :: t)).1
    · rw [if_pos (show (enc (plainF (c :: t))).1 > 0 by simp only [enc]; omega), if_pos hz]
      have e1 : wrap64 ((enc (plainF (c :: t))).1 + 1) = (((plainF (c :: t)).1 + 1 : Nat) : Int) := by
        simp only [enc]
        rw [wrap_of]
        · omega
        · simp at hp hl; omega
      have e2 : Go.bits .or .i64 (enc (plainF (c :: t))).2.2.2 2 = (plainF (c :: t)).2.2.2 + 2 := by
        simp only [enc]
        rcases hm with h | h <;> rw [h] <;> decide
      rw [e1, e2]
      simp [enc]
    · rw [if_neg (show ¬ (enc (plainF (c :: t))).1 > 0 by simp only [enc]; omega), if_neg hz]

theorem first_f (b : List Int) (h0 : b ≠ []) (hb : ∀ x ∈ b, Byte x) (hl : b.length ≤ 1000) (k : Nat) (hk : 50 ≤ k) : PKeysAll.keys_first.f k b = some (enc (firstF told b)) := by
  cases b with
  | nil => exact absurd rfl h0
  | cons c t =>
    simp only [firstF]
    have hr : rd (c :: t) 0 = c := rfl
    by_cases hc : c = 27
    · subst hc
      unfold PKeysAll.keys_first.f
      rw [if_pos (by simp), hr, if_pos rfl, if_pos rfl, behind_f t hb (by simp at hl; omega) k (by omega), Option.bind_some]
    · rw [if_neg hc]
      have e : PKeysAll.keys_first.f k (c :: t) = PKeysFirst.keys_first.f k (c :: t) := by
        obtain ⟨k, rfl⟩ : ∃ k', k = k' + 1 := ⟨k - 1, by omega⟩
        unfold PKeysAll.keys_first.f PKeysFirst.keys_first.f
        rw [hr, if_neg hc, if_neg hc]
        rfl
      rw [e]
      exact plain_f c t hb hc k (by omega)
end Go.Proofs.YthbdiambigfgdahDoor.Keys
