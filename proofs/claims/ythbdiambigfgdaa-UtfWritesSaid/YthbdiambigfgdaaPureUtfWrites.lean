/- UtfWrites: which runes are right, and the bytes of any, are what the document says; no condition. -/
import Derived.Test.YthbdiambigfgdaaPUtfWritesx4
import Derived.Test.YthbdiambigfgdaaUtfPlain
namespace Go.Proofs.Ythbdiambigfgdaa.Pure
open Go.RowKit Go.Proofs.Ythbdiambigfgdaa.PUtfWrites Go.Proofs.YthbdiambigfgdaaW.PrintWords Go.Proofs.YthbdiambigfgdaaW.PrintLast
open Hand Ut

theorem key_ok (r : Int) (b : Bool) (hb : b = true ↔ Ok r) : some b = some (decide (Ok r)) := by
  congr 1; rw [Bool.eq_iff_iff, hb, decide_eq_true_eq]

theorem right_eq (r : Int) : utf_Right.f r = some (decide (Ok r)) := by
  unfold utf_Right.f
  (repeat' split) <;> apply key_ok <;> simp [Ok] <;> omega
theorem refRight_eq (r : Int) : stylusref01_Right.f r = some (decide (Ok r)) := by
  unfold stylusref01_Right.f
  (repeat' split) <;> apply key_ok <;> simp [Ok] <;> omega

theorem refOne_eq (r : Int) (h : Ok r) : stylusref01_one.f r = some (one r) := by
  unfold Ok at h
  have e1 : Int.tdiv r 64 = r / 64 := Int.tdiv_eq_ediv_of_nonneg (by omega)
  have e2 : Int.tdiv r 4096 = r / 4096 := Int.tdiv_eq_ediv_of_nonneg (by omega)
  have e3 : Int.tdiv r 262144 = r / 262144 := Int.tdiv_eq_ediv_of_nonneg (by omega)
  have m1 : Int.tmod r 64 = r % 64 := Int.tmod_eq_emod_of_nonneg (by omega)
  unfold stylusref01_one.f one
  rw [e1, e2, e3, m1]
  rw [wrap32_of (r / 64) (by omega), wrap32_of (r / 4096) (by omega), wrap32_of (r / 262144) (by omega)]
  have m2 : Int.tmod (r / 64) 64 = r / 64 % 64 := Int.tmod_eq_emod_of_nonneg (by omega)
  have m3 : Int.tmod (r / 4096) 64 = r / 4096 % 64 := Int.tmod_eq_emod_of_nonneg (by omega)
  rw [m2, m3]
  by_cases h1 : r < 128
  · rw [if_pos h1, if_pos h1]; congr 2; omega
  rw [if_neg h1, if_neg h1]
  by_cases h2 : r < 2048
  · rw [if_pos h2, if_pos h2, wrap32_of _ (by omega), wrap32_of _ (by omega)]; congr 2
    · omega
    · congr 1; omega
  rw [if_neg h2, if_neg h2]
  by_cases h3 : r < 65536
  · rw [if_pos h3, if_pos h3, wrap32_of _ (by omega), wrap32_of _ (by omega), wrap32_of _ (by omega)]; congr 2
    · omega
    · congr 1
      · omega
      · congr 1; omega
  rw [if_neg h3, if_neg h3, wrap32_of _ (by omega), wrap32_of _ (by omega), wrap32_of _ (by omega), wrap32_of _ (by omega)]; congr 2
  · omega
  · congr 1
    · omega
    · congr 1
      · omega
      · congr 1; omega

theorem refEnc_l0 (l : List Int) (hl : l.length ≤ 100000) (d : Nat) :
    ∀ (k i : Nat) (acc : List Int), i ≤ l.length → l.length - i = d → d < k → acc.length ≤ 4 * i → stylusref01_Encode.l0 k l acc i = some (acc ++ (l.drop i).flatMap enc) := by
  induction d with
  | zero =>
    intro k i acc h0 hd hk _
    obtain ⟨k, rfl⟩ : ∃ m, k = m + 1 := ⟨k - 1, by omega⟩
    simp only [stylusref01_Encode.l0]
    rw [if_neg (by omega), List.drop_eq_nil_of_le (by omega)]; simp
  | succ d ih =>
    intro k i acc h0 hd hk hc
    obtain ⟨k, rfl⟩ : ∃ m, k = m + 1 := ⟨k - 1, by omega⟩
    have hi : i < l.length := by omega
    have hx := enc_len l[i]
    simp only [stylusref01_Encode.l0]
    rw [if_pos (by omega), if_pos (by omega), rd_at l i hi, refRight_eq, refOne_eq 65533 (by decide), wrap_of _ (by omega), show ((i : Int) + 1) = ((i + 1 : Nat) : Int) by omega]
    simp only [Option.bind_some, decide_eq_true_eq]
    have step : ∀ e : List Int, e = enc l[i] → (if acc.length + e.length < 140737488355328 then stylusref01_Encode.l0 k l (acc ++ e) ((i + 1 : Nat) : Int) else none) = some (acc ++ (l.drop i).flatMap enc) := by
      rintro e rfl
      rw [if_pos (by omega), ih k (i + 1) _ (by omega) (by omega) (by omega) (by simp only [List.length_append]; omega), List.drop_eq_getElem_cons hi, List.flatMap_cons, List.append_assoc]
    by_cases h : Ok l[i]
    · rw [if_pos h, refOne_eq _ h]
      simp only [Option.bind_some]
      exact step _ (by unfold enc; rw [if_pos h])
    · rw [if_neg h]
      exact step _ (by unfold enc; rw [if_neg h])

theorem refEnc_eq (l : List Int) (hl : l.length ≤ 100000) (k : Nat) (hk : l.length < k) : stylusref01_Encode.f k l = some (encAll l) := by
  unfold stylusref01_Encode.f
  have := refEnc_l0 l hl l.length k 0 [] (by omega) (by omega) hk (by simp)
  rw [encAll_eq]
  simpa using this

theorem knows_20 : styluslaw01_knows.f 20 = some true := by decide +kernel
theorem knows_eq (k : Nat) (hk : 20 ≤ k) : styluslaw01_knows.f k = some true := at_rounds styluslaw01_knows.mono hk knows_20

theorem UtfWrites : styluslaw01_UtfWrites.Pure := by
  intro l r _ _ _ _
  refine ⟨l.length + 20, ?_⟩
  unfold styluslaw01_UtfWrites.f
  rw [knows_eq _ (by omega)]
  by_cases h : (l.length : Int) > 1000
  · rw [if_pos h]; rfl
  · rw [if_neg h, right_eq, refRight_eq]
    simp only [Option.bind_some, beq_self_eq_true, if_true]
    unfold utf_Encode.f
    rw [if_pos (by omega), refEnc_eq l (by omega) _ (by omega)]
    simp

end Go.Proofs.Ythbdiambigfgdaa.Pure
