/- UtfBack: bytes that runes have made are read back as those runes, whatever comes behind; no condition. -/
import Derived.Test.YthbdiambigfgdaaPUtfBackx4
import Derived.Test.YthbdiambigfgdaaUtfBackPlain
namespace Go.Proofs.Ythbdiambigfgdaa.Pure
open Go.RowKit Go.Proofs.Ythbdiambigfgdaa.PUtfBack Go.Proofs.YthbdiambigfgdaaW.PrintWords Go.Proofs.YthbdiambigfgdaaW.PrintLast
open Hand Ut

theorem key_ok (r : Int) (b : Bool) (hb : b = true ↔ Ok r) : some b = some (decide (Ok r)) := by
  congr 1; rw [Bool.eq_iff_iff, hb, decide_eq_true_eq]
theorem refRight_eq (r : Int) : stylusref01_Right.f r = some (decide (Ok r)) := by
  unfold stylusref01_Right.f
  (repeat' split) <;> apply key_ok <;> simp [Ok] <;> omega

theorem same_l0 (l : List Int) (hl : l.length ≤ 100000) (d : Nat) : ∀ (k i : Nat), i ≤ l.length → l.length - i = d → d < k → stylusref01_Same.l0 k l l i = some true := by
  induction d with
  | zero =>
    intro k i h0 hd hk
    obtain ⟨k, rfl⟩ : ∃ m, k = m + 1 := ⟨k - 1, by omega⟩
    simp only [stylusref01_Same.l0]; rw [if_neg (by omega)]
  | succ d ih =>
    intro k i h0 hd hk
    obtain ⟨k, rfl⟩ : ∃ m, k = m + 1 := ⟨k - 1, by omega⟩
    simp only [stylusref01_Same.l0]
    rw [if_pos (by omega), if_pos (by omega), if_pos (by omega), if_pos trivial, wrap_of _ (by omega), show ((i : Int) + 1) = ((i + 1 : Nat) : Int) by omega]
    exact ih k (i + 1) (by omega) (by omega) (by omega)
theorem same_eq (l : List Int) (hl : l.length ≤ 100000) (k : Nat) (hk : l.length < k) : stylusref01_Same.f k l l = some true := by
  unfold stylusref01_Same.f
  rw [if_pos rfl]
  exact same_l0 l hl l.length k 0 (by omega) (by omega) hk

theorem knows_20 : styluslaw01_knows.f 20 = some true := by decide +kernel
theorem knows_eq (k : Nat) (hk : 20 ≤ k) : styluslaw01_knows.f k = some true := at_rounds styluslaw01_knows.mono hk knows_20

theorem all_l0 (l : List Int) (hl : l.length ≤ 100000) (d : Nat) : ∀ (k i : Nat), i ≤ l.length → l.length - i = d → d < k → stylusref01_All.l0 k l i = some (decide (∀ x ∈ l.drop i, Ok x)) := by
  induction d with
  | zero =>
    intro k i h0 hd hk
    obtain ⟨k, rfl⟩ : ∃ m, k = m + 1 := ⟨k - 1, by omega⟩
    simp only [stylusref01_All.l0]; rw [if_neg (by omega), List.drop_eq_nil_of_le (by omega)]; simp
  | succ d ih =>
    intro k i h0 hd hk
    obtain ⟨k, rfl⟩ : ∃ m, k = m + 1 := ⟨k - 1, by omega⟩
    have hi : i < l.length := by omega
    simp only [stylusref01_All.l0]
    rw [if_pos (by omega), if_pos (by omega), rd_at l i hi, refRight_eq, wrap_of _ (by omega), show ((i : Int) + 1) = ((i + 1 : Nat) : Int) by omega]
    simp only [Option.bind_some, decide_eq_true_eq]
    rw [ih k (i + 1) (by omega) (by omega) (by omega), List.drop_eq_getElem_cons hi]
    by_cases h : Ok l[i]
    · rw [if_pos h]
      congr 1
      rw [decide_eq_decide, List.forall_mem_cons]
      exact ⟨fun h' => ⟨h, h'⟩, And.right⟩
    · rw [if_neg h, decide_eq_false (fun h' => h (h' _ (List.mem_cons_self ..)))]
theorem all_eq (l : List Int) (hl : l.length ≤ 100000) (k : Nat) (hk : l.length < k) : stylusref01_All.f k l = some (decide (∀ x ∈ l, Ok x)) := by
  unfold stylusref01_All.f
  exact all_l0 l hl l.length k 0 (by omega) (by omega) hk

theorem dec_eq (l : List Int) (hb : ∀ x ∈ l, Byte x) (hl : l.length ≤ 1000000) : utf_Decode.f l = some (decA l) := by
  unfold utf_Decode.f
  rw [if_pos hl, decAll_eq l hb]
  rfl
theorem enc_eq (l : List Int) (hl : l.length ≤ 1000000) : utf_Encode.f l = some (l.flatMap enc) := by
  unfold utf_Encode.f
  rw [if_pos hl, encAll_eq]

theorem j2_eq (k : Nat) (l m : List Int) (hl : l.length ≤ 500) (hm : m.length ≤ 500) (hok : ∀ x ∈ m, Ok x) (hk : 600 < k) : styluslaw01_UtfBack.j2 k l m (l.map fix ++ m) false = some true := by
  obtain ⟨k, rfl⟩ : ∃ q, k = q + 1 := ⟨k - 1, by omega⟩
  have hfm := flat_len m
  have hd : decA (m.flatMap enc) = m := by
    have := decA_enc m []
    rw [List.append_nil, map_fix m hok] at this
    rw [this]; simp [decA, decF]
  have tail : ((utf_Encode.f m).bind fun t171 => ((utf_Decode.f t171).bind fun t174 => ((stylusref01_Same.f k t174 m).bind fun t177 => (if t177 = true then ((styluslaw01_knows.f k).bind fun t178 => (some t178)) else (some false))))) = some true := by
    rw [enc_eq m (by omega), Option.bind_some, dec_eq _ (flat_byte m) (by omega), Option.bind_some, hd, same_eq m (by omega) k (by omega), Option.bind_some, if_pos rfl, knows_eq k (by omega), Option.bind_some]
  simp only [styluslaw01_UtfBack.j2]
  rw [if_neg (by decide), all_eq l (by omega) k (by omega), Option.bind_some]
  by_cases h : ∀ x ∈ l, Ok x
  · rw [if_pos (decide_eq_true h), if_pos (by omega), if_pos (by rw [List.length_append, List.length_map]; omega)]
    rw [show ((l.length : Int)).toNat = l.length from Int.toNat_natCast _, map_fix l h, List.take_left, same_eq l (by omega) k (by omega), Option.bind_some, if_pos rfl]
    exact tail
  · rw [if_neg (by simpa using h)]
    exact tail

theorem UtfBack : styluslaw01_UtfBack.Pure := by
  intro l b _ _ _ _ _ hw
  have hb : ∀ x ∈ b, Byte x := fun x hx => u8_of x (hw x hx)
  refine ⟨2000, ?_⟩
  have big : ∀ k, 100 < k → styluslaw01_UtfBack.j0 k l b true = some true := by
    intro k hk
    obtain ⟨k, rfl⟩ : ∃ q, k = q + 1 := ⟨k - 1, by omega⟩
    simp only [styluslaw01_UtfBack.j0]
    rw [if_pos trivial, knows_eq k (by omega), Option.bind_some]
  unfold styluslaw01_UtfBack.f
  by_cases h : (l.length : Int) > 500
  · rw [if_pos h]; exact big _ (by omega)
  rw [if_neg h]
  by_cases h2 : (b.length : Int) > 500
  · rw [decide_eq_true h2]; exact big _ (by omega)
  rw [decide_eq_false h2]
  have hml : (decA b).length ≤ b.length := decF_len' _ _
  have hmo : ∀ x ∈ decA b, Ok x := decF_ok _ b hb
  have hfl := flat_len l
  have hall := decA_enc l b
  generalize hk : (2000 : Nat) = K
  obtain ⟨k, rfl⟩ : ∃ q, K = q + 1 := ⟨K - 1, by omega⟩
  simp only [styluslaw01_UtfBack.j0]
  rw [if_neg (by decide), dec_eq b hb (by omega), Option.bind_some, all_eq _ (by omega) k (by omega), Option.bind_some, if_pos (decide_eq_true hmo), decide_eq_false (by omega)]
  obtain ⟨k, rfl⟩ : ∃ q, k = q + 1 := ⟨k - 1, by omega⟩
  simp only [styluslaw01_UtfBack.j1]
  rw [if_neg (by decide), enc_eq l (by omega), Option.bind_some, if_pos (by omega)]
  rw [dec_eq _ (fun x hx => (List.mem_append.1 hx).elim (flat_byte l x) (hb x)) (by rw [List.length_append]; omega), Option.bind_some, hall]
  rw [if_pos (by rw [wrap_of _ (by omega), List.length_append, List.length_map]; omega), if_pos (by omega), if_pos (by rw [List.length_append, List.length_map]; omega)]
  rw [show ((l.length : Int)).toNat = (l.map fix).length by rw [List.length_map, Int.toNat_natCast], List.drop_left, same_eq _ (by omega) k (by omega), Option.bind_some]
  exact j2_eq k l (decA b) (by omega) (by omega) hmo (by omega)

end Go.Proofs.Ythbdiambigfgdaa.Pure
