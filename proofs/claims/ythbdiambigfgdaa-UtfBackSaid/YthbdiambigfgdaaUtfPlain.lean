/- Plain facts on the bytes of runes: what a rune's bytes are, by numbers. No condition. -/
import Derived.Test.YthbdiambigfgdaaHandUtf
namespace Go.Proofs.Ythbdiambigfgdaa.Ut
open Go.RowKit Hand Go.Proofs.YthbdiambigfgdaaW.PrintWords

def Ok (r : Int) : Prop := (0 ≤ r ∧ r < 55296) ∨ (57343 < r ∧ r ≤ 1114111)
instance (r : Int) : Decidable (Ok r) := by unfold Ok; exact inferInstance

/-- A right rune's bytes. -/
def one (r : Int) : List Int :=
  if r < 128 then [r] else if r < 2048 then [192 + r / 64, 128 + r % 64]
  else if r < 65536 then [224 + r / 4096, 128 + r / 64 % 64, 128 + r % 64]
  else [240 + r / 262144, 128 + r / 4096 % 64, 128 + r / 64 % 64, 128 + r % 64]
/-- A rune's bytes. -/
def enc (r : Int) : List Int := if Ok r then one r else one 65533

theorem one_len (r : Int) : 1 ≤ (one r).length ∧ (one r).length ≤ 4 := by unfold one; (repeat' split) <;> simp
theorem enc_len (r : Int) : 1 ≤ (enc r).length ∧ (enc r).length ≤ 4 := by unfold enc; split <;> exact one_len _

theorem bytesOf_append (a b : ByteArray) : bytesOf (a ++ b) = bytesOf a ++ bytesOf b := by
  simp [bytesOf, ByteArray.data_append]

theorem valid_iff (r : Int) : Utf8.valid r = true ↔ Ok r := by
  unfold Utf8.valid Ok
  simp only [Bool.or_eq_true, Bool.and_eq_true, decide_eq_true_eq]
  omega

theorem u8_nat (n : Nat) : (((UInt8.ofNat n).toNat : Nat) : Int) = ((n % 256 : Nat) : Int) := by simp [UInt8.toNat_ofNat']

theorem enc_model (r : Int) : bytesOf (Utf8.encode r) = enc r := by
  unfold Utf8.encode enc
  by_cases h : Ok r
  · rw [if_pos h]
    have hv := (valid_iff r).2 h
    unfold Ok at h
    simp only [hv, if_true]
    unfold one
    by_cases h1 : r < 128
    · rw [if_pos h1, if_pos (by omega)]
      simp only [bytesOf, List.map_cons, List.map_nil, u8_nat]; congr 1; omega
    · rw [if_neg h1, if_neg (by omega)]
      by_cases h2 : r < 2048
      · rw [if_pos h2, if_pos (by omega)]
        simp only [bytesOf, List.map_cons, List.map_nil, u8_nat]; congr 1; · omega
        congr 1; omega
      · rw [if_neg h2, if_neg (by omega)]
        by_cases h3 : r < 65536
        · rw [if_pos h3, if_pos (by omega)]
          simp only [bytesOf, List.map_cons, List.map_nil, u8_nat]; congr 1; · omega
          congr 1; · omega
          congr 1; omega
        · rw [if_neg h3, if_neg (by omega)]
          simp only [bytesOf, List.map_cons, List.map_nil, u8_nat]; congr 1; · omega
          congr 1; · omega
          congr 1; · omega
          congr 1; omega
  · rw [if_neg h]
    have hv : Utf8.valid r = false := by
      cases hb : Utf8.valid r with
      | false => rfl
      | true => exact absurd ((valid_iff r).1 hb) h
    have e : Utf8.encode r = Utf8.encode 65533 := by
      unfold Utf8.encode
      simp only [hv, show Utf8.valid 65533 = true from rfl]
      rfl
    have e2 : bytesOf (Utf8.encode 65533) = one 65533 := by decide +kernel
    have e3 := e
    unfold Utf8.encode at e3
    rw [e3]; exact e2

theorem foldl_enc (l : List Int) (s : ByteArray) : bytesOf (l.foldl (fun r n => r ++ Utf8.encode n) s) = bytesOf s ++ l.flatMap enc := by
  induction l generalizing s with
  | nil => simp
  | cons x l ih => simp only [List.foldl_cons, ih, bytesOf_append, enc_model, List.flatMap_cons, List.append_assoc]

theorem encAll_eq (l : List Int) : encAll l = l.flatMap enc := by
  unfold encAll runesBytes
  rw [foldl_enc]
  rw [show bytesOf ByteArray.empty = [] from rfl, List.nil_append]

/-- A rune's own bounds, out of what the row tells of it. -/
theorem i32_of (x : Int) (h : (Lit.int .i32 x).wf = true) : -2147483648 ≤ x ∧ x ≤ 2147483647 := by
  simp [Lit.wf, IntKind.min, IntKind.max, IntKind.signed, IntKind.bits] at h; exact ⟨by omega, by omega⟩
theorem u8_of (x : Int) (h : (Lit.int .u8 x).wf = true) : 0 ≤ x ∧ x ≤ 255 := by
  simp [Lit.wf, IntKind.min, IntKind.max, IntKind.signed, IntKind.bits] at h; exact ⟨by omega, by omega⟩
theorem wrap_of (x : Int) (h : -9223372036854775808 ≤ x ∧ x ≤ 9223372036854775807) : wrap64 x = x := by unfold wrap64; omega
theorem wrap32_of (x : Int) (h : -2147483648 ≤ x ∧ x ≤ 2147483647) : wrap32 x = x := by unfold wrap32; omega
theorem rd_at (l : List Int) (i : Nat) (h : i < l.length) : rd l (i : Int) = l[i] := by simp [rd, h]
end Go.Proofs.Ythbdiambigfgdaa.Ut
