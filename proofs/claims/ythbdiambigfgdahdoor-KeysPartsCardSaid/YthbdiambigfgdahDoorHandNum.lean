/- keys.number, and strings.Split at one byte, by hand; no condition beyond a length that any machine holds. -/
import Derived.Test.YthbdiambigfgdahDoorShelf
import Derived.WalkKit
import Derived.BigQuiet
import Derived.Shelf.Strings.SlTrimAscii
import Derived.Shelf.Strconv.Atoi
import Derived.Shelf.Strings.Split
import Derived.Lib.ConvBytes
import Derived.Lib.OthersKept
import Derived.Test.YthbdiambigfgdahDoorWWords
import Derived.Test.YthbdiambigfgdahDoorWMore
import Derived.Test.YthbdiambigfgdahDoorWLast
namespace Go.Proofs.YthbdiambigfgdahDoor.Hand
open Go.RowKit Go.Shelf Go.Lib Go.Proofs.YthbdiambigfgdahDoorW.PrintWords

def digs : List UInt8 := [48, 49, 50, 51, 52, 53, 54, 55, 56, 57]
/-- What keys.number answers. -/
def numV (s : ByteArray) : Int × Bool := if s.size = 0 ∨ 3 < s.size ∨ Lib.trimS s.data.toList digs ≠ [] then (0, false) else ((Lib.atoi s.data.toList).getD 0, true)

theorem drop_nil {p : UInt8 → Bool} : ∀ l : List UInt8, l.dropWhile p = [] → ∀ x ∈ l, p x = true
  | [], _ => by simp
  | a :: l, h => by
    intro x hx
    by_cases hp : p a = true
    · rw [List.dropWhile_cons_of_pos hp] at h
      rcases List.mem_cons.1 hx with rfl | hx
      · exact hp
      · exact drop_nil l h x hx
    · rw [List.dropWhile_cons_of_neg hp] at h
      exact absurd h (by simp)
theorem trim_nil (l : List UInt8) (h : Lib.trimS l digs = []) : ∀ x ∈ l, digs.contains x = true := by
  unfold Lib.trimS Lib.trimLeftS Lib.trimRightS at h
  have h1 := drop_nil _ h
  have h2 : ∀ m : List UInt8, m.dropWhile (digs.contains ·) ≠ [] → ∃ x ∈ m.dropWhile (digs.contains ·), digs.contains x = false := by
    intro m hm
    induction m with
    | nil => exact absurd rfl hm
    | cons a m ih =>
      by_cases hp : digs.contains a = true
      · rw [List.dropWhile_cons_of_pos (by simpa using hp)] at hm ⊢
        exact ih hm
      · rw [List.dropWhile_cons_of_neg (by simpa using hp)] at hm ⊢
        exact ⟨a, by simp, by simpa using hp⟩
  have h3 : l.reverse.dropWhile (digs.contains ·) = [] := by
    by_cases he : l.reverse.dropWhile (digs.contains ·) = []
    · exact he
    · obtain ⟨x, hx, hf⟩ := h2 _ he
      have := h1 x (by simpa using hx)
      rw [hf] at this
      cases this
  intro x hx
  exact drop_nil _ h3 x (by simpa using hx)
theorem dig_val (x : UInt8) (h : digs.contains x = true) : ∃ d, Lib.digitVal x = some d := by
  have hx : x ∈ digs := by simpa using h
  unfold digs at hx
  simp only [List.mem_cons, List.mem_nil_iff, or_false] at hx
  rcases hx with rfl | rfl | rfl | rfl | rfl | rfl | rfl | rfl | rfl | rfl <;> exact ⟨_, rfl⟩
theorem dec_from : ∀ (l : List UInt8) (acc : Nat), (∀ x ∈ l, digs.contains x = true) → ∃ n, Lib.decFrom acc l = some n
  | [], acc, _ => ⟨acc, rfl⟩
  | b :: r, acc, h => by
    obtain ⟨d, hd⟩ := dig_val b (h b (by simp))
    obtain ⟨n, hn⟩ := dec_from r (acc * 10 + d) (fun x hx => h x (by simp [hx]))
    exact ⟨n, by simp only [Lib.decFrom, hd, hn]⟩
theorem atoi_digs (l : List UInt8) (h0 : l ≠ []) (h : ∀ x ∈ l, digs.contains x = true) : ∃ n, Lib.atoi l = some n := by
  match l with
  | [] => exact absurd rfl h0
  | b :: r =>
    obtain ⟨n, hn⟩ := dec_from (b :: r) 0 h
    have hb : digs.contains b = true := h b (by simp)
    have h45 : (b == 45) = false := by
      apply beq_eq_false_iff_ne.2
      rintro rfl
      exact absurd hb (by decide)
    have h43 : (b == 43) = false := by
      apply beq_eq_false_iff_ne.2
      rintro rfl
      exact absurd hb (by decide)
    exact ⟨n, by simp [Lib.atoi, h45, h43, Lib.decNat, hn]⟩

theorem data_nil (s : ByteArray) : s.data.toList = [] ↔ s.size = 0 := by
  have := Lib.size_eq s
  constructor
  · intro h; rw [this, h]; rfl
  · intro h; exact List.length_eq_zero_iff.1 (by omega)
theorem str_ne (s : ByteArray) (h : s.size ≠ 0) : s.toList.isEmpty = false := by
  rw [Lib.toList_data]
  cases hq : s.data.toList with
  | nil => exact absurd ((data_nil s).1 hq) h
  | cons _ _ => rfl
theorem arr_ne (l : List UInt8) (h : l ≠ []) : (ByteArray.mk l.toArray).toList.isEmpty = false := by
  apply str_ne
  intro e
  exact h (by simpa using (data_nil ⟨l.toArray⟩).2 e)

set_option maxHeartbeats 1000000 in
theorem number_calls (s : ByteArray) (w : World) (hs : s.size ≤ 9223372036854775807) :
    Calls Tryd.prog 16 #[.string s] w fun e w' => e = .returned (.tuple #[.int .i64 (numV s).1, .bool (numV s).2]) ∧ Below w.heap.size w w' := by
  have hcon := Any.strings_Trim_laid Tryd.lays160 (by kernel_rfl) s ⟨#[48, 49, 50, 51, 52, 53, 54, 55, 56, 57]⟩ w hs (by decide) (ascii_of_all (by decide))
  change Calls Tryd.prog 18 _ _ (fun e w' => e = .returned (.string ⟨(Lib.trimS s.data.toList digs).toArray⟩) ∧ Below w.heap.size w w') at hcon
  by_cases h0 : s.size = 0
  · have he : s = ⟨#[]⟩ := by apply ByteArray.ext; exact Array.eq_empty_of_size_eq_zero h0
    subst he
    go_enter Tryd.func16, Tryd.ntmps16
    go_wp2
    go_ret2
    exact ⟨rfl, Below.refl _ _⟩
  · have e0 := str_ne s h0
    by_cases h3 : 3 < s.size
    · have hn : numV s = (0, false) := by unfold numV; rw [if_pos (Or.inr (Or.inl h3))]
      have e3 : decide ((3 : Int) < (s.size : Int)) = true := decide_eq_true (by omega)
      rw [hn]
      go_enter Tryd.func16, Tryd.ntmps16
      go_wp2
      go_ret2
      exact ⟨rfl, Below.refl _ _⟩
    · have e3 : decide ((3 : Int) < (s.size : Int)) = false := decide_eq_false (by omega)
      by_cases ht : Lib.trimS s.data.toList digs = []
      · obtain ⟨n, hn⟩ := atoi_digs s.data.toList (fun h => h0 ((data_nil s).1 h)) (trim_nil _ ht)
        have hV : numV s = (n, true) := by unfold numV; rw [if_neg (by simp [h0, h3, ht]), hn]; rfl
        have hat := fun w => Any.strconv_Atoi Tryd.lays172 s n (by omega) hn w
        change ∀ w, Calls Tryd.prog 19 _ _ (fun e w' => e = .returned (.tuple #[.int .i64 n, .nilIface]) ∧ ∃ t, w' = Lib.bytesWorld w 5 t) at hat
        rw [ht] at hcon
        rw [hV]
        go_enter Tryd.func16, Tryd.ntmps16
        go_wp2_with (first | (go_at_call 18; refine hcon.mono ?_; rintro e w1 ⟨rfl, hb⟩) | (go_at_call 19; refine (hat _).mono ?_; rintro e w2 ⟨rfl, t2, rfl⟩))
        go_quiet (fail)
        go_wp2
        go_ret2
        exact ⟨rfl, pw_below_drewN (hb.trans (bytes_below (Below.refl _ _) hb.size _ _)) _⟩
      · have hV : numV s = (0, false) := by unfold numV; rw [if_pos (Or.inr (Or.inr ht))]
        have e4 := arr_ne _ ht
        generalize (ByteArray.mk (Lib.trimS s.data.toList digs).toArray) = r at hcon e4
        rw [hV]
        go_enter Tryd.func16, Tryd.ntmps16
        go_wp2_with (go_at_call 18; refine hcon.mono ?_; rintro e w1 ⟨rfl, hb⟩)
        go_ret2
        exact ⟨rfl, hb⟩
end Go.Proofs.YthbdiambigfgdahDoor.Hand
