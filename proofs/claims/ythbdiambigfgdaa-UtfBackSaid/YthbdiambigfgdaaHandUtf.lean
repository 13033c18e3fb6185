/- utf.Encode answers the bytes of the string that its runes make, up to a million runes. -/
import Derived.Test.YthbdiambigfgdaaProg
import Derived.Test.YthbdiambigfgdaaWMore
import Derived.Test.YthbdiambigfgdaaWWords
import Derived.Below
import Derived.OwnWalk
import Derived.Tactics
import Derived.WalkKit
import Derived.KernelRfl
import Derived.RowKit3
import Derived.Outline
import Derived.Laws.Rows
import Derived.Laws.Cover4
import Derived.Lib.ConvBytes
import Derived.LoopTactic
import Derived.WalkSpells
import Derived.Lib.OthersKept
import Derived.Lib.Hide
import Derived.WalkSmall
import Derived.Laws.RangeAny
namespace Go.Proofs.Ythbdiambigfgdaa.Hand
open Go.RowKit Go.Proofs.YthbdiambigfgdaaW.PrintWords Go.Proofs.YthbdiambigfgdaaW.PrintMore

theorem conv_runes (w : World) (A : Option Addr) (c : Nat) (l : List Int) (h : Kd.C (Kd.int .i32) w A l.length l) :
    (convert 22 9 (.slice A l.length c)).run Try.prog w = .ok (.string (runesBytes l)) w := by
  cases A with
  | none =>
    have h0 : l = [] := by
      cases l with
      | nil => rfl
      | cons x l =>
        obtain ⟨ad, h1, _⟩ := Kd.at_int h 0 (by omega) (by simp)
        cases h1
    subst h0
    exact run_convert_runes_nil w 22 9 21 _ _ Try.underlying22 Try.underlying21 Try.underlying9
  | some a =>
    have := run_convert_runes (P := Try.prog) w 22 9 21 a l.length c l (Nat.le_refl _) Try.underlying22 Try.underlying21 Try.underlying9 (fun j hj => by
      obtain ⟨ad, h1, h2⟩ := Kd.at_int h (j : Int) (by omega) (by omega)
      cases h1
      simpa [rd] using h2)
    rwa [List.take_length] at this

def encAll (l : List Int) : List Int := bytesOf (runesBytes l)
theorem encAll_len (l : List Int) : (encAll l).length = (runesBytes l).size := bytesOf_length _

theorem bytes_V (w : World) (s : ByteArray) (hs : s.size ≤ 9223372036854775807) :
    Kd.V (Kd.int .u8) 5 (Lib.bytesWorld w 5 s) w.heap.size (fun k_ => (w.heap.size ≤ k_)) (.slice (some ⟨w.heap.size, 0, none⟩) s.size (grownCap w s.size 0 5)) (bytesOf s) := by
  refine ⟨some ⟨w.heap.size, 0, none⟩, grownCap w s.size 0 5, by rw [bytesOf_length], by rw [bytesOf_length]; exact grownCap_ge _ _ _ _, fun W' hW => ?_⟩
  refine Kd.C_of_reads (enc := Value.int .u8) (d := (0 : Int)) (h1 := fun _ => rfl) ⟨rfl, by rw [bytesOf_length]; exact hs, fun _ => ⟨_, rfl, fun j hj => ?_⟩⟩
  rw [bytesOf_length] at hj
  rw [add_plain, World.cell?_of_block (w := Lib.bytesWorld w 5 s) (hW w.heap.size (Nat.le_refl _) (by rw [Lib.bytesWorld_size]; omega)), Lib.bytesWorld_cell w 5 s j hj]
  have h' : j < s.data.toList.length := by rw [data_length]; exact hj
  simp [bytesOf, List.getD_eq_getElem?_getD, List.getElem?_eq_getElem h']

set_option maxRecDepth 100000 in
theorem encode_calls (A : Option Addr) (c : Nat) (l : List Int) (w : World) (hr : Kd.C (Kd.int .i32) w A l.length l) (hl : l.length ≤ 1000000) :
    Calls Try.prog 19 #[.slice A l.length c] w fun e w' => ∃ v0_ : Value, e = .returned (v0_) ∧ Kd.V (Kd.int .u8) 5 w' w.heap.size (fun k_ => (w.heap.size ≤ k_)) v0_ (encAll l) ∧ Below w.heap.size w w' := by
  have k1 := conv_runes w A c l hr
  have k2 := fun W => print_bytes (P := Try.prog) 9 31 5 Try.underlying9 Try.underlying31 Try.underlying5 (runesBytes l) W
  have hs := runesBytes_size_le l
  go_enter Try.func19, Try.ntmps19
  go_wp2
  go_ret
  exact ⟨_, rfl, bytes_V w _ (by omega), bytes_below (Below.refl _ _) (Nat.le_refl _) 5 _⟩

theorem V_string {P : Program} {w : World} {src dst e e' : TypeId} {base : Nat} {ok : Nat → Prop} {v : Value} {xs : List Int} (hs : P.underlying src = some (.slice e)) (he : P.underlying e = some (.int .u8)) (hd : P.underlying dst = some .string)
    (h : Kd.V (Kd.int .u8) e' w base ok v xs) : (convert src dst v).run P w = .ok (.string (strOfNums xs)) w := by
  obtain ⟨A, c, rfl, _, hF⟩ := h
  exact Kd.C_string hs he hd (Kd.F_now hF)

/-- The runes of a string from a place on, as a range tells them. -/
def runesFrom (s : ByteArray) : Nat → Nat → List Int
  | 0, _ => []
  | f + 1, pos => if pos < s.size then ((Utf8.decode s pos).1 : Int) :: runesFrom s f (pos + (Utf8.decode s pos).2) else []
def decAll (l : List Int) : List Int := runesFrom (strOfNums l) (strOfNums l).size 0

theorem width_pos (s : ByteArray) (pos : Nat) (h : pos < s.size) : 1 ≤ (Utf8.decode s pos).2 := by
  by_cases ha : (s[pos]'h).toNat < 128
  · rw [decode_ascii s pos h ha]
    exact Nat.le_refl _
  · exact (decode_high s pos h (by omega)).2
theorem decode_wid (s : ByteArray) (pos : Nat) : (Utf8.decode s pos).2 ≤ 4 := by
  unfold Utf8.decode
  simp only []
  (repeat' split) <;> simp
theorem runes_end (s : ByteArray) (f pos : Nat) (h : ¬ pos < s.size) : runesFrom s f pos = [] := by
  cases f <;> simp [runesFrom, h]

theorem info21 : (Try.prog.info? 21).map (fun i => (i.zero, i.size, i.bytes)) = some (some (.int .i32 0), 1, 4) := by kernel_rfl

set_option maxRecDepth 1000000 in
set_option maxHeartbeats 1600000 in
theorem decode_calls (A : Option Addr) (c : Nat) (l : List Int) (w : World) (hr : Kd.C (Kd.int .u8) w A l.length l) (hl : l.length ≤ 1000000) :
    Calls Try.prog 24 #[.slice A l.length c] w fun e w' => ∃ v0_ : Value, e = .returned (v0_) ∧ Kd.R (Kd.int .i32) 21 w' w.heap.size (fun _ => True) v0_ (decAll l) ∧ Below w.heap.size w w' := by
  obtain ⟨i0, hi, hz0, hz1, hz2⟩ := info_parts info21
  have k1 := Kd.C_string (P := Try.prog) (dst := 9) Try.underlying31 Try.underlying5 Try.underlying9 (c := c) hr
  have hsz : (strOfNums l).size = l.length := by simp [strOfNums, ByteArray.size]
  have hall : decAll l = runesFrom (strOfNums l) (strOfNums l).size 0 := rfl
  obtain ⟨s, hs⟩ : ∃ s, s = strOfNums l := ⟨_, rfl⟩
  rw [← hs] at k1 hsz hall
  have hsz' : s.size ≤ 1000000 := by omega
  have HA := Lib.hid hall
  clear hs hall hsz
  go_enter Try.func24, Try.ntmps24
  go_wp2
  go_loopw [3] (fun v wr => ∃ (pos f : Nat) (acc : List Int), wr.heap[w.heap.size]? = some (.stringIter s pos) ∧ wr.ownsRow (w.heap.size + 1) 21 1 v acc.length (encs (Value.int .i32) acc) ∧ Below w.heap.size w wr ∧ Hid (acc ++ runesFrom s f pos = runesFrom s s.size 0) ∧ s.size ≤ pos + f ∧ acc.length ≤ pos ∧ pos ≤ s.size + 8) (fun _ wr => s.size - wr.iterPos w.heap.size)
  case atStart => exact ⟨0, s.size, [], World.iter_heap w s 0, World.ownsRow_nil _ _ _ _, (Below.refl _ _).alloc (Nat.le_refl _) _, rfl, by omega, by simp, by omega⟩
  case round =>
    obtain ⟨pos, f, acc, hit, hown, hbw, HS, hb, hlen, hps⟩ := hrel
    have hpos0 := iterPos_of hit
    by_cases hp : pos < s.size
    · have hnx : ∀ ty, (Instr.next (.pointer (some ⟨w.heap.size, 0, none⟩)) true ty).run Try.prog wr = _ := fun ty => Lib.run_next_any_at wr w.heap.size s pos ty hit hp
      have hwd := width_pos s pos hp
      have hwd4 : (Utf8.decode s pos).2 ≤ 4 := decode_wid s pos
      obtain ⟨f, rfl⟩ : ∃ f', f = f' + 1 := ⟨f - 1, by omega⟩
      have hit2 := Lib.iterAt_heap wr w.heap.size s pos (pos + (Utf8.decode s pos).2) hit
      have hbw2 := Lib.below_iterAt hbw (k := w.heap.size) (Nat.le_refl _) s (pos + (Utf8.decode s pos).2)
      have hown2 := ownsRow_iterAt hown (k := w.heap.size) (by omega) s (pos + (Utf8.decode s pos).2)
      obtain ⟨W1, hW1⟩ : ∃ W1, W1 = wr.iterAt w.heap.size s (pos + (Utf8.decode s pos).2) := ⟨_, rfl⟩
      rw [← hW1] at hnx hit2 hbw2 hown2
      have hBlt := (Array.getElem?_eq_some_iff.1 hit2).1
      have HR : Hid (runesFrom s (f + 1) pos = ((Utf8.decode s pos).1 : Int) :: runesFrom s f (pos + (Utf8.decode s pos).2)) := by show _ = _; rw [runesFrom, if_pos hp]
      clear hW1 hit hown hbw
      go_wp2_with (at_builtin; refine wpList_append_own _ rfl _ _ 22 rfl (w.heap.size + 1) 21 i0 (.int .i32 0) 1 4 Try.underlying22 hi hz0 hz1 hz2 rfl (by decide) _ _ _ rfl (hown2.alloc _) ⟨W1.heap.size, 0, none⟩ 1 1 [.int .i32 ((Utf8.decode s pos).1 : Int)] rfl rfl (cell_one_new _ _ _) (fun x hx => by simp at hx; rcases hx with rfl | rfl <;> rfl) (by unfold maxLen; omega) (by omega) (by simp; omega) ?_; intro v' w3 hown' hgrow3 hnil3; have hit3 : w3.heap[w.heap.size]? = some (.stringIter s (pos + (Utf8.decode s pos).2)) := (by rw [hgrow3.block w.heap.size (by simp; omega) (fun h => by have := (hown2.lt _ h.symm).1; omega), Below.heap_alloc _ _ _ hBlt]; exact hit2); have hbw3 : Below w.heap.size w w3 := (Below.grown (hbw2.alloc (by omega) _) hgrow3 (by simp; omega) (fun j hj => by have := (hown2.lt _ hj).1; omega)); have X : Aside (w3.ownsRow (w.heap.size + 1) 21 1 v' (acc.length + 1) (encs (Value.int .i32) acc ++ [.int .i32 ((Utf8.decode s pos).1 : Int)]) ∧ w3.heap[w.heap.size]? = some (.stringIter s (pos + (Utf8.decode s pos).2)) ∧ Below w.heap.size w w3) := ⟨hown', hit3, hbw3⟩; clear hown' hgrow3 hnil3 hit3 hbw3)
      go_roundw
      case rel => exact ⟨_, f, acc ++ [((Utf8.decode s pos).1 : Int)], X.out.2.1, (by rw [encs, List.map_append, List.length_append]; exact X.out.1), X.out.2.2, (by show _ = _; rw [← HS.out, HR.out]; simp), by omega, by simp; omega, by omega⟩
      case measure => rw [iterPos_of X.out.2.1, hpos0]; omega
    · have hnx : ∀ ty, (Instr.next (.pointer (some ⟨w.heap.size, 0, none⟩)) true ty).run Try.prog wr = _ := fun ty => Lib.run_next_end_at wr w.heap.size s pos ty hit hp
      go_wp2
      go_ret
      refine ⟨_, rfl, ?_, hbw⟩
      rw [HA.out, ← HS.out, runes_end _ _ _ hp, List.append_nil]
      exact Kd.R_of_own (own_weaken hown (by omega)) (fun _ _ => trivial)
end Go.Proofs.Ythbdiambigfgdaa.Hand
