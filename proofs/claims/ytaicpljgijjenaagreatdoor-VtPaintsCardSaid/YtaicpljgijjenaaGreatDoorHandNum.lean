/- vt.numbers at the strings that the statement's example reaches, by hand; condition: each part of the string is one byte, a digit. -/
import Derived.Test.YtaicpljgijjenaaGreatDoorHandTerm
import Derived.Test.YtaicpljgijjenaaGreatDoorShelf
import Derived.Test.YtaicpljgijjenaaGreatDoorVLast
import Derived.BigQuiet
import Derived.LoopTactic
import Derived.Deep.LoopGhost
import Derived.Shelf.Abstract
import Derived.Shelf.Strings.SlTrimAscii
import Derived.Shelf.Strconv.Atoi
import Derived.Shelf.Strings.Split
import Derived.Lib.SliceRun
import Derived.WalkSpells
namespace Go.Proofs.YtaicpljgijjenaaGreatDoor.Hand
open Go.RowKit Go.Shelf Go.Lib Go.Proofs.YtaicpljgijjenaaGreatDoorW.PrintWords Go.Proofs.YtaicpljgijjenaaGreatDoorW.PrintLast
set_option linter.unusedVariables false
set_option linter.unusedSimpArgs false

def digs : List UInt8 := [48, 49, 50, 51, 52, 53, 54, 55, 56, 57]
def semi : ByteArray := ⟨#[59]⟩
def pieces (s : ByteArray) : List ByteArray := Lib.splitB semi 0 (Lib.countB s semi) s
theorem pieces_len (s : ByteArray) : (pieces s).length = Lib.countB s semi + 1 := Lib.splitB_all semi (by decide) 0 _ s rfl
theorem count_le (s : ByteArray) : Lib.countB s semi ≤ s.size := Lib.countB_le semi (by decide) s.size s (Nat.le_refl _)
theorem pieces_size (s : ByteArray) (hs : s.size ≤ 1000) : ∀ p ∈ pieces s, p.size ≤ 1000 := by
  have key : ∀ (k : Nat) (t : ByteArray), t.size ≤ 1000 → ∀ p ∈ Lib.splitB semi 0 k t, p.size ≤ 1000 := by
    intro k
    induction k with
    | zero => intro t ht p hp; simp [Lib.splitB] at hp; subst hp; exact ht
    | succ k ih =>
      intro t ht p hp
      simp only [Lib.splitB] at hp
      split at hp
      · simp at hp; subst hp; exact ht
      · rcases List.mem_cons.1 hp with rfl | hp
        · have := ByteArray.size_extract (a := t) (b := 0) (e := (Lib.indexB t semi).toNat + 0)
          omega
        · refine ih _ ?_ p hp
          have := ByteArray.size_extract (a := t) (b := (Lib.indexB t semi).toNat + semi.size) (e := t.size)
          omega
  exact key _ s hs

set_option maxHeartbeats 1000000 in
theorem split_calls (s : ByteArray) (w : World) (hs : s.size ≤ 1000) :
    Calls Tryz.prog 51 #[.string s, .string semi] w fun e w' => e = .returned (.slice (some ⟨w.heap.size, 0, none⟩) (pieces s).length (pieces s).length) ∧ w' = w.alloc (.cells ((pieces s).map Value.string).toArray 9) := by
  have hle := count_le s
  have hlen := pieces_len s
  have c := Any.strings_genSplit_core { Tryz.lays146 with } (by kernel_rfl) s semi 0 (-1) (Lib.countB s semi + 1) w (by omega) (by decide) (Nat.zero_le _)
    (fun x cc hx => (Any.strings_Index_one { Tryz.lays146 with } x 59 (w.alloc (.cells cc 9))).mono fun e w' ⟨he, hw⟩ => ⟨by
      rw [he]
      have : Lib.indexB x semi = Lib.indexByte x.data.toList 59 := Lib.index_one _ _
      rw [this], hw⟩)
    ((Any.strings_Count_one { Tryz.lays146 with } s 59 w).mono fun e w' ⟨he, hw⟩ => ⟨by
      rw [he]
      have : Lib.countB s semi = Lib.countByte s.data.toList 59 := Lib.count_one _ _
      rw [this], hw⟩)
    (by decide) (by decide) (by rw [if_pos (by decide)]; omega)
  rw [Nat.add_sub_cancel] at c
  change Calls Tryz.prog 58 _ _ (fun e w' => e = .returned (.slice (some ⟨w.heap.size, 0, none⟩) (pieces s).length (Lib.countB s semi + 1)) ∧ w' = w.alloc (.cells (Lib.cellsOf (pieces s) (Lib.countB s semi + 1)) 9)) at c
  have e2 : Lib.cellsOf (pieces s) (Lib.countB s semi + 1) = ((pieces s).map Value.string).toArray := by rw [← hlen]; exact Lib.cellsOf_full _
  rw [e2, ← hlen] at c
  unfold semi at c ⊢
  go_enter Tryz.func51, Tryz.ntmps51
  go_wp2_with (go_at_call 58; refine c.mono ?_; rintro e w' ⟨rfl, hw⟩; rw [hw])
  go_ret
  exact ⟨by rw [hlen]; rfl, rfl⟩

theorem info3 : (Tryz.prog.info? 3).map (fun i => (i.zero, i.size, i.bytes)) = some (some (.int .i64 0), 1, 8) := by kernel_rfl

theorem at_piece (s : ByteArray) (W : World) (b : Nat) (h : W.heap[b]? = some (.cells ((pieces s).map Value.string).toArray 9 (0, 0))) (j : Nat) (hj : j < (pieces s).length) :
    W.cell? ⟨b, j, none⟩ = some (.string (pieces s)[j]) := by
  rw [blk_cell h j]
  simp [hj]


set_option maxHeartbeats 2000000 in
set_option maxRecDepth 100000 in
theorem numbers_calls (s : ByteArray) (d : UInt8) (v : Int) (w : World) (hs : s.size ≤ 1000) (h0 : s.toList.isEmpty = false) (hp : ∀ p ∈ pieces s, p = ⟨#[d]⟩) (ht : Lib.trimS [d] digs = []) (ha : Lib.atoi [d] = some v) :
    Calls Tryz.prog 46 #[.string s] w fun e w' => ∃ sl, e = .returned (.tuple #[sl, .bool true]) ∧ Kd.R (Kd.int .i64) 3 w' w.heap.size (fun _ => True) sl (List.replicate (pieces s).length v) ∧ Below w.heap.size w w' := by
  have hsp := fun w => split_calls s w hs
  unfold semi at hsp
  have hlen : (pieces s).length ≤ 1001 := by rw [pieces_len]; have := count_le s; omega
  have hat := fun w => Tryz.strconv_Atoi ⟨#[d]⟩ v (by show 1 ≤ 18; omega) ha w
  have hcon := fun w => Any.strings_Trim_laid Tryz.lays160 (by kernel_rfl) ⟨#[d]⟩ ⟨#[48, 49, 50, 51, 52, 53, 54, 55, 56, 57]⟩ w (by show 1 ≤ 9223372036854775807; omega) (by decide) (ascii_of_all (by decide))
  change ∀ w, Calls Tryz.prog 52 _ _ (fun e w' => e = .returned (.string ⟨(Lib.trimS [d] digs).toArray⟩) ∧ Below w.heap.size w w') at hcon
  rw [ht] at hcon
  have hd1 : (ByteArray.mk #[d]).toList.isEmpty = false := by rw [Lib.toList_data]; rfl
  have hd2 : (ByteArray.mk #[d]).size = 1 := rfl
  go_enter Tryz.func46, Tryz.ntmps46
  go_wp2_with (go_at_call 51; refine (hsp _).mono ?_; rintro e w1 ⟨rfl, rfl⟩)
  clear hsp
  obtain ⟨W1, hW1⟩ : ∃ W1, W1 = w.alloc (.cells ((pieces s).map Value.string).toArray 9) := ⟨_, rfl⟩
  have hz1 : W1.heap.size = w.heap.size + 1 := by rw [hW1]; simp
  have hB1 : Aside0 (W1.heap[w.heap.size]? = some (.cells ((pieces s).map Value.string).toArray 9 (0, 0))) := ⟨by rw [hW1]; exact blk_new w _⟩
  have hBW : Aside0 (Below w.heap.size w W1) := ⟨by rw [hW1]; exact below_alloc (Below.refl _ _) _⟩
  rw [← hW1]
  clear hW1
  go_loopg [4, 13] (pieces s).length (fun gg v4 v13 w' => ∃ (i : Nat), i ≤ (pieces s).length ∧ (pieces s).length - i ≤ gg ∧ v13 = .int .i64 i ∧ Aside0 (Kd.R (Kd.int .i64) 3 w' W1.heap.size (fun _ => True) v4 (List.replicate i v)) ∧ Aside0 (Below W1.heap.size W1 w'))
  case atStart => exact ⟨0, Nat.zero_le _, by omega, rfl, ⟨Kd.R_nil _ _ _ _ _⟩, ⟨Below.refl _ _⟩⟩
  case round =>
    obtain ⟨i, hi, hg, rfl, HO, HB⟩ := hrel
    by_cases hlt : i < (pieces s).length
    · have hltz : (i : Int) < ((pieces s).length : Int) := by omega
      have hcell : wr.cell? ⟨w.heap.size, i, none⟩ = some (.string (pieces s)[i]) := at_piece s wr _ ((HB.out.block _ (by omega)).trans hB1.out) i hlt
      rw [hp _ (List.getElem_mem hlt)] at hcell
      have hle3 : ((ByteArray.mk #[d]).size : Int) ≤ 3 := by show (1 : Int) ≤ 3; omega
      have hnx : List.replicate (i + 1) v = List.replicate i v ++ [v] := List.replicate_succ'
      clear hp
      have hnx' := Aside0.mk hnx
      clear hnx
      go_wp2_with (first
        | (go_at_call 52; refine (hcon _).mono ?_; rintro e w2 ⟨rfl, hb⟩; have HB2 := Aside0.mk hb; clear hb)
        | (go_at_call 53; refine (hat _).mono ?_; rintro e w3 ⟨rfl, t3, hw3⟩; have HB3 := Aside0.mk (show Below wr.heap.size wr w3 from by rw [hw3]; exact HB2.out.trans (bytes_below (Below.refl _ _) HB2.out.size _ _)); clear hw3)
        | (at_builtin; refine Kd.R_append (Kd.int .i64) (w0 := W1) W1.heap.size rfl (.tmp 32) (.tmp 34) 91 3 (.int .i64 0) 8 rfl Tryz.underlying91 info3 rfl (by decide) (by omega) u4 (List.replicate i v) v [.int .i64 v] (fun _ => True) (fun _ => False) rfl rfl ?aP (fun _ hk => hk.elim) (fun _ _ => trivial) ?aO ?aB ?aS ?aL ?_; (case aP => exact rfl); (case aO => exact Kd.R_below HO.out HB3.out); (case aB => exact HB.out.trans (HB3.out.mono HB.out.size)); (case aS => exact Nat.le_trans HB.out.size HB3.out.size); (case aL => simp; omega); intro v1 w4 ho hb3 hg3 hat3; have HO4 := Aside0.mk ho; have HB4 := Aside0.mk hb3; clear ho hb3 hg3 hat3))
      go_roundg ((pieces s).length - (i + 1))
      case measure => omega
      case rel => exact ⟨i + 1, by omega, by omega, by go_num, ⟨by rw [hnx'.out]; exact HO4.out⟩, ⟨HB4.out⟩⟩
    · obtain rfl : i = (pieces s).length := by omega
      have hnlt : ¬ ((pieces s).length : Int) < ((pieces s).length : Int) := by omega
      go_wp2
      go_ret2
      exact ⟨_, rfl, Kd.R_lower HO.out (by omega), hBW.out.trans (HB.out.mono (by omega))⟩
theorem pieces_h : pieces ⟨#[49, 59, 49]⟩ = [⟨#[49]⟩, ⟨#[49]⟩] := by decide +kernel
theorem pieces_m : pieces ⟨#[48]⟩ = [⟨#[48]⟩] := by decide +kernel
theorem numbers_h (w : World) : Calls Tryz.prog 46 #[.string ⟨#[49, 59, 49]⟩] w fun e w' => ∃ sl, e = .returned (.tuple #[sl, .bool true]) ∧ Kd.R (Kd.int .i64) 3 w' w.heap.size (fun _ => True) sl [1, 1] ∧ Below w.heap.size w w' := by
  have h := numbers_calls ⟨#[49, 59, 49]⟩ 49 1 w (by decide) (by decide +kernel) (by rw [pieces_h]; simp) (by decide +kernel) (by decide +kernel)
  rw [pieces_h] at h
  exact h
theorem numbers_m (w : World) : Calls Tryz.prog 46 #[.string ⟨#[48]⟩] w fun e w' => ∃ sl, e = .returned (.tuple #[sl, .bool true]) ∧ Kd.R (Kd.int .i64) 3 w' w.heap.size (fun _ => True) sl [0] ∧ Below w.heap.size w w' := by
  have h := numbers_calls ⟨#[48]⟩ 48 0 w (by decide) (by decide +kernel) (by rw [pieces_m]; simp) (by decide +kernel) (by decide +kernel)
  rw [pieces_m] at h
  exact h
end Go.Proofs.YtaicpljgijjenaaGreatDoor.Hand
