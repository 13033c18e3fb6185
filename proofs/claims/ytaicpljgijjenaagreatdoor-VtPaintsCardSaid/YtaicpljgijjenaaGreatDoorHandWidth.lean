/- width.Of answers, for every rune, the width that the plain function ofW tells; no condition. -/
import Derived.Test.YtaicpljgijjenaaGreatDoorProg
import Derived.Below
import Derived.OwnWalk
import Derived.Tactics
import Derived.WalkKit
import Derived.KernelRfl
import Derived.RowKit3
import Derived.Outline
import Derived.Laws.Rows
import Derived.LoopTactic
import Derived.Laws.CopyOwn
namespace Go.Proofs.YtaicpljgijjenaaGreatDoor.Hand
open Go.RowKit

/-- A call's contract at a row whose length is spelled otherwise. -/
theorem calls_len {P : Program} {f : Nat} {A : Option Addr} {n m c : Nat} {w : World} {Q : Ending → World → Prop} (h : n = m) (hc : Calls P f #[.slice A n c] w Q) : Calls P f #[.slice A m c] w Q := h ▸ hc

def ofW (r : Int) : Int :=
  if (768 ≤ r ∧ r ≤ 879) ∨ (8203 ≤ r ∧ r ≤ 8207) ∨ (65024 ≤ r ∧ r ≤ 65039) then 0
  else if (4352 ≤ r ∧ r ≤ 4447) ∨ (11904 ≤ r ∧ r ≤ 12350) ∨ (12353 ≤ r ∧ r ≤ 19903) ∨ (19968 ≤ r ∧ r ≤ 42191) ∨ (44032 ≤ r ∧ r ≤ 55203) ∨ (63744 ≤ r ∧ r ≤ 64255) ∨ (65072 ≤ r ∧ r ≤ 65135) ∨ (65280 ≤ r ∧ r ≤ 65376) ∨ (65504 ≤ r ∧ r ≤ 65510) ∨ (127744 ≤ r ∧ r ≤ 128591) ∨ (129280 ≤ r ∧ r ≤ 129535) ∨ (131072 ≤ r ∧ r ≤ 262141) then 2
  else 1

def tblV : Array Value := #[.int .i64 768, .int .i64 879, .int .i64 0, .int .i64 4352, .int .i64 4447, .int .i64 2, .int .i64 8203, .int .i64 8207, .int .i64 0,
  .int .i64 11904, .int .i64 12350, .int .i64 2, .int .i64 12353, .int .i64 19903, .int .i64 2, .int .i64 19968, .int .i64 42191, .int .i64 2,
  .int .i64 44032, .int .i64 55203, .int .i64 2, .int .i64 63744, .int .i64 64255, .int .i64 2, .int .i64 65024, .int .i64 65039, .int .i64 0,
  .int .i64 65072, .int .i64 65135, .int .i64 2, .int .i64 65280, .int .i64 65376, .int .i64 2, .int .i64 65504, .int .i64 65510, .int .i64 2,
  .int .i64 127744, .int .i64 128591, .int .i64 2, .int .i64 129280, .int .i64 129535, .int .i64 2, .int .i64 131072, .int .i64 262141, .int .i64 2]

theorem tbl_one : tblV.all (·.oneCell') = true := by kernel_rfl
theorem info70 : (Tryz.prog.info? 70).map (·.size) = some 45 := by kernel_rfl

set_option maxHeartbeats 800000 in
set_option maxRecDepth 100000 in
theorem table_calls (w : World) :
    Calls Tryz.prog 32 #[] w fun e w' => e = .returned (.agg tblV) ∧ Below w.heap.size w w' := by
  go_enter Tryz.func32, Tryz.ntmps32
  go_wp2_with (refine wpList_store_row rfl 70 (.tmp 0) (.tmp 31) rfl w.heap.size tblV rfl rfl 70 _ (heap_alloc_new w _) info70 (by rfl) tbl_one ?_)
  refine bodyPost_ret (v := .agg tblV) (results_cell_row (p := 0) (ty := 70) rfl _ _ w.heap.size 70 tblV (0, 0) _ rfl ?_ Tryz.underlying70 rfl info70) rfl ⟨rfl, ?_⟩
  · exact setRow_heap _ _ _ _ 70 _ (heap_alloc_new w _)
  · exact below_setRow ((Below.refl _ _).alloc (Nat.le_refl _) _) (Nat.le_refl _) _

def loT : List Int := [768, 4352, 8203, 11904, 12353, 19968, 44032, 63744, 65024, 65072, 65280, 65504, 127744, 129280, 131072]
def hiT : List Int := [879, 4447, 8207, 12350, 19903, 42191, 55203, 64255, 65039, 65135, 65376, 65510, 128591, 129535, 262141]
def wdT : List Int := [0, 2, 0, 2, 2, 2, 2, 2, 0, 2, 2, 2, 2, 2, 2]
def Hit (m : Nat) (lo hi wd : Int) : Prop := loT[m]? = some lo ∧ hiT[m]? = some hi ∧ wdT[m]? = some wd
/-- Nothing ahead of a holds r, nor anything from b on. -/
def Inv (r : Int) (a b : Nat) : Prop := (∀ hi, hiT[a - 1]? = some hi → a = 0 ∨ hi < r) ∧ ∀ lo, loT[b]? = some lo → r < lo

theorem tbl_at (m : Nat) (h : m < 15) : ∃ lo hi wd : Int, tblV[m * 3]? = some (.int .i64 lo) ∧ tblV[m * 3 + 1]? = some (.int .i64 hi) ∧ tblV[m * 3 + 2]? = some (.int .i64 wd) ∧ Hit m lo hi wd := by
  have : m = 0 ∨ m = 1 ∨ m = 2 ∨ m = 3 ∨ m = 4 ∨ m = 5 ∨ m = 6 ∨ m = 7 ∨ m = 8 ∨ m = 9 ∨ m = 10 ∨ m = 11 ∨ m = 12 ∨ m = 13 ∨ m = 14 := by omega
  rcases this with rfl | rfl | rfl | rfl | rfl | rfl | rfl | rfl | rfl | rfl | rfl | rfl | rfl | rfl | rfl <;> exact ⟨_, _, _, rfl, rfl, rfl, rfl, rfl, rfl⟩

theorem hit_of (r : Int) (m : Nat) (h : m < 15) (lo hi wd : Int) (hh : Hit m lo hi wd) (h1 : lo ≤ r) (h2 : r ≤ hi) : ofW r = wd := by
  obtain ⟨a, b, c⟩ := hh
  have : m = 0 ∨ m = 1 ∨ m = 2 ∨ m = 3 ∨ m = 4 ∨ m = 5 ∨ m = 6 ∨ m = 7 ∨ m = 8 ∨ m = 9 ∨ m = 10 ∨ m = 11 ∨ m = 12 ∨ m = 13 ∨ m = 14 := by omega
  rcases this with rfl | rfl | rfl | rfl | rfl | rfl | rfl | rfl | rfl | rfl | rfl | rfl | rfl | rfl | rfl <;> simp [loT, hiT, wdT] at a b c <;> subst a <;> subst b <;> subst c <;> unfold ofW <;> first | (rw [if_pos (by omega)]) | (rw [if_neg (by omega), if_pos (by omega)])

theorem gap_of (r : Int) (a : Nat) (h : a ≤ 15) (hh : Inv r a a) : ofW r = 1 := by
  obtain ⟨p, q⟩ := hh
  have : a = 0 ∨ a = 1 ∨ a = 2 ∨ a = 3 ∨ a = 4 ∨ a = 5 ∨ a = 6 ∨ a = 7 ∨ a = 8 ∨ a = 9 ∨ a = 10 ∨ a = 11 ∨ a = 12 ∨ a = 13 ∨ a = 14 ∨ a = 15 := by omega
  rcases this with rfl | rfl | rfl | rfl | rfl | rfl | rfl | rfl | rfl | rfl | rfl | rfl | rfl | rfl | rfl | rfl <;> simp [loT, hiT] at p q <;> unfold ofW <;> rw [if_neg (by omega), if_neg (by omega)]

theorem inv_lo (r : Int) (a b m : Nat) (lo hi wd : Int) (hh : Hit m lo hi wd) (h : Inv r a b) (h1 : r < lo) : Inv r a m :=
  ⟨h.1, fun lo' e => by have := hh.1.symm.trans e; simp at this; omega⟩
theorem inv_hi (r : Int) (a b m : Nat) (lo hi wd : Int) (hh : Hit m lo hi wd) (h : Inv r a b) (h1 : hi < r) : Inv r (m + 1) b :=
  ⟨fun hi' e => by have := hh.2.1.symm.trans e; simp at this; omega, h.2⟩
theorem inv_all (r : Int) : Inv r 0 15 := ⟨fun _ _ => .inl rfl, fun lo e => by simp [loT] at e⟩

def TblAt (w0 : World) (g : Nat) (wr : World) : Prop := wr.heap[g]? = some (.cells tblV 70 (0, 0)) ∧ Below w0.heap.size w0 wr ∧ w0.heap.size ≤ g
theorem TblAt.alloc {w0 wr : World} {g : Nat} (h : TblAt w0 g wr) (o : Obj) : TblAt w0 g (wr.alloc o) :=
  ⟨by rw [Below.heap_alloc _ _ _ (Array.getElem?_eq_some_iff.1 h.1).1]; exact h.1, h.2.1.alloc (by have := h.2.1.size; omega) o, h.2.2⟩

set_option maxHeartbeats 1600000 in
set_option maxRecDepth 100000 in
theorem of_calls (r : Int) (w : World) :
    Calls Tryz.prog 19 #[.int .i32 r] w fun e w' => e = .returned (.int .i64 (ofW (wrap64 r))) ∧ Below w.heap.size w w' := by
  go_enter Tryz.func19, Tryz.ntmps19
  go_wp2_with (first | (go_at_call 32; refine (table_calls _).mono ?_; rintro e w1 ⟨rfl, hb1⟩) | (refine wpList_store_row rfl 70 (.tmp 3) (.tmp 8) rfl w1.heap.size tblV rfl rfl 70 _ (heap_alloc_new w1 _) info70 (by rfl) tbl_one ?_))
  have hT : TblAt w w1.heap.size ((w1.alloc (.cells (Array.replicate 45 (.int .i64 0)) 70)).setRow w1.heap.size tblV) :=
    ⟨setRow_heap _ _ _ _ 70 _ (heap_alloc_new w1 _), below_setRow (hb1.alloc hb1.size _) hb1.size _, hb1.size⟩
  go_loopw [4, 5] (fun f t wr => ∃ a b : Nat, f = .int .i64 a ∧ t = .int .i64 b ∧ a ≤ b ∧ b ≤ 15 ∧ Inv (wrap64 r) a b ∧ TblAt w w1.heap.size wr) (fun f t _ => ((intOf t) - (intOf f)).toNat)
  case atStart => exact ⟨0, 15, rfl, rfl, by omega, by omega, inv_all _, hT⟩
  case round =>
    clear hT
    obtain ⟨a, b, rfl, rfl, hab, hb, hI, hT⟩ := hrel
    by_cases hlt : a < b
    · obtain ⟨lo, hi, wd, q0, q1, q2, hh⟩ := tbl_at ((a + b) / 2) (by omega)
      have c0 : wr.cell? ⟨w1.heap.size, (a + b) / 2 * 3, none⟩ = some (.int .i64 lo) := (cell_of_row _ _ _ _ _ _ hT.1).trans q0
      have c1 : wr.cell? ⟨w1.heap.size, (a + b) / 2 * 3 + 1, none⟩ = some (.int .i64 hi) := (cell_of_row _ _ _ _ _ _ hT.1).trans q1
      have c2 : wr.cell? ⟨w1.heap.size, (a + b) / 2 * 3 + 2, none⟩ = some (.int .i64 wd) := (cell_of_row _ _ _ _ _ _ hT.1).trans q2
      clear q0 q1 q2
      go_wp2_with fail
      · go_roundw
        case rel => exact ⟨a, (a + b) / 2, rfl, by go_num, by omega, by omega, inv_lo _ a b _ lo hi wd hh hI (by assumption), hT.alloc _⟩
        case measure => simp [intOf]; omega
      · go_roundw
        case rel => exact ⟨(a + b) / 2 + 1, b, by go_num, rfl, by omega, by omega, inv_hi _ a b _ lo hi wd hh hI (by assumption), hT.alloc _⟩
        case measure => simp [intOf]; omega
      · go_ret
        refine ⟨?_, (hT.alloc _).2.1⟩
        rw [hit_of _ ((a + b) / 2) (by omega) lo hi wd hh ‹_› (by omega)]; rfl
    · obtain rfl : a = b := by omega
      go_wp2_with fail
      go_ret
      refine ⟨?_, hT.2.1⟩
      rw [gap_of _ a (by omega) hI]; rfl
end Go.Proofs.YtaicpljgijjenaaGreatDoor.Hand
