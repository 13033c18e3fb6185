/- styluslaw04.knows answers true; marks that are nil have no rows; no condition. -/
import Derived.Test.YthbdiambigfgdaeHandAdd
import Derived.WalkSpells
import Derived.Laws.Pointers
namespace Go.Proofs.Ythbdiambigfgdae.Hand
open Go.RowKit Go.Proofs.YthbdiambigfgdaeW.PrintWords Go.Proofs.YthbdiambigfgdaeW.PrintLast Go.Proofs.YthbdiambigfgdaeW.PrintMore Go.Proofs.Ythbdiambigfgdae.PMarksRead
theorem rows_nil (w : World) : Calls Try.prog 84 #[.pointer none] w fun e w' => e = .returned (.slice none 0 0) ∧ w = w' := by
  go_enter Try.func84, Try.ntmps84
  go_wp2
  go_ret
  exact ⟨rfl, rfl⟩
theorem ids_nil (f : Value) (w : World) : Calls Try.prog 56 #[.pointer none, f] w fun e w' => e = .returned (.slice none 0 0) ∧ w = w' := by
  go_enter Try.func56, Try.ntmps56
  go_wp2_with (go_at_call 84; refine (rows_nil _).mono ?_; rintro e w' ⟨rfl, rfl⟩)
  refine wp_loop_rounds 1 ?_
  rw [rounds_succ]
  go_wp2
  go_ret
  exact ⟨rfl, rfl⟩
theorem all_nil (w : World) : Calls Try.prog 22 #[.pointer none] w fun e w' => e = .returned (.slice none 0 0) ∧ w = w' := by
  go_enter Try.func22, Try.ntmps22
  go_wp2_with (go_at_call 56; refine (ids_nil _ _).mono ?_; rintro e w' ⟨rfl, rfl⟩)
  go_ret
  exact ⟨rfl, rfl⟩
theorem add_nil (w : World) : Calls Try.prog 9 #[.pointer none, .agg #[.int .i64 2, .int .i64 4, .bool false, .bool true]] w fun e w' => e = .returned (.tuple #[.int .i64 0, .int .i64 3]) ∧ Below w.heap.size w w' := by
  have hm : marks_may.f 2 4 false true = some true := rfl
  go_enter Try.func9, Try.ntmps9
  go_wp2_with (go_at_call 49; refine (marks_may.calls 2 4 false true true _ hm).mono ?_; rintro e w' ⟨rfl, hb⟩)
  go_ret2
  exact ⟨rfl, (below_alloc (Below.refl _ _) _).trans (hb.mono (by simp))⟩
theorem C_one (W : World) (g : Nat) (x : Int) (h : W.cell? ⟨g, 0, none⟩ = some (.int .i32 x)) : Kd.C (Kd.int .i32) W (some ⟨g, 0, none⟩) [x].length [x] := by
  refine Kd.C_of_reads (enc := Value.int .i32) (d := (0 : Int)) (h1 := fun _ => rfl) ⟨rfl, by simp, fun _ => ⟨_, rfl, fun j hj => ?_⟩⟩
  obtain rfl : j = 0 := by simp at hj; omega
  exact h
/-- A block that lies below a call's own reads as it did. -/
theorem old_cell {W w1 : World} (hb : Below W.heap.size W w1) {g j : Nat} {v : Value} (h : W.cell? ⟨g, j, none⟩ = some v) : w1.cell? ⟨g, j, none⟩ = some v := pw_cell_below hb h

theorem cell_alloc {W : World} {a : Addr} {v : Value} (h : W.cell? a = some v) (o : Obj) : (W.alloc o).cell? a = some v := pw_cell_below (below_alloc (Below.refl _ _) o) h

set_option maxRecDepth 100000 in
set_option maxHeartbeats 1600000 in
theorem knows_calls (w : World) : Calls Try.prog 7 #[] w fun e w' => e = .returned (.bool true) ∧ Below w.heap.size w w' := by
  have h1 : marks_Move.f 2 4 false true 4 0 [1] = some (2, 5, false, true, 0) := by decide +kernel
  have h2 : marks_Move.f 2 4 false true 2 0 [1] = some (3, 5, false, true, 0) := by decide +kernel
  go_enter Try.func7, Try.ntmps7
  go_wp2_with fail
  refine (marks_Move.calls 2 4 false true 4 0 _ _ [1] 2 5 false true 0 _ (C_one _ _ _ (by simp)) (Nat.le_refl _) h1).mono ?_
  rintro e w1 ⟨rfl, hb⟩
  have x0 := old_cell hb (g := w.heap.size) (j := 0) (v := .int .i64 2) (by simp)
  have x1 := old_cell hb (g := w.heap.size) (j := 1) (v := .int .i64 4) (by simp)
  have x2 := old_cell hb (g := w.heap.size) (j := 2) (v := .bool false) (by simp)
  have x3 := old_cell hb (g := w.heap.size) (j := 3) (v := .bool true) (by simp)
  have hz : w.heap.size + 1 < w1.heap.size := by have := hb.size; simp at this; omega
  have hz0 : w.heap.size < w1.heap.size := by omega
  have hne : ¬ w.heap.size = w1.heap.size := by omega
  have hne' : ¬ w1.heap.size = w.heap.size := by omega
  have HB : Aside0 (Below w.heap.size w w1) := ⟨Below.trans (below_alloc (below_alloc (Below.refl _ _) _) _) (hb.mono (by simp; omega))⟩
  clear hb
  go_wp2_with fail
  refine (marks_Move.calls 2 4 false true 2 0 _ _ [1] 3 5 false true 0 _ (C_one _ _ _ (by simp)) (Nat.le_refl _) h2).mono ?_
  rintro e w2 ⟨rfl, hb⟩
  have y0 := old_cell hb (g := w.heap.size) (j := 0) (v := .int .i64 2) (by repeat (first | exact x0 | refine cell_alloc ?_ _))
  have y1 := old_cell hb (g := w.heap.size) (j := 1) (v := .int .i64 4) (by repeat (first | exact x1 | refine cell_alloc ?_ _))
  have y2 := old_cell hb (g := w.heap.size) (j := 2) (v := .bool false) (by repeat (first | exact x2 | refine cell_alloc ?_ _))
  have y3 := old_cell hb (g := w.heap.size) (j := 3) (v := .bool true) (by repeat (first | exact x3 | refine cell_alloc ?_ _))
  have z0 := old_cell hb (g := w1.heap.size) (j := 0) (v := .int .i64 2) (by simp)
  have z1 := old_cell hb (g := w1.heap.size) (j := 1) (v := .int .i64 5) (by simp)
  have kz : w1.heap.size + 1 < w2.heap.size := by have := hb.size; simp at this; omega
  have HB2 : Aside0 (Below w.heap.size w w2) := ⟨Below.trans (below_alloc (below_alloc HB.out _) _) (hb.mono (by simp; omega))⟩
  have kz0 : w.heap.size < w2.heap.size := by omega
  have kne : ¬ w.heap.size = w2.heap.size := by omega
  have kne' : ¬ w2.heap.size = w.heap.size := by omega
  have lz0 : w1.heap.size < w2.heap.size := by omega
  have lne : ¬ w1.heap.size = w2.heap.size := by omega
  have lne' : ¬ w2.heap.size = w1.heap.size := by omega
  clear hb HB x0 x1 x2 x3
  go_wp2_with fail
  refine (add_nil _).mono ?_
  rintro e w3 ⟨rfl, hb⟩
  have z0' := old_cell hb (g := w1.heap.size) (j := 0) (v := .int .i64 2) (by repeat (first | exact z0 | refine cell_alloc ?_ _))
  have z1' := old_cell hb (g := w1.heap.size) (j := 1) (v := .int .i64 5) (by repeat (first | exact z1 | refine cell_alloc ?_ _))
  have u0 := old_cell hb (g := w2.heap.size) (j := 0) (v := .int .i64 3) (by simp)
  have u1 := old_cell hb (g := w2.heap.size) (j := 1) (v := .int .i64 5) (by simp)
  have HB3 : Aside0 (Below w.heap.size w w3) := ⟨Below.trans (below_alloc HB2.out _) (hb.mono (by simp; omega))⟩
  clear hb HB2 y0 y1 y2 y3 z0 z1
  go_wp2_with (go_at_call 22; refine (all_nil _).mono ?_; rintro e w' ⟨rfl, rfl⟩)
  go_ret
  exact ⟨rfl, HB3.out⟩
end Go.Proofs.Ythbdiambigfgdae.Hand
