/- Marks.ids with the closures of Stab and of Over, and Stab and Over themselves; no condition beyond the marks' own form. -/
import Derived.Test.YthbdiambigfgdaeSq
import Derived.Test.YthbdiambigfgdaeHandRemove
import Derived.Test.YthbdiambigfgdaePMarksReadx2
namespace Go.Proofs.Ythbdiambigfgdae.Hand
open Go.Proofs.Ythbdiambigfgdae.Sq Go.RowKit Go.Proofs.YthbdiambigfgdaeW.PrintWords Go.Proofs.YthbdiambigfgdaeW.PrintLast Go.Proofs.YthbdiambigfgdaeW.PrintMore Go.Proofs.Ythbdiambigfgdae.PMarksRead
attribute [local go_sem] max2_int min2_int max_two min_two max_three min_three max_four min_four
set_option linter.unusedVariables false
set_option linter.unusedSimpArgs false
def stab1.f (p : Int) (a b : Int) (_ _ : Bool) : Option Bool := some (decide (a ≤ p) && decide (p < b))
set_option maxHeartbeats 1000000 in
set_option maxRecDepth 100000 in
theorem stab1.calls (p : Int) (B : Nat) (a b : Int) (c d : Bool) (r : Bool) (w : World) (hB : w.cell? ⟨B, 0, none⟩ = some (.int .i64 p)) (h : stab1.f p a b c d = some r) :
    Calls Try.prog 57 #[.agg #[.int .i64 a, .int .i64 b, .bool c, .bool d], .pointer (some ⟨B, 0, none⟩)] w fun e w' => e = .returned (.bool r) ∧ Below w.heap.size w w' := by
  obtain rfl := Option.some.inj h
  have hlt := World.block_lt_of_cell? w _ hB
  have hne : B ≠ w.heap.size := by have : B < w.heap.size := hlt; omega
  by_cases h1 : a ≤ p
  · have h1b : decide (a ≤ p) = true := decide_eq_true h1
    go_enter Try.func57, Try.ntmps57
    go_wp2
    go_ret
    exact ⟨by simp [h1b], (Below.refl _ w).alloc (Nat.le_refl _) _⟩
  · have h1b : decide (a ≤ p) = false := decide_eq_false h1
    go_enter Try.func57, Try.ntmps57
    go_wp2
    go_ret
    exact ⟨by simp [h1b], (Below.refl _ w).alloc (Nat.le_refl _) _⟩
def over1.f (p q : Int) (a b : Int) (_ _ : Bool) : Option Bool := some (decide (a < q) && decide (p < b))
set_option maxHeartbeats 1000000 in
set_option maxRecDepth 100000 in
theorem over1.calls (p q : Int) (B : Nat) (a b : Int) (c d : Bool) (r : Bool) (w : World) (hB : w.cell? ⟨B, 0, none⟩ = some (.int .i64 p)) (hB1 : w.cell? ⟨B, 1, none⟩ = some (.int .i64 q)) (h : over1.f p q a b c d = some r) :
    Calls Try.prog 58 #[.agg #[.int .i64 a, .int .i64 b, .bool c, .bool d], .pointer (some ⟨B, 0, none⟩)] w fun e w' => e = .returned (.bool r) ∧ Below w.heap.size w w' := by
  obtain rfl := Option.some.inj h
  have hlt := World.block_lt_of_cell? w _ hB
  have hne : B ≠ w.heap.size := by have : B < w.heap.size := hlt; omega
  by_cases h1 : a < q
  · have h1b : decide (a < q) = true := decide_eq_true h1
    go_enter Try.func58, Try.ntmps58
    go_wp2
    go_ret
    exact ⟨by simp [h1b], (Below.refl _ w).alloc (Nat.le_refl _) _⟩
  · have h1b : decide (a < q) = false := decide_eq_false h1
    go_enter Try.func58, Try.ntmps58
    go_wp2
    go_ret
    exact ⟨by simp [h1b], (Below.refl _ w).alloc (Nat.le_refl _) _⟩
/-! ### idsS: function 56, the closure 57 -/
def idsS.l0 (p_ : Int) : Nat → List Int → List (S94) → Int → Int → Option (List Int)
  | 0, _, _, _, _ => none
  | k + 1, x5, x9, x10, x11 => if x11 < x10 then (if 0 ≤ x11 then (if x11 < (x9.length : Int) then ((stab1.f p_ ((rd_T94 x9 x11).f0.f0.f0) ((rd_T94 x9 x11).f0.f0.f1) ((rd_T94 x9 x11).f0.f1) ((rd_T94 x9 x11).f0.f2)).bind fun t110 => (if t110 = true then (if x5.length < 17592186044416 then (idsS.l0 p_ k (x5 ++ [(rd_T94 x9 x11).f1]) x9 x10 (wrap64 (x11 + 1))) else (none)) else (idsS.l0 p_ k x5 x9 x10 (wrap64 (x11 + 1))))) else (none)) else (none)) else (some x5)
def idsS.f (p_ : Int) (k : Nat) (l0_0 : List (S94)) (a0_1 : Int)  : Option (List Int) := idsS.l0 p_ k ([] : List Int) l0_0 (l0_0.length : Int) 0
theorem idsS.mono_l (p_ : Int) : ∀ k, (∀ y0 y1 y2 y3, LeO (idsS.l0 p_ k y0 y1 y2 y3) (idsS.l0 p_ (k + 1) y0 y1 y2 y3))
  | 0 => fun _ _ _ _ r h => by simp [idsS.l0] at h
  | k + 1 => by
    have ih0 := idsS.mono_l p_ k
    · intro y0 y1 y2 y3
      unfold idsS.l0
      repeat' first
      | (with_reducible exact ih0 _ _ _ _)
      | (with_reducible exact LeO.refl _)
      | (with_reducible exact LeO.none _)
      | (with_reducible refine LeO.ite ?_ ?_)
      | (with_reducible refine LeO.bind ?_ (fun _ => ?_))
      | exact ih0 _ _ _ _
      | exact LeO.none _
      | refine LeO.ite ?_ ?_
      | refine LeO.bind ?_ (fun _ => ?_)
theorem idsS.mono (p_ : Int) : ∀ a0 a1 k, LeO (idsS.f p_ k a0 a1) (idsS.f p_ (k + 1) a0 a1) := by
  intro a0 a1 k
  have ih0 := idsS.mono_l p_ k
  unfold idsS.f
  repeat' first
      | (with_reducible exact ih0 _ _ _ _)
      | (with_reducible exact LeO.refl _)
      | (with_reducible exact LeO.none _)
      | (with_reducible refine LeO.ite ?_ ?_)
      | (with_reducible refine LeO.bind ?_ (fun _ => ?_))
      | exact ih0 _ _ _ _
      | exact LeO.none _
      | refine LeO.ite ?_ ?_
      | refine LeO.bind ?_ (fun _ => ?_)
set_option maxHeartbeats 8000000 in
set_option maxRecDepth 100000 in
theorem idsS.calls (p_ : Int) (B : Nat) (k : Nat) (g0 : Nat) (A0_0 : Option Addr) (c0_0 : Nat) (l0_0 : List (S94)) (a0_1 : Int)  (r : List Int) (w : World) (hr0_0 : Kd.C k94 w A0_0 l0_0.length l0_0) (hc0_0 : l0_0.length ≤ c0_0) (hbk0 : w.heap[g0]? = some (.cells #[.slice A0_0 l0_0.length c0_0, .int .i64 a0_1] 90 (0, 0))) (hB0_ : w.cell? ⟨B, 0, none⟩ = some (.int .i64 p_)) (h : idsS.f p_ k l0_0 a0_1 = some r) :
    Calls Try.prog 56 #[.pointer (some ⟨g0, 0, none⟩), .func (.func 57) #[] #[.pointer (some ⟨B, 0, none⟩)]] w fun e w' => ∃ v0_ : Value, e = .returned (v0_) ∧ Kd.R (Kd.int .i64) 3 w' w.heap.size (fun _ => True) v0_ r ∧ Below w.heap.size w w' := by
 have eg57 : ∀ args w, (callFunc 57 args).run Try.prog w = .ok (.enter 57 args) w := enters_of Try.func57 (by kernel_rfl) rfl
 have hu94 := Try.underlying94
 have hu30 := Try.underlying30
 have HR0_0 := Aside0.mk hr0_0; have HC0_0 := Aside0.mk hc0_0; clear hr0_0 hc0_0; have BK0 := Aside0.mk hbk0; clear hbk0
 have HB := Aside0.mk (Below.refl w.heap.size w)
 have H : (idsS.l0 p_ k ([] : List Int) l0_0 (l0_0.length : Int) 0) = some r := h
 clear h; have H' := Aside0.mk H; clear H
 have hcz3_0 : w.cell? ⟨g0, 0, none⟩ = some (.slice A0_0 l0_0.length c0_0) := (blk_cell BK0.out 0).trans rfl
 have hcz3_1 : w.cell? ⟨g0, 1, none⟩ = some (.int .i64 a0_1) := (blk_cell BK0.out 1).trans rfl
 have hfz3_0 := blk_frozen BK0.out 0
 have hfz3_1 := blk_frozen BK0.out 1
 go_enter Try.func56, Try.ntmps56
 go_wp2_with (go_at_call 84; ((with_reducible refine (marks_rows_calls g0 A0_0 l0_0.length c0_0 _ ((blk_cell BK0.out 0).trans rfl)).mono ?_); rintro e wq_ ⟨rfl, rfl⟩))
 go_loopg [5, 11] k (fun kq v5 v11 w' => ∃ (x5_1 : List Int) (x11_1 : Int), v11 = .int .i64 x11_1 ∧ Aside0 (idsS.l0 p_ kq x5_1 l0_0 (l0_0.length : Int) x11_1 = some r) ∧ Aside0 (kq ≤ k) ∧ Aside0 (Kd.R (Kd.int .i64) 3 w' w.heap.size (fun _ => True) v5 x5_1) ∧ Aside0 (w'.heap[g0]? = some (.cells #[(.slice A0_0 l0_0.length c0_0), .int .i64 a0_1] 90 (0, 0))) ∧ Aside0 (Below w.heap.size w w'))
 case atStart => exact ⟨(([] : List Int)), (0), (by first | rfl | (simp; done) | (simp [*]; done)), H', ⟨Nat.le_refl _⟩, ⟨by first | exact Kd.R_nil _ _ _ _ _ | exact Kd.N_nil _ _ _ _ _ | exact Kd.V_nil _ _ _ _ _ | exact Kd.Q_nil _ _ _ _ _ | exact Kd.S_nil _ _ _ _ _⟩, ⟨kb_ BK0.out⟩, ⟨bs_ HB.out⟩⟩
 clear H'; (try clear hcz3_0 hcz3_1 hfz3_0 hfz3_1); obtain ⟨x5_1, x11_1, rfl, HA, HK1, HO_5, BK0, HB⟩ := hrel
 cases gk with
 | zero => exact absurd HA.out (by simp [idsS.l0])
 | succ k1 =>
  have H := HA.out
  clear HA
  simp only [idsS.l0] at H
  by_cases c4 : x11_1 < (l0_0.length : Int)
  rotate_left
  · rw [if_neg c4] at H
    have c4b0 : decide (x11_1 < (l0_0.length : Int)) = false := decide_eq_false c4
    clear c4
    obtain rfl := Option.some.inj H
    go_wp2
    go_ret
    exact ⟨_, by first | rfl | (simp [errW_none, errW_some] <;> rfl) | (simp [*, errW_none, errW_some] <;> rfl), by (with_reducible repeat (first | apply Kd.R_alloc | apply Kd.R_drewN | apply Kd.R_drew)); exact HO_5.out, bs_ HB.out⟩
  rw [if_pos c4] at H
  have c4b0 : decide (x11_1 < (l0_0.length : Int)) = true := decide_eq_true c4
  clear c4
  by_cases c5 : 0 ≤ x11_1
  rotate_left
  · rw [if_neg c5] at H
    exact absurd H (by simp)
  rw [if_pos c5] at H
  have c5b0 : decide (0 ≤ x11_1) = true := decide_eq_true c5
  clear c5
  by_cases c6 : x11_1 < (l0_0.length : Int)
  rotate_left
  · rw [if_neg c6] at H
    exact absurd H (by simp)
  rw [if_pos c6] at H
  have c6b0 : decide (x11_1 < (l0_0.length : Int)) = true := decide_eq_true c6
  clear c6
  replace H := Option.bind_eq_some_iff.mp H
  obtain ⟨t110, A70, H⟩ := H
  replace H : (if t110 = true then (if x5_1.length < 17592186044416 then (idsS.l0 p_ k1 (x5_1 ++ [(rd_T94 l0_0 x11_1).f1]) l0_0 (l0_0.length : Int) (wrap64 (x11_1 + 1))) else (none)) else (idsS.l0 p_ k1 x5_1 l0_0 (l0_0.length : Int) (wrap64 (x11_1 + 1)))) = some r := H
  have A7 := Aside0.mk A70; clear A70
  by_cases c8 : t110 = true
  rotate_left
  · replace c8 := Bool.eq_false_iff.mpr c8
    subst c8
    have H1 : (idsS.l0 p_ k1 x5_1 l0_0 (l0_0.length : Int) (wrap64 (x11_1 + 1))) = some r := by rw [if_neg (show ¬ (false = true) by decide)] at H; exact H
    clear H
    have H := H1
    clear H1; have H' := Aside0.mk H; clear H
    have p108 : 0 ≤ (x11_1 : Int) := od_
    have q108 : x11_1 < (l0_0.length : Int) := od_
    obtain ⟨ad108, e108, hx108_0, hx108_1, hx108_2, hx108_3, hx108_4⟩ := at_T94 HR0_0.out x11_1 p108 q108
    cases e108
    replace hx108_0 := (HB.out.cell (World.block_lt_of_cell? w _ hx108_0)).trans hx108_0
    replace hx108_1 := (HB.out.cell (World.block_lt_of_cell? w _ hx108_1)).trans hx108_1
    replace hx108_2 := (HB.out.cell (World.block_lt_of_cell? w _ hx108_2)).trans hx108_2
    replace hx108_3 := (HB.out.cell (World.block_lt_of_cell? w _ hx108_3)).trans hx108_3
    replace hx108_4 := (HB.out.cell (World.block_lt_of_cell? w _ hx108_4)).trans hx108_4
    replace p108 := eq_true p108; replace q108 := eq_true q108
    go_wp2_with (first | ((with_reducible refine gate_dst (N := 7) rfl ?_); refine box_event ?hg (N := 7) ?hd (cs := #[.int .i64 0, .int .i64 0, .bool false, .bool false, .int .i64 0]) (t := 94) ?hr ?_; (case hd => rfl); (case hg => rfl); (case hr => first | (go_simp; done) | (go_simp; rfl)); intro gb109 hg w16 hbox hb; have n0_ := Aside0.mk (Kd.R_below (rr_ HO_5.out) hb); have n1_ := Aside0.mk (blk_below (g := g0) (o := .cells #[.slice (some ad108) l0_0.length c0_0, .int .i64 a0_1] 90 (0, 0)) (kb_ BK0.out) hb); have n2_ := Aside0.mk (below_step (bs_ HB.out) hb); have n3_ := Aside0.mk (hbox); have n4_ := Aside0.mk ((by rw [hg]; exact (below_size (bs_ HB.out)) : w.heap.size ≤ gb109)); have n5_ := Aside0.mk ((by rw [hg]; exact (below_size (bs_ HB.out)) : w.heap.size ≤ gb109)); have n6_ := Aside0.mk ((by rw [hg]; exact Nat.ne_of_lt (blk_lt (g := g0) (o := .cells #[.slice (some ad108) l0_0.length c0_0, .int .i64 a0_1] 90 (0, 0)) (kb_ BK0.out)) : g0 ≠ gb109)); have n7_ := Aside0.mk ((by rw [hg]; exact Nat.ne_of_gt (blk_lt (g := g0) (o := .cells #[.slice (some ad108) l0_0.length c0_0, .int .i64 a0_1] 90 (0, 0)) (kb_ BK0.out)) : gb109 ≠ g0)); clear HO_5; clear BK0; clear HB; have HO_5 := n0_; have BK0 := n1_; have HB := n2_; have BK109 := n3_; have GW109 := n4_; have GE109 := n5_; have NB0_109 := n6_; have NB109_0 := n7_; clear n0_ n1_ n2_ n3_ n4_ n5_ n6_ n7_; clear hb hbox hg; have hnb17 := NB109_0.out; have hnc17 := NB0_109.out; have hcz18_0 : w16.cell? ⟨gb109, 0, none⟩ = some (.int .i64 0) := (blk_cell BK109.out 0).trans rfl; have hcz18_1 : w16.cell? ⟨gb109, 1, none⟩ = some (.int .i64 0) := (blk_cell BK109.out 1).trans rfl; have hcz18_2 : w16.cell? ⟨gb109, 2, none⟩ = some (.bool false) := (blk_cell BK109.out 2).trans rfl; have hcz18_3 : w16.cell? ⟨gb109, 3, none⟩ = some (.bool false) := (blk_cell BK109.out 3).trans rfl; have hcz18_4 : w16.cell? ⟨gb109, 4, none⟩ = some (.int .i64 0) := (blk_cell BK109.out 4).trans rfl; have hfz18_0 := blk_frozen BK109.out 0; have hfz18_1 := blk_frozen BK109.out 1; have hfz18_2 := blk_frozen BK109.out 2; have hfz18_3 := blk_frozen BK109.out 3; have hfz18_4 := blk_frozen BK109.out 4) | (go_at_call 57; (with_reducible refine (stab1.calls p_ B ((rd_T94 l0_0 x11_1).f0.f0.f0) ((rd_T94 l0_0 x11_1).f0.f0.f1) ((rd_T94 l0_0 x11_1).f0.f1) ((rd_T94 l0_0 x11_1).f0.f2) false _ (pw_cell_below (bs_ HB.out) hB0_) A7.out).mono ?_); rintro e w19 ⟨rfl, hb⟩; have n0_ := Aside0.mk (Kd.R_below (rr_ ((Kd.R_mono (Kd.R_far (p := ⟨gb109, 4, none⟩) (Kd.R_far (p := ⟨gb109, 3, none⟩) (Kd.R_far (p := ⟨gb109, 2, none⟩) (Kd.R_far (p := ⟨gb109, 1, none⟩) (Kd.R_far (p := ⟨gb109, 0, none⟩) (Kd.R_types HO_5.out BK109.out (by decide)) (fun _ hk => hk.2) (.int .i64 ((rd_T94 l0_0 x11_1).f0.f0.f0))) (fun _ hk => hk.2) (.int .i64 ((rd_T94 l0_0 x11_1).f0.f0.f1))) (fun _ hk => hk.2) (.bool ((rd_T94 l0_0 x11_1).f0.f1))) (fun _ hk => hk.2) (.bool ((rd_T94 l0_0 x11_1).f0.f2))) (fun _ hk => hk.2) (.int .i64 ((rd_T94 l0_0 x11_1).f1))) (fun _ h_ => h_.1)))) hb); have n1_ := Aside0.mk (blk_below (g := g0) (o := .cells #[.slice (some ad108) l0_0.length c0_0, .int .i64 a0_1] 90 (0, 0)) (by (with_reducible repeat (first | refine blk_drewN ?_ _ | refine blk_drew ?_ | refine blk_alloc ?_ _)); refine blk_far ?_ NB0_109.out _; (with_reducible repeat (first | refine blk_drewN ?_ _ | refine blk_drew ?_ | refine blk_alloc ?_ _)); refine blk_far ?_ NB0_109.out _; (with_reducible repeat (first | refine blk_drewN ?_ _ | refine blk_drew ?_ | refine blk_alloc ?_ _)); refine blk_far ?_ NB0_109.out _; (with_reducible repeat (first | refine blk_drewN ?_ _ | refine blk_drew ?_ | refine blk_alloc ?_ _)); refine blk_far ?_ NB0_109.out _; (with_reducible repeat (first | refine blk_drewN ?_ _ | refine blk_drew ?_ | refine blk_alloc ?_ _)); refine blk_far ?_ NB0_109.out _; (with_reducible repeat (first | refine blk_drewN ?_ _ | refine blk_drew ?_ | refine blk_alloc ?_ _)); exact BK0.out) hb); have n2_ := Aside0.mk (blk_below (g := gb109) (o := .cells #[.int .i64 ((rd_T94 l0_0 x11_1).f0.f0.f0), .int .i64 ((rd_T94 l0_0 x11_1).f0.f0.f1), .bool ((rd_T94 l0_0 x11_1).f0.f1), .bool ((rd_T94 l0_0 x11_1).f0.f2), .int .i64 ((rd_T94 l0_0 x11_1).f1)] 94 (0, 0)) (by (with_reducible repeat (first | refine blk_drewN ?_ _ | refine blk_drew ?_ | refine blk_alloc ?_ _)); refine blk_put (cs := #[.int .i64 ((rd_T94 l0_0 x11_1).f0.f0.f0), .int .i64 ((rd_T94 l0_0 x11_1).f0.f0.f1), .bool ((rd_T94 l0_0 x11_1).f0.f1), .bool ((rd_T94 l0_0 x11_1).f0.f2), .int .i64 0]) ?_ 4 _ rfl; (with_reducible repeat (first | refine blk_drewN ?_ _ | refine blk_drew ?_ | refine blk_alloc ?_ _)); refine blk_put (cs := #[.int .i64 ((rd_T94 l0_0 x11_1).f0.f0.f0), .int .i64 ((rd_T94 l0_0 x11_1).f0.f0.f1), .bool ((rd_T94 l0_0 x11_1).f0.f1), .bool false, .int .i64 0]) ?_ 3 _ rfl; (with_reducible repeat (first | refine blk_drewN ?_ _ | refine blk_drew ?_ | refine blk_alloc ?_ _)); refine blk_put (cs := #[.int .i64 ((rd_T94 l0_0 x11_1).f0.f0.f0), .int .i64 ((rd_T94 l0_0 x11_1).f0.f0.f1), .bool false, .bool false, .int .i64 0]) ?_ 2 _ rfl; (with_reducible repeat (first | refine blk_drewN ?_ _ | refine blk_drew ?_ | refine blk_alloc ?_ _)); refine blk_put (cs := #[.int .i64 ((rd_T94 l0_0 x11_1).f0.f0.f0), .int .i64 0, .bool false, .bool false, .int .i64 0]) ?_ 1 _ rfl; (with_reducible repeat (first | refine blk_drewN ?_ _ | refine blk_drew ?_ | refine blk_alloc ?_ _)); refine blk_put (cs := #[.int .i64 0, .int .i64 0, .bool false, .bool false, .int .i64 0]) ?_ 0 _ rfl; (with_reducible repeat (first | refine blk_drewN ?_ _ | refine blk_drew ?_ | refine blk_alloc ?_ _)); exact BK109.out) hb); have n3_ := Aside0.mk (below_step (bs_ HB.out) hb); clear HO_5; clear BK0; clear BK109; clear HB; have HO_5 := n0_; have BK0 := n1_; have BK109 := n2_; have HB := n3_; clear n0_ n1_ n2_ n3_; (try clear hb hb2 hk hi)))
    go_roundg k1
    case measure => have := HK1.out; omega
    case rel => exact ⟨(x5_1), (wrap64 (x11_1 + 1)), (by first | rfl | (simp; done) | (simp [*]; done)), H', ⟨by have := HK1.out; omega⟩, ⟨rr_ HO_5.out⟩, ⟨kb_ BK0.out⟩, ⟨bs_ HB.out⟩⟩
  subst c8
  have H1 : (if x5_1.length < 17592186044416 then (idsS.l0 p_ k1 (x5_1 ++ [(rd_T94 l0_0 x11_1).f1]) l0_0 (l0_0.length : Int) (wrap64 (x11_1 + 1))) else (none)) = some r := by rw [if_pos rfl] at H; exact H
  clear H
  have H := H1
  clear H1
  by_cases c9 : x5_1.length < 17592186044416
  rotate_left
  · rw [if_neg c9] at H
    exact absurd H (by simp)
  rw [if_pos c9] at H; have LMc9 := Aside0.mk c9; clear c9
  obtain ⟨y111, hy111⟩ : ∃ y_ : List Int, y_ = (x5_1 ++ [(rd_T94 l0_0 x11_1).f1]) := ⟨_, rfl⟩
  replace H : (idsS.l0 p_ k1 y111 l0_0 (l0_0.length : Int) (wrap64 (x11_1 + 1))) = some r := by first | (rw [hy111]; with_reducible exact H) | (have H2_ := (Option.bind_some _ _).symm.trans H; rw [hy111]; with_reducible exact H2_) | (have H2_ := (Option.bind_some _ _).symm.trans H; with_reducible exact H2_) | with_reducible exact H | (rw [hy111]; exact H) | exact H
  have Ny111 := Aside0.mk hy111; clear hy111; have H' := Aside0.mk H; clear H
  have p108 : 0 ≤ (x11_1 : Int) := od_
  have q108 : x11_1 < (l0_0.length : Int) := od_
  obtain ⟨ad108, e108, hx108_0, hx108_1, hx108_2, hx108_3, hx108_4⟩ := at_T94 HR0_0.out x11_1 p108 q108
  cases e108
  replace hx108_0 := (HB.out.cell (World.block_lt_of_cell? w _ hx108_0)).trans hx108_0
  replace hx108_1 := (HB.out.cell (World.block_lt_of_cell? w _ hx108_1)).trans hx108_1
  replace hx108_2 := (HB.out.cell (World.block_lt_of_cell? w _ hx108_2)).trans hx108_2
  replace hx108_3 := (HB.out.cell (World.block_lt_of_cell? w _ hx108_3)).trans hx108_3
  replace hx108_4 := (HB.out.cell (World.block_lt_of_cell? w _ hx108_4)).trans hx108_4
  replace p108 := eq_true p108; replace q108 := eq_true q108
  go_wp2_with (first | ((with_reducible refine gate_dst (N := 7) rfl ?_); refine box_event ?hg (N := 7) ?hd (cs := #[.int .i64 0, .int .i64 0, .bool false, .bool false, .int .i64 0]) (t := 94) ?hr ?_; (case hd => rfl); (case hg => rfl); (case hr => first | (go_simp; done) | (go_simp; rfl)); intro gb109 hg w10 hbox hb; have n0_ := Aside0.mk (Kd.R_below (rr_ HO_5.out) hb); have n1_ := Aside0.mk (blk_below (g := g0) (o := .cells #[.slice (some ad108) l0_0.length c0_0, .int .i64 a0_1] 90 (0, 0)) (kb_ BK0.out) hb); have n2_ := Aside0.mk (below_step (bs_ HB.out) hb); have n3_ := Aside0.mk (hbox); have n4_ := Aside0.mk ((by rw [hg]; exact (below_size (bs_ HB.out)) : w.heap.size ≤ gb109)); have n5_ := Aside0.mk ((by rw [hg]; exact (below_size (bs_ HB.out)) : w.heap.size ≤ gb109)); have n6_ := Aside0.mk ((by rw [hg]; exact Nat.ne_of_lt (blk_lt (g := g0) (o := .cells #[.slice (some ad108) l0_0.length c0_0, .int .i64 a0_1] 90 (0, 0)) (kb_ BK0.out)) : g0 ≠ gb109)); have n7_ := Aside0.mk ((by rw [hg]; exact Nat.ne_of_gt (blk_lt (g := g0) (o := .cells #[.slice (some ad108) l0_0.length c0_0, .int .i64 a0_1] 90 (0, 0)) (kb_ BK0.out)) : gb109 ≠ g0)); clear HO_5; clear BK0; clear HB; have HO_5 := n0_; have BK0 := n1_; have HB := n2_; have BK109 := n3_; have GW109 := n4_; have GE109 := n5_; have NB0_109 := n6_; have NB109_0 := n7_; clear n0_ n1_ n2_ n3_ n4_ n5_ n6_ n7_; clear hb hbox hg; have hnb11 := NB109_0.out; have hnc11 := NB0_109.out; have hcz12_0 : w10.cell? ⟨gb109, 0, none⟩ = some (.int .i64 0) := (blk_cell BK109.out 0).trans rfl; have hcz12_1 : w10.cell? ⟨gb109, 1, none⟩ = some (.int .i64 0) := (blk_cell BK109.out 1).trans rfl; have hcz12_2 : w10.cell? ⟨gb109, 2, none⟩ = some (.bool false) := (blk_cell BK109.out 2).trans rfl; have hcz12_3 : w10.cell? ⟨gb109, 3, none⟩ = some (.bool false) := (blk_cell BK109.out 3).trans rfl; have hcz12_4 : w10.cell? ⟨gb109, 4, none⟩ = some (.int .i64 0) := (blk_cell BK109.out 4).trans rfl; have hfz12_0 := blk_frozen BK109.out 0; have hfz12_1 := blk_frozen BK109.out 1; have hfz12_2 := blk_frozen BK109.out 2; have hfz12_3 := blk_frozen BK109.out 3; have hfz12_4 := blk_frozen BK109.out 4) | (go_at_call 57; (with_reducible refine (stab1.calls p_ B ((rd_T94 l0_0 x11_1).f0.f0.f0) ((rd_T94 l0_0 x11_1).f0.f0.f1) ((rd_T94 l0_0 x11_1).f0.f1) ((rd_T94 l0_0 x11_1).f0.f2) true _ (pw_cell_below (bs_ HB.out) hB0_) A7.out).mono ?_); rintro e w13 ⟨rfl, hb⟩; have n0_ := Aside0.mk (Kd.R_below (rr_ ((Kd.R_mono (Kd.R_far (p := ⟨gb109, 4, none⟩) (Kd.R_far (p := ⟨gb109, 3, none⟩) (Kd.R_far (p := ⟨gb109, 2, none⟩) (Kd.R_far (p := ⟨gb109, 1, none⟩) (Kd.R_far (p := ⟨gb109, 0, none⟩) (Kd.R_types HO_5.out BK109.out (by decide)) (fun _ hk => hk.2) (.int .i64 ((rd_T94 l0_0 x11_1).f0.f0.f0))) (fun _ hk => hk.2) (.int .i64 ((rd_T94 l0_0 x11_1).f0.f0.f1))) (fun _ hk => hk.2) (.bool ((rd_T94 l0_0 x11_1).f0.f1))) (fun _ hk => hk.2) (.bool ((rd_T94 l0_0 x11_1).f0.f2))) (fun _ hk => hk.2) (.int .i64 ((rd_T94 l0_0 x11_1).f1))) (fun _ h_ => h_.1)))) hb); have n1_ := Aside0.mk (blk_below (g := g0) (o := .cells #[.slice (some ad108) l0_0.length c0_0, .int .i64 a0_1] 90 (0, 0)) (by (with_reducible repeat (first | refine blk_drewN ?_ _ | refine blk_drew ?_ | refine blk_alloc ?_ _)); refine blk_far ?_ NB0_109.out _; (with_reducible repeat (first | refine blk_drewN ?_ _ | refine blk_drew ?_ | refine blk_alloc ?_ _)); refine blk_far ?_ NB0_109.out _; (with_reducible repeat (first | refine blk_drewN ?_ _ | refine blk_drew ?_ | refine blk_alloc ?_ _)); refine blk_far ?_ NB0_109.out _; (with_reducible repeat (first | refine blk_drewN ?_ _ | refine blk_drew ?_ | refine blk_alloc ?_ _)); refine blk_far ?_ NB0_109.out _; (with_reducible repeat (first | refine blk_drewN ?_ _ | refine blk_drew ?_ | refine blk_alloc ?_ _)); refine blk_far ?_ NB0_109.out _; (with_reducible repeat (first | refine blk_drewN ?_ _ | refine blk_drew ?_ | refine blk_alloc ?_ _)); exact BK0.out) hb); have n2_ := Aside0.mk (blk_below (g := gb109) (o := .cells #[.int .i64 ((rd_T94 l0_0 x11_1).f0.f0.f0), .int .i64 ((rd_T94 l0_0 x11_1).f0.f0.f1), .bool ((rd_T94 l0_0 x11_1).f0.f1), .bool ((rd_T94 l0_0 x11_1).f0.f2), .int .i64 ((rd_T94 l0_0 x11_1).f1)] 94 (0, 0)) (by (with_reducible repeat (first | refine blk_drewN ?_ _ | refine blk_drew ?_ | refine blk_alloc ?_ _)); refine blk_put (cs := #[.int .i64 ((rd_T94 l0_0 x11_1).f0.f0.f0), .int .i64 ((rd_T94 l0_0 x11_1).f0.f0.f1), .bool ((rd_T94 l0_0 x11_1).f0.f1), .bool ((rd_T94 l0_0 x11_1).f0.f2), .int .i64 0]) ?_ 4 _ rfl; (with_reducible repeat (first | refine blk_drewN ?_ _ | refine blk_drew ?_ | refine blk_alloc ?_ _)); refine blk_put (cs := #[.int .i64 ((rd_T94 l0_0 x11_1).f0.f0.f0), .int .i64 ((rd_T94 l0_0 x11_1).f0.f0.f1), .bool ((rd_T94 l0_0 x11_1).f0.f1), .bool false, .int .i64 0]) ?_ 3 _ rfl; (with_reducible repeat (first | refine blk_drewN ?_ _ | refine blk_drew ?_ | refine blk_alloc ?_ _)); refine blk_put (cs := #[.int .i64 ((rd_T94 l0_0 x11_1).f0.f0.f0), .int .i64 ((rd_T94 l0_0 x11_1).f0.f0.f1), .bool false, .bool false, .int .i64 0]) ?_ 2 _ rfl; (with_reducible repeat (first | refine blk_drewN ?_ _ | refine blk_drew ?_ | refine blk_alloc ?_ _)); refine blk_put (cs := #[.int .i64 ((rd_T94 l0_0 x11_1).f0.f0.f0), .int .i64 0, .bool false, .bool false, .int .i64 0]) ?_ 1 _ rfl; (with_reducible repeat (first | refine blk_drewN ?_ _ | refine blk_drew ?_ | refine blk_alloc ?_ _)); refine blk_put (cs := #[.int .i64 0, .int .i64 0, .bool false, .bool false, .int .i64 0]) ?_ 0 _ rfl; (with_reducible repeat (first | refine blk_drewN ?_ _ | refine blk_drew ?_ | refine blk_alloc ?_ _)); exact BK109.out) hb); have n3_ := Aside0.mk (below_step (bs_ HB.out) hb); clear HO_5; clear BK0; clear BK109; clear HB; have HO_5 := n0_; have BK0 := n1_; have BK109 := n2_; have HB := n3_; clear n0_ n1_ n2_ n3_; (try clear hb hb2 hk hi); have hcz14_0 : w13.cell? ⟨gb109, 0, none⟩ = some (.int .i64 ((rd_T94 l0_0 x11_1).f0.f0.f0)) := (blk_cell BK109.out 0).trans rfl; have hcz14_1 : w13.cell? ⟨gb109, 1, none⟩ = some (.int .i64 ((rd_T94 l0_0 x11_1).f0.f0.f1)) := (blk_cell BK109.out 1).trans rfl; have hcz14_2 : w13.cell? ⟨gb109, 2, none⟩ = some (.bool ((rd_T94 l0_0 x11_1).f0.f1)) := (blk_cell BK109.out 2).trans rfl; have hcz14_3 : w13.cell? ⟨gb109, 3, none⟩ = some (.bool ((rd_T94 l0_0 x11_1).f0.f2)) := (blk_cell BK109.out 3).trans rfl; have hcz14_4 : w13.cell? ⟨gb109, 4, none⟩ = some (.int .i64 ((rd_T94 l0_0 x11_1).f1)) := (blk_cell BK109.out 4).trans rfl; have hfz14_0 := blk_frozen BK109.out 0; have hfz14_1 := blk_frozen BK109.out 1; have hfz14_2 := blk_frozen BK109.out 2; have hfz14_3 := blk_frozen BK109.out 3; have hfz14_4 := blk_frozen BK109.out 4) | ((with_reducible refine gate_builtin (b := .append) (xs := #[.tmp 19, .tmp 22]) rfl ?_); at_builtin; refine Kd.R_append (Kd.int .i64) (w0 := w) w.heap.size rfl (.tmp 19) (.tmp 22) 50 3 (.int .i64 0) 8 rfl Try.underlying50 info3 rfl (by decide) (by omega) u5 x5_1 ((rd_T94 l0_0 x11_1).f1) [.int .i64 ((rd_T94 l0_0 x11_1).f1)] (fun _ => True) (fun _ => False) rfl rfl ?aP (fun _ hk => hk.elim) ?aF ?aO ?aB ?aS ?aL ?_; (case aP => exact rfl); (case aB => exact (bs_ HB.out)); (case aF => exact (fun _ _ => trivial)); (case aO => exact (rr_ HO_5.out)); (case aS => exact (below_size (bs_ HB.out))); (case aL => have := LMc9.out; omega); intro v112 w15 ho hb hg hat; rw [← Ny111.out] at ho; have n0_ := Aside0.mk (blk_grown (g := g0) (o := .cells #[.slice (some ad108) l0_0.length c0_0, .int .i64 a0_1] 90 (0, 0)) (kb_ BK0.out) hg (Kd.R_ne HO_5.out BK0.out (by decide))); have n1_ := Aside0.mk (blk_grown (g := gb109) (o := .cells #[.int .i64 ((rd_T94 l0_0 x11_1).f0.f0.f0), .int .i64 ((rd_T94 l0_0 x11_1).f0.f0.f1), .bool ((rd_T94 l0_0 x11_1).f0.f1), .bool ((rd_T94 l0_0 x11_1).f0.f2), .int .i64 ((rd_T94 l0_0 x11_1).f1)] 94 (0, 0)) (kb_ BK109.out) hg (Kd.R_ne HO_5.out BK109.out (by decide))); have n2_ := Aside0.mk (hb); have n3_ := Aside0.mk (ho); clear BK0; clear BK109; clear HB; clear HO_5; have BK0 := n0_; have BK109 := n1_; have HB := n2_; have HO113 := n3_; clear n0_ n1_ n2_ n3_; clear ho hb hg hat))
  go_roundg k1
  case measure => have := HK1.out; omega
  case rel => exact ⟨(y111), (wrap64 (x11_1 + 1)), (by first | rfl | (simp; done) | (simp [*]; done)), H', ⟨by have := HK1.out; omega⟩, ⟨rr_ HO113.out⟩, ⟨kb_ BK0.out⟩, ⟨bs_ HB.out⟩⟩

/-! ### idsO: function 56, the closure 58 -/
def idsO.l0 (p_ : Int) (q_ : Int) : Nat → List Int → List (S94) → Int → Int → Option (List Int)
  | 0, _, _, _, _ => none
  | k + 1, x5, x9, x10, x11 => if x11 < x10 then (if 0 ≤ x11 then (if x11 < (x9.length : Int) then ((over1.f p_ q_ ((rd_T94 x9 x11).f0.f0.f0) ((rd_T94 x9 x11).f0.f0.f1) ((rd_T94 x9 x11).f0.f1) ((rd_T94 x9 x11).f0.f2)).bind fun t110 => (if t110 = true then (if x5.length < 17592186044416 then (idsO.l0 p_ q_ k (x5 ++ [(rd_T94 x9 x11).f1]) x9 x10 (wrap64 (x11 + 1))) else (none)) else (idsO.l0 p_ q_ k x5 x9 x10 (wrap64 (x11 + 1))))) else (none)) else (none)) else (some x5)
def idsO.f (p_ : Int) (q_ : Int) (k : Nat) (l0_0 : List (S94)) (a0_1 : Int)  : Option (List Int) := idsO.l0 p_ q_ k ([] : List Int) l0_0 (l0_0.length : Int) 0
theorem idsO.mono_l (p_ : Int) (q_ : Int) : ∀ k, (∀ y0 y1 y2 y3, LeO (idsO.l0 p_ q_ k y0 y1 y2 y3) (idsO.l0 p_ q_ (k + 1) y0 y1 y2 y3))
  | 0 => fun _ _ _ _ r h => by simp [idsO.l0] at h
  | k + 1 => by
    have ih0 := idsO.mono_l p_ q_ k
    · intro y0 y1 y2 y3
      unfold idsO.l0
      repeat' first
      | (with_reducible exact ih0 _ _ _ _)
      | (with_reducible exact LeO.refl _)
      | (with_reducible exact LeO.none _)
      | (with_reducible refine LeO.ite ?_ ?_)
      | (with_reducible refine LeO.bind ?_ (fun _ => ?_))
      | exact ih0 _ _ _ _
      | exact LeO.none _
      | refine LeO.ite ?_ ?_
      | refine LeO.bind ?_ (fun _ => ?_)
theorem idsO.mono (p_ : Int) (q_ : Int) : ∀ a0 a1 k, LeO (idsO.f p_ q_ k a0 a1) (idsO.f p_ q_ (k + 1) a0 a1) := by
  intro a0 a1 k
  have ih0 := idsO.mono_l p_ q_ k
  unfold idsO.f
  repeat' first
      | (with_reducible exact ih0 _ _ _ _)
      | (with_reducible exact LeO.refl _)
      | (with_reducible exact LeO.none _)
      | (with_reducible refine LeO.ite ?_ ?_)
      | (with_reducible refine LeO.bind ?_ (fun _ => ?_))
      | exact ih0 _ _ _ _
      | exact LeO.none _
      | refine LeO.ite ?_ ?_
      | refine LeO.bind ?_ (fun _ => ?_)
set_option maxHeartbeats 8000000 in
set_option maxRecDepth 100000 in
theorem idsO.calls (p_ : Int) (q_ : Int) (B : Nat) (k : Nat) (g0 : Nat) (A0_0 : Option Addr) (c0_0 : Nat) (l0_0 : List (S94)) (a0_1 : Int)  (r : List Int) (w : World) (hr0_0 : Kd.C k94 w A0_0 l0_0.length l0_0) (hc0_0 : l0_0.length ≤ c0_0) (hbk0 : w.heap[g0]? = some (.cells #[.slice A0_0 l0_0.length c0_0, .int .i64 a0_1] 90 (0, 0))) (hB0_ : w.cell? ⟨B, 0, none⟩ = some (.int .i64 p_)) (hB1_ : w.cell? ⟨B, 1, none⟩ = some (.int .i64 q_)) (h : idsO.f p_ q_ k l0_0 a0_1 = some r) :
    Calls Try.prog 56 #[.pointer (some ⟨g0, 0, none⟩), .func (.func 58) #[] #[.pointer (some ⟨B, 0, none⟩)]] w fun e w' => ∃ v0_ : Value, e = .returned (v0_) ∧ Kd.R (Kd.int .i64) 3 w' w.heap.size (fun _ => True) v0_ r ∧ Below w.heap.size w w' := by
 have eg58 : ∀ args w, (callFunc 58 args).run Try.prog w = .ok (.enter 58 args) w := enters_of Try.func58 (by kernel_rfl) rfl
 have hu94 := Try.underlying94
 have hu30 := Try.underlying30
 have HR0_0 := Aside0.mk hr0_0; have HC0_0 := Aside0.mk hc0_0; clear hr0_0 hc0_0; have BK0 := Aside0.mk hbk0; clear hbk0
 have HB := Aside0.mk (Below.refl w.heap.size w)
 have H : (idsO.l0 p_ q_ k ([] : List Int) l0_0 (l0_0.length : Int) 0) = some r := h
 clear h; have H' := Aside0.mk H; clear H
 have hcz3_0 : w.cell? ⟨g0, 0, none⟩ = some (.slice A0_0 l0_0.length c0_0) := (blk_cell BK0.out 0).trans rfl
 have hcz3_1 : w.cell? ⟨g0, 1, none⟩ = some (.int .i64 a0_1) := (blk_cell BK0.out 1).trans rfl
 have hfz3_0 := blk_frozen BK0.out 0
 have hfz3_1 := blk_frozen BK0.out 1
 go_enter Try.func56, Try.ntmps56
 go_wp2_with (go_at_call 84; ((with_reducible refine (marks_rows_calls g0 A0_0 l0_0.length c0_0 _ ((blk_cell BK0.out 0).trans rfl)).mono ?_); rintro e wq_ ⟨rfl, rfl⟩))
 go_loopg [5, 11] k (fun kq v5 v11 w' => ∃ (x5_1 : List Int) (x11_1 : Int), v11 = .int .i64 x11_1 ∧ Aside0 (idsO.l0 p_ q_ kq x5_1 l0_0 (l0_0.length : Int) x11_1 = some r) ∧ Aside0 (kq ≤ k) ∧ Aside0 (Kd.R (Kd.int .i64) 3 w' w.heap.size (fun _ => True) v5 x5_1) ∧ Aside0 (w'.heap[g0]? = some (.cells #[(.slice A0_0 l0_0.length c0_0), .int .i64 a0_1] 90 (0, 0))) ∧ Aside0 (Below w.heap.size w w'))
 case atStart => exact ⟨(([] : List Int)), (0), (by first | rfl | (simp; done) | (simp [*]; done)), H', ⟨Nat.le_refl _⟩, ⟨by first | exact Kd.R_nil _ _ _ _ _ | exact Kd.N_nil _ _ _ _ _ | exact Kd.V_nil _ _ _ _ _ | exact Kd.Q_nil _ _ _ _ _ | exact Kd.S_nil _ _ _ _ _⟩, ⟨kb_ BK0.out⟩, ⟨bs_ HB.out⟩⟩
 clear H'; (try clear hcz3_0 hcz3_1 hfz3_0 hfz3_1); obtain ⟨x5_1, x11_1, rfl, HA, HK1, HO_5, BK0, HB⟩ := hrel
 cases gk with
 | zero => exact absurd HA.out (by simp [idsO.l0])
 | succ k1 =>
  have H := HA.out
  clear HA
  simp only [idsO.l0] at H
  by_cases c4 : x11_1 < (l0_0.length : Int)
  rotate_left
  · rw [if_neg c4] at H
    have c4b0 : decide (x11_1 < (l0_0.length : Int)) = false := decide_eq_false c4
    clear c4
    obtain rfl := Option.some.inj H
    go_wp2
    go_ret
    exact ⟨_, by first | rfl | (simp [errW_none, errW_some] <;> rfl) | (simp [*, errW_none, errW_some] <;> rfl), by (with_reducible repeat (first | apply Kd.R_alloc | apply Kd.R_drewN | apply Kd.R_drew)); exact HO_5.out, bs_ HB.out⟩
  rw [if_pos c4] at H
  have c4b0 : decide (x11_1 < (l0_0.length : Int)) = true := decide_eq_true c4
  clear c4
  by_cases c5 : 0 ≤ x11_1
  rotate_left
  · rw [if_neg c5] at H
    exact absurd H (by simp)
  rw [if_pos c5] at H
  have c5b0 : decide (0 ≤ x11_1) = true := decide_eq_true c5
  clear c5
  by_cases c6 : x11_1 < (l0_0.length : Int)
  rotate_left
  · rw [if_neg c6] at H
    exact absurd H (by simp)
  rw [if_pos c6] at H
  have c6b0 : decide (x11_1 < (l0_0.length : Int)) = true := decide_eq_true c6
  clear c6
  replace H := Option.bind_eq_some_iff.mp H
  obtain ⟨t110, A70, H⟩ := H
  replace H : (if t110 = true then (if x5_1.length < 17592186044416 then (idsO.l0 p_ q_ k1 (x5_1 ++ [(rd_T94 l0_0 x11_1).f1]) l0_0 (l0_0.length : Int) (wrap64 (x11_1 + 1))) else (none)) else (idsO.l0 p_ q_ k1 x5_1 l0_0 (l0_0.length : Int) (wrap64 (x11_1 + 1)))) = some r := H
  have A7 := Aside0.mk A70; clear A70
  by_cases c8 : t110 = true
  rotate_left
  · replace c8 := Bool.eq_false_iff.mpr c8
    subst c8
    have H1 : (idsO.l0 p_ q_ k1 x5_1 l0_0 (l0_0.length : Int) (wrap64 (x11_1 + 1))) = some r := by rw [if_neg (show ¬ (false = true) by decide)] at H; exact H
    clear H
    have H := H1
    clear H1; have H' := Aside0.mk H; clear H
    have p108 : 0 ≤ (x11_1 : Int) := od_
    have q108 : x11_1 < (l0_0.length : Int) := od_
    obtain ⟨ad108, e108, hx108_0, hx108_1, hx108_2, hx108_3, hx108_4⟩ := at_T94 HR0_0.out x11_1 p108 q108
    cases e108
    replace hx108_0 := (HB.out.cell (World.block_lt_of_cell? w _ hx108_0)).trans hx108_0
    replace hx108_1 := (HB.out.cell (World.block_lt_of_cell? w _ hx108_1)).trans hx108_1
    replace hx108_2 := (HB.out.cell (World.block_lt_of_cell? w _ hx108_2)).trans hx108_2
    replace hx108_3 := (HB.out.cell (World.block_lt_of_cell? w _ hx108_3)).trans hx108_3
    replace hx108_4 := (HB.out.cell (World.block_lt_of_cell? w _ hx108_4)).trans hx108_4
    replace p108 := eq_true p108; replace q108 := eq_true q108
    go_wp2_with (first | ((with_reducible refine gate_dst (N := 7) rfl ?_); refine box_event ?hg (N := 7) ?hd (cs := #[.int .i64 0, .int .i64 0, .bool false, .bool false, .int .i64 0]) (t := 94) ?hr ?_; (case hd => rfl); (case hg => rfl); (case hr => first | (go_simp; done) | (go_simp; rfl)); intro gb109 hg w16 hbox hb; have n0_ := Aside0.mk (Kd.R_below (rr_ HO_5.out) hb); have n1_ := Aside0.mk (blk_below (g := g0) (o := .cells #[.slice (some ad108) l0_0.length c0_0, .int .i64 a0_1] 90 (0, 0)) (kb_ BK0.out) hb); have n2_ := Aside0.mk (below_step (bs_ HB.out) hb); have n3_ := Aside0.mk (hbox); have n4_ := Aside0.mk ((by rw [hg]; exact (below_size (bs_ HB.out)) : w.heap.size ≤ gb109)); have n5_ := Aside0.mk ((by rw [hg]; exact (below_size (bs_ HB.out)) : w.heap.size ≤ gb109)); have n6_ := Aside0.mk ((by rw [hg]; exact Nat.ne_of_lt (blk_lt (g := g0) (o := .cells #[.slice (some ad108) l0_0.length c0_0, .int .i64 a0_1] 90 (0, 0)) (kb_ BK0.out)) : g0 ≠ gb109)); have n7_ := Aside0.mk ((by rw [hg]; exact Nat.ne_of_gt (blk_lt (g := g0) (o := .cells #[.slice (some ad108) l0_0.length c0_0, .int .i64 a0_1] 90 (0, 0)) (kb_ BK0.out)) : gb109 ≠ g0)); clear HO_5; clear BK0; clear HB; have HO_5 := n0_; have BK0 := n1_; have HB := n2_; have BK109 := n3_; have GW109 := n4_; have GE109 := n5_; have NB0_109 := n6_; have NB109_0 := n7_; clear n0_ n1_ n2_ n3_ n4_ n5_ n6_ n7_; clear hb hbox hg; have hnb17 := NB109_0.out; have hnc17 := NB0_109.out; have hcz18_0 : w16.cell? ⟨gb109, 0, none⟩ = some (.int .i64 0) := (blk_cell BK109.out 0).trans rfl; have hcz18_1 : w16.cell? ⟨gb109, 1, none⟩ = some (.int .i64 0) := (blk_cell BK109.out 1).trans rfl; have hcz18_2 : w16.cell? ⟨gb109, 2, none⟩ = some (.bool false) := (blk_cell BK109.out 2).trans rfl; have hcz18_3 : w16.cell? ⟨gb109, 3, none⟩ = some (.bool false) := (blk_cell BK109.out 3).trans rfl; have hcz18_4 : w16.cell? ⟨gb109, 4, none⟩ = some (.int .i64 0) := (blk_cell BK109.out 4).trans rfl; have hfz18_0 := blk_frozen BK109.out 0; have hfz18_1 := blk_frozen BK109.out 1; have hfz18_2 := blk_frozen BK109.out 2; have hfz18_3 := blk_frozen BK109.out 3; have hfz18_4 := blk_frozen BK109.out 4) | (go_at_call 58; (with_reducible refine (over1.calls p_ q_ B ((rd_T94 l0_0 x11_1).f0.f0.f0) ((rd_T94 l0_0 x11_1).f0.f0.f1) ((rd_T94 l0_0 x11_1).f0.f1) ((rd_T94 l0_0 x11_1).f0.f2) false _ (pw_cell_below (bs_ HB.out) hB0_) (pw_cell_below (bs_ HB.out) hB1_) A7.out).mono ?_); rintro e w19 ⟨rfl, hb⟩; have n0_ := Aside0.mk (Kd.R_below (rr_ ((Kd.R_mono (Kd.R_far (p := ⟨gb109, 4, none⟩) (Kd.R_far (p := ⟨gb109, 3, none⟩) (Kd.R_far (p := ⟨gb109, 2, none⟩) (Kd.R_far (p := ⟨gb109, 1, none⟩) (Kd.R_far (p := ⟨gb109, 0, none⟩) (Kd.R_types HO_5.out BK109.out (by decide)) (fun _ hk => hk.2) (.int .i64 ((rd_T94 l0_0 x11_1).f0.f0.f0))) (fun _ hk => hk.2) (.int .i64 ((rd_T94 l0_0 x11_1).f0.f0.f1))) (fun _ hk => hk.2) (.bool ((rd_T94 l0_0 x11_1).f0.f1))) (fun _ hk => hk.2) (.bool ((rd_T94 l0_0 x11_1).f0.f2))) (fun _ hk => hk.2) (.int .i64 ((rd_T94 l0_0 x11_1).f1))) (fun _ h_ => h_.1)))) hb); have n1_ := Aside0.mk (blk_below (g := g0) (o := .cells #[.slice (some ad108) l0_0.length c0_0, .int .i64 a0_1] 90 (0, 0)) (by (with_reducible repeat (first | refine blk_drewN ?_ _ | refine blk_drew ?_ | refine blk_alloc ?_ _)); refine blk_far ?_ NB0_109.out _; (with_reducible repeat (first | refine blk_drewN ?_ _ | refine blk_drew ?_ | refine blk_alloc ?_ _)); refine blk_far ?_ NB0_109.out _; (with_reducible repeat (first | refine blk_drewN ?_ _ | refine blk_drew ?_ | refine blk_alloc ?_ _)); refine blk_far ?_ NB0_109.out _; (with_reducible repeat (first | refine blk_drewN ?_ _ | refine blk_drew ?_ | refine blk_alloc ?_ _)); refine blk_far ?_ NB0_109.out _; (with_reducible repeat (first | refine blk_drewN ?_ _ | refine blk_drew ?_ | refine blk_alloc ?_ _)); refine blk_far ?_ NB0_109.out _; (with_reducible repeat (first | refine blk_drewN ?_ _ | refine blk_drew ?_ | refine blk_alloc ?_ _)); exact BK0.out) hb); have n2_ := Aside0.mk (blk_below (g := gb109) (o := .cells #[.int .i64 ((rd_T94 l0_0 x11_1).f0.f0.f0), .int .i64 ((rd_T94 l0_0 x11_1).f0.f0.f1), .bool ((rd_T94 l0_0 x11_1).f0.f1), .bool ((rd_T94 l0_0 x11_1).f0.f2), .int .i64 ((rd_T94 l0_0 x11_1).f1)] 94 (0, 0)) (by (with_reducible repeat (first | refine blk_drewN ?_ _ | refine blk_drew ?_ | refine blk_alloc ?_ _)); refine blk_put (cs := #[.int .i64 ((rd_T94 l0_0 x11_1).f0.f0.f0), .int .i64 ((rd_T94 l0_0 x11_1).f0.f0.f1), .bool ((rd_T94 l0_0 x11_1).f0.f1), .bool ((rd_T94 l0_0 x11_1).f0.f2), .int .i64 0]) ?_ 4 _ rfl; (with_reducible repeat (first | refine blk_drewN ?_ _ | refine blk_drew ?_ | refine blk_alloc ?_ _)); refine blk_put (cs := #[.int .i64 ((rd_T94 l0_0 x11_1).f0.f0.f0), .int .i64 ((rd_T94 l0_0 x11_1).f0.f0.f1), .bool ((rd_T94 l0_0 x11_1).f0.f1), .bool false, .int .i64 0]) ?_ 3 _ rfl; (with_reducible repeat (first | refine blk_drewN ?_ _ | refine blk_drew ?_ | refine blk_alloc ?_ _)); refine blk_put (cs := #[.int .i64 ((rd_T94 l0_0 x11_1).f0.f0.f0), .int .i64 ((rd_T94 l0_0 x11_1).f0.f0.f1), .bool false, .bool false, .int .i64 0]) ?_ 2 _ rfl; (with_reducible repeat (first | refine blk_drewN ?_ _ | refine blk_drew ?_ | refine blk_alloc ?_ _)); refine blk_put (cs := #[.int .i64 ((rd_T94 l0_0 x11_1).f0.f0.f0), .int .i64 0, .bool false, .bool false, .int .i64 0]) ?_ 1 _ rfl; (with_reducible repeat (first | refine blk_drewN ?_ _ | refine blk_drew ?_ | refine blk_alloc ?_ _)); refine blk_put (cs := #[.int .i64 0, .int .i64 0, .bool false, .bool false, .int .i64 0]) ?_ 0 _ rfl; (with_reducible repeat (first | refine blk_drewN ?_ _ | refine blk_drew ?_ | refine blk_alloc ?_ _)); exact BK109.out) hb); have n3_ := Aside0.mk (below_step (bs_ HB.out) hb); clear HO_5; clear BK0; clear BK109; clear HB; have HO_5 := n0_; have BK0 := n1_; have BK109 := n2_; have HB := n3_; clear n0_ n1_ n2_ n3_; (try clear hb hb2 hk hi)))
    go_roundg k1
    case measure => have := HK1.out; omega
    case rel => exact ⟨(x5_1), (wrap64 (x11_1 + 1)), (by first | rfl | (simp; done) | (simp [*]; done)), H', ⟨by have := HK1.out; omega⟩, ⟨rr_ HO_5.out⟩, ⟨kb_ BK0.out⟩, ⟨bs_ HB.out⟩⟩
  subst c8
  have H1 : (if x5_1.length < 17592186044416 then (idsO.l0 p_ q_ k1 (x5_1 ++ [(rd_T94 l0_0 x11_1).f1]) l0_0 (l0_0.length : Int) (wrap64 (x11_1 + 1))) else (none)) = some r := by rw [if_pos rfl] at H; exact H
  clear H
  have H := H1
  clear H1
  by_cases c9 : x5_1.length < 17592186044416
  rotate_left
  · rw [if_neg c9] at H
    exact absurd H (by simp)
  rw [if_pos c9] at H; have LMc9 := Aside0.mk c9; clear c9
  obtain ⟨y111, hy111⟩ : ∃ y_ : List Int, y_ = (x5_1 ++ [(rd_T94 l0_0 x11_1).f1]) := ⟨_, rfl⟩
  replace H : (idsO.l0 p_ q_ k1 y111 l0_0 (l0_0.length : Int) (wrap64 (x11_1 + 1))) = some r := by first | (rw [hy111]; with_reducible exact H) | (have H2_ := (Option.bind_some _ _).symm.trans H; rw [hy111]; with_reducible exact H2_) | (have H2_ := (Option.bind_some _ _).symm.trans H; with_reducible exact H2_) | with_reducible exact H | (rw [hy111]; exact H) | exact H
  have Ny111 := Aside0.mk hy111; clear hy111; have H' := Aside0.mk H; clear H
  have p108 : 0 ≤ (x11_1 : Int) := od_
  have q108 : x11_1 < (l0_0.length : Int) := od_
  obtain ⟨ad108, e108, hx108_0, hx108_1, hx108_2, hx108_3, hx108_4⟩ := at_T94 HR0_0.out x11_1 p108 q108
  cases e108
  replace hx108_0 := (HB.out.cell (World.block_lt_of_cell? w _ hx108_0)).trans hx108_0
  replace hx108_1 := (HB.out.cell (World.block_lt_of_cell? w _ hx108_1)).trans hx108_1
  replace hx108_2 := (HB.out.cell (World.block_lt_of_cell? w _ hx108_2)).trans hx108_2
  replace hx108_3 := (HB.out.cell (World.block_lt_of_cell? w _ hx108_3)).trans hx108_3
  replace hx108_4 := (HB.out.cell (World.block_lt_of_cell? w _ hx108_4)).trans hx108_4
  replace p108 := eq_true p108; replace q108 := eq_true q108
  go_wp2_with (first | ((with_reducible refine gate_dst (N := 7) rfl ?_); refine box_event ?hg (N := 7) ?hd (cs := #[.int .i64 0, .int .i64 0, .bool false, .bool false, .int .i64 0]) (t := 94) ?hr ?_; (case hd => rfl); (case hg => rfl); (case hr => first | (go_simp; done) | (go_simp; rfl)); intro gb109 hg w10 hbox hb; have n0_ := Aside0.mk (Kd.R_below (rr_ HO_5.out) hb); have n1_ := Aside0.mk (blk_below (g := g0) (o := .cells #[.slice (some ad108) l0_0.length c0_0, .int .i64 a0_1] 90 (0, 0)) (kb_ BK0.out) hb); have n2_ := Aside0.mk (below_step (bs_ HB.out) hb); have n3_ := Aside0.mk (hbox); have n4_ := Aside0.mk ((by rw [hg]; exact (below_size (bs_ HB.out)) : w.heap.size ≤ gb109)); have n5_ := Aside0.mk ((by rw [hg]; exact (below_size (bs_ HB.out)) : w.heap.size ≤ gb109)); have n6_ := Aside0.mk ((by rw [hg]; exact Nat.ne_of_lt (blk_lt (g := g0) (o := .cells #[.slice (some ad108) l0_0.length c0_0, .int .i64 a0_1] 90 (0, 0)) (kb_ BK0.out)) : g0 ≠ gb109)); have n7_ := Aside0.mk ((by rw [hg]; exact Nat.ne_of_gt (blk_lt (g := g0) (o := .cells #[.slice (some ad108) l0_0.length c0_0, .int .i64 a0_1] 90 (0, 0)) (kb_ BK0.out)) : gb109 ≠ g0)); clear HO_5; clear BK0; clear HB; have HO_5 := n0_; have BK0 := n1_; have HB := n2_; have BK109 := n3_; have GW109 := n4_; have GE109 := n5_; have NB0_109 := n6_; have NB109_0 := n7_; clear n0_ n1_ n2_ n3_ n4_ n5_ n6_ n7_; clear hb hbox hg; have hnb11 := NB109_0.out; have hnc11 := NB0_109.out; have hcz12_0 : w10.cell? ⟨gb109, 0, none⟩ = some (.int .i64 0) := (blk_cell BK109.out 0).trans rfl; have hcz12_1 : w10.cell? ⟨gb109, 1, none⟩ = some (.int .i64 0) := (blk_cell BK109.out 1).trans rfl; have hcz12_2 : w10.cell? ⟨gb109, 2, none⟩ = some (.bool false) := (blk_cell BK109.out 2).trans rfl; have hcz12_3 : w10.cell? ⟨gb109, 3, none⟩ = some (.bool false) := (blk_cell BK109.out 3).trans rfl; have hcz12_4 : w10.cell? ⟨gb109, 4, none⟩ = some (.int .i64 0) := (blk_cell BK109.out 4).trans rfl; have hfz12_0 := blk_frozen BK109.out 0; have hfz12_1 := blk_frozen BK109.out 1; have hfz12_2 := blk_frozen BK109.out 2; have hfz12_3 := blk_frozen BK109.out 3; have hfz12_4 := blk_frozen BK109.out 4) | (go_at_call 58; (with_reducible refine (over1.calls p_ q_ B ((rd_T94 l0_0 x11_1).f0.f0.f0) ((rd_T94 l0_0 x11_1).f0.f0.f1) ((rd_T94 l0_0 x11_1).f0.f1) ((rd_T94 l0_0 x11_1).f0.f2) true _ (pw_cell_below (bs_ HB.out) hB0_) (pw_cell_below (bs_ HB.out) hB1_) A7.out).mono ?_); rintro e w13 ⟨rfl, hb⟩; have n0_ := Aside0.mk (Kd.R_below (rr_ ((Kd.R_mono (Kd.R_far (p := ⟨gb109, 4, none⟩) (Kd.R_far (p := ⟨gb109, 3, none⟩) (Kd.R_far (p := ⟨gb109, 2, none⟩) (Kd.R_far (p := ⟨gb109, 1, none⟩) (Kd.R_far (p := ⟨gb109, 0, none⟩) (Kd.R_types HO_5.out BK109.out (by decide)) (fun _ hk => hk.2) (.int .i64 ((rd_T94 l0_0 x11_1).f0.f0.f0))) (fun _ hk => hk.2) (.int .i64 ((rd_T94 l0_0 x11_1).f0.f0.f1))) (fun _ hk => hk.2) (.bool ((rd_T94 l0_0 x11_1).f0.f1))) (fun _ hk => hk.2) (.bool ((rd_T94 l0_0 x11_1).f0.f2))) (fun _ hk => hk.2) (.int .i64 ((rd_T94 l0_0 x11_1).f1))) (fun _ h_ => h_.1)))) hb); have n1_ := Aside0.mk (blk_below (g := g0) (o := .cells #[.slice (some ad108) l0_0.length c0_0, .int .i64 a0_1] 90 (0, 0)) (by (with_reducible repeat (first | refine blk_drewN ?_ _ | refine blk_drew ?_ | refine blk_alloc ?_ _)); refine blk_far ?_ NB0_109.out _; (with_reducible repeat (first | refine blk_drewN ?_ _ | refine blk_drew ?_ | refine blk_alloc ?_ _)); refine blk_far ?_ NB0_109.out _; (with_reducible repeat (first | refine blk_drewN ?_ _ | refine blk_drew ?_ | refine blk_alloc ?_ _)); refine blk_far ?_ NB0_109.out _; (with_reducible repeat (first | refine blk_drewN ?_ _ | refine blk_drew ?_ | refine blk_alloc ?_ _)); refine blk_far ?_ NB0_109.out _; (with_reducible repeat (first | refine blk_drewN ?_ _ | refine blk_drew ?_ | refine blk_alloc ?_ _)); refine blk_far ?_ NB0_109.out _; (with_reducible repeat (first | refine blk_drewN ?_ _ | refine blk_drew ?_ | refine blk_alloc ?_ _)); exact BK0.out) hb); have n2_ := Aside0.mk (blk_below (g := gb109) (o := .cells #[.int .i64 ((rd_T94 l0_0 x11_1).f0.f0.f0), .int .i64 ((rd_T94 l0_0 x11_1).f0.f0.f1), .bool ((rd_T94 l0_0 x11_1).f0.f1), .bool ((rd_T94 l0_0 x11_1).f0.f2), .int .i64 ((rd_T94 l0_0 x11_1).f1)] 94 (0, 0)) (by (with_reducible repeat (first | refine blk_drewN ?_ _ | refine blk_drew ?_ | refine blk_alloc ?_ _)); refine blk_put (cs := #[.int .i64 ((rd_T94 l0_0 x11_1).f0.f0.f0), .int .i64 ((rd_T94 l0_0 x11_1).f0.f0.f1), .bool ((rd_T94 l0_0 x11_1).f0.f1), .bool ((rd_T94 l0_0 x11_1).f0.f2), .int .i64 0]) ?_ 4 _ rfl; (with_reducible repeat (first | refine blk_drewN ?_ _ | refine blk_drew ?_ | refine blk_alloc ?_ _)); refine blk_put (cs := #[.int .i64 ((rd_T94 l0_0 x11_1).f0.f0.f0), .int .i64 ((rd_T94 l0_0 x11_1).f0.f0.f1), .bool ((rd_T94 l0_0 x11_1).f0.f1), .bool false, .int .i64 0]) ?_ 3 _ rfl; (with_reducible repeat (first | refine blk_drewN ?_ _ | refine blk_drew ?_ | refine blk_alloc ?_ _)); refine blk_put (cs := #[.int .i64 ((rd_T94 l0_0 x11_1).f0.f0.f0), .int .i64 ((rd_T94 l0_0 x11_1).f0.f0.f1), .bool false, .bool false, .int .i64 0]) ?_ 2 _ rfl; (with_reducible repeat (first | refine blk_drewN ?_ _ | refine blk_drew ?_ | refine blk_alloc ?_ _)); refine blk_put (cs := #[.int .i64 ((rd_T94 l0_0 x11_1).f0.f0.f0), .int .i64 0, .bool false, .bool false, .int .i64 0]) ?_ 1 _ rfl; (with_reducible repeat (first | refine blk_drewN ?_ _ | refine blk_drew ?_ | refine blk_alloc ?_ _)); refine blk_put (cs := #[.int .i64 0, .int .i64 0, .bool false, .bool false, .int .i64 0]) ?_ 0 _ rfl; (with_reducible repeat (first | refine blk_drewN ?_ _ | refine blk_drew ?_ | refine blk_alloc ?_ _)); exact BK109.out) hb); have n3_ := Aside0.mk (below_step (bs_ HB.out) hb); clear HO_5; clear BK0; clear BK109; clear HB; have HO_5 := n0_; have BK0 := n1_; have BK109 := n2_; have HB := n3_; clear n0_ n1_ n2_ n3_; (try clear hb hb2 hk hi); have hcz14_0 : w13.cell? ⟨gb109, 0, none⟩ = some (.int .i64 ((rd_T94 l0_0 x11_1).f0.f0.f0)) := (blk_cell BK109.out 0).trans rfl; have hcz14_1 : w13.cell? ⟨gb109, 1, none⟩ = some (.int .i64 ((rd_T94 l0_0 x11_1).f0.f0.f1)) := (blk_cell BK109.out 1).trans rfl; have hcz14_2 : w13.cell? ⟨gb109, 2, none⟩ = some (.bool ((rd_T94 l0_0 x11_1).f0.f1)) := (blk_cell BK109.out 2).trans rfl; have hcz14_3 : w13.cell? ⟨gb109, 3, none⟩ = some (.bool ((rd_T94 l0_0 x11_1).f0.f2)) := (blk_cell BK109.out 3).trans rfl; have hcz14_4 : w13.cell? ⟨gb109, 4, none⟩ = some (.int .i64 ((rd_T94 l0_0 x11_1).f1)) := (blk_cell BK109.out 4).trans rfl; have hfz14_0 := blk_frozen BK109.out 0; have hfz14_1 := blk_frozen BK109.out 1; have hfz14_2 := blk_frozen BK109.out 2; have hfz14_3 := blk_frozen BK109.out 3; have hfz14_4 := blk_frozen BK109.out 4) | ((with_reducible refine gate_builtin (b := .append) (xs := #[.tmp 19, .tmp 22]) rfl ?_); at_builtin; refine Kd.R_append (Kd.int .i64) (w0 := w) w.heap.size rfl (.tmp 19) (.tmp 22) 50 3 (.int .i64 0) 8 rfl Try.underlying50 info3 rfl (by decide) (by omega) u5 x5_1 ((rd_T94 l0_0 x11_1).f1) [.int .i64 ((rd_T94 l0_0 x11_1).f1)] (fun _ => True) (fun _ => False) rfl rfl ?aP (fun _ hk => hk.elim) ?aF ?aO ?aB ?aS ?aL ?_; (case aP => exact rfl); (case aB => exact (bs_ HB.out)); (case aF => exact (fun _ _ => trivial)); (case aO => exact (rr_ HO_5.out)); (case aS => exact (below_size (bs_ HB.out))); (case aL => have := LMc9.out; omega); intro v112 w15 ho hb hg hat; rw [← Ny111.out] at ho; have n0_ := Aside0.mk (blk_grown (g := g0) (o := .cells #[.slice (some ad108) l0_0.length c0_0, .int .i64 a0_1] 90 (0, 0)) (kb_ BK0.out) hg (Kd.R_ne HO_5.out BK0.out (by decide))); have n1_ := Aside0.mk (blk_grown (g := gb109) (o := .cells #[.int .i64 ((rd_T94 l0_0 x11_1).f0.f0.f0), .int .i64 ((rd_T94 l0_0 x11_1).f0.f0.f1), .bool ((rd_T94 l0_0 x11_1).f0.f1), .bool ((rd_T94 l0_0 x11_1).f0.f2), .int .i64 ((rd_T94 l0_0 x11_1).f1)] 94 (0, 0)) (kb_ BK109.out) hg (Kd.R_ne HO_5.out BK109.out (by decide))); have n2_ := Aside0.mk (hb); have n3_ := Aside0.mk (ho); clear BK0; clear BK109; clear HB; clear HO_5; have BK0 := n0_; have BK109 := n1_; have HB := n2_; have HO113 := n3_; clear n0_ n1_ n2_ n3_; clear ho hb hg hat))
  go_roundg k1
  case measure => have := HK1.out; omega
  case rel => exact ⟨(y111), (wrap64 (x11_1 + 1)), (by first | rfl | (simp; done) | (simp [*]; done)), H', ⟨by have := HK1.out; omega⟩, ⟨rr_ HO113.out⟩, ⟨kb_ BK0.out⟩, ⟨bs_ HB.out⟩⟩


set_option maxHeartbeats 1000000 in
set_option maxRecDepth 100000 in
theorem Stab_calls (base g : Nat) (l : List S94) (last : Int) (p : Int) (k : Nat) (r : List Int) (w : World) (h : St w base g l last) (hf : idsS.f p k l last = some r) :
    Calls Try.prog 17 #[.pointer (some ⟨g, 0, none⟩), .int .i64 p] w fun e w' => ∃ v, e = .returned v ∧ Kd.R (Kd.int .i64) 3 w' w.heap.size (fun _ => True) v r ∧ Below w.heap.size w w' := by
  have hB0 : Below w.heap.size w (w.alloc (.cells #[.int .i64 p] 3)) := (Below.refl _ w).alloc (Nat.le_refl _) _
  have hbx : (w.alloc (.cells #[.int .i64 p] 3)).cell? ⟨w.heap.size, 0, none⟩ = some (.int .i64 p) := by simp
  obtain ⟨A, c, hb, hlc, hlen, hr⟩ := (h.below hB0).view
  have hcon := idsS.calls p w.heap.size k g A c l last r _ hr hlc hb hbx hf
  have hsz : w.heap.size ≤ (w.alloc (.cells #[.int .i64 p] 3)).heap.size := by simp
  clear h hb hr hf hbx
  go_enter Try.func17, Try.ntmps17
  go_wp2_with (go_at_call 56; ((with_reducible refine hcon.mono ?_); rintro e w' ⟨v, rfl, hR, hb⟩))
  go_ret
  exact ⟨_, rfl, Kd.R_lower hR hsz, hB0.trans (hb.mono hsz)⟩
set_option maxHeartbeats 1000000 in
set_option maxRecDepth 100000 in
theorem Over_calls (base g : Nat) (l : List S94) (last : Int) (p q : Int) (k : Nat) (r : List Int) (w : World) (h : St w base g l last) (hf : idsO.f p q k l last = some r) :
    Calls Try.prog 18 #[.pointer (some ⟨g, 0, none⟩), .agg #[.int .i64 p, .int .i64 q]] w fun e w' => ∃ v, e = .returned v ∧ Kd.R (Kd.int .i64) 3 w' w.heap.size (fun _ => True) v r ∧ Below w.heap.size w w' := by
  have hB0 : Below w.heap.size w (w.alloc (.cells #[.int .i64 p, .int .i64 q] 28)) := (Below.refl _ w).alloc (Nat.le_refl _) _
  have hbx : (w.alloc (.cells #[.int .i64 p, .int .i64 q] 28)).cell? ⟨w.heap.size, 0, none⟩ = some (.int .i64 p) := by simp
  have hbx1 : (w.alloc (.cells #[.int .i64 p, .int .i64 q] 28)).cell? ⟨w.heap.size, 1, none⟩ = some (.int .i64 q) := by simp
  obtain ⟨A, c, hb, hlc, hlen, hr⟩ := (h.below hB0).view
  have hcon := idsO.calls p q w.heap.size k g A c l last r _ hr hlc hb hbx hbx1 hf
  have hsz : w.heap.size ≤ (w.alloc (.cells #[.int .i64 p, .int .i64 q] 28)).heap.size := by simp
  clear h hb hr hf hbx hbx1
  go_enter Try.func18, Try.ntmps18
  go_wp2_with (go_at_call 56; ((with_reducible refine hcon.mono ?_); rintro e w' ⟨v, rfl, hR, hb⟩))
  go_ret
  exact ⟨_, rfl, Kd.R_lower hR hsz, hB0.trans (hb.mono hsz)⟩
end Go.Proofs.Ythbdiambigfgdae.Hand
