/- A pure operation's step, and a load's, in a region that draws its order, with what a printed text writes behind them each time as their defaults; no condition. -/
import Derived.Test.YtaicpljgijjenaaGreatDoorVLast
import Derived.Test.YtaicpljgijjenaaGreatDoorVTab
import Derived.KernelRfl
namespace Go.Proofs.YtaicpljgijjenaaGreatDoor.Sq
open Go.RowKit Go.Proofs.YtaicpljgijjenaaGreatDoorW.PrintWords Go.Proofs.YtaicpljgijjenaaGreatDoorW.PrintLast
section
variable {P : Program} {ops : Array Oper} {Q : Exit → Act → World → Prop} {md : Region.Mode} {S : World → Prop} {ds : List Nat}
theorem q_ (i : Nat) (N : Option Tmp) {oi : Oper} {v : Value} {fuel : Nat} {l : Array Bool} {a : Act} {w : World} {T : Bool × List (List Nat × List Nat)} (hT : rtab md ops = T) {a' : Act}
    (h : wpAnyLast P md ops Q S ds fuel (l.setIfInBounds i true) a' w) (hi : ops[i]? = some oi := by rfl) (hN : oi.dst = N := by rfl) (hc : anyT T l.toList (l.setIfInBounds i true).toList i = true := by kernel_rfl)
    (hQ : ∀ c a w, Q (.panic c) (a.put oi.dst v) w → Q (.panic c) a w := by exact fun _ _ _ h => h)
    (hy : Yields P ops oi v a := by exact Or.inl ⟨by rfl, by intro w'; go_simp; with_reducible rfl⟩)
    (ha : a.put N v = a' := by simp only [Act.put, List.setIfInBounds_toArray, List.set_cons_zero, List.set_cons_succ, i64_w, i32_w]; rfl) : wpAnyLast P md ops Q S ds (fuel + 1) l a w :=
  pure_ (l.setIfInBounds i true) hi hN (any_of hT hc) hQ hy ha h
theorem t_ (i : Nat) (N : Option Tmp) {oi : Oper} {v : Value} {fuel : Nat} {l : Array Bool} {a : Act} {w : World} {T : Bool × List (List Nat × List Nat)} {B : List Nat} (hT : rtab md ops = T) (hB : waitsOk T.2 B = true) (hS : S w) {a' : Act}
    (h : wpAnyLast P md ops Q S ds fuel (l.setIfInBounds i true) a' w) (hi : ops[i]? = some oi := by rfl) (hN : oi.dst = N := by rfl) (hc : takeW T B ds l.toList (l.setIfInBounds i true).toList i = true := by kernel_rfl)
    (hQ : ∀ c a w, Q (.panic c) (a.put oi.dst v) w → Q (.panic c) a w := by exact fun _ _ _ h => h)
    (hy : YieldsIf P ops S oi v a := by exact Or.inl ⟨by rfl, by intro w' hS_; (repeat obtain ⟨_, hS_⟩ := hS_); go_simp; with_reducible rfl⟩)
    (ha : a.put N v = a' := by simp only [Act.put, List.setIfInBounds_toArray, List.set_cons_zero, List.set_cons_succ, i64_w, i32_w]; rfl) : wpAnyLast P md ops Q S ds (fuel + 1) l a w :=
  take_ (l.setIfInBounds i true) hi hN (take_ofW hT hB hc) hQ hy hS ha h
theorem u_ (i : Nat) (N : Option Tmp) {oi : Oper} {fuel : Nat} {l : Array Bool} {a : Act} {w : World} {T : Bool × List (List Nat × List Nat)} (hT : rtab md ops = T) {a' : Act}
    (h : wpAnyLast P md ops Q S ds fuel (l.setIfInBounds i true) a' w) (hi : ops[i]? = some oi := by rfl) (hN : oi.dst = N := by rfl) (hc : anyT T l.toList (l.setIfInBounds i true).toList i = true := by kernel_rfl)
    (hQ : ∀ c a w, Q (.panic c) (a.put oi.dst undef) w → Q (.panic c) a w := by exact fun _ _ _ h => h)
    (hy : Yields P ops oi undef a := by exact Or.inr ⟨by rfl, rfl⟩)
    (ha : a.put N undef = a' := by simp only [Act.put, List.setIfInBounds_toArray, List.set_cons_zero, List.set_cons_succ, i64_w, i32_w]; rfl) : wpAnyLast P md ops Q S ds (fuel + 1) l a w :=
  pure_ (l.setIfInBounds i true) hi hN (any_of hT hc) hQ hy ha h
end
/-- What is below stays so behind what is made and drawn. -/
theorem bl_ {B : Nat} {w w0 w' : World} (X : Below B w w0) (h : Below B w w0 → Below B w w' := by intro h_; repeat (first | (with_reducible first | exact h_ | apply below_alloc | apply pw_below_drewN | apply below_drew1) | exact h_)) : Below B w w' := h X
/-- A row stays behind what is made and drawn. -/
theorem rr_ {α : Type} {d : Kd α} {t : TypeId} {w0 w : World} {B : Nat} {ok : Nat → Prop} {v : Value} {l : List α} (X : Kd.R d t w0 B ok v l)
    (h : Kd.R d t w0 B ok v l → Kd.R d t w B ok v l := by intro h_; (with_reducible repeat (first | apply Kd.R_alloc | apply Kd.R_drewN | apply Kd.R_drew)); exact h_) : Kd.R d t w B ok v l := h X
/-- What a block holds stays behind what is made and drawn. -/
theorem kb_ {p q : Prop} (X : p) (h : p → q := by intro h_; (with_reducible repeat (first | refine blk_drewN ?_ _ | refine blk_drew ?_ | refine blk_alloc ?_ _)); exact h_) : q := h X
/-- As bl_, behind stores into blocks of one's own, too. -/
theorem bs_ {p q : Prop} (X : p) (h : p → q := by intro h_; repeat (first | (with_reducible first | exact h_ | apply below_alloc | apply pw_below_drewN | apply below_drew1 | refine below_set ?_ (Aside0.out (by assumption))) | exact h_)) : q := h X
theorem od_ {p : Prop} [Decidable p] (h : decide p = true := by first | (with_reducible assumption) | assumption) : p := of_decide_eq_true h
end Go.Proofs.YtaicpljgijjenaaGreatDoor.Sq
