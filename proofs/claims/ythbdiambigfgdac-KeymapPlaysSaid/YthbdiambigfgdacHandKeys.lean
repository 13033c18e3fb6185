/- The map of keys (keymap.New, find, Find) by hand: what each answers, for whatever map; no condition beyond the map's own form. -/
import Derived.Test.YthbdiambigfgdacPKeymapFindsx0
import Derived.Lib.SliceRun
import Derived.LoopTactic
import Derived.Shelf.Abstract
import Derived.Deep.LoopGhost
namespace Go.Proofs.Ythbdiambigfgdac.Hand
open Go.RowKit Go.Proofs.YthbdiambigfgdacW.PrintWords Go.Proofs.YthbdiambigfgdacW.PrintMore Go.Proofs.Ythbdiambigfgdac.PKeymapFinds

theorem eqA23 (d : Nat) (w : World) (x0 y0 : Int) (x1 y1 : Int) (x2 y2 : Int) :
    (Op.equalIn (d + 2) 23 (.agg #[.int .i64 x0, .int .i32 x1, .int .i64 x2]) (.agg #[.int .i64 y0, .int .i32 y1, .int .i64 y2])).run Try.prog w = .ok (x0 == y0 && (x1 == y1 && (x2 == y2))) w := by
  refine eqA_of Try.underlying23 (by kernel_rfl) ?_
  refine eqf_cons (by rfl) (by go_simp; rfl) (by go_simp; rfl) (by go_simp) ?_
  refine eqf_cons (by rfl) (by go_simp; rfl) (by go_simp; rfl) (by go_simp) ?_
  exact eqf_last (by rfl) (by go_simp; rfl) (by go_simp; rfl) (by go_simp)

/-- Is a bind's key this one? -/
def isKey (k : S23) (x : S43) : Bool := x.f0.f0 == k.f0 && (x.f0.f1 == k.f1 && x.f0.f2 == k.f2)
def encB (x : S43) : Value := .agg #[.int .i64 x.f0.f0, .int .i32 x.f0.f1, .int .i64 x.f0.f2, .int .i64 x.f1]
/-- The key lies in a box. -/
def Box (W : World) (B : Nat) (k : S23) : Prop := B < W.heap.size ∧ W.cell? ⟨B, 0, none⟩ = some (.int .i64 k.f0) ∧ W.cell? ⟨B, 1, none⟩ = some (.int .i32 k.f1) ∧ W.cell? ⟨B, 2, none⟩ = some (.int .i64 k.f2)
theorem Box.below {W W' : World} {B : Nat} {k : S23} (h : Box W B k) (hb : Below W.heap.size W W') : Box W' B k :=
  ⟨Nat.lt_of_lt_of_le h.1 hb.size, (hb.cell (p := ⟨B, 0, none⟩) h.1).trans h.2.1, (hb.cell (p := ⟨B, 1, none⟩) h.1).trans h.2.2.1, (hb.cell (p := ⟨B, 2, none⟩) h.1).trans h.2.2.2⟩

theorem closure (k : S23) (x : S43) (B : Nat) (W : World) (hB : Box W B k) :
    Calls Try.prog 20 #[encB x, .pointer (some ⟨B, 0, none⟩)] W fun e w' => e = .returned (.bool (isKey k x)) ∧ Below W.heap.size W w' := by
  obtain ⟨h0, h1, h2, h3⟩ := hB
  have hne : B ≠ W.heap.size := by omega
  have he := fun w => eqA23 9998 w x.f0.f0 k.f0 x.f0.f1 k.f1 x.f0.f2 k.f2
  unfold encB isKey
  go_enter Try.func20, Try.ntmps20
  go_wp2
  all_goals (go_ret; exact ⟨by simp_all, (Below.refl _ W).alloc (Nat.le_refl _) _⟩)

/-- The first place, from i on, at which p holds; -1: none. -/
def idxFrom (p : S43 → Bool) : Nat → List S43 → Int
  | _, [] => -1
  | i, x :: l => if p x then (i : Int) else idxFrom p (i + 1) l
theorem idxFrom_skip (p : S43 → Bool) (l : List S43) : ∀ (j n : Nat), j ≤ l.length → (∀ i, i < j → ∀ (h : i < l.length), p l[i] = false) → idxFrom p n l = idxFrom p (n + j) (l.drop j) := by
  induction l with
  | nil => intro j n _ _; simp [idxFrom]
  | cons x l ih =>
    intro j n hj h
    cases j with
    | zero => rfl
    | succ j =>
      have h0 := h 0 (by omega) (by simp)
      simp only [List.getElem_cons_zero] at h0
      simp only [idxFrom, h0, List.drop_succ_cons]
      have := ih j (n + 1) (by simpa using hj) (fun i hi hl => by
        have := h (i + 1) (by omega) (by simpa using hl)
        simpa using this)
      rw [show n + (j + 1) = n + 1 + j by omega]
      simpa using this
theorem idxFrom_hit (p : S43 → Bool) (l : List S43) (j : Nat) (hj : j < l.length) (h : ∀ i, i < j → ∀ (h : i < l.length), p l[i] = false) (hp : p l[j] = true) : idxFrom p 0 l = (j : Int) := by
  rw [idxFrom_skip p l j 0 (by omega) h, List.drop_eq_getElem_cons hj]
  simp [idxFrom, hp]
theorem idxFrom_miss (p : S43 → Bool) (l : List S43) (h : ∀ i (h : i < l.length), p l[i] = false) : idxFrom p 0 l = -1 := by
  rw [idxFrom_skip p l l.length 0 (by omega) (fun i _ hl => h i hl), List.drop_length]
  rfl

/-- The row's cells lie in block b. -/
def Cells (W : World) (b : Nat) (l : List S43) : Prop :=
  ∀ j (h : j < l.length), W.cell? ⟨b, j * 4, none⟩ = some (.int .i64 l[j].f0.f0) ∧ W.cell? ⟨b, j * 4 + 1, none⟩ = some (.int .i32 l[j].f0.f1) ∧ W.cell? ⟨b, j * 4 + 2, none⟩ = some (.int .i64 l[j].f0.f2) ∧ W.cell? ⟨b, j * 4 + 3, none⟩ = some (.int .i64 l[j].f1)
theorem Cells.below {W W' : World} {b : Nat} {l : List S43} (h : Cells W b l) (hb : Below W.heap.size W W') : Cells W' b l := by
  intro j hj
  obtain ⟨h0, h1, h2, h3⟩ := h j hj
  have hB : b < W.heap.size := World.block_lt_of_cell? W _ h0
  exact ⟨(hb.cell (p := ⟨b, j * 4, none⟩) hB).trans h0, (hb.cell (p := ⟨b, j * 4 + 1, none⟩) hB).trans h1, (hb.cell (p := ⟨b, j * 4 + 2, none⟩) hB).trans h2, (hb.cell (p := ⟨b, j * 4 + 3, none⟩) hB).trans h3⟩

set_option maxHeartbeats 1000000 in
theorem indexFunc (k : S23) (A : Option Addr) (b c : Nat) (l : List S43) (B : Nat) (w : World) (hB : Box w B k) (hA : 0 < l.length → A = some ⟨b, 0, none⟩) (hC : Cells w b l) (hlen : l.length ≤ 9223372036854775807) :
    Calls Try.prog 19 #[.slice A l.length c, .func (.func 20) #[] #[.pointer (some ⟨B, 0, none⟩)]] w fun e w' => e = .returned (.int .i64 (idxFrom (isKey k) 0 l)) ∧ Below w.heap.size w w' := by
  have eg : ∀ args w, (callFunc 20 args).run Try.prog w = .ok (.enter 20 args) w := enters_of Try.func20 (by kernel_rfl) rfl
  go_enter Try.func19, Try.ntmps19
  go_wp2
  go_loopg [5, 8] l.length (fun gg _ s8 wr => ∃ kk : Nat, kk ≤ l.length ∧ l.length - kk ≤ gg ∧ s8 = .int .i64 kk ∧ Aside0 (Below w.heap.size w wr) ∧ Aside0 (∀ j, j < kk → ∀ (h : j < l.length), isKey k l[j] = false))
  case atStart => exact ⟨0, Nat.zero_le _, by omega, rfl, ⟨Below.refl _ w⟩, ⟨fun j hj => absurd hj (Nat.not_lt_zero _)⟩⟩
  case round =>
    obtain ⟨kk, hkk, hg, rfl, BW, AA⟩ := hrel
    by_cases hlt : kk < l.length
    · have hltz : (kk : Int) < (l.length : Int) := by omega
      obtain rfl := hA (by omega)
      obtain ⟨h0, h1, h2, h3⟩ := (hC.below BW.out) kk hlt
      have hcall := closure k l[kk] B wr (hB.below BW.out)
      have hC' := Aside0.mk hC
      have hB' := Aside0.mk hB
      clear hC hB
      generalize hy : l[kk] = y at h0 h1 h2 h3 hcall
      have BB : Aside0 (l[kk] = y) := ⟨hy⟩
      clear hy
      unfold encB at hcall
      cases hq : isKey k y with
      | true =>
        rw [hq] at hcall
        go_wp2_with (go_at_call 20; refine hcall.mono ?_; rintro e w' ⟨rfl, hb'⟩)
        go_ret
        refine ⟨?_, BW.out.trans (hb'.mono BW.out.size)⟩
        rw [idxFrom_hit _ l kk hlt AA.out (by rw [BB.out]; exact hq)]
        rfl
      | false =>
        rw [hq] at hcall
        go_wp2_with (go_at_call 20; refine hcall.mono ?_; rintro e w' ⟨rfl, hb'⟩)
        go_roundg (l.length - (kk + 1))
        case measure => omega
        case rel =>
          refine ⟨kk + 1, by omega, by omega, by go_num, ⟨BW.out.trans (hb'.mono BW.out.size)⟩, ⟨fun j hj h => ?_⟩⟩
          by_cases e : j = kk
          · subst e
            rw [BB.out]; exact hq
          · exact AA.out j (by omega) h
    · have hltz : ¬ (kk : Int) < (l.length : Int) := by omega
      have : kk = l.length := by omega
      subst this
      go_wp2
      go_ret
      refine ⟨?_, BW.out⟩
      rw [idxFrom_miss _ l (fun i h => AA.out i h h)]
      rfl
end Go.Proofs.Ythbdiambigfgdac.Hand
