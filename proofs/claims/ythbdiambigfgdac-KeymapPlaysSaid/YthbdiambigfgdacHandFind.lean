/- The map of keys: find and Find, for whatever map that holds a row of its own, and for nil. -/
import Derived.Test.YthbdiambigfgdacHandKeys
namespace Go.Proofs.Ythbdiambigfgdac.Hand
open Go.RowKit Go.Proofs.YthbdiambigfgdacW.PrintWords Go.Proofs.YthbdiambigfgdacW.PrintMore Go.Proofs.Ythbdiambigfgdac.PKeymapFinds

/-- The map at block g holds these binds; what it leads to lies from base on. -/
def St (W : World) (base g : Nat) (l : List S43) : Prop :=
  ∃ v, W.heap[g]? = some (.cells #[v] 46 (0, 0)) ∧ base ≤ g ∧ Kd.R k43 43 W base (fun _ => True) v l

theorem St.below {W W' : World} {base g : Nat} {l : List S43} (h : St W base g l) (hb : Below W.heap.size W W') : St W' base g l := by
  obtain ⟨v, h1, h2, h3⟩ := h
  exact ⟨v, (hb.block g (blk_lt h1)).trans h1, h2, Kd.R_below h3 hb⟩

theorem St.view {W : World} {base g : Nat} {l : List S43} (h : St W base g l) : ∃ A b c, W.cell? ⟨g, 0, none⟩ = some (.slice A l.length c) ∧ (0 < l.length → A = some ⟨b, 0, none⟩) ∧ Cells W b l ∧ l.length ≤ c ∧ l.length ≤ 9223372036854775807 := by
  obtain ⟨v, h1, h2, h3⟩ := h
  obtain ⟨inner, ho⟩ := Kd.R_own h3
  obtain ⟨A, c, rfl⟩ := Kd.R_slice h3
  obtain ⟨hn, hc, hr⟩ := Kd.R_reads' h3
  have hcell : W.cell? ⟨g, 0, none⟩ = some (.slice A l.length c) := by simp [World.cell?, h1]
  rcases ho.2 with ⟨e, e2⟩ | ⟨b, cap, cur, e, _⟩
  · exact ⟨A, 0, c, hcell, fun hp => by omega, fun j hj => by omega, hc, hr.2.1⟩
  · simp only [Value.slice.injEq] at e
    obtain ⟨rfl, _, _⟩ := e
    refine ⟨_, b, c, hcell, fun _ => rfl, fun j hj => ?_, hc, hr.2.1⟩
    obtain ⟨ad, e, h0, h1, h2, h3⟩ := at_T43 hr (j : Int) (by omega) (by omega)
    cases e
    simp only [Int.toNat_natCast, add_plain, rd_T43, List.getD_eq_getElem?_getD, List.getElem?_eq_getElem hj, Option.getD_some] at h0 h1 h2 h3
    exact ⟨h0, h1, h2, h3⟩

def keyV (k : S23) : Value := .agg #[.int .i64 k.f0, .int .i32 k.f1, .int .i64 k.f2]

theorem find_nil (k : S23) (w : World) : Calls Try.prog 15 #[.pointer none, keyV k] w fun e w' => e = .returned (.int .i64 (-1)) ∧ Below w.heap.size w w' := by
  unfold keyV
  go_enter Try.func15, Try.ntmps15
  go_wp2
  go_ret
  exact ⟨rfl, (Below.refl _ w).alloc (Nat.le_refl _) _⟩

theorem find_calls (k : S23) (base g : Nat) (l : List S43) (w : World) (h : St w base g l) :
    Calls Try.prog 15 #[.pointer (some ⟨g, 0, none⟩), keyV k] w fun e w' => e = .returned (.int .i64 (idxFrom (isKey k) 0 l)) ∧ Below w.heap.size w w' := by
  obtain ⟨A, b, c, hcell, hA, hC, hlc, hlen⟩ := h.view
  have hB0 : Below w.heap.size w (w.alloc (.cells #[.int .i64 k.f0, .int .i32 k.f1, .int .i64 k.f2] 23)) := (Below.refl _ w).alloc (Nat.le_refl _) _
  have hcell' := (hB0.cell (p := ⟨g, 0, none⟩) (World.block_lt_of_cell? w _ hcell)).trans hcell
  have hcon := indexFunc k A b c l w.heap.size (w.alloc (.cells #[.int .i64 k.f0, .int .i32 k.f1, .int .i64 k.f2] 23)) ⟨by simp, by simp, by simp, by simp⟩ hA (hC.below hB0) hlen
  generalize idxFrom (isKey k) 0 l = r at hcon ⊢
  clear hC hA
  unfold keyV
  go_enter Try.func15, Try.ntmps15
  go_wp2_with (go_at_call 19; refine hcon.mono ?_; rintro e w' ⟨rfl, hb'⟩)
  go_ret
  exact ⟨rfl, hB0.trans (hb'.mono (by simp))⟩
end Go.Proofs.Ythbdiambigfgdac.Hand
