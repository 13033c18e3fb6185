/- (*Map).Find for whatever map, and for nil; no condition beyond the map's own form. -/
import Derived.Test.YthbdiambigfgdacHandNew
import Derived.Test.YthbdiambigfgdacPKeymapFindsx1
import Derived.Test.YthbdiambigfgdacPKeymapFindsx2
namespace Go.Proofs.Ythbdiambigfgdac.Hand
open Go.RowKit Go.Proofs.YthbdiambigfgdacW.PrintWords Go.Proofs.YthbdiambigfgdacW.PrintMore Go.Proofs.Ythbdiambigfgdac.PKeymapFinds

def okB (r : Int) : Bool := decide ((0 ≤ r ∧ r < 55296) ∨ (57343 < r ∧ r ≤ 1114111))
theorem right_eq (r : Int) : utf_Right.f r = some (okB r) := by
  unfold utf_Right.f okB
  (repeat' split) <;> (congr 1; first | (rw [eq_comm, decide_eq_true_eq]; omega) | (rw [eq_comm, decide_eq_false_iff_not]; omega) | (rw [decide_eq_decide]; omega))
/-- What a key that no bind has means. -/
def elseV (k : S23) : Int := if k.f0 = 1 ∧ k.f2 = 0 ∧ okB k.f1 = true ∧ 32 ≤ k.f1 ∧ k.f1 ≠ 127 then 1 else 0
def findV (k : S23) (l : List S43) : Int := if 0 ≤ idxFrom (isKey k) 0 l then (rd_T43 l (idxFrom (isKey k) 0 l)).f1 else elseV k

theorem idxFrom_lt (p : S43 → Bool) (l : List S43) : ∀ n, idxFrom p n l < (n : Int) + l.length ∧ (idxFrom p n l = -1 ∨ (n : Int) ≤ idxFrom p n l) := by
  induction l with
  | nil => intro n; simp [idxFrom]; omega
  | cons x l ih =>
    intro n
    simp only [idxFrom, List.length_cons]
    split
    · omega
    · have := ih (n + 1)
      omega

set_option maxHeartbeats 4000000 in
theorem Find_else (k : S23) (m : Value) (w : World) (i : Int) (hi : ¬ 0 ≤ i) (hcon : ∀ w1 : World, Below w.heap.size w w1 → Calls Try.prog 15 #[m, keyV k] w1 fun e w' => e = .returned (.int .i64 i) ∧ Below w1.heap.size w1 w') :
    Calls Try.prog 6 #[m, keyV k] w fun e w' => e = .returned (.int .i64 (elseV k)) ∧ Below w.heap.size w w' := by
  have hB0 : Below w.heap.size w (w.alloc (.cells #[.int .i64 k.f0, .int .i32 k.f1, .int .i64 k.f2] 23)) := (Below.refl _ w).alloc (Nat.le_refl _) _
  have hcon1 := hcon _ hB0
  have hbox : Box (w.alloc (.cells #[.int .i64 k.f0, .int .i32 k.f1, .int .i64 k.f2] 23)) w.heap.size k := ⟨by simp, by simp, by simp, by simp⟩
  have hsz : w.heap.size ≤ (w.alloc (.cells #[.int .i64 k.f0, .int .i32 k.f1, .int .i64 k.f2] 23)).heap.size := by simp
  have hr := right_eq k.f1
  clear hcon
  have hib : decide (0 ≤ i) = false := decide_eq_false hi
  unfold elseV
  unfold keyV at hcon1 ⊢
  generalize okB k.f1 = b at hr ⊢
  cases k with
  | mk k0 k1 k2 =>
  dsimp only at *
  by_cases h0 : k0 = 1
  · by_cases h1 : k2 = 0
    · cases b with
      | true =>
        by_cases h2 : 32 ≤ k1
        · by_cases h3 : k1 = 127
          · rw [if_neg (by omega)]
            subst h0; subst h1; subst h3
            go_enter Try.func6, Try.ntmps6
            go_wp2_with (first | (go_at_call 15; refine hcon1.mono ?_; rintro e w' ⟨rfl, hb⟩; obtain ⟨hx, b0, b1, b2⟩ := hbox.below hb) | (go_at_call 16; refine (utf_Right.calls _ _ _ hr).mono ?_; rintro e w2 ⟨rfl, ⟨nd, rfl⟩⟩))
            go_ret
            exact ⟨rfl, by repeat (first | exact hB0.trans (hb.mono hsz) | apply pw_below_drewN | apply below_drew1)⟩
          · rw [if_pos ⟨h0, h1, rfl, h2, h3⟩]
            subst h0; subst h1
            have h2b : decide (32 ≤ k1) = true := decide_eq_true h2
            have h3b : (k1 != 127) = true := bne_iff_ne.mpr h3
            go_enter Try.func6, Try.ntmps6
            go_wp2_with (first | (go_at_call 15; refine hcon1.mono ?_; rintro e w' ⟨rfl, hb⟩; obtain ⟨hx, b0, b1, b2⟩ := hbox.below hb) | (go_at_call 16; refine (utf_Right.calls _ _ _ hr).mono ?_; rintro e w2 ⟨rfl, ⟨nd, rfl⟩⟩))
            go_ret
            exact ⟨rfl, by repeat (first | exact hB0.trans (hb.mono hsz) | apply pw_below_drewN | apply below_drew1)⟩
        · rw [if_neg (by omega)]
          subst h0; subst h1
          have h2b : decide (32 ≤ k1) = false := decide_eq_false h2
          go_enter Try.func6, Try.ntmps6
          go_wp2_with (first | (go_at_call 15; refine hcon1.mono ?_; rintro e w' ⟨rfl, hb⟩; obtain ⟨hx, b0, b1, b2⟩ := hbox.below hb) | (go_at_call 16; refine (utf_Right.calls _ _ _ hr).mono ?_; rintro e w2 ⟨rfl, ⟨nd, rfl⟩⟩))
          go_ret
          exact ⟨rfl, by repeat (first | exact hB0.trans (hb.mono hsz) | apply pw_below_drewN | apply below_drew1)⟩
      | false =>
        rw [if_neg (by simp)]
        subst h0; subst h1
        go_enter Try.func6, Try.ntmps6
        go_wp2_with (first | (go_at_call 15; refine hcon1.mono ?_; rintro e w' ⟨rfl, hb⟩; obtain ⟨hx, b0, b1, b2⟩ := hbox.below hb) | (go_at_call 16; refine (utf_Right.calls _ _ _ hr).mono ?_; rintro e w2 ⟨rfl, ⟨nd, rfl⟩⟩))
        go_ret
        exact ⟨rfl, by repeat (first | exact hB0.trans (hb.mono hsz) | apply pw_below_drewN | apply below_drew1)⟩
    · rw [if_neg (by omega)]
      subst h0
      have h1b : (k2 == 0) = false := beq_eq_false_iff_ne.mpr h1
      go_enter Try.func6, Try.ntmps6
      go_wp2_with (first | (go_at_call 15; refine hcon1.mono ?_; rintro e w' ⟨rfl, hb⟩; obtain ⟨hx, b0, b1, b2⟩ := hbox.below hb) | (go_at_call 16; refine (utf_Right.calls _ _ _ hr).mono ?_; rintro e w2 ⟨rfl, ⟨nd, rfl⟩⟩))
      go_ret
      exact ⟨rfl, by repeat (first | exact hB0.trans (hb.mono hsz) | apply pw_below_drewN | apply below_drew1)⟩
  · rw [if_neg (by omega)]
    have h0b : (k0 == 1) = false := beq_eq_false_iff_ne.mpr h0
    go_enter Try.func6, Try.ntmps6
    go_wp2_with (first | (go_at_call 15; refine hcon1.mono ?_; rintro e w' ⟨rfl, hb⟩; obtain ⟨hx, b0, b1, b2⟩ := hbox.below hb) | (go_at_call 16; refine (utf_Right.calls _ _ _ hr).mono ?_; rintro e w2 ⟨rfl, ⟨nd, rfl⟩⟩))
    go_ret
    exact ⟨rfl, by repeat (first | exact hB0.trans (hb.mono hsz) | apply pw_below_drewN | apply below_drew1)⟩

theorem Find_nil (k : S23) (w : World) : Calls Try.prog 6 #[.pointer none, keyV k] w fun e w' => e = .returned (.int .i64 (elseV k)) ∧ Below w.heap.size w w' :=
  Find_else k _ w (-1) (by omega) (fun w1 _ => find_nil k w1)

set_option maxHeartbeats 4000000 in
theorem Find_calls (k : S23) (base g : Nat) (l : List S43) (w : World) (h : St w base g l) : Calls Try.prog 6 #[.pointer (some ⟨g, 0, none⟩), keyV k] w fun e w' => e = .returned (.int .i64 (findV k l)) ∧ Below w.heap.size w w' := by
  unfold findV
  have hlt := idxFrom_lt (isKey k) l 0
  by_cases hi : 0 ≤ idxFrom (isKey k) 0 l
  · rw [if_pos hi]
    have hB0 : Below w.heap.size w (w.alloc (.cells #[.int .i64 k.f0, .int .i32 k.f1, .int .i64 k.f2] 23)) := (Below.refl _ w).alloc (Nat.le_refl _) _
    have hcon1 := find_calls k base g l _ (h.below hB0)
    have hsz : w.heap.size ≤ (w.alloc (.cells #[.int .i64 k.f0, .int .i32 k.f1, .int .i64 k.f2] 23)).heap.size := by simp
    generalize idxFrom (isKey k) 0 l = i at hi hlt hcon1 ⊢
    obtain ⟨j, rfl⟩ : ∃ j : Nat, i = (j : Int) := ⟨i.toNat, by omega⟩
    have hj : j < l.length := by omega
    obtain ⟨A, b, c, hcell, hA, hC, hlc, hlen⟩ := h.view
    obtain rfl := hA (by omega)
    obtain ⟨_, _, _, hC3⟩ := hC j hj
    have hC3' : ∀ w', Below w.heap.size w w' → w'.cell? ⟨b, j * 4 + 3, none⟩ = some (.int .i64 (rd_T43 l j).f1) := fun w' hb => by
      rw [hb.cell (p := ⟨b, j * 4 + 3, none⟩) (World.block_lt_of_cell? w _ hC3), hC3]
      simp [rd_T43, hj]
    have hcell' : ∀ w', Below w.heap.size w w' → w'.cell? ⟨g, 0, none⟩ = some (.slice (some ⟨b, 0, none⟩) l.length c) := fun w' hb => by
      rw [hb.cell (p := ⟨g, 0, none⟩) (World.block_lt_of_cell? w _ hcell), hcell]
    clear hC3 hcell h hA hC
    generalize rd_T43 l j = y at hC3' ⊢
    have hj0 : decide (0 ≤ (j : Int)) = true := decide_eq_true (by omega)
    have hj1 : decide ((j : Int) < (l.length : Int)) = true := decide_eq_true (by omega)
    unfold keyV at hcon1 ⊢
    go_enter Try.func6, Try.ntmps6
    go_wp2_with (go_at_call 15; refine hcon1.mono ?_; rintro e w' ⟨rfl, hb⟩; have hbb := hB0.trans (hb.mono hsz); have d0 := hC3' w' hbb; have d1 := hcell' w' hbb; clear hC3' hcell')
    go_ret
    exact ⟨rfl, hbb⟩
  · rw [if_neg hi]
    exact Find_else k _ w _ hi (fun w1 hb => find_calls k base g l w1 (h.below hb))
end Go.Proofs.Ythbdiambigfgdac.Hand
