/- (*Map).Bind where the key is new and there is room: the bind goes to the end. -/
import Derived.Test.YthbdiambigfgdacHandBindSet
namespace Go.Proofs.Ythbdiambigfgdac.Hand
open Go.RowKit Go.Proofs.YthbdiambigfgdacW.PrintWords Go.Proofs.YthbdiambigfgdacW.PrintLast Go.Proofs.YthbdiambigfgdacW.PrintMore Go.Proofs.Ythbdiambigfgdac.PKeymapFinds
set_option linter.unusedSimpArgs false
set_option linter.unusedVariables false
theorem al_cell {W : World} {a : Addr} {v : Value} {o : Obj} (h : W.cell? a = some v) : (W.alloc o).cell? a = some v := (World.cell?_of_block (Below.heap_alloc W o a.block (World.block_lt_of_cell? W _ h))).trans h
theorem al_fz {W : World} {a : Addr} {v : Value} {o : Obj} (f : W.frozen? a = false) (h : W.cell? a = some v) : (W.alloc o).frozen? a = false := (World.frozen?_of_block (Below.heap_alloc W o a.block (World.block_lt_of_cell? W _ h))).trans f
theorem gr_cell {W W' : World} {a : Addr} {v : Value} {r : Option Nat} (h : W.cell? a = some v) (hg : W.grownBy W' r) (hne : some a.block ≠ r) : W'.cell? a = some v := (World.cell?_of_block (hg.block _ (World.block_lt_of_cell? W _ h) hne)).trans h
theorem gr_fz {W W' : World} {a : Addr} {v : Value} {r : Option Nat} (f : W.frozen? a = false) (h : W.cell? a = some v) (hg : W.grownBy W' r) (hne : some a.block ≠ r) : W'.frozen? a = false := (World.frozen?_of_block (hg.block _ (World.block_lt_of_cell? W _ h) hne)).trans f
theorem al_keep {w1 W : World} {o : Obj} {r : Option Nat} (h : w1.heap.size ≤ W.heap.size ∧ (∀ i, i < w1.heap.size → some i ≠ r → W.heap[i]? = w1.heap[i]?)) : w1.heap.size ≤ (W.alloc o).heap.size ∧ (∀ i, i < w1.heap.size → some i ≠ r → (W.alloc o).heap[i]? = w1.heap[i]?) :=
  ⟨by simp; omega, fun i hi hr => (Below.heap_alloc W o i (by omega)).trans (h.2 i hi hr)⟩
theorem gr_keep {w1 W' : World} {r : Option Nat} (hg : w1.drew.grownBy W' r) : w1.heap.size ≤ W'.heap.size ∧ (∀ i, i < w1.heap.size → some i ≠ r → W'.heap[i]? = w1.heap[i]?) := ⟨hg.size, fun i hi hr => hg.block i hi hr⟩

set_option maxHeartbeats 1000000 in
theorem Bind_add (k : S23) (c : Int) (base g : Nat) (l : List S43) (K : Nat) (w : World) (h : St w base g l) (hc : keymap_Is.f K c = some true) (hi : idxFrom (isKey k) 0 l < 0) (hf : l.length < 100) (hbw : base ≤ w.heap.size) :
    Calls Try.prog 13 #[.pointer (some ⟨g, 0, none⟩), keyV k, .int .i64 c] w fun e w' => e = .returned (.int .i64 0) ∧ St w' base g (l ++ [⟨k, c⟩]) ∧ Fr base g w w' := by
  have hB0 : Below w.heap.size w (w.alloc (.cells #[.int .i64 k.f0, .int .i32 k.f1, .int .i64 k.f2] 23)) := (Below.refl _ w).alloc (Nat.le_refl _) _
  have hcon1 := fun W (hb : Below w.heap.size w W) => find_calls k base g l W (h.below hb)
  obtain ⟨A, b, cc, hcell, hA, hC, hlc, hlen⟩ := h.view
  have hcell' : ∀ w', Below w.heap.size w w' → w'.cell? ⟨g, 0, none⟩ = some (.slice A l.length cc) := fun w' hb => by
    rw [hb.cell (p := ⟨g, 0, none⟩) (World.block_lt_of_cell? w _ hcell), hcell]
  have hbox : Box (w.alloc (.cells #[.int .i64 k.f0, .int .i32 k.f1, .int .i64 k.f2] 23)) w.heap.size k := ⟨by simp, by simp, by simp, by simp⟩
  have hib : decide (0 ≤ idxFrom (isKey k) 0 l) = false := decide_eq_false (by omega)
  have hfb : decide ((100 : Int) ≤ (l.length : Int)) = false := decide_eq_false (by omega)
  have hsz : w.heap.size ≤ (w.alloc (.cells #[.int .i64 k.f0, .int .i32 k.f1, .int .i64 k.f2] 23)).heap.size := by simp
  have hSt := Aside0.mk h
  clear h hC hA hcell
  unfold keyV at hcon1 ⊢
  generalize idxFrom (isKey k) 0 l = i at hib hcon1
  obtain ⟨k0, k1, k2⟩ := k
  dsimp only at *
  have hcc := Aside0.mk hcell'
  have hcn := Aside0.mk hcon1
  clear hcell' hcon1
  go_enter Try.func13, Try.ntmps13
  go_upto_region 4 with (first | (go_at_call 9; ((with_reducible refine (keymap_Is.calls K c true _ hc).mono ?_); rintro e w' ⟨rfl, hd⟩; have hb := drawn_below' hd; obtain ⟨hx, b0, b1, b2⟩ := hbox.below hb; have hbox0 := Aside0.mk (hbox.below hb); have HB := hB0.trans (hb.mono hsz); clear hd)) | (go_at_call 15; ((with_reducible refine (hcn.out _ HB).mono ?_); rintro e w1 ⟨rfl, hb⟩; have bx := hbox0.out.below hb; replace HB := HB.trans (hb.mono HB.size); have d0 := hcc.out _ HB)))
  obtain ⟨bx0, bx1, bx2, bx3⟩ := bx
  have hw := hSt.out
  obtain ⟨v0, s1, t2, s3⟩ := hw
  have t1 := (HB.block g (blk_lt s1)).trans s1
  have e0 : v0 = .slice A l.length cc := by
    have := d0
    simp only [World.cell?, t1] at this
    simp at this
    exact this
  subst e0
  have t3 := Kd.R_below s3 HB
  have e1 : (w1.drew).heap = w1.heap := rfl
  have c0 : w1.drew.cell? ⟨w.heap.size, 0, none⟩ = some (.int .i64 k0) := bx1
  have c1 : w1.drew.cell? ⟨w.heap.size, 1, none⟩ = some (.int .i32 k1) := bx2
  have c2 : w1.drew.cell? ⟨w.heap.size, 2, none⟩ = some (.int .i64 k2) := bx3
  have c3 : w1.drew.cell? ⟨g, 0, none⟩ = some (.slice A l.length cc) := d0
  have c4 : w1.drew.frozen? ⟨g, 0, none⟩ = false := by
    show w1.frozen? ⟨g, 0, none⟩ = false
    simp [World.frozen?, t1]
  have hR0 := Aside0.mk (Kd.R_drew t3)
  have hB1 := Aside0.mk ((HB.mono hbw).drew)
  have hbs := Aside0.mk (show base ≤ w1.drew.heap.size from Nat.le_trans hbw HB.size)
  have hlt : ∀ b, (Value.slice A l.length cc).ownBlock = some b → b < w.heap.size := fun b hb => by
    obtain ⟨cells, hcb⟩ := Kd.R_typed s3 b hb
    exact blk_lt hcb
  have a0 : some w.heap.size ≠ (Value.slice A l.length cc).ownBlock := fun e => Nat.lt_irrefl _ (hlt _ e.symm)
  have a3 : some g ≠ (Value.slice A l.length cc).ownBlock := fun e => by
    obtain ⟨cells, hcb⟩ := Kd.R_typed t3 g e.symm
    rw [t1] at hcb
    simp at hcb
  clear d0
  refine start_ (n := 13) (S := fun w' => w'.cell? ⟨w.heap.size, 0, none⟩ = some (.int .i64 k0) ∧ w'.cell? ⟨w.heap.size, 1, none⟩ = some (.int .i32 k1) ∧ w'.cell? ⟨w.heap.size, 2, none⟩ = some (.int .i64 k2) ∧ w'.cell? ⟨g, 0, none⟩ = some (.slice A l.length cc) ∧ w'.frozen? ⟨g, 0, none⟩ = false ∧ w1.heap.size ≤ w'.heap.size ∧ (∀ i, i < w1.heap.size → some i ≠ (Value.slice A l.length cc).ownBlock → w'.heap[i]? = w1.heap[i]?)) (ds := [12]) #[false, false, false, false, false, false, false, false, false, false, false, false, false] (by kernel_rfl) rfl rfl ⟨c0, c1, c2, c3, c4, ⟨Nat.le_refl _, fun _ _ _ => rfl⟩⟩ (fun hHeld => ?_)
  refine pure_ (i := 0) (N := some 18) (v := ?_) (a' := ?_) #[true, false, false, false, false, false, false, false, false, false, false, false, false] rfl rfl (by kernel_rfl) (fun _ _ _ h => h) (Or.inl ⟨by rfl, ?_⟩) ?_ ?_
  rotate_left
  · intro w'
    go_simp
    with_reducible rfl
  rotate_left
  · simp only [Act.put, List.setIfInBounds_toArray, List.set_cons_zero, List.set_cons_succ, i64_w, i32_w]
    rfl
  refine pure_ (i := 1) (N := some 19) (v := ?_) (a' := ?_) #[true, true, false, false, false, false, false, false, false, false, false, false, false] rfl rfl (by kernel_rfl) (fun _ _ _ h => h) (Or.inl ⟨by rfl, ?_⟩) ?_ ?_
  rotate_left
  · intro w'
    go_simp
    with_reducible rfl
  rotate_left
  · simp only [Act.put, List.setIfInBounds_toArray, List.set_cons_zero, List.set_cons_succ, i64_w, i32_w]
    rfl
  refine pure_ (i := 2) (N := some 20) (v := ?_) (a' := ?_) #[true, true, true, false, false, false, false, false, false, false, false, false, false] rfl rfl (by kernel_rfl) (fun _ _ _ h => h) (Or.inl ⟨by rfl, ?_⟩) ?_ ?_
  rotate_left
  · intro w'
    go_simp
    with_reducible rfl
  rotate_left
  · simp only [Act.put, List.setIfInBounds_toArray, List.set_cons_zero, List.set_cons_succ, i64_w, i32_w]
    rfl
  refine pure_ (i := 3) (N := some 21) (v := ?_) (a' := ?_) #[true, true, true, true, false, false, false, false, false, false, false, false, false] rfl rfl (by kernel_rfl) (fun _ _ _ h => h) (Or.inl ⟨by rfl, ?_⟩) ?_ ?_
  rotate_left
  · intro w'
    go_simp
    with_reducible rfl
  rotate_left
  · simp only [Act.put, List.setIfInBounds_toArray, List.set_cons_zero, List.set_cons_succ, i64_w, i32_w]
    rfl
  refine pure_ (i := 6) (N := some 24) (v := ?_) (a' := ?_) #[true, true, true, true, false, false, true, false, false, false, false, false, false] rfl rfl (by kernel_rfl) (fun _ _ _ h => h) (Or.inl ⟨by rfl, ?_⟩) ?_ ?_
  rotate_left
  · intro w'
    go_simp
    with_reducible rfl
  rotate_left
  · simp only [Act.put, List.setIfInBounds_toArray, List.set_cons_zero, List.set_cons_succ, i64_w, i32_w]
    rfl
  refine take_ (i := 4) (N := some 22) (v := ?_) (a' := ?_) #[true, true, true, true, true, false, true, false, false, false, false, false, false] rfl rfl (by kernel_rfl) (fun _ _ _ h => h) (Or.inl ⟨by rfl, ?_⟩) hHeld ?_ ?_
  rotate_left
  · rintro w' ⟨s0, s1, s2, s3, s4, s5⟩
    go_simp
    with_reducible rfl
  rotate_left
  · simp only [Act.put, List.setIfInBounds_toArray, List.set_cons_zero, List.set_cons_succ, i64_w, i32_w]
    rfl
  refine take_ (i := 5) (N := some 23) (v := ?_) (a' := ?_) #[true, true, true, true, true, true, true, false, false, false, false, false, false] rfl rfl (by kernel_rfl) (fun _ _ _ h => h) (Or.inl ⟨by rfl, ?_⟩) hHeld ?_ ?_
  rotate_left
  · rintro w' ⟨s0, s1, s2, s3, s4, s5⟩
    go_simp
    with_reducible rfl
  rotate_left
  · simp only [Act.put, List.setIfInBounds_toArray, List.set_cons_zero, List.set_cons_succ, i64_w, i32_w]
    rfl
  refine pure_ (i := 7) (N := some 25) (v := ?_) (a' := ?_) #[true, true, true, true, true, true, true, true, false, false, false, false, false] rfl rfl (by kernel_rfl) (fun _ _ _ h => h) (Or.inl ⟨by rfl, ?_⟩) ?_ ?_
  rotate_left
  · intro w'
    go_simp
    with_reducible rfl
  rotate_left
  · simp only [Act.put, List.setIfInBounds_toArray, List.set_cons_zero, List.set_cons_succ, i64_w, i32_w]
    rfl
  refine one_ (i := 8) (N := some 26) #[true, true, true, true, true, true, true, true, true, false, false, false, false] rfl rfl (by kernel_rfl) (by decide) (fun K hK => ?_)
  obtain ⟨q0, q1, q2, q3, q4, q5⟩ := hHeld
  refine value_ (w1 := ?_) (v := ?_) (by rfl) rfl ?_ ?_
  rotate_left 2
  · go_simp
    constructor
    · rfl
    · rfl
  refine hK.out _ _ ⟨(al_cell q0), (al_cell q1), (al_cell q2), (al_cell q3), (al_fz q4 q3), (al_keep q5)⟩ (fun hHeld => ?_)
  clear hK K
  refine norm_ (a' := ?_) ?_ ?_
  rotate_left
  · show Act.put _ (some 26) _ = _
    simp only [Act.put, List.setIfInBounds_toArray, List.set_cons_zero, List.set_cons_succ, i64_w, i32_w]
    rfl
  refine one_ (i := 9) (N := some 27) #[true, true, true, true, true, true, true, true, true, true, false, false, false] rfl rfl (by kernel_rfl) (by decide) (fun K hK => ?_)
  obtain ⟨q0, q1, q2, q3, q4, q5⟩ := hHeld
  refine Kd.R_append_step k43 base (by rfl) (w0 := w) (.tmp 22) (.tmp 26) 44 43 _ 32 rfl Try.underlying44 info43 rfl (by decide) (by decide) (.slice A l.length cc) l ⟨⟨k0, k1, k2⟩, c⟩ [.int .i64 k0, .int .i32 k1, .int .i64 k2, .int .i64 c] (fun _ => True) (fun _ => False) rfl rfl (k43_mkM _ _ _ (⟨⟨k0, k1, k2⟩, c⟩ : S43)) (fun _ h => h.elim) (fun _ _ => trivial) hR0.out hB1.out hbs.out (by omega) ?_
  intro v1 w9 hR1 hB9 hg hat
  obtain ⟨A1, c9, rfl⟩ := Kd.R_slice hR1
  refine hK.out _ _ ⟨(gr_cell c0 hg a0), (gr_cell c1 hg a0), (gr_cell c2 hg a0), (gr_cell c3 hg a3), (gr_fz c4 c3 hg a3), (gr_keep hg)⟩ (fun hHeld => ?_)
  clear hK K
  refine norm_ (a' := ?_) ?_ ?_
  rotate_left
  · show Act.put _ (some 27) _ = _
    simp only [Act.put, List.setIfInBounds_toArray, List.set_cons_zero, List.set_cons_succ, i64_w, i32_w]
    rfl
  refine pure_ (i := 10) (N := some 28) (v := ?_) (a' := ?_) #[true, true, true, true, true, true, true, true, true, true, true, false, false] rfl rfl (by kernel_rfl) (fun _ _ _ h => h) (Or.inl ⟨by rfl, ?_⟩) ?_ ?_
  rotate_left
  · intro w'
    go_simp
    with_reducible rfl
  rotate_left
  · simp only [Act.put, List.setIfInBounds_toArray, List.set_cons_zero, List.set_cons_succ, i64_w, i32_w]
    rfl
  refine pure_ (i := 11) (N := some 29) (v := ?_) (a' := ?_) #[true, true, true, true, true, true, true, true, true, true, true, true, false] rfl rfl (by kernel_rfl) (fun _ _ _ h => h) (Or.inl ⟨by rfl, ?_⟩) ?_ ?_
  rotate_left
  · intro w'
    go_simp
    with_reducible rfl
  rotate_left
  · simp only [Act.put, List.setIfInBounds_toArray, List.set_cons_zero, List.set_cons_succ, i64_w, i32_w]
    rfl
  refine last_ (i := 12) (N := none) #[true, true, true, true, true, true, true, true, true, true, true, true, true] rfl rfl (by kernel_rfl) (by decide) (fun K hK => ?_)
  obtain ⟨q0, q1, q2, q3, q4, q5⟩ := hHeld
  refine skip_ (w1 := ?_) (by rfl) rfl ?_ ?_
  rotate_left
  · go_simp
    rfl
  refine hK.out _ _ ?_
  clear hK K
  refine done_ (by kernel_rfl) ?_

  go_wp2
  go_ret
  have kk := gr_keep hg
  have hb9 := (kk.2 g (blk_lt t1) a3).trans t1
  refine ⟨rfl, ⟨_, by simpa using blk_set hb9 0 _, t2, Kd.R_set hR1 hb9 (by decide) 0 _⟩, hB9.setCell (p := ⟨g, 0, none⟩) t2 _, fun i hi hig hn => ?_⟩
  refine (Below.heap_setCell w9 ⟨g, 0, none⟩ _ i hig).trans ((kk.2 i (Nat.lt_of_lt_of_le hi HB.size) (fun e => ?_)).trans (HB.block i hi))
  obtain ⟨cells, hcb⟩ := Kd.R_typed s3 i e.symm
  exact hn cells hcb
end Go.Proofs.Ythbdiambigfgdac.Hand
