/- (*Marks).Add: where the range may not be; where there is no room; and where it goes to the end. -/
import Derived.Test.YthbdiambigfgdaeHandSt
namespace Go.Proofs.Ythbdiambigfgdae.Hand
open Go.RowKit Go.Proofs.YthbdiambigfgdaeW.PrintWords Go.Proofs.YthbdiambigfgdaeW.PrintLast Go.Proofs.YthbdiambigfgdaeW.PrintMore Go.Proofs.Ythbdiambigfgdae.PMarksRead
set_option linter.unusedSimpArgs false
set_option linter.unusedVariables false

def rangeV (x : S30) : Value := .agg #[.int .i64 x.f0.f0, .int .i64 x.f0.f1, .bool x.f1, .bool x.f2]

theorem hd_below {w w1 w' : World} (h : Below w.heap.size w w1) (hd : Below w1.heap.size w1 w') : Below w.heap.size w w' := h.trans (hd.mono h.size)

set_option maxHeartbeats 1000000 in
theorem Add_no (x : S30) (p : Option Addr) (w : World) (hm : marks_may.f x.f0.f0 x.f0.f1 x.f1 x.f2 = some false) :
    Calls Try.prog 9 #[.pointer p, rangeV x] w fun e w' => e = .returned (.tuple #[.int .i64 0, .int .i64 1]) ∧ Below w.heap.size w w' := by
  have hB0 : Below w.heap.size w (w.alloc (.cells #[.int .i64 x.f0.f0, .int .i64 x.f0.f1, .bool x.f1, .bool x.f2] 30)) := (Below.refl _ w).alloc (Nat.le_refl _) _
  obtain ⟨⟨x0, x1⟩, x2, x3⟩ := x
  unfold rangeV
  dsimp only at *
  go_enter Try.func9, Try.ntmps9
  go_wp2_with (go_at_call 49; ((with_reducible refine (marks_may.calls x0 x1 x2 x3 false _ hm).mono ?_); rintro e w' ⟨rfl, hd⟩))
  go_ret2
  exact ⟨rfl, hd_below hB0 hd⟩

set_option maxHeartbeats 1000000 in
theorem Add_nil (x : S30) (w : World) (hm : marks_may.f x.f0.f0 x.f0.f1 x.f1 x.f2 = some true) :
    Calls Try.prog 9 #[.pointer none, rangeV x] w fun e w' => e = .returned (.tuple #[.int .i64 0, .int .i64 3]) ∧ Below w.heap.size w w' := by
  have hB0 : Below w.heap.size w (w.alloc (.cells #[.int .i64 x.f0.f0, .int .i64 x.f0.f1, .bool x.f1, .bool x.f2] 30)) := (Below.refl _ w).alloc (Nat.le_refl _) _
  obtain ⟨⟨x0, x1⟩, x2, x3⟩ := x
  unfold rangeV
  dsimp only at *
  go_enter Try.func9, Try.ntmps9
  go_wp2_with (go_at_call 49; ((with_reducible refine (marks_may.calls x0 x1 x2 x3 true _ hm).mono ?_); rintro e w' ⟨rfl, hd⟩))
  go_ret2
  exact ⟨rfl, hd_below hB0 hd⟩

set_option maxHeartbeats 1000000 in
theorem Add_full (x : S30) (base g : Nat) (l : List S94) (last : Int) (w : World) (h : St w base g l last) (hm : marks_may.f x.f0.f0 x.f0.f1 x.f1 x.f2 = some true) (hf : 60 ≤ l.length) :
    Calls Try.prog 9 #[.pointer (some ⟨g, 0, none⟩), rangeV x] w fun e w' => e = .returned (.tuple #[.int .i64 0, .int .i64 3]) ∧ Below w.heap.size w w' := by
  have hB0 : Below w.heap.size w (w.alloc (.cells #[.int .i64 x.f0.f0, .int .i64 x.f0.f1, .bool x.f1, .bool x.f2] 30)) := (Below.refl _ w).alloc (Nat.le_refl _) _
  obtain ⟨A, c, hb, hlc, hlen, hr⟩ := h.view
  have hst := fun w' (hb' : Below w.heap.size w w') => cells_90 ((hb'.block g (blk_lt hb)).trans hb)
  have hfb : decide ((60 : Int) ≤ (l.length : Int)) = true := decide_eq_true (by omega)
  have hs0 := Aside0.mk hst
  clear h hb hr hst
  obtain ⟨⟨x0, x1⟩, x2, x3⟩ := x
  unfold rangeV
  dsimp only at *
  go_enter Try.func9, Try.ntmps9
  go_wp2_with (go_at_call 49; ((with_reducible refine (marks_may.calls x0 x1 x2 x3 true _ hm).mono ?_); rintro e w' ⟨rfl, hd⟩; have HB := hd_below hB0 hd; obtain ⟨d0, d1, d2, d3⟩ := hs0.out _ HB))
  go_ret2
  exact ⟨rfl, HB⟩

theorem al_cell {W : World} {a : Addr} {v : Value} {o : Obj} (h : W.cell? a = some v) : (W.alloc o).cell? a = some v := (World.cell?_of_block (Below.heap_alloc W o a.block (World.block_lt_of_cell? W _ h))).trans h
theorem al_fz {W : World} {a : Addr} {v : Value} {o : Obj} (f : W.frozen? a = false) (h : W.cell? a = some v) : (W.alloc o).frozen? a = false := (World.frozen?_of_block (Below.heap_alloc W o a.block (World.block_lt_of_cell? W _ h))).trans f
theorem gr_cell {W W' : World} {a : Addr} {v : Value} {r : Option Nat} (h : W.cell? a = some v) (hg : W.grownBy W' r) (hne : some a.block ≠ r) : W'.cell? a = some v := (World.cell?_of_block (hg.block _ (World.block_lt_of_cell? W _ h) hne)).trans h
theorem gr_fz {W W' : World} {a : Addr} {v : Value} {r : Option Nat} (f : W.frozen? a = false) (h : W.cell? a = some v) (hg : W.grownBy W' r) (hne : some a.block ≠ r) : W'.frozen? a = false := (World.frozen?_of_block (hg.block _ (World.block_lt_of_cell? W _ h) hne)).trans f
theorem al_keep {w1 W : World} {o : Obj} {r : Option Nat} (h : w1.heap.size ≤ W.heap.size ∧ (∀ i, i < w1.heap.size → some i ≠ r → W.heap[i]? = w1.heap[i]?)) : w1.heap.size ≤ (W.alloc o).heap.size ∧ (∀ i, i < w1.heap.size → some i ≠ r → (W.alloc o).heap[i]? = w1.heap[i]?) :=
  ⟨by simp; omega, fun i hi hr => (Below.heap_alloc W o i (by omega)).trans (h.2 i hi hr)⟩
theorem gr_keep {w1 W' : World} {r : Option Nat} (hg : w1.drew.grownBy W' r) : w1.heap.size ≤ W'.heap.size ∧ (∀ i, i < w1.heap.size → some i ≠ r → W'.heap[i]? = w1.heap[i]?) := ⟨hg.size, fun i hi hr => hg.block i hi hr⟩

set_option maxHeartbeats 2000000 in
set_option maxRecDepth 100000 in
theorem Add_add (x : S30) (base g : Nat) (l : List S94) (last : Int) (w : World) (h : St w base g l last) (hbw : base ≤ w.heap.size) (hm : marks_may.f x.f0.f0 x.f0.f1 x.f1 x.f2 = some true) (hf : l.length < 60) :
    Calls Try.prog 9 #[.pointer (some ⟨g, 0, none⟩), rangeV x] w fun e w' => e = .returned (.tuple #[.int .i64 (wrap64 (last + 1)), .int .i64 0]) ∧ St w' base g (l ++ [⟨x, wrap64 (last + 1)⟩]) (wrap64 (last + 1)) ∧ Fr base g w w' := by
  have hB0 : Below w.heap.size w (w.alloc (.cells #[.int .i64 x.f0.f0, .int .i64 x.f0.f1, .bool x.f1, .bool x.f2] 30)) := (Below.refl _ w).alloc (Nat.le_refl _) _
  have hbx : (w.alloc (.cells #[.int .i64 x.f0.f0, .int .i64 x.f0.f1, .bool x.f1, .bool x.f2] 30)).heap[w.heap.size]? = some (.cells #[.int .i64 x.f0.f0, .int .i64 x.f0.f1, .bool x.f1, .bool x.f2] 30 (0, 0)) := blk_new _ _
  obtain ⟨A, c, hb, hlc, hlen, hr⟩ := h.view
  have hst := fun w' (hb' : Below w.heap.size w w') => cells_90 ((hb'.block g (blk_lt hb)).trans hb)
  have hfb : decide ((60 : Int) ≤ (l.length : Int)) = false := decide_eq_false (by omega)
  have hs0 := Aside0.mk hst
  have hSt := Aside0.mk h
  have hBK := Aside0.mk hbx
  have hgl := blk_lt hb
  clear h hr hst hbx
  obtain ⟨⟨x0, x1⟩, x2, x3⟩ := x
  unfold rangeV
  dsimp only at *
  go_enter Try.func9, Try.ntmps9
  go_upto_region 6 with (go_at_call 49; ((with_reducible refine (marks_may.calls x0 x1 x2 x3 true _ hm).mono ?_); rintro e w1 ⟨rfl, hd⟩; have HB := hd_below hB0 hd; have BX := Aside0.mk (blk_below hBK.out hd); obtain ⟨d0, d1, d2, d3⟩ := hs0.out _ HB))
  generalize hnx : wrap64 (last + 1) = nx
  obtain ⟨v0, s1, t2, s3⟩ := hSt.out
  have t1 := (HB.block g (blk_lt s1)).trans s1
  have e0 : v0 = .slice A l.length c := by
    rw [hb] at s1
    simp at s1
    exact s1.symm
  subst e0
  have hgb : some g ≠ (Value.slice A l.length c).ownBlock := Kd.R_ne s3 s1 (by decide)
  have t3 := Kd.R_set (Kd.R_below s3 HB) t1 (by decide) 1 (.int .i64 nx)
  have g6 : (w1.setCell ⟨g, 1, none⟩ (.int .i64 nx)).heap[g]? = some (.cells #[.slice A l.length c, .int .i64 nx] 90 (0, 0)) := by simpa using blk_set t1 1 (.int .i64 nx)
  have x6 : (w1.setCell ⟨g, 1, none⟩ (.int .i64 nx)).heap[w.heap.size]? = some (.cells #[.int .i64 x0, .int .i64 x1, .bool x2, .bool x3] 30 (0, 0)) := (Below.heap_setCell w1 ⟨g, 1, none⟩ _ _ (by show w.heap.size ≠ g; omega)).trans BX.out
  have B6 : Below base w (w1.setCell ⟨g, 1, none⟩ (.int .i64 nx)) := (HB.mono hbw).setCell (p := ⟨g, 1, none⟩) t2 _
  have K6 : ∀ i, i < w.heap.size → i ≠ g → (w1.setCell ⟨g, 1, none⟩ (.int .i64 nx)).heap[i]? = w.heap[i]? := fun i hi hig => (Below.heap_setCell w1 ⟨g, 1, none⟩ _ i hig).trans (HB.block i hi)
  have z6 : w.heap.size ≤ (w1.setCell ⟨g, 1, none⟩ (.int .i64 nx)).heap.size := by simpa using HB.size
  generalize w1.setCell ⟨g, 1, none⟩ (.int .i64 nx) = W6 at t3 g6 x6 B6 K6 z6 ⊢
  have c0 : W6.drew.cell? ⟨w.heap.size, 0, none⟩ = some (.int .i64 x0) := by show W6.cell? _ = _; simp [World.cell?, x6]
  have c1 : W6.drew.cell? ⟨w.heap.size, 1, none⟩ = some (.int .i64 x1) := by show W6.cell? _ = _; simp [World.cell?, x6]
  have c2 : W6.drew.cell? ⟨w.heap.size, 2, none⟩ = some (.bool x2) := by show W6.cell? _ = _; simp [World.cell?, x6]
  have c3 : W6.drew.cell? ⟨w.heap.size, 3, none⟩ = some (.bool x3) := by show W6.cell? _ = _; simp [World.cell?, x6]
  have c4 : W6.drew.cell? ⟨g, 0, none⟩ = some (.slice A l.length c) := by show W6.cell? _ = _; simp [World.cell?, g6]
  have c5 : W6.drew.cell? ⟨g, 1, none⟩ = some (.int .i64 nx) := by show W6.cell? _ = _; simp [World.cell?, g6]
  have c6 : W6.drew.frozen? ⟨g, 0, none⟩ = false := by show W6.frozen? _ = _; simp [World.frozen?, g6]
  have hR0 := Aside0.mk (Kd.R_drew t3)
  have hB1 := Aside0.mk B6.drew
  have hbs := Aside0.mk (show base ≤ W6.drew.heap.size from Nat.le_trans hbw z6)
  have a0 : some w.heap.size ≠ (Value.slice A l.length c).ownBlock := fun e => by
    obtain ⟨cells, hcb⟩ := Kd.R_typed s3 _ e.symm
    exact Nat.lt_irrefl _ (blk_lt hcb)
  have a3 := hgb
  clear d0 d1 d2 d3 HB BX hm
  refine start_ (n := 16) (S := fun w' => w'.cell? ⟨w.heap.size, 0, none⟩ = some (.int .i64 x0) ∧ w'.cell? ⟨w.heap.size, 1, none⟩ = some (.int .i64 x1) ∧ w'.cell? ⟨w.heap.size, 2, none⟩ = some (.bool x2) ∧ w'.cell? ⟨w.heap.size, 3, none⟩ = some (.bool x3) ∧ w'.cell? ⟨g, 0, none⟩ = some (.slice A l.length c) ∧ w'.cell? ⟨g, 1, none⟩ = some (.int .i64 nx) ∧ w'.frozen? ⟨g, 0, none⟩ = false ∧ W6.heap.size ≤ w'.heap.size ∧ (∀ i, i < W6.heap.size → some i ≠ (Value.slice A l.length c).ownBlock → w'.heap[i]? = W6.heap[i]?)) (ds := [15]) #[false, false, false, false, false, false, false, false, false, false, false, false, false, false, false, false] (by kernel_rfl) rfl rfl ⟨c0, c1, c2, c3, c4, c5, c6, ⟨Nat.le_refl _, fun _ _ _ => rfl⟩⟩ (fun hHeld => ?_)
  refine pure_ (i := 0) (N := some 28) (v := ?_) (a' := ?_) #[true, false, false, false, false, false, false, false, false, false, false, false, false, false, false, false] rfl rfl (by kernel_rfl) (fun _ _ _ h => h) (Or.inl ⟨by rfl, ?_⟩) ?_ ?_
  rotate_left
  · intro w'
    go_simp
    with_reducible rfl
  rotate_left
  · simp only [Act.put, List.setIfInBounds_toArray, List.set_cons_zero, List.set_cons_succ, i64_w, i32_w]
    rfl
  refine pure_ (i := 1) (N := some 29) (v := ?_) (a' := ?_) #[true, true, false, false, false, false, false, false, false, false, false, false, false, false, false, false] rfl rfl (by kernel_rfl) (fun _ _ _ h => h) (Or.inl ⟨by rfl, ?_⟩) ?_ ?_
  rotate_left
  · intro w'
    go_simp
    with_reducible rfl
  rotate_left
  · simp only [Act.put, List.setIfInBounds_toArray, List.set_cons_zero, List.set_cons_succ, i64_w, i32_w]
    rfl
  refine pure_ (i := 2) (N := some 30) (v := ?_) (a' := ?_) #[true, true, true, false, false, false, false, false, false, false, false, false, false, false, false, false] rfl rfl (by kernel_rfl) (fun _ _ _ h => h) (Or.inl ⟨by rfl, ?_⟩) ?_ ?_
  rotate_left
  · intro w'
    go_simp
    with_reducible rfl
  rotate_left
  · simp only [Act.put, List.setIfInBounds_toArray, List.set_cons_zero, List.set_cons_succ, i64_w, i32_w]
    rfl
  refine pure_ (i := 3) (N := some 31) (v := ?_) (a' := ?_) #[true, true, true, true, false, false, false, false, false, false, false, false, false, false, false, false] rfl rfl (by kernel_rfl) (fun _ _ _ h => h) (Or.inl ⟨by rfl, ?_⟩) ?_ ?_
  rotate_left
  · intro w'
    go_simp
    with_reducible rfl
  rotate_left
  · simp only [Act.put, List.setIfInBounds_toArray, List.set_cons_zero, List.set_cons_succ, i64_w, i32_w]
    rfl
  refine pure_ (i := 6) (N := some 34) (v := ?_) (a' := ?_) #[true, true, true, true, false, false, true, false, false, false, false, false, false, false, false, false] rfl rfl (by kernel_rfl) (fun _ _ _ h => h) (Or.inl ⟨by rfl, ?_⟩) ?_ ?_
  rotate_left
  · intro w'
    go_simp
    with_reducible rfl
  rotate_left
  · simp only [Act.put, List.setIfInBounds_toArray, List.set_cons_zero, List.set_cons_succ, i64_w, i32_w]
    rfl
  refine pure_ (i := 7) (N := some 35) (v := ?_) (a' := ?_) #[true, true, true, true, false, false, true, true, false, false, false, false, false, false, false, false] rfl rfl (by kernel_rfl) (fun _ _ _ h => h) (Or.inl ⟨by rfl, ?_⟩) ?_ ?_
  rotate_left
  · intro w'
    go_simp
    with_reducible rfl
  rotate_left
  · simp only [Act.put, List.setIfInBounds_toArray, List.set_cons_zero, List.set_cons_succ, i64_w, i32_w]
    rfl
  refine pure_ (i := 8) (N := some 36) (v := ?_) (a' := ?_) #[true, true, true, true, false, false, true, true, true, false, false, false, false, false, false, false] rfl rfl (by kernel_rfl) (fun _ _ _ h => h) (Or.inl ⟨by rfl, ?_⟩) ?_ ?_
  rotate_left
  · intro w'
    go_simp
    with_reducible rfl
  rotate_left
  · simp only [Act.put, List.setIfInBounds_toArray, List.set_cons_zero, List.set_cons_succ, i64_w, i32_w]
    rfl
  refine take_ (i := 4) (N := some 32) (v := ?_) (a' := ?_) #[true, true, true, true, true, false, true, true, true, false, false, false, false, false, false, false] rfl rfl (by kernel_rfl) (fun _ _ _ h => h) (Or.inl ⟨by rfl, ?_⟩) hHeld ?_ ?_
  rotate_left
  · rintro w' ⟨s0, s1, s2, s3, s4, s5, s6, s7⟩
    go_simp
    with_reducible rfl
  rotate_left
  · simp only [Act.put, List.setIfInBounds_toArray, List.set_cons_zero, List.set_cons_succ, i64_w, i32_w]
    rfl
  refine take_ (i := 5) (N := some 33) (v := ?_) (a' := ?_) #[true, true, true, true, true, true, true, true, true, false, false, false, false, false, false, false] rfl rfl (by kernel_rfl) (fun _ _ _ h => h) (Or.inl ⟨by rfl, ?_⟩) hHeld ?_ ?_
  rotate_left
  · rintro w' ⟨s0, s1, s2, s3, s4, s5, s6, s7⟩
    go_simp
    with_reducible rfl
  rotate_left
  · simp only [Act.put, List.setIfInBounds_toArray, List.set_cons_zero, List.set_cons_succ, i64_w, i32_w]
    rfl
  refine take_ (i := 9) (N := some 37) (v := ?_) (a' := ?_) #[true, true, true, true, true, true, true, true, true, true, false, false, false, false, false, false] rfl rfl (by kernel_rfl) (fun _ _ _ h => h) (Or.inl ⟨by rfl, ?_⟩) hHeld ?_ ?_
  rotate_left
  · rintro w' ⟨s0, s1, s2, s3, s4, s5, s6, s7⟩
    go_simp
    with_reducible rfl
  rotate_left
  · simp only [Act.put, List.setIfInBounds_toArray, List.set_cons_zero, List.set_cons_succ, i64_w, i32_w]
    rfl
  refine pure_ (i := 10) (N := some 38) (v := ?_) (a' := ?_) #[true, true, true, true, true, true, true, true, true, true, true, false, false, false, false, false] rfl rfl (by kernel_rfl) (fun _ _ _ h => h) (Or.inl ⟨by rfl, ?_⟩) ?_ ?_
  rotate_left
  · intro w'
    go_simp
    with_reducible rfl
  rotate_left
  · simp only [Act.put, List.setIfInBounds_toArray, List.set_cons_zero, List.set_cons_succ, i64_w, i32_w]
    rfl
  refine one_ (i := 11) (N := some 39) #[true, true, true, true, true, true, true, true, true, true, true, true, false, false, false, false] rfl rfl (by kernel_rfl) (by decide) (fun K hK => ?_)
  obtain ⟨q0, q1, q2, q3, q4, q5, q6, q7⟩ := hHeld
  refine value_ (w1 := ?_) (v := ?_) (by rfl) rfl ?_ ?_
  rotate_left 2
  · go_simp
    constructor
    · rfl
    · rfl
  refine hK.out _ _ ⟨(al_cell q0), (al_cell q1), (al_cell q2), (al_cell q3), (al_cell q4), (al_cell q5), (al_fz q6 q4), (al_keep q7)⟩ (fun hHeld => ?_)
  clear hK K
  refine norm_ (a' := ?_) ?_ ?_
  rotate_left
  · show Act.put _ (some 39) _ = _
    simp only [Act.put, List.setIfInBounds_toArray, List.set_cons_zero, List.set_cons_succ, i64_w, i32_w]
    rfl
  refine one_ (i := 12) (N := some 40) #[true, true, true, true, true, true, true, true, true, true, true, true, true, false, false, false] rfl rfl (by kernel_rfl) (by decide) (fun K hK => ?_)
  obtain ⟨q0, q1, q2, q3, q4, q5, q6, q7⟩ := hHeld
  refine Kd.R_append_step k94 base (by rfl) (w0 := w) (.tmp 32) (.tmp 39) 88 94 _ 32 rfl Try.underlying88 info94 rfl (by decide) (by decide) (.slice A l.length c) l ⟨⟨⟨x0, x1⟩, x2, x3⟩, nx⟩ [.int .i64 x0, .int .i64 x1, .bool x2, .bool x3, .int .i64 nx] (fun _ => True) (fun _ => False) rfl rfl (k94_mkM _ _ _ (⟨⟨⟨x0, x1⟩, x2, x3⟩, nx⟩ : S94)) (fun _ h => h.elim) (fun _ _ => trivial) hR0.out hB1.out hbs.out (by omega) ?_
  intro v1 w9 hR1 hB9 hg hat
  obtain ⟨A1, c9, rfl⟩ := Kd.R_slice hR1
  refine hK.out _ _ ⟨(gr_cell c0 hg a0), (gr_cell c1 hg a0), (gr_cell c2 hg a0), (gr_cell c3 hg a0), (gr_cell c4 hg a3), (gr_cell c5 hg a3), (gr_fz c6 c4 hg a3), (gr_keep hg)⟩ (fun hHeld => ?_)
  clear hK K
  refine norm_ (a' := ?_) ?_ ?_
  rotate_left
  · show Act.put _ (some 40) _ = _
    simp only [Act.put, List.setIfInBounds_toArray, List.set_cons_zero, List.set_cons_succ, i64_w, i32_w]
    rfl
  refine pure_ (i := 13) (N := some 41) (v := ?_) (a' := ?_) #[true, true, true, true, true, true, true, true, true, true, true, true, true, true, false, false] rfl rfl (by kernel_rfl) (fun _ _ _ h => h) (Or.inl ⟨by rfl, ?_⟩) ?_ ?_
  rotate_left
  · intro w'
    go_simp
    with_reducible rfl
  rotate_left
  · simp only [Act.put, List.setIfInBounds_toArray, List.set_cons_zero, List.set_cons_succ, i64_w, i32_w]
    rfl
  refine pure_ (i := 14) (N := some 42) (v := ?_) (a' := ?_) #[true, true, true, true, true, true, true, true, true, true, true, true, true, true, true, false] rfl rfl (by kernel_rfl) (fun _ _ _ h => h) (Or.inl ⟨by rfl, ?_⟩) ?_ ?_
  rotate_left
  · intro w'
    go_simp
    with_reducible rfl
  rotate_left
  · simp only [Act.put, List.setIfInBounds_toArray, List.set_cons_zero, List.set_cons_succ, i64_w, i32_w]
    rfl
  refine last_ (i := 15) (N := none) #[true, true, true, true, true, true, true, true, true, true, true, true, true, true, true, true] rfl rfl (by kernel_rfl) (by decide) (fun K hK => ?_)
  obtain ⟨q0, q1, q2, q3, q4, q5, q6, q7⟩ := hHeld
  refine skip_ (w1 := ?_) (by rfl) rfl ?_ ?_
  rotate_left
  · go_simp
    rfl
  refine hK.out _ _ ?_
  clear hK K
  refine done_ (by kernel_rfl) ?_

  go_wp2
  go_ret2
  have kk := gr_keep hg
  have hb9 := (kk.2 g (blk_lt g6) a3).trans g6
  simp only [List.length_append, List.length_cons, List.length_nil, Nat.zero_add] at hR1
  subst hnx
  refine ⟨rfl, ⟨_, by simpa using blk_set hb9 0 (.slice A1 (l.length + 1) c9), t2, Kd.R_set hR1 hb9 (by decide) 0 _⟩, hB9.setCell (p := ⟨g, 0, none⟩) t2 _, fun i hi hig hn => ?_⟩
  refine (Below.heap_setCell w9 ⟨g, 0, none⟩ _ i hig).trans ((kk.2 i (Nat.lt_of_lt_of_le hi z6) (fun e => ?_)).trans (K6 i hi hig))
  obtain ⟨cells, hcb⟩ := Kd.R_typed s3 i e.symm
  exact hn cells hcb
end Go.Proofs.Ythbdiambigfgdae.Hand
