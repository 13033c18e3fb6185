/- The terminal's move and dresses at the numbers that the statement's example reaches, by hand; no condition beyond the terminal's form. -/
import Derived.Test.YtaicpljgijjenaaGreatDoorHandNum
namespace Go.Proofs.YtaicpljgijjenaaGreatDoor.Hand
open Go.RowKit Go.Proofs.YtaicpljgijjenaaGreatDoorW.PrintWords Go.Proofs.YtaicpljgijjenaaGreatDoorW.PrintLast Go.Proofs.YtaicpljgijjenaaGreatDoorW.PrintMore Go.Proofs.YtaicpljgijjenaaGreatDoor.PVtP
set_option linter.unusedVariables false
set_option linter.unusedSimpArgs false

section
variable {P : Program} {Q : Exit → Act → World → Prop} {ops : Array Oper}
theorem goesC_ {oi : Oper} {N : Option Tmp} {a : Act} {w : World} {K : Act → World → Prop} {f : FuncId} {fn : Func} {c : Operand} {ags : Array Operand} {ts : Array TypeId} {caps : Array Value} (hf : P.funcs[f]? = some fn) (hname : (fn.name == "runtime.NumGoroutine") = false) (hb : fn.body.isSome = true) (args : Array Value)
    (hw : Region.wanted oi (yielded ops a.tmps) = true) (hN : oi.dst = N) (hop : oi.op = .call { callee := .value c, args := ags, argTypes := ts }) (hc : a.eval c = .func (.func f) #[] caps) (hargs : ags.map a.eval ++ caps = args)
    (h : Calls P f args w fun e w' => ∃ v, e = .returned v ∧ K (a.put N v) w') : if Region.wanted oi (yielded ops a.tmps) = true then Oper.wp P oi a w K Q else K (a.put N undef) w := by
  refine call_ f args hw hN ?_ h
  have he := enters_ hf hname hb args w
  unfold execOp
  simp [hop, resolve, Deferred.ofValue, invoke, hc, hargs, he]
end

theorem Tm.drewN {w : World} {base p g cap : Nat} {row col sty : Int} {x y : S41} {wt : Value} (h : Tm w base p g cap row col sty x y wt) (n : Nat) : Tm (w.drewN n) base p g cap row col sty x y wt := ⟨h.bp, Kd.R_drewN h.rr n, h.ge⟩
theorem Tm.drew {w : World} {base p g cap : Nat} {row col sty : Int} {x y : S41} {wt : Value} (h : Tm w base p g cap row col sty x y wt) : Tm w.drew base p g cap row col sty x y wt := ⟨h.bp, Kd.R_drew h.rr, h.ge⟩
theorem Fr.drewN {p g : Nat} {w w' : World} (h : Fr p g w w') (n : Nat) : Fr p g w (w'.drewN n) := ⟨h.os, h.tape, h.output, h.size, h.block⟩
theorem Fr.drew {p g : Nat} {w w' : World} (h : Fr p g w w') : Fr p g w w'.drew := ⟨h.os, h.tape, h.output, h.size, h.block⟩

/-- What holds in move's last region. -/
structure Mv (w' w : World) (base p g cap : Nat) (sty : Int) (x y : S41) (wt : Value) (bx sb c : Nat) : Prop where
  tm : Tm w' base p g cap 0 0 sty x y wt
  fr : Fr p g w w'
  box : w'.cell? ⟨bx, 0, none⟩ = some (.slice (some ⟨sb, 0, none⟩) 2 c)
  s0 : w'.cell? ⟨sb, 0, none⟩ = some (.int .i64 1)
  s1 : w'.cell? ⟨sb, 1, none⟩ = some (.int .i64 1)
  nb : bx ≠ p
  ns : sb ≠ p
section
variable {w' w : World} {base p g cap : Nat} {sty : Int} {x y : S41} {wt : Value} {bx sb c : Nat}
theorem Mv.drewN (h : Mv w' w base p g cap sty x y wt bx sb c) (n : Nat) : Mv (w'.drewN n) w base p g cap sty x y wt bx sb c := ⟨h.tm.drewN n, h.fr.drewN n, h.box, h.s0, h.s1, h.nb, h.ns⟩
theorem Mv.drew (h : Mv w' w base p g cap sty x y wt bx sb c) : Mv w'.drew w base p g cap sty x y wt bx sb c := ⟨h.tm.drew, h.fr.drew, h.box, h.s0, h.s1, h.nb, h.ns⟩
theorem Mv.drawn {w3 : World} (h : Mv w' w base p g cap sty x y wt bx sb c) (hd : Drawn0 w' w3) : Mv w3 w base p g cap sty x y wt bx sb c := by
  obtain ⟨n, rfl⟩ := hd
  exact h.drewN n
theorem Mv.cell3 (h : Mv w' w base p g cap sty x y wt bx sb c) : w'.cell? ⟨p, 3, none⟩ = some (.int .i64 0) := (blk_cell h.tm.bp 3).trans rfl
theorem Mv.cell4 (h : Mv w' w base p g cap sty x y wt bx sb c) : w'.cell? ⟨p, 4, none⟩ = some (.int .i64 0) := (blk_cell h.tm.bp 4).trans rfl
theorem cell_far {w : World} {q : Addr} {p j : Nat} {u v : Value} (h : w.cell? q = some v) (hne : q.block ≠ p) : (w.setCell ⟨p, j, none⟩ u).cell? q = some v := (World.cell?_of_block (Below.heap_setCell w ⟨p, j, none⟩ u q.block hne)).trans h
theorem Mv.set3 (h : Mv w' w base p g cap sty x y wt bx sb c) : Mv (w'.setCell ⟨p, 3, none⟩ (.int .i64 0)) w base p g cap sty x y wt bx sb c :=
  ⟨h.tm.setp 3 _ rfl, h.fr.trans (Fr.setp _ _ _), cell_far h.box h.nb, cell_far h.s0 h.ns, cell_far h.s1 h.ns, h.nb, h.ns⟩
theorem Mv.set4 (h : Mv w' w base p g cap sty x y wt bx sb c) : Mv (w'.setCell ⟨p, 4, none⟩ (.int .i64 0)) w base p g cap sty x y wt bx sb c :=
  ⟨h.tm.setp 4 _ rfl, h.fr.trans (Fr.setp _ _ _), cell_far h.box h.nb, cell_far h.s0 h.ns, cell_far h.s1 h.ns, h.nb, h.ns⟩
end

theorem at_calls0 (bx sb c : Nat) (w : World) (hb : w.cell? ⟨bx, 0, none⟩ = some (.slice (some ⟨sb, 0, none⟩) 2 c)) (h0 : w.cell? ⟨sb, 0, none⟩ = some (.int .i64 1)) :
    Calls Tryz.prog 50 #[.int .i64 0, .int .i64 1, .pointer (some ⟨bx, 0, none⟩)] w fun e w' => e = .returned (.int .i64 0) ∧ Drawn0 w w' := by
  go_enter Tryz.func50, Tryz.ntmps50
  go_wp2
  go_ret
  exact ⟨rfl, Drawn0.refl _⟩
theorem at_calls1 (bx sb c : Nat) (w : World) (hb : w.cell? ⟨bx, 0, none⟩ = some (.slice (some ⟨sb, 0, none⟩) 2 c)) (h0 : w.cell? ⟨sb, 1, none⟩ = some (.int .i64 1)) :
    Calls Tryz.prog 50 #[.int .i64 1, .int .i64 2, .pointer (some ⟨bx, 0, none⟩)] w fun e w' => e = .returned (.int .i64 0) ∧ Drawn0 w w' := by
  go_enter Tryz.func50, Tryz.ntmps50
  go_wp2
  go_ret
  exact ⟨rfl, Drawn0.refl _⟩

set_option maxHeartbeats 1000000 in
set_option maxRecDepth 100000 in
theorem move_calls {base p g cap : Nat} {sty : Int} {x y : S41} {wt : Value} (sb c : Nat) (w : World) (h : Tm w base p g cap 0 0 sty x y wt) (h0 : w.cell? ⟨sb, 0, none⟩ = some (.int .i64 1)) (h1 : w.cell? ⟨sb, 1, none⟩ = some (.int .i64 1)) (hsp : sb ≠ p) :
    Calls Tryz.prog 43 #[.pointer (some ⟨p, 0, none⟩), .slice (some ⟨sb, 0, none⟩) 2 c] w fun e w' => e = .returned (.tuple #[]) ∧ Tm w' base p g cap 0 0 sty x y wt ∧ Fr p g w w' := by
  have HT := Aside0.mk h
  clear h
  go_enter Tryz.func43, Tryz.ntmps43
  go_wp2_with (first
    | ((with_reducible refine gate_dst (N := 3) rfl ?_); refine box_event ?hg (N := 3) ?hd (cs := #[.slice (some ⟨sb, 0, none⟩) 2 c]) (t := 91) ?hr ?_; (case hd => rfl); (case hg => rfl); (case hr => first | (go_simp; done) | (go_simp; rfl)); intro bx hg1 w1 hbox1 hb1; have hM0 := (show Mv w1 w base p g cap sty x y wt bx sb c from ⟨HT.out.below hb1, Fr.of_below hb1, (blk_cell hbox1 0).trans rfl, (hb1.cell (p := ⟨sb, 0, none⟩) (World.block_lt_of_cell? _ _ h0)).trans h0, (hb1.cell (p := ⟨sb, 1, none⟩) (World.block_lt_of_cell? _ _ h1)).trans h1, by rw [hg1]; exact Nat.ne_of_gt (blk_lt HT.out.bp), hsp⟩); clear hbox1 hb1 hg1 h0 h1))
  refine start_ (n := 22) (S := fun w' => w'.cell? ⟨p, 0, none⟩ = some (.int .i64 1) ∧ w'.cell? ⟨p, 1, none⟩ = some (.int .i64 2) ∧ Mv w' w base p g cap sty x y wt bx sb c) (ds := []) #[false, false, false, false, false, false, false, false, false, false, false, false, false, false, false, false, false, false, false, false, false, false] (by kernel_rfl) rfl rfl ⟨((blk_cell hM0.drew.tm.bp 0).trans rfl), ((blk_cell hM0.drew.tm.bp 1).trans rfl), hM0.drew⟩ (fun hHeld => ?_)
  refine pure_ (i := 0) (N := some 6) (v := ?_) (a' := ?_) #[true, false, false, false, false, false, false, false, false, false, false, false, false, false, false, false, false, false, false, false, false, false] rfl rfl (by kernel_rfl) (fun _ _ _ h => h) (Or.inl ⟨by rfl, ?_⟩) ?_ ?_
  rotate_left
  · intro w'
    go_simp
    with_reducible rfl
  rotate_left
  · simp only [Act.put, List.setIfInBounds_toArray, List.set_cons_zero, List.set_cons_succ, i64_w, i32_w]
    rfl
  refine pure_ (i := 1) (N := some 7) (v := ?_) (a' := ?_) #[true, true, false, false, false, false, false, false, false, false, false, false, false, false, false, false, false, false, false, false, false, false] rfl rfl (by kernel_rfl) (fun _ _ _ h => h) (Or.inl ⟨by rfl, ?_⟩) ?_ ?_
  rotate_left
  · intro w'
    go_simp
    with_reducible rfl
  rotate_left
  · simp only [Act.put, List.setIfInBounds_toArray, List.set_cons_zero, List.set_cons_succ, i64_w, i32_w]
    rfl
  refine pure_ (i := 2) (N := some 8) (v := ?_) (a' := ?_) #[true, true, true, false, false, false, false, false, false, false, false, false, false, false, false, false, false, false, false, false, false, false] rfl rfl (by kernel_rfl) (fun _ _ _ h => h) (Or.inl ⟨by rfl, ?_⟩) ?_ ?_
  rotate_left
  · intro w'
    go_simp
    with_reducible rfl
  rotate_left
  · simp only [Act.put, List.setIfInBounds_toArray, List.set_cons_zero, List.set_cons_succ, i64_w, i32_w]
    rfl
  refine pure_ (i := 3) (N := some 9) (v := ?_) (a' := ?_) #[true, true, true, true, false, false, false, false, false, false, false, false, false, false, false, false, false, false, false, false, false, false] rfl rfl (by kernel_rfl) (fun _ _ _ h => h) (Or.inl ⟨by rfl, ?_⟩) ?_ ?_
  rotate_left
  · intro w'
    go_simp
    with_reducible rfl
  rotate_left
  · simp only [Act.put, List.setIfInBounds_toArray, List.set_cons_zero, List.set_cons_succ, i64_w, i32_w]
    rfl
  refine pure_ (i := 4) (N := some 10) (v := ?_) (a' := ?_) #[true, true, true, true, true, false, false, false, false, false, false, false, false, false, false, false, false, false, false, false, false, false] rfl rfl (by kernel_rfl) (fun _ _ _ h => h) (Or.inl ⟨by rfl, ?_⟩) ?_ ?_
  rotate_left
  · intro w'
    go_simp
    with_reducible rfl
  rotate_left
  · simp only [Act.put, List.setIfInBounds_toArray, List.set_cons_zero, List.set_cons_succ, i64_w, i32_w]
    rfl
  refine pure_ (i := 5) (N := some 11) (v := ?_) (a' := ?_) #[true, true, true, true, true, true, false, false, false, false, false, false, false, false, false, false, false, false, false, false, false, false] rfl rfl (by kernel_rfl) (fun _ _ _ h => h) (Or.inl ⟨by rfl, ?_⟩) ?_ ?_
  rotate_left
  · intro w'
    go_simp
    with_reducible rfl
  rotate_left
  · simp only [Act.put, List.setIfInBounds_toArray, List.set_cons_zero, List.set_cons_succ, i64_w, i32_w]
    rfl
  refine pure_ (i := 6) (N := some 12) (v := ?_) (a' := ?_) #[true, true, true, true, true, true, true, false, false, false, false, false, false, false, false, false, false, false, false, false, false, false] rfl rfl (by kernel_rfl) (fun _ _ _ h => h) (Or.inl ⟨by rfl, ?_⟩) ?_ ?_
  rotate_left
  · intro w'
    go_simp
    with_reducible rfl
  rotate_left
  · simp only [Act.put, List.setIfInBounds_toArray, List.set_cons_zero, List.set_cons_succ, i64_w, i32_w]
    rfl
  refine pure_ (i := 9) (N := some 15) (v := ?_) (a' := ?_) #[true, true, true, true, true, true, true, false, false, true, false, false, false, false, false, false, false, false, false, false, false, false] rfl rfl (by kernel_rfl) (fun _ _ _ h => h) (Or.inl ⟨by rfl, ?_⟩) ?_ ?_
  rotate_left
  · intro w'
    go_simp
    with_reducible rfl
  rotate_left
  · simp only [Act.put, List.setIfInBounds_toArray, List.set_cons_zero, List.set_cons_succ, i64_w, i32_w]
    rfl
  refine pure_ (i := 10) (N := some 16) (v := ?_) (a' := ?_) #[true, true, true, true, true, true, true, false, false, true, true, false, false, false, false, false, false, false, false, false, false, false] rfl rfl (by kernel_rfl) (fun _ _ _ h => h) (Or.inl ⟨by rfl, ?_⟩) ?_ ?_
  rotate_left
  · intro w'
    go_simp
    with_reducible rfl
  rotate_left
  · simp only [Act.put, List.setIfInBounds_toArray, List.set_cons_zero, List.set_cons_succ, i64_w, i32_w]
    rfl
  refine pure_ (i := 11) (N := some 17) (v := ?_) (a' := ?_) #[true, true, true, true, true, true, true, false, false, true, true, true, false, false, false, false, false, false, false, false, false, false] rfl rfl (by kernel_rfl) (fun _ _ _ h => h) (Or.inl ⟨by rfl, ?_⟩) ?_ ?_
  rotate_left
  · intro w'
    go_simp
    with_reducible rfl
  rotate_left
  · simp only [Act.put, List.setIfInBounds_toArray, List.set_cons_zero, List.set_cons_succ, i64_w, i32_w]
    rfl
  refine pure_ (i := 12) (N := some 18) (v := ?_) (a' := ?_) #[true, true, true, true, true, true, true, false, false, true, true, true, true, false, false, false, false, false, false, false, false, false] rfl rfl (by kernel_rfl) (fun _ _ _ h => h) (Or.inl ⟨by rfl, ?_⟩) ?_ ?_
  rotate_left
  · intro w'
    go_simp
    with_reducible rfl
  rotate_left
  · simp only [Act.put, List.setIfInBounds_toArray, List.set_cons_zero, List.set_cons_succ, i64_w, i32_w]
    rfl
  refine pure_ (i := 13) (N := some 19) (v := ?_) (a' := ?_) #[true, true, true, true, true, true, true, false, false, true, true, true, true, true, false, false, false, false, false, false, false, false] rfl rfl (by kernel_rfl) (fun _ _ _ h => h) (Or.inl ⟨by rfl, ?_⟩) ?_ ?_
  rotate_left
  · intro w'
    go_simp
    with_reducible rfl
  rotate_left
  · simp only [Act.put, List.setIfInBounds_toArray, List.set_cons_zero, List.set_cons_succ, i64_w, i32_w]
    rfl
  refine take_ (i := 7) (N := some 13) (v := ?_) (a' := ?_) #[true, true, true, true, true, true, true, true, false, true, true, true, true, true, false, false, false, false, false, false, false, false] rfl rfl (by kernel_rfl) (fun _ _ _ h => h) (Or.inl ⟨by rfl, ?_⟩) hHeld ?_ ?_
  rotate_left
  · rintro w' ⟨s0, s1, s2⟩
    go_simp
    with_reducible rfl
  rotate_left
  · simp only [Act.put, List.setIfInBounds_toArray, List.set_cons_zero, List.set_cons_succ, i64_w, i32_w]
    rfl
  refine take_ (i := 14) (N := some 20) (v := ?_) (a' := ?_) #[true, true, true, true, true, true, true, true, false, true, true, true, true, true, true, false, false, false, false, false, false, false] rfl rfl (by kernel_rfl) (fun _ _ _ h => h) (Or.inl ⟨by rfl, ?_⟩) hHeld ?_ ?_
  rotate_left
  · rintro w' ⟨s0, s1, s2⟩
    go_simp
    with_reducible rfl
  rotate_left
  · simp only [Act.put, List.setIfInBounds_toArray, List.set_cons_zero, List.set_cons_succ, i64_w, i32_w]
    rfl
  refine one_ (i := 8) (N := some 14) #[true, true, true, true, true, true, true, true, true, true, true, true, true, true, true, false, false, false, false, false, false, false] rfl rfl (by kernel_rfl) (by decide) (fun K hK => ?_)
  obtain ⟨q0, q1, q2⟩ := hHeld
  refine goesC_ (caps := #[.pointer (some ⟨bx, 0, none⟩)]) Tryz.func50 (by kernel_rfl) rfl #[.int .i64 0, .int .i64 1, .pointer (some ⟨bx, 0, none⟩)] (by rfl) rfl rfl (by rfl) (by simp only [List.map_toArray, List.map_cons, List.map_nil]; rfl) ?_
  with_reducible refine (at_calls0 bx sb c _ q2.box q2.s0).mono ?_
  rintro e w3 ⟨rfl, hd⟩
  refine ⟨_, rfl, ?_⟩
  have q3 := q2.drawn hd
  refine hK.out _ _ ⟨((blk_cell q3.tm.bp 0).trans rfl), ((blk_cell q3.tm.bp 1).trans rfl), q3⟩ (fun hHeld => ?_)
  clear hK K
  refine norm_ (a' := ?_) ?_ ?_
  rotate_left
  · show Act.put _ (some 14) _ = _
    simp only [Act.put, List.setIfInBounds_toArray, List.set_cons_zero, List.set_cons_succ, i64_w, i32_w]
    rfl
  refine one_ (i := 15) (N := some 21) #[true, true, true, true, true, true, true, true, true, true, true, true, true, true, true, true, false, false, false, false, false, false] rfl rfl (by kernel_rfl) (by decide) (fun K hK => ?_)
  obtain ⟨q0, q1, q2⟩ := hHeld
  refine goesC_ (caps := #[.pointer (some ⟨bx, 0, none⟩)]) Tryz.func50 (by kernel_rfl) rfl #[.int .i64 1, .int .i64 2, .pointer (some ⟨bx, 0, none⟩)] (by rfl) rfl rfl (by rfl) (by simp only [List.map_toArray, List.map_cons, List.map_nil]; rfl) ?_
  with_reducible refine (at_calls1 bx sb c _ q2.box q2.s1).mono ?_
  rintro e w3 ⟨rfl, hd⟩
  refine ⟨_, rfl, ?_⟩
  have q3 := q2.drawn hd
  refine hK.out _ _ ⟨((blk_cell q3.tm.bp 0).trans rfl), ((blk_cell q3.tm.bp 1).trans rfl), q3⟩ (fun hHeld => ?_)
  clear hK K
  refine norm_ (a' := ?_) ?_ ?_
  rotate_left
  · show Act.put _ (some 21) _ = _
    simp only [Act.put, List.setIfInBounds_toArray, List.set_cons_zero, List.set_cons_succ, i64_w, i32_w]
    rfl
  refine pure_ (i := 16) (N := some 22) (v := ?_) (a' := ?_) #[true, true, true, true, true, true, true, true, true, true, true, true, true, true, true, true, true, false, false, false, false, false] rfl rfl (by kernel_rfl) (fun _ _ _ h => h) (Or.inl ⟨by rfl, ?_⟩) ?_ ?_
  rotate_left
  · intro w'
    go_simp
    with_reducible rfl
  rotate_left
  · simp only [Act.put, List.setIfInBounds_toArray, List.set_cons_zero, List.set_cons_succ, i64_w, i32_w]
    rfl
  refine pure_ (i := 17) (N := some 23) (v := ?_) (a' := ?_) #[true, true, true, true, true, true, true, true, true, true, true, true, true, true, true, true, true, true, false, false, false, false] rfl rfl (by kernel_rfl) (fun _ _ _ h => h) (Or.inl ⟨by rfl, ?_⟩) ?_ ?_
  rotate_left
  · intro w'
    go_simp
    with_reducible rfl
  rotate_left
  · simp only [Act.put, List.setIfInBounds_toArray, List.set_cons_zero, List.set_cons_succ, i64_w, i32_w]
    rfl
  refine one_ (i := 18) (N := none) #[true, true, true, true, true, true, true, true, true, true, true, true, true, true, true, true, true, true, true, false, false, false] rfl rfl (by kernel_rfl) (by decide) (fun K hK => ?_)
  obtain ⟨q0, q1, q2⟩ := hHeld
  have hc := q2.cell3
  have hf := blk_frozen q2.tm.bp 3
  refine skip_ (w1 := ?_) (by rfl) rfl ?_ ?_
  rotate_left
  · go_simp
    rfl
  have q3 := q2.set3
  refine hK.out _ _ ⟨((blk_cell q3.tm.bp 0).trans rfl), ((blk_cell q3.tm.bp 1).trans rfl), q3⟩ (fun hHeld => ?_)
  clear hK K
  refine pure_ (i := 19) (N := some 24) (v := ?_) (a' := ?_) #[true, true, true, true, true, true, true, true, true, true, true, true, true, true, true, true, true, true, true, true, false, false] rfl rfl (by kernel_rfl) (fun _ _ _ h => h) (Or.inl ⟨by rfl, ?_⟩) ?_ ?_
  rotate_left
  · intro w'
    go_simp
    with_reducible rfl
  rotate_left
  · simp only [Act.put, List.setIfInBounds_toArray, List.set_cons_zero, List.set_cons_succ, i64_w, i32_w]
    rfl
  refine pure_ (i := 20) (N := some 25) (v := ?_) (a' := ?_) #[true, true, true, true, true, true, true, true, true, true, true, true, true, true, true, true, true, true, true, true, true, false] rfl rfl (by kernel_rfl) (fun _ _ _ h => h) (Or.inl ⟨by rfl, ?_⟩) ?_ ?_
  rotate_left
  · intro w'
    go_simp
    with_reducible rfl
  rotate_left
  · simp only [Act.put, List.setIfInBounds_toArray, List.set_cons_zero, List.set_cons_succ, i64_w, i32_w]
    rfl
  refine one_ (i := 21) (N := none) #[true, true, true, true, true, true, true, true, true, true, true, true, true, true, true, true, true, true, true, true, true, true] rfl rfl (by kernel_rfl) (by decide) (fun K hK => ?_)
  obtain ⟨q0, q1, q2⟩ := hHeld
  have hc := q2.cell4
  have hf := blk_frozen q2.tm.bp 4
  refine skip_ (w1 := ?_) (by rfl) rfl ?_ ?_
  rotate_left
  · go_simp
    rfl
  have q3 := q2.set4
  refine hK.out _ _ ⟨((blk_cell q3.tm.bp 0).trans rfl), ((blk_cell q3.tm.bp 1).trans rfl), q3⟩ (fun hHeld => ?_)
  clear hK K
  refine done_ (by kernel_rfl) ?_
  obtain ⟨q0, q1, q2⟩ := hHeld
  go_wp2
  refine bodyPost_end (results_none rfl _ _ _) rfl ?_
  exact ⟨rfl, q2.tm, q2.fr⟩

theorem Tm.cell5 {w : World} {base p g cap : Nat} {row col sty : Int} {x y : S41} {wt : Value} (h : Tm w base p g cap row col sty x y wt) : w.cell? ⟨p, 5, none⟩ = some (.int .i64 sty) := (blk_cell h.bp 5).trans rfl
set_option maxHeartbeats 1000000 in
set_option maxRecDepth 100000 in
theorem dresses_calls {base p g cap : Nat} {x y : S41} {wt : Value} (sb c : Nat) (w : World) (h : Tm w base p g cap 0 0 0 x y wt) (h0 : w.cell? ⟨sb, 0, none⟩ = some (.int .i64 0)) (hsp : sb ≠ p) :
    Calls Tryz.prog 44 #[.pointer (some ⟨p, 0, none⟩), .slice (some ⟨sb, 0, none⟩) 1 c] w fun e w' => e = .returned (.tuple #[]) ∧ Tm w' base p g cap 0 0 0 x y wt ∧ Fr p g w w' := by
  have HT := Aside0.mk h
  clear h
  go_enter Tryz.func44, Tryz.ntmps44
  go_wp2
  go_loopg [12] 1 (fun gg v12 w' => ∃ (i : Nat), i ≤ 1 ∧ 1 - i ≤ gg ∧ v12 = .int .i64 i ∧ Aside0 (Tm w' base p g cap 0 0 0 x y wt) ∧ Aside0 (Fr p g w w') ∧ Aside0 (w'.cell? ⟨sb, 0, none⟩ = some (.int .i64 0)))
  case atStart => exact ⟨0, by omega, by omega, rfl, HT, ⟨Fr.refl _ _ _⟩, ⟨h0⟩⟩
  case round =>
    obtain ⟨i, hi, hg, rfl, HTr, HF, HC⟩ := hrel
    by_cases hlt : i < 1
    · obtain rfl : i = 0 := by omega
      have hc0 := HC.out
      have hc5 := HTr.out.cell5
      have hf5 := blk_frozen HTr.out.bp 5
      go_wp2
      go_roundg 0
      case measure => omega
      case rel => exact ⟨1, by omega, by omega, by go_num, ⟨HTr.out.setp 5 _ rfl⟩, ⟨HF.out.trans (Fr.setp _ _ _)⟩, ⟨cell_far HC.out hsp⟩⟩
    · obtain rfl : i = 1 := by omega
      go_wp2
      refine bodyPost_end (results_none rfl _ _ _) rfl ?_
      exact ⟨rfl, HTr.out, HF.out⟩
end Go.Proofs.YtaicpljgijjenaaGreatDoor.Hand
