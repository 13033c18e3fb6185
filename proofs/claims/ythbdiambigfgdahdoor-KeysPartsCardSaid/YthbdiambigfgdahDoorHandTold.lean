/- keys.told by hand: the key that arguments and a last byte tell; no condition beyond a length. -/
import Derived.Test.YthbdiambigfgdahDoorHandMap
import Derived.Test.YthbdiambigfgdahDoorWLast
import Derived.LoopTactic
import Derived.Deep.LoopGhost
import Derived.Shelf.Abstract
import Derived.Lib.SliceRun
import Derived.WalkSpells
namespace Go.Proofs.YthbdiambigfgdahDoor.Hand
open Go.RowKit Go.Shelf Go.Lib Go.Proofs.YthbdiambigfgdahDoorW.PrintWords Go.Proofs.YthbdiambigfgdahDoorW.PrintLast
set_option linter.unusedVariables false
set_option linter.unusedSimpArgs false

def semi : ByteArray := ⟨#[59]⟩
def pieces (s : ByteArray) : List ByteArray := Lib.splitB semi 0 (Lib.countB s semi) s
theorem pieces_len (s : ByteArray) : (pieces s).length = Lib.countB s semi + 1 := Lib.splitB_all semi (by decide) 0 _ s rfl
theorem count_le (s : ByteArray) : Lib.countB s semi ≤ s.size := Lib.countB_le semi (by decide) s.size s (Nat.le_refl _)
theorem pieces_size (s : ByteArray) (hs : s.size ≤ 1000) : ∀ p ∈ pieces s, p.size ≤ 1000 := by
  have key : ∀ (k : Nat) (t : ByteArray), t.size ≤ 1000 → ∀ p ∈ Lib.splitB semi 0 k t, p.size ≤ 1000 := by
    intro k
    induction k with
    | zero => intro t ht p hp; simp [Lib.splitB] at hp; subst hp; exact ht
    | succ k ih =>
      intro t ht p hp
      simp only [Lib.splitB] at hp
      split at hp
      · simp at hp; subst hp; exact ht
      · rcases List.mem_cons.1 hp with rfl | hp
        · have := ByteArray.size_extract (a := t) (b := 0) (e := (Lib.indexB t semi).toNat + 0)
          omega
        · refine ih _ ?_ p hp
          have := ByteArray.size_extract (a := t) (b := (Lib.indexB t semi).toNat + semi.size) (e := t.size)
          omega
  exact key _ s hs

set_option maxHeartbeats 1000000 in
theorem split_calls (s : ByteArray) (w : World) (hs : s.size ≤ 1000) :
    Calls Tryd.prog 15 #[.string s, .string semi] w fun e w' => e = .returned (.slice (some ⟨w.heap.size, 0, none⟩) (pieces s).length (pieces s).length) ∧ w' = w.alloc (.cells ((pieces s).map Value.string).toArray 9) := by
  have hle := count_le s
  have hlen := pieces_len s
  have c := Any.strings_genSplit_core { Tryd.lays146 with } (by kernel_rfl) s semi 0 (-1) (Lib.countB s semi + 1) w (by omega) (by decide) (Nat.zero_le _)
    (fun x cc hx => (Any.strings_Index_one { Tryd.lays146 with } x 59 (w.alloc (.cells cc 9))).mono fun e w' ⟨he, hw⟩ => ⟨by
      rw [he]
      have : Lib.indexB x semi = Lib.indexByte x.data.toList 59 := Lib.index_one _ _
      rw [this], hw⟩)
    ((Any.strings_Count_one { Tryd.lays146 with } s 59 w).mono fun e w' ⟨he, hw⟩ => ⟨by
      rw [he]
      have : Lib.countB s semi = Lib.countByte s.data.toList 59 := Lib.count_one _ _
      rw [this], hw⟩)
    (by decide) (by decide) (by rw [if_pos (by decide)]; omega)
  rw [Nat.add_sub_cancel] at c
  change Calls Tryd.prog 17 _ _ (fun e w' => e = .returned (.slice (some ⟨w.heap.size, 0, none⟩) (pieces s).length (Lib.countB s semi + 1)) ∧ w' = w.alloc (.cells (Lib.cellsOf (pieces s) (Lib.countB s semi + 1)) 9)) at c
  have e2 : Lib.cellsOf (pieces s) (Lib.countB s semi + 1) = ((pieces s).map Value.string).toArray := by rw [← hlen]; exact Lib.cellsOf_full _
  rw [e2, ← hlen] at c
  unfold semi at c ⊢
  go_enter Tryd.func15, Tryd.ntmps15
  go_wp2_with (go_at_call 17; refine c.mono ?_; rintro e w' ⟨rfl, hw⟩; rw [hw])
  go_ret
  exact ⟨by rw [hlen]; rfl, rfl⟩

def kind1L : List (Int × Int) := [(65, 6), (66, 7), (67, 9), (68, 8), (72, 10), (70, 11), (90, 3)]
def kind2L : List (Int × Int) := [(1, 10), (7, 10), (3, 5), (4, 11), (8, 11)]
def nums (s : ByteArray) : List Int := (pieces s).map fun p => (numV p).1
def okNums (s : ByteArray) : Bool := s.toList.isEmpty || (pieces s).all fun p => (numV p).2
def modsOf (l : List Int) : Int := if 1 < l.length ∧ 2 ≤ l.getD 1 0 ∧ l.getD 1 0 ≤ 8 then l.getD 1 0 - 1 else 0
theorem info3 : (Tryd.prog.info? 3).map (fun i => (i.zero, i.size, i.bytes)) = some (some (.int .i64 0), 1, 8) := by kernel_rfl

theorem at_piece (s : ByteArray) (W : World) (b : Nat) (h : W.heap[b]? = some (.cells ((pieces s).map Value.string).toArray 9 (0, 0))) (j : Nat) (hj : j < (pieces s).length) :
    W.cell? ⟨b, j, none⟩ = some (.string (pieces s)[j]) := by
  rw [blk_cell h j]
  simp [hj]

theorem al_cell {W : World} {a : Addr} {v : Value} (h : W.cell? a = some v) (o : Obj) : (W.alloc o).cell? a = some v := (World.cell?_of_block (Below.heap_alloc W o a.block (World.block_lt_of_cell? W _ h))).trans h
theorem wrap_of (x : Int) (h : -9223372036854775808 ≤ x ∧ x ≤ 9223372036854775807) : wrap64 x = x := by unfold wrap64; omega
theorem put3 {W : World} {g : Nat} {a0 b0 c0 : Int} (h : W.heap[g]? = some (.cells #[.int .i64 a0, .int .i32 b0, .int .i64 c0] 30 (0, 0))) (a b c : Int) :
    (((W.setCell ⟨g, 0, none⟩ (.int .i64 a)).setCell ⟨g, 1, none⟩ (.int .i32 b)).setCell ⟨g, 2, none⟩ (.int .i64 c)).heap[g]? = some (.cells #[.int .i64 a, .int .i32 b, .int .i64 c] 30 (0, 0)) :=
  blk_put (cs := #[.int .i64 a, .int .i32 b, .int .i64 c0]) (blk_put (cs := #[.int .i64 a, .int .i32 b0, .int .i64 c0]) (blk_put (cs := #[.int .i64 a0, .int .i32 b0, .int .i64 c0]) h 0 _ rfl) 1 _ rfl) 2 _ rfl
theorem below3 {B : Nat} {W0 W : World} {g : Nat} (h : Below B W0 W) (hg : B ≤ g) (a b c : Value) : Below B W0 (((W.setCell ⟨g, 0, none⟩ a).setCell ⟨g, 1, none⟩ b).setCell ⟨g, 2, none⟩ c) :=
  ((h.setCell (p := ⟨g, 0, none⟩) hg a).setCell (p := ⟨g, 1, none⟩) hg b).setCell (p := ⟨g, 2, none⟩) hg c
/-- A look-up in a map of whole numbers, at the operation. -/
theorem wpList_lookup_lit {P : Program} (w : World) {ops : Array Oper} {rest : List Oper} {o : Oper} {a : Act} {Q : Exit → Act → World → Prop}
    (hg : o.guard = none) (m x : Operand) (t : TypeId) (hop : o.op = Op.lookup t m x false)
    (k e : TypeId) (q : IntKind) (ht : P.underlying t = some (.map k e)) (hk : P.underlying k = some (.int q)) (hz : ∀ w, (zeroValue e).run P w = .ok (.int .i64 0) w) (b : Nat) (l : List (Int × Int)) (B : Nat) (w0 : World)
    (hm : a.eval m = .map (some b)) (h : MapIs w b q l ∧ Below B w0 w ∧ B ≤ b) (xi : Int) (hx : a.eval x = .int q xi)
    (hK : wpList P ops Q rest (a.put o.dst (.int .i64 (look l xi))) w) :
    wpList P ops Q (o :: rest) a w := by
  refine wpList_plain hg fun K' hK' => ?_
  have hrun := h.1.lookup ht hk (hz w) xi
  unfold Oper.wp
  simp [execOp, hop, hm, hx, hrun, Result.andThen]
  exact hK' _ _ hK
theorem zero3 (w : World) : (zeroValue 3).run Tryd.prog w = .ok (.int .i64 0) w := by kernel_rfl

/-- What keys.told answers. -/
def toldV (s : ByteArray) (c : Int) : Int × Int × Int :=
  if okNums s = false then (0, 0, 0)
  else if c = 126 then (if look kind2L ((nums s).getD 0 0) = 0 then (0, 0, 0) else (look kind2L ((nums s).getD 0 0), 0, modsOf (nums s)))
  else if look kind1L c = 0 then (0, 0, 0)
  else (look kind1L c, 0, if c = 90 then bits .or .i64 (modsOf (nums s)) 1 else modsOf (nums s))
theorem rd_getD (l : List Int) (i : Nat) : rd l (i : Int) = l.getD i 0 := by simp [rd]
theorem fin3 {r1 r2 r3 a b c : Int} {x : Int × Int × Int} (hR : Aside0 (x = (r1, r2, r3))) (h : x = (a, b, c)) : a = r1 ∧ b = r2 ∧ c = r3 := by
  have := hR.out
  rw [h] at this
  simpa using this

set_option maxHeartbeats 2000000 in
set_option maxRecDepth 100000 in
theorem told_calls (s : ByteArray) (c : Int) (r1 r2 r3 : Int) (w : World) (hs : s.size ≤ 1000) (hR0 : toldV s c = (r1, r2, r3)) :
    Calls Tryd.prog 13 #[.string s, .int .u8 c] w fun e w' => e = .returned (.agg #[.int .i64 r1, .int .i32 r2, .int .i64 r3]) ∧ Below w.heap.size w w' := by
  have hR := Aside0.mk hR0
  clear hR0
  have hsp := fun w => split_calls s w hs
  unfold semi at hsp
  have hlen : (pieces s).length ≤ 1001 := by rw [pieces_len]; have := count_le s; omega
  have hnum := fun (p : ByteArray) (hp : p ∈ pieces s) w => number_calls p w (by have := pieces_size s hs p hp; omega)
  go_enter Tryd.func13, Tryd.ntmps13
  go_upto_region 3 with (go_at_call 15; refine (hsp _).mono ?_; rintro e w1 ⟨rfl, rfl⟩)
  clear hsp
  obtain ⟨W1, hW1⟩ : ∃ W1, W1 = (w.alloc (.cells #[.int .i64 0, .int .i32 0, .int .i64 0] 30)).alloc (.cells ((pieces s).map Value.string).toArray 9) := ⟨_, rfl⟩
  have hz1 : W1.heap.size = w.heap.size + 2 := by rw [hW1]; simp
  have hB0 : Aside0 (W1.heap[w.heap.size]? = some (.cells #[.int .i64 0, .int .i32 0, .int .i64 0] 30 (0, 0))) := ⟨by rw [hW1]; exact blk_alloc (blk_new w _) _⟩
  have hB1 : Aside0 (W1.heap[w.heap.size + 1]? = some (.cells ((pieces s).map Value.string).toArray 9 (0, 0))) := ⟨by rw [hW1]; have := blk_new (w.alloc (.cells #[.int .i64 0, .int .i32 0, .int .i64 0] 30)) (.cells ((pieces s).map Value.string).toArray 9); simpa using this⟩
  have hBW : Aside0 (Below w.heap.size w W1) := ⟨by rw [hW1]; exact below_alloc (below_alloc (Below.refl _ _) _) _⟩
  rw [← hW1]
  clear hW1
  go_wp2
  go_loopg [6, 16] (pieces s).length (fun gg v6 v16 w' => ∃ (i : Nat), i ≤ (pieces s).length ∧ (pieces s).length - i ≤ gg ∧ v16 = .int .i64 i ∧ Aside0 (Kd.R (Kd.int .i64) 3 w' W1.heap.size (fun _ => True) v6 ((nums s).take i)) ∧ Aside0 (Below W1.heap.size W1 w') ∧ Aside0 (s.toList.isEmpty = false → ∀ j (h : j < (pieces s).length), j < i → (numV (pieces s)[j]).2 = true))
  case atStart => exact ⟨0, Nat.zero_le _, by omega, rfl, ⟨Kd.R_nil _ _ _ _ _⟩, ⟨Below.refl _ _⟩, ⟨fun _ j h hj => absurd hj (Nat.not_lt_zero _)⟩⟩
  case round =>
    obtain ⟨i, hi, hg, rfl, HO, HB, HN⟩ := hrel
    by_cases hlt : i < (pieces s).length
    · have hltz : (i : Int) < ((pieces s).length : Int) := by omega
      have hcell : wr.cell? ⟨w.heap.size + 1, i, none⟩ = some (.string (pieces s)[i]) := at_piece s wr _ ((HB.out.block _ (by omega)).trans hB1.out) i hlt
      have hnum' := hnum (pieces s)[i] (List.getElem_mem hlt)
      have hnx : (nums s).take (i + 1) = (nums s).take i ++ [(numV (pieces s)[i]).1] := by
        have : (nums s)[i]'(by simpa [nums] using hlt) = (numV (pieces s)[i]).1 := by simp [nums]
        rw [← this, List.take_append_getElem]
      have hN2 := fun (h : (numV (pieces s)[i]).2 = true ∨ s.toList.isEmpty = true) => (show s.toList.isEmpty = false → ∀ j (h : j < (pieces s).length), j < i + 1 → (numV (pieces s)[j]).2 = true from fun he j hj hji => by
        by_cases e : j = i
        · subst e
          rcases h with h | h
          · exact h
          · rw [he] at h; cases h
        · exact HN.out he j hj (by omega))
      obtain ⟨y, hy⟩ : ∃ y, y = (pieces s)[i] := ⟨_, rfl⟩
      have hym : Aside0 (y ∈ pieces s) := ⟨by rw [hy]; exact List.getElem_mem hlt⟩
      rw [← hy] at hcell hnum' hnx hN2
      clear hy
      cases hq : (numV y).2 with
      | true =>
        have hN' := hN2 (Or.inl hq)
        clear hN2
        rw [hq] at hnum'
        have hN'' := Aside0.mk hN'
        have hnx' := Aside0.mk hnx
        clear hN' hnx hnum
        go_wp2_with (first | (go_at_call 16; refine (hnum' _).mono ?_; rintro e w2 ⟨rfl, hb⟩) | (at_builtin; refine Kd.R_append (Kd.int .i64) (w0 := W1) W1.heap.size rfl (.tmp 32) (.tmp 34) 47 3 (.int .i64 0) 8 rfl Tryd.underlying47 info3 rfl (by decide) (by omega) u6 ((nums s).take i) ((numV y).1) [.int .i64 ((numV y).1)] (fun _ => True) (fun _ => False) rfl rfl ?aP (fun _ hk => hk.elim) (fun _ _ => trivial) ?aO ?aB ?aS ?aL ?_; (case aP => exact rfl); (case aO => exact Kd.R_below HO.out hb); (case aB => exact HB.out.trans (hb.mono HB.out.size)); (case aS => exact Nat.le_trans HB.out.size hb.size); (case aL => simp; omega); intro v1 w3 ho hb3 hg3 hat3; have HO3 := Aside0.mk ho; have HB3 := Aside0.mk hb3; clear ho hb3 hg3 hat3))
        go_roundg ((pieces s).length - (i + 1))
        case measure => omega
        case rel => exact ⟨i + 1, by omega, by omega, by go_num, ⟨by rw [hnx'.out]; exact HO3.out⟩, ⟨HB3.out⟩, hN''⟩
      | false =>
        rw [hq] at hnum'
        cases he : s.toList.isEmpty with
        | true =>
          have hN' := hN2 (Or.inr he)
          clear hN2
          have hN'' := Aside0.mk hN'
          have hnx' := Aside0.mk hnx
          clear hN' hnx hnum
          go_wp2_with (first | (go_at_call 16; refine (hnum' _).mono ?_; rintro e w2 ⟨rfl, hb⟩) | (at_builtin; refine Kd.R_append (Kd.int .i64) (w0 := W1) W1.heap.size rfl (.tmp 32) (.tmp 34) 47 3 (.int .i64 0) 8 rfl Tryd.underlying47 info3 rfl (by decide) (by omega) u6 ((nums s).take i) ((numV y).1) [.int .i64 ((numV y).1)] (fun _ => True) (fun _ => False) rfl rfl ?aP (fun _ hk => hk.elim) (fun _ _ => trivial) ?aO ?aB ?aS ?aL ?_; (case aP => exact rfl); (case aO => exact Kd.R_below HO.out hb); (case aB => exact HB.out.trans (hb.mono HB.out.size)); (case aS => exact Nat.le_trans HB.out.size hb.size); (case aL => simp; omega); intro v1 w3 ho hb3 hg3 hat3; have HO3 := Aside0.mk ho; have HB3 := Aside0.mk hb3; clear ho hb3 hg3 hat3))
          go_roundg ((pieces s).length - (i + 1))
          case measure => omega
          case rel => exact ⟨i + 1, by omega, by omega, by go_num, ⟨by rw [hnx'.out]; exact HO3.out⟩, ⟨HB3.out⟩, hN''⟩
        | false =>
          go_wp2_with (first | (go_at_call 16; refine (hnum' _).mono ?_; rintro e w2 ⟨rfl, hb⟩; have BK := Aside0.mk (blk_below ((HB.out.block _ (by omega)).trans hB0.out) hb); have z0 : w2.cell? ⟨w.heap.size, 0, none⟩ = some (.int .i64 0) := (blk_cell BK.out 0).trans rfl; have z1 : w2.cell? ⟨w.heap.size, 1, none⟩ = some (.int .i32 0) := (blk_cell BK.out 1).trans rfl; have z2 : w2.cell? ⟨w.heap.size, 2, none⟩ = some (.int .i64 0) := (blk_cell BK.out 2).trans rfl; have f0 := blk_frozen BK.out 0; have f1 := blk_frozen BK.out 1; have f2 := blk_frozen BK.out 2) | (at_builtin; refine Kd.R_append (Kd.int .i64) (w0 := W1) W1.heap.size rfl (.tmp 32) (.tmp 34) 47 3 (.int .i64 0) 8 rfl Tryd.underlying47 info3 rfl (by decide) (by omega) u6 ((nums s).take i) ((numV y).1) [.int .i64 ((numV y).1)] (fun _ => True) (fun _ => False) rfl rfl ?aP (fun _ hk => hk.elim) (fun _ _ => trivial) ?aO ?aB ?aS ?aL ?_; (case aP => exact rfl); (case aO => exact Kd.R_below HO.out hb); (case aB => exact HB.out.trans (hb.mono HB.out.size)); (case aS => exact Nat.le_trans HB.out.size hb.size); (case aL => simp; omega); intro v1 w3 ho hb3 hg3 hat3; have HO3 := Aside0.mk ho; have HB3 := Aside0.mk hb3; clear ho hb3 hg3 hat3))
          refine bodyPost_ret (results_cell_row rfl _ _ w.heap.size 30 #[.int .i64 0, .int .i32 0, .int .i64 0] (0, 0) _ rfl (put3 BK.out 0 0 0) Tryd.underlying30 rfl (by kernel_rfl)) rfl ?_
          have hv : toldV s c = (0, 0, 0) := by
            have hok : okNums s = false := by
              unfold okNums
              rw [he, Bool.false_or]
              exact List.all_eq_false.2 ⟨y, hym.out, by rw [hq]; decide⟩
            unfold toldV
            rw [if_pos hok]
          obtain ⟨rfl, rfl, rfl⟩ := fin3 hR hv
          exact ⟨rfl, below3 (hBW.out.trans ((HB.out.trans (hb.mono HB.out.size)).mono (by omega))) (Nat.le_refl _) _ _ _⟩
    · obtain rfl : i = (pieces s).length := by omega
      have hnl : (nums s).length = (pieces s).length := by simp [nums]
      have hp1 : 1 ≤ (pieces s).length := by rw [pieces_len]; omega
      rw [← hnl, List.take_length] at HO
      obtain ⟨A, cc, rfl⟩ := Kd.R_slice HO.out
      obtain ⟨_, hcc, HR⟩ := Kd.R_reads' HO.out
      obtain ⟨ad, e0, hx0⟩ := Kd.at_int HR 0 (by omega) (by omega)
      cases e0
      obtain ⟨inner, ho⟩ := Kd.R_own HO.out
      obtain ⟨bA, rfl⟩ : ∃ bA, ad = ⟨bA, 0, none⟩ := by
        rcases ho.2 with ⟨e, e2⟩ | ⟨b, cap, cur, e, _⟩
        · exact absurd e (by simp)
        · simp only [Value.slice.injEq, Option.some.injEq] at e; exact ⟨b, e.1⟩
      clear ho
      generalize hn0 : rd (nums s) 0 = n0 at hx0
      replace hx0 : wr.cell? ⟨bA, 0, none⟩ = some (.int .i64 n0) := by rw [show Int.toNat 0 = 0 from rfl, add_plain] at hx0; exact hx0
      have hs0 : W1.heap.size ≤ wr.heap.size := HB.out.size
      have hsw : Aside0 (w.heap.size + 2 ≤ wr.heap.size) := ⟨by omega⟩
      have hRB : Aside0 (wr.heap[w.heap.size]? = some (.cells #[.int .i64 0, .int .i32 0, .int .i64 0] 30 (0, 0))) := ⟨(HB.out.block _ (by omega)).trans hB0.out⟩
      have hRW : Aside0 (Below w.heap.size w wr) := ⟨hBW.out.trans (HB.out.mono (by omega))⟩
      have hM : MapIs (wr.alloc (.map #[] 0)) wr.heap.size .u8 [] ∧ Below wr.heap.size wr (wr.alloc (.map #[] 0)) ∧ wr.heap.size ≤ wr.heap.size := ⟨MapIs.made _ _, below_alloc (Below.refl _ _) _, Nat.le_refl _⟩
      have hmm := @run_makeMap Tryd.prog
      have hnlt : ¬ ((pieces s).length : Int) < ((pieces s).length : Int) := by omega
      have hok : Aside0 (okNums s = true) := ⟨by
        unfold okNums
        cases he : s.toList.isEmpty with
        | true => rfl
        | false =>
          rw [Bool.false_or]
          refine List.all_eq_true.2 fun x hx => ?_
          obtain ⟨j, hj, rfl⟩ := List.mem_iff_getElem.1 hx
          exact HN.out he j hj hj⟩
      have hnlen : Aside0 ((nums s).length = (pieces s).length) := ⟨hnl⟩
      clear hnum HN
      obtain ⟨n1, hn1⟩ : ∃ n1, n1 = (nums s).getD 1 0 := ⟨_, rfl⟩
      have hx1 : 1 < (pieces s).length → wr.cell? ⟨bA, 1, none⟩ = some (.int .i64 n1) := fun h => by
        obtain ⟨ad', e', hx⟩ := Kd.at_int HR 1 (by omega) (by have := hnlen.out; omega)
        cases e'
        rw [show Int.toNat 1 = 1 from rfl, add_plain] at hx; rw [hn1, ← rd_getD]; exact hx
      have hn1' := Aside0.mk hn1; have hn0' := Aside0.mk hn0
      clear hn1 hn0
      have hx1' := Aside0.mk hx1
      clear hx1
      have hHR := Aside0.mk HR
      clear HR
      by_cases h126 : c = 126
      · subst h126
        by_cases hk : look [(1, 10), (7, 10), (3, 5), (4, 11), (8, 11)] n0 = 0
        · have hmo : Aside0 True := ⟨trivial⟩
          go_wp2_with (first | (refine wpList_insert_lit _ rfl _ _ _ _ rfl 5 3 .u8 Tryd.underlying50 Tryd.underlying5 _ _ _ _ rfl hM _ _ rfl rfl (by decide) ?_; clear hM; intro wm hM; simp only [List.nil_append, List.cons_append] at hM) | (at_lookup; refine wpList_lookup_lit _ rfl _ _ _ rfl 5 3 .u8 Tryd.underlying50 Tryd.underlying5 zero3 _ _ _ _ rfl hM _ rfl ?_; have HM := Aside0.mk hM; clear hM; have hM2 : MapIs ((wm.alloc (.cells #[.int .i64 (look [(65, 6), (66, 7), (67, 9), (68, 8), (72, 10), (70, 11), (90, 3)] 126), .int .i32 0, .int .i64 0] 30)).alloc (.map #[] 0)) (wm.heap.size + 1) .i64 [] ∧ Below (wm.heap.size + 1) ((wm.alloc (.cells #[.int .i64 (look [(65, 6), (66, 7), (67, 9), (68, 8), (72, 10), (70, 11), (90, 3)] 126), .int .i32 0, .int .i64 0] 30)).alloc (.map #[] 0)) ((wm.alloc (.cells #[.int .i64 (look [(65, 6), (66, 7), (67, 9), (68, 8), (72, 10), (70, 11), (90, 3)] 126), .int .i32 0, .int .i64 0] 30)).alloc (.map #[] 0)) ∧ wm.heap.size + 1 ≤ wm.heap.size + 1 := ⟨by have := MapIs.made (wm.alloc (.cells #[.int .i64 (look [(65, 6), (66, 7), (67, 9), (68, 8), (72, 10), (70, 11), (90, 3)] 126), .int .i32 0, .int .i64 0] 30)) .i64; simpa using this, Below.refl _ _, Nat.le_refl _⟩; have xX := al_cell (al_cell ((HM.out.2.1.cell (p := ⟨bA, 0, none⟩) (World.block_lt_of_cell? wr _ hx0)).trans hx0) (.cells #[.int .i64 (look [(65, 6), (66, 7), (67, 9), (68, 8), (72, 10), (70, 11), (90, 3)] 126), .int .i32 0, .int .i64 0] 30)) (.map #[] 0); have kX := blk_alloc (blk_new wm (.cells #[.int .i64 (look [(65, 6), (66, 7), (67, 9), (68, 8), (72, 10), (70, 11), (90, 3)] 126), .int .i32 0, .int .i64 0] 30)) (.map #[] 0); have XX := Aside0.mk xX; have KX := Aside0.mk kX; clear xX kX) | (refine wpList_insert_lit _ rfl _ _ _ _ rfl 3 3 .i64 Tryd.underlying51 Tryd.underlying3 _ _ _ _ rfl hM2 _ _ rfl rfl (by decide) ?_; clear hM2; intro wn hM2; simp only [List.nil_append, List.cons_append] at hM2; (try clear x0); have x0 := (hM2.2.1.cell (p := ⟨bA, 0, none⟩) (by have : bA < wr.heap.size := World.block_lt_of_cell? wr _ hx0; have := HM.out.2.1.size; show bA < wm.heap.size + 1; omega)).trans XX.out) | (at_lookup; refine wpList_lookup_lit _ rfl _ _ _ rfl 3 3 .i64 Tryd.underlying51 Tryd.underlying3 zero3 _ _ _ _ rfl hM2 _ rfl ?_; have HM2 := Aside0.mk hM2; clear hM2; have hsm := HM.out.2.1.size; have KB := Aside0.mk ((HM2.out.2.1.block wm.heap.size (by omega)).trans KX.out); have BB := Aside0.mk ((HM2.out.2.1.block w.heap.size (by have h1_ := hsw.out; omega)).trans (blk_alloc (blk_alloc ((HM.out.2.1.block _ (by have h1_ := hsw.out; omega)).trans hRB.out) (.cells #[.int .i64 (look [(65, 6), (66, 7), (67, 9), (68, 8), (72, 10), (70, 11), (90, 3)] 126), .int .i32 0, .int .i64 0] 30)) (.map #[] 0))); have hWn := Aside0.mk ((below_alloc (below_alloc (hRW.out.trans (HM.out.2.1.mono (by have h1_ := hsw.out; omega))) (.cells #[.int .i64 (look [(65, 6), (66, 7), (67, 9), (68, 8), (72, 10), (70, 11), (90, 3)] 126), .int .i32 0, .int .i64 0] 30)) (.map #[] 0)).trans (HM2.out.2.1.mono (by have h1_ := hsw.out; omega))); have k0 : wn.cell? ⟨wm.heap.size, 0, none⟩ = some (.int .i64 (look [(65, 6), (66, 7), (67, 9), (68, 8), (72, 10), (70, 11), (90, 3)] 126)) := (blk_cell KB.out 0).trans rfl; have k1 : wn.cell? ⟨wm.heap.size, 1, none⟩ = some (.int .i32 0) := (blk_cell KB.out 1).trans rfl; have k2 : wn.cell? ⟨wm.heap.size, 2, none⟩ = some (.int .i64 0) := (blk_cell KB.out 2).trans rfl; have kf0 := blk_frozen KB.out 0; have kf1 := blk_frozen KB.out 1; have kf2 := blk_frozen KB.out 2; have z0 : wn.cell? ⟨w.heap.size, 0, none⟩ = some (.int .i64 0) := (blk_cell BB.out 0).trans rfl; have z1 : wn.cell? ⟨w.heap.size, 1, none⟩ = some (.int .i32 0) := (blk_cell BB.out 1).trans rfl; have z2 : wn.cell? ⟨w.heap.size, 2, none⟩ = some (.int .i64 0) := (blk_cell BB.out 2).trans rfl; have f0 := blk_frozen BB.out 0; have f1 := blk_frozen BB.out 1; have f2 := blk_frozen BB.out 2; have hne : ¬ w.heap.size = wm.heap.size := (by have h1_ := hsw.out; have h2_ := HM.out.2.1.size; omega); have hne' : ¬ wm.heap.size = w.heap.size := (by have h1_ := hsw.out; have h2_ := HM.out.2.1.size; omega)))
          refine bodyPost_ret (results_cell_row rfl _ _ w.heap.size 30 #[.int .i64 (0), .int .i32 0, .int .i64 (0)] (0, 0) _ rfl (put3 (by (repeat (first | refine blk_far ?_ hne _ | refine blk_alloc ?_ _)); exact BB.out) _ _ _) Tryd.underlying30 rfl (by kernel_rfl)) rfl ?_
          have hv : toldV s 126 = (0, 0, 0) := by
            unfold toldV kind1L kind2L
            rw [if_neg (by rw [hok.out]; decide), if_pos rfl, ← rd_getD, show ((0 : Nat) : Int) = 0 from rfl, hn0'.out]
            rw [if_pos hk]
          obtain ⟨rfl, rfl, rfl⟩ := fin3 hR hv
          exact ⟨rfl, below3 (by (repeat (first | apply below_alloc | refine Below.setCell (p := ⟨wm.heap.size, _, none⟩) ?_ (by show w.heap.size ≤ wm.heap.size; have h1_ := hsw.out; have h2_ := HM.out.2.1.size; omega) _)); exact hWn.out) (Nat.le_refl _) _ _ _⟩
        · have hkb : (look [(1, 10), (7, 10), (3, 5), (4, 11), (8, 11)] n0 == 0) = false := beq_eq_false_iff_ne.2 hk
          by_cases hl : 1 < (pieces s).length
          · have hx1 := hx1'.out hl
            have hlb : decide ((1 : Int) < ((pieces s).length : Int)) = true := decide_eq_true (by omega)
            by_cases h2 : 2 ≤ n1
            · have h2b : decide (2 ≤ n1) = true := decide_eq_true h2
              by_cases h8 : n1 ≤ 8
              · have h8b : decide (n1 ≤ 8) = true := decide_eq_true h8
                have hmo : Aside0 (modsOf (nums s) = n1 - 1) := ⟨by unfold modsOf; rw [← hn1'.out, if_pos ⟨by have := hnlen.out; omega, h2, h8⟩]⟩
                have hw1 : wrap64 (n1 - 1) = n1 - 1 := wrap_of _ (by omega)
                go_wp2_with (first | (refine wpList_insert_lit _ rfl _ _ _ _ rfl 5 3 .u8 Tryd.underlying50 Tryd.underlying5 _ _ _ _ rfl hM _ _ rfl rfl (by decide) ?_; clear hM; intro wm hM; simp only [List.nil_append, List.cons_append] at hM) | (at_lookup; refine wpList_lookup_lit _ rfl _ _ _ rfl 5 3 .u8 Tryd.underlying50 Tryd.underlying5 zero3 _ _ _ _ rfl hM _ rfl ?_; have HM := Aside0.mk hM; clear hM; have hM2 : MapIs ((wm.alloc (.cells #[.int .i64 (look [(65, 6), (66, 7), (67, 9), (68, 8), (72, 10), (70, 11), (90, 3)] 126), .int .i32 0, .int .i64 0] 30)).alloc (.map #[] 0)) (wm.heap.size + 1) .i64 [] ∧ Below (wm.heap.size + 1) ((wm.alloc (.cells #[.int .i64 (look [(65, 6), (66, 7), (67, 9), (68, 8), (72, 10), (70, 11), (90, 3)] 126), .int .i32 0, .int .i64 0] 30)).alloc (.map #[] 0)) ((wm.alloc (.cells #[.int .i64 (look [(65, 6), (66, 7), (67, 9), (68, 8), (72, 10), (70, 11), (90, 3)] 126), .int .i32 0, .int .i64 0] 30)).alloc (.map #[] 0)) ∧ wm.heap.size + 1 ≤ wm.heap.size + 1 := ⟨by have := MapIs.made (wm.alloc (.cells #[.int .i64 (look [(65, 6), (66, 7), (67, 9), (68, 8), (72, 10), (70, 11), (90, 3)] 126), .int .i32 0, .int .i64 0] 30)) .i64; simpa using this, Below.refl _ _, Nat.le_refl _⟩; have xX := al_cell (al_cell ((HM.out.2.1.cell (p := ⟨bA, 0, none⟩) (World.block_lt_of_cell? wr _ hx0)).trans hx0) (.cells #[.int .i64 (look [(65, 6), (66, 7), (67, 9), (68, 8), (72, 10), (70, 11), (90, 3)] 126), .int .i32 0, .int .i64 0] 30)) (.map #[] 0); have kX := blk_alloc (blk_new wm (.cells #[.int .i64 (look [(65, 6), (66, 7), (67, 9), (68, 8), (72, 10), (70, 11), (90, 3)] 126), .int .i32 0, .int .i64 0] 30)) (.map #[] 0); have XX := Aside0.mk xX; have KX := Aside0.mk kX; clear xX kX; have yX := al_cell (al_cell ((HM.out.2.1.cell (p := ⟨bA, 1, none⟩) (World.block_lt_of_cell? wr _ hx1)).trans hx1) (.cells #[.int .i64 (look [(65, 6), (66, 7), (67, 9), (68, 8), (72, 10), (70, 11), (90, 3)] 126), .int .i32 0, .int .i64 0] 30)) (.map #[] 0); have YX := Aside0.mk yX; clear yX) | (refine wpList_insert_lit _ rfl _ _ _ _ rfl 3 3 .i64 Tryd.underlying51 Tryd.underlying3 _ _ _ _ rfl hM2 _ _ rfl rfl (by decide) ?_; clear hM2; intro wn hM2; simp only [List.nil_append, List.cons_append] at hM2; (try clear x0); have x0 := (hM2.2.1.cell (p := ⟨bA, 0, none⟩) (by have : bA < wr.heap.size := World.block_lt_of_cell? wr _ hx0; have := HM.out.2.1.size; show bA < wm.heap.size + 1; omega)).trans XX.out) | (at_lookup; refine wpList_lookup_lit _ rfl _ _ _ rfl 3 3 .i64 Tryd.underlying51 Tryd.underlying3 zero3 _ _ _ _ rfl hM2 _ rfl ?_; have HM2 := Aside0.mk hM2; clear hM2; have hsm := HM.out.2.1.size; have KB := Aside0.mk ((HM2.out.2.1.block wm.heap.size (by omega)).trans KX.out); have BB := Aside0.mk ((HM2.out.2.1.block w.heap.size (by have h1_ := hsw.out; omega)).trans (blk_alloc (blk_alloc ((HM.out.2.1.block _ (by have h1_ := hsw.out; omega)).trans hRB.out) (.cells #[.int .i64 (look [(65, 6), (66, 7), (67, 9), (68, 8), (72, 10), (70, 11), (90, 3)] 126), .int .i32 0, .int .i64 0] 30)) (.map #[] 0))); have hWn := Aside0.mk ((below_alloc (below_alloc (hRW.out.trans (HM.out.2.1.mono (by have h1_ := hsw.out; omega))) (.cells #[.int .i64 (look [(65, 6), (66, 7), (67, 9), (68, 8), (72, 10), (70, 11), (90, 3)] 126), .int .i32 0, .int .i64 0] 30)) (.map #[] 0)).trans (HM2.out.2.1.mono (by have h1_ := hsw.out; omega))); have k0 : wn.cell? ⟨wm.heap.size, 0, none⟩ = some (.int .i64 (look [(65, 6), (66, 7), (67, 9), (68, 8), (72, 10), (70, 11), (90, 3)] 126)) := (blk_cell KB.out 0).trans rfl; have k1 : wn.cell? ⟨wm.heap.size, 1, none⟩ = some (.int .i32 0) := (blk_cell KB.out 1).trans rfl; have k2 : wn.cell? ⟨wm.heap.size, 2, none⟩ = some (.int .i64 0) := (blk_cell KB.out 2).trans rfl; have kf0 := blk_frozen KB.out 0; have kf1 := blk_frozen KB.out 1; have kf2 := blk_frozen KB.out 2; have z0 : wn.cell? ⟨w.heap.size, 0, none⟩ = some (.int .i64 0) := (blk_cell BB.out 0).trans rfl; have z1 : wn.cell? ⟨w.heap.size, 1, none⟩ = some (.int .i32 0) := (blk_cell BB.out 1).trans rfl; have z2 : wn.cell? ⟨w.heap.size, 2, none⟩ = some (.int .i64 0) := (blk_cell BB.out 2).trans rfl; have f0 := blk_frozen BB.out 0; have f1 := blk_frozen BB.out 1; have f2 := blk_frozen BB.out 2; have hne : ¬ w.heap.size = wm.heap.size := (by have h1_ := hsw.out; have h2_ := HM.out.2.1.size; omega); have hne' : ¬ wm.heap.size = w.heap.size := (by have h1_ := hsw.out; have h2_ := HM.out.2.1.size; omega); have x1 : wn.cell? ⟨bA, 1, none⟩ = some (.int .i64 n1) := (HM2.out.2.1.cell (p := ⟨bA, 1, none⟩) (by have h1_ : bA < wr.heap.size := World.block_lt_of_cell? wr _ hx1; have h2_ := HM.out.2.1.size; show bA < wm.heap.size + 1; omega)).trans YX.out; have hnd : ¬ bA = wm.heap.size := (by have h1_ : bA < wr.heap.size := World.block_lt_of_cell? wr _ hx1; have h2_ := HM.out.2.1.size; omega); have hnd' : ¬ wm.heap.size = bA := (by have h1_ : bA < wr.heap.size := World.block_lt_of_cell? wr _ hx1; have h2_ := HM.out.2.1.size; omega)))
                refine bodyPost_ret (results_cell_row rfl _ _ w.heap.size 30 #[.int .i64 (look [(1, 10), (7, 10), (3, 5), (4, 11), (8, 11)] n0), .int .i32 0, .int .i64 (n1 - 1)] (0, 0) _ rfl (put3 (by (repeat (first | refine blk_far ?_ hne _ | refine blk_alloc ?_ _)); exact BB.out) _ _ _) Tryd.underlying30 rfl (by kernel_rfl)) rfl ?_
                have hv : toldV s 126 = (look [(1, 10), (7, 10), (3, 5), (4, 11), (8, 11)] n0, 0, n1 - 1) := by
                  unfold toldV kind1L kind2L
                  rw [if_neg (by rw [hok.out]; decide), if_pos rfl, ← rd_getD, show ((0 : Nat) : Int) = 0 from rfl, hn0'.out]
                  rw [if_neg hk]; rw [hmo.out]
                obtain ⟨rfl, rfl, rfl⟩ := fin3 hR hv
                exact ⟨rfl, below3 (by (repeat (first | apply below_alloc | refine Below.setCell (p := ⟨wm.heap.size, _, none⟩) ?_ (by show w.heap.size ≤ wm.heap.size; have h1_ := hsw.out; have h2_ := HM.out.2.1.size; omega) _)); exact hWn.out) (Nat.le_refl _) _ _ _⟩
              · have h8b : decide (n1 ≤ 8) = false := decide_eq_false h8
                have hmo : Aside0 (modsOf (nums s) = 0) := ⟨by unfold modsOf; rw [← hn1'.out, if_neg (fun h => h8 h.2.2)]⟩
                go_wp2_with (first | (refine wpList_insert_lit _ rfl _ _ _ _ rfl 5 3 .u8 Tryd.underlying50 Tryd.underlying5 _ _ _ _ rfl hM _ _ rfl rfl (by decide) ?_; clear hM; intro wm hM; simp only [List.nil_append, List.cons_append] at hM) | (at_lookup; refine wpList_lookup_lit _ rfl _ _ _ rfl 5 3 .u8 Tryd.underlying50 Tryd.underlying5 zero3 _ _ _ _ rfl hM _ rfl ?_; have HM := Aside0.mk hM; clear hM; have hM2 : MapIs ((wm.alloc (.cells #[.int .i64 (look [(65, 6), (66, 7), (67, 9), (68, 8), (72, 10), (70, 11), (90, 3)] 126), .int .i32 0, .int .i64 0] 30)).alloc (.map #[] 0)) (wm.heap.size + 1) .i64 [] ∧ Below (wm.heap.size + 1) ((wm.alloc (.cells #[.int .i64 (look [(65, 6), (66, 7), (67, 9), (68, 8), (72, 10), (70, 11), (90, 3)] 126), .int .i32 0, .int .i64 0] 30)).alloc (.map #[] 0)) ((wm.alloc (.cells #[.int .i64 (look [(65, 6), (66, 7), (67, 9), (68, 8), (72, 10), (70, 11), (90, 3)] 126), .int .i32 0, .int .i64 0] 30)).alloc (.map #[] 0)) ∧ wm.heap.size + 1 ≤ wm.heap.size + 1 := ⟨by have := MapIs.made (wm.alloc (.cells #[.int .i64 (look [(65, 6), (66, 7), (67, 9), (68, 8), (72, 10), (70, 11), (90, 3)] 126), .int .i32 0, .int .i64 0] 30)) .i64; simpa using this, Below.refl _ _, Nat.le_refl _⟩; have xX := al_cell (al_cell ((HM.out.2.1.cell (p := ⟨bA, 0, none⟩) (World.block_lt_of_cell? wr _ hx0)).trans hx0) (.cells #[.int .i64 (look [(65, 6), (66, 7), (67, 9), (68, 8), (72, 10), (70, 11), (90, 3)] 126), .int .i32 0, .int .i64 0] 30)) (.map #[] 0); have kX := blk_alloc (blk_new wm (.cells #[.int .i64 (look [(65, 6), (66, 7), (67, 9), (68, 8), (72, 10), (70, 11), (90, 3)] 126), .int .i32 0, .int .i64 0] 30)) (.map #[] 0); have XX := Aside0.mk xX; have KX := Aside0.mk kX; clear xX kX; have yX := al_cell (al_cell ((HM.out.2.1.cell (p := ⟨bA, 1, none⟩) (World.block_lt_of_cell? wr _ hx1)).trans hx1) (.cells #[.int .i64 (look [(65, 6), (66, 7), (67, 9), (68, 8), (72, 10), (70, 11), (90, 3)] 126), .int .i32 0, .int .i64 0] 30)) (.map #[] 0); have YX := Aside0.mk yX; clear yX) | (refine wpList_insert_lit _ rfl _ _ _ _ rfl 3 3 .i64 Tryd.underlying51 Tryd.underlying3 _ _ _ _ rfl hM2 _ _ rfl rfl (by decide) ?_; clear hM2; intro wn hM2; simp only [List.nil_append, List.cons_append] at hM2; (try clear x0); have x0 := (hM2.2.1.cell (p := ⟨bA, 0, none⟩) (by have : bA < wr.heap.size := World.block_lt_of_cell? wr _ hx0; have := HM.out.2.1.size; show bA < wm.heap.size + 1; omega)).trans XX.out) | (at_lookup; refine wpList_lookup_lit _ rfl _ _ _ rfl 3 3 .i64 Tryd.underlying51 Tryd.underlying3 zero3 _ _ _ _ rfl hM2 _ rfl ?_; have HM2 := Aside0.mk hM2; clear hM2; have hsm := HM.out.2.1.size; have KB := Aside0.mk ((HM2.out.2.1.block wm.heap.size (by omega)).trans KX.out); have BB := Aside0.mk ((HM2.out.2.1.block w.heap.size (by have h1_ := hsw.out; omega)).trans (blk_alloc (blk_alloc ((HM.out.2.1.block _ (by have h1_ := hsw.out; omega)).trans hRB.out) (.cells #[.int .i64 (look [(65, 6), (66, 7), (67, 9), (68, 8), (72, 10), (70, 11), (90, 3)] 126), .int .i32 0, .int .i64 0] 30)) (.map #[] 0))); have hWn := Aside0.mk ((below_alloc (below_alloc (hRW.out.trans (HM.out.2.1.mono (by have h1_ := hsw.out; omega))) (.cells #[.int .i64 (look [(65, 6), (66, 7), (67, 9), (68, 8), (72, 10), (70, 11), (90, 3)] 126), .int .i32 0, .int .i64 0] 30)) (.map #[] 0)).trans (HM2.out.2.1.mono (by have h1_ := hsw.out; omega))); have k0 : wn.cell? ⟨wm.heap.size, 0, none⟩ = some (.int .i64 (look [(65, 6), (66, 7), (67, 9), (68, 8), (72, 10), (70, 11), (90, 3)] 126)) := (blk_cell KB.out 0).trans rfl; have k1 : wn.cell? ⟨wm.heap.size, 1, none⟩ = some (.int .i32 0) := (blk_cell KB.out 1).trans rfl; have k2 : wn.cell? ⟨wm.heap.size, 2, none⟩ = some (.int .i64 0) := (blk_cell KB.out 2).trans rfl; have kf0 := blk_frozen KB.out 0; have kf1 := blk_frozen KB.out 1; have kf2 := blk_frozen KB.out 2; have z0 : wn.cell? ⟨w.heap.size, 0, none⟩ = some (.int .i64 0) := (blk_cell BB.out 0).trans rfl; have z1 : wn.cell? ⟨w.heap.size, 1, none⟩ = some (.int .i32 0) := (blk_cell BB.out 1).trans rfl; have z2 : wn.cell? ⟨w.heap.size, 2, none⟩ = some (.int .i64 0) := (blk_cell BB.out 2).trans rfl; have f0 := blk_frozen BB.out 0; have f1 := blk_frozen BB.out 1; have f2 := blk_frozen BB.out 2; have hne : ¬ w.heap.size = wm.heap.size := (by have h1_ := hsw.out; have h2_ := HM.out.2.1.size; omega); have hne' : ¬ wm.heap.size = w.heap.size := (by have h1_ := hsw.out; have h2_ := HM.out.2.1.size; omega); have x1 : wn.cell? ⟨bA, 1, none⟩ = some (.int .i64 n1) := (HM2.out.2.1.cell (p := ⟨bA, 1, none⟩) (by have h1_ : bA < wr.heap.size := World.block_lt_of_cell? wr _ hx1; have h2_ := HM.out.2.1.size; show bA < wm.heap.size + 1; omega)).trans YX.out; have hnd : ¬ bA = wm.heap.size := (by have h1_ : bA < wr.heap.size := World.block_lt_of_cell? wr _ hx1; have h2_ := HM.out.2.1.size; omega); have hnd' : ¬ wm.heap.size = bA := (by have h1_ : bA < wr.heap.size := World.block_lt_of_cell? wr _ hx1; have h2_ := HM.out.2.1.size; omega)))
                refine bodyPost_ret (results_cell_row rfl _ _ w.heap.size 30 #[.int .i64 (look [(1, 10), (7, 10), (3, 5), (4, 11), (8, 11)] n0), .int .i32 0, .int .i64 (0)] (0, 0) _ rfl (put3 (by (repeat (first | refine blk_far ?_ hne _ | refine blk_alloc ?_ _)); exact BB.out) _ _ _) Tryd.underlying30 rfl (by kernel_rfl)) rfl ?_
                have hv : toldV s 126 = (look [(1, 10), (7, 10), (3, 5), (4, 11), (8, 11)] n0, 0, 0) := by
                  unfold toldV kind1L kind2L
                  rw [if_neg (by rw [hok.out]; decide), if_pos rfl, ← rd_getD, show ((0 : Nat) : Int) = 0 from rfl, hn0'.out]
                  rw [if_neg hk]; rw [hmo.out]
                obtain ⟨rfl, rfl, rfl⟩ := fin3 hR hv
                exact ⟨rfl, below3 (by (repeat (first | apply below_alloc | refine Below.setCell (p := ⟨wm.heap.size, _, none⟩) ?_ (by show w.heap.size ≤ wm.heap.size; have h1_ := hsw.out; have h2_ := HM.out.2.1.size; omega) _)); exact hWn.out) (Nat.le_refl _) _ _ _⟩
            · have h2b : decide (2 ≤ n1) = false := decide_eq_false h2
              have hmo : Aside0 (modsOf (nums s) = 0) := ⟨by unfold modsOf; rw [← hn1'.out, if_neg (fun h => h2 h.2.1)]⟩
              go_wp2_with (first | (refine wpList_insert_lit _ rfl _ _ _ _ rfl 5 3 .u8 Tryd.underlying50 Tryd.underlying5 _ _ _ _ rfl hM _ _ rfl rfl (by decide) ?_; clear hM; intro wm hM; simp only [List.nil_append, List.cons_append] at hM) | (at_lookup; refine wpList_lookup_lit _ rfl _ _ _ rfl 5 3 .u8 Tryd.underlying50 Tryd.underlying5 zero3 _ _ _ _ rfl hM _ rfl ?_; have HM := Aside0.mk hM; clear hM; have hM2 : MapIs ((wm.alloc (.cells #[.int .i64 (look [(65, 6), (66, 7), (67, 9), (68, 8), (72, 10), (70, 11), (90, 3)] 126), .int .i32 0, .int .i64 0] 30)).alloc (.map #[] 0)) (wm.heap.size + 1) .i64 [] ∧ Below (wm.heap.size + 1) ((wm.alloc (.cells #[.int .i64 (look [(65, 6), (66, 7), (67, 9), (68, 8), (72, 10), (70, 11), (90, 3)] 126), .int .i32 0, .int .i64 0] 30)).alloc (.map #[] 0)) ((wm.alloc (.cells #[.int .i64 (look [(65, 6), (66, 7), (67, 9), (68, 8), (72, 10), (70, 11), (90, 3)] 126), .int .i32 0, .int .i64 0] 30)).alloc (.map #[] 0)) ∧ wm.heap.size + 1 ≤ wm.heap.size + 1 := ⟨by have := MapIs.made (wm.alloc (.cells #[.int .i64 (look [(65, 6), (66, 7), (67, 9), (68, 8), (72, 10), (70, 11), (90, 3)] 126), .int .i32 0, .int .i64 0] 30)) .i64; simpa using this, Below.refl _ _, Nat.le_refl _⟩; have xX := al_cell (al_cell ((HM.out.2.1.cell (p := ⟨bA, 0, none⟩) (World.block_lt_of_cell? wr _ hx0)).trans hx0) (.cells #[.int .i64 (look [(65, 6), (66, 7), (67, 9), (68, 8), (72, 10), (70, 11), (90, 3)] 126), .int .i32 0, .int .i64 0] 30)) (.map #[] 0); have kX := blk_alloc (blk_new wm (.cells #[.int .i64 (look [(65, 6), (66, 7), (67, 9), (68, 8), (72, 10), (70, 11), (90, 3)] 126), .int .i32 0, .int .i64 0] 30)) (.map #[] 0); have XX := Aside0.mk xX; have KX := Aside0.mk kX; clear xX kX; have yX := al_cell (al_cell ((HM.out.2.1.cell (p := ⟨bA, 1, none⟩) (World.block_lt_of_cell? wr _ hx1)).trans hx1) (.cells #[.int .i64 (look [(65, 6), (66, 7), (67, 9), (68, 8), (72, 10), (70, 11), (90, 3)] 126), .int .i32 0, .int .i64 0] 30)) (.map #[] 0); have YX := Aside0.mk yX; clear yX) | (refine wpList_insert_lit _ rfl _ _ _ _ rfl 3 3 .i64 Tryd.underlying51 Tryd.underlying3 _ _ _ _ rfl hM2 _ _ rfl rfl (by decide) ?_; clear hM2; intro wn hM2; simp only [List.nil_append, List.cons_append] at hM2; (try clear x0); have x0 := (hM2.2.1.cell (p := ⟨bA, 0, none⟩) (by have : bA < wr.heap.size := World.block_lt_of_cell? wr _ hx0; have := HM.out.2.1.size; show bA < wm.heap.size + 1; omega)).trans XX.out) | (at_lookup; refine wpList_lookup_lit _ rfl _ _ _ rfl 3 3 .i64 Tryd.underlying51 Tryd.underlying3 zero3 _ _ _ _ rfl hM2 _ rfl ?_; have HM2 := Aside0.mk hM2; clear hM2; have hsm := HM.out.2.1.size; have KB := Aside0.mk ((HM2.out.2.1.block wm.heap.size (by omega)).trans KX.out); have BB := Aside0.mk ((HM2.out.2.1.block w.heap.size (by have h1_ := hsw.out; omega)).trans (blk_alloc (blk_alloc ((HM.out.2.1.block _ (by have h1_ := hsw.out; omega)).trans hRB.out) (.cells #[.int .i64 (look [(65, 6), (66, 7), (67, 9), (68, 8), (72, 10), (70, 11), (90, 3)] 126), .int .i32 0, .int .i64 0] 30)) (.map #[] 0))); have hWn := Aside0.mk ((below_alloc (below_alloc (hRW.out.trans (HM.out.2.1.mono (by have h1_ := hsw.out; omega))) (.cells #[.int .i64 (look [(65, 6), (66, 7), (67, 9), (68, 8), (72, 10), (70, 11), (90, 3)] 126), .int .i32 0, .int .i64 0] 30)) (.map #[] 0)).trans (HM2.out.2.1.mono (by have h1_ := hsw.out; omega))); have k0 : wn.cell? ⟨wm.heap.size, 0, none⟩ = some (.int .i64 (look [(65, 6), (66, 7), (67, 9), (68, 8), (72, 10), (70, 11), (90, 3)] 126)) := (blk_cell KB.out 0).trans rfl; have k1 : wn.cell? ⟨wm.heap.size, 1, none⟩ = some (.int .i32 0) := (blk_cell KB.out 1).trans rfl; have k2 : wn.cell? ⟨wm.heap.size, 2, none⟩ = some (.int .i64 0) := (blk_cell KB.out 2).trans rfl; have kf0 := blk_frozen KB.out 0; have kf1 := blk_frozen KB.out 1; have kf2 := blk_frozen KB.out 2; have z0 : wn.cell? ⟨w.heap.size, 0, none⟩ = some (.int .i64 0) := (blk_cell BB.out 0).trans rfl; have z1 : wn.cell? ⟨w.heap.size, 1, none⟩ = some (.int .i32 0) := (blk_cell BB.out 1).trans rfl; have z2 : wn.cell? ⟨w.heap.size, 2, none⟩ = some (.int .i64 0) := (blk_cell BB.out 2).trans rfl; have f0 := blk_frozen BB.out 0; have f1 := blk_frozen BB.out 1; have f2 := blk_frozen BB.out 2; have hne : ¬ w.heap.size = wm.heap.size := (by have h1_ := hsw.out; have h2_ := HM.out.2.1.size; omega); have hne' : ¬ wm.heap.size = w.heap.size := (by have h1_ := hsw.out; have h2_ := HM.out.2.1.size; omega); have x1 : wn.cell? ⟨bA, 1, none⟩ = some (.int .i64 n1) := (HM2.out.2.1.cell (p := ⟨bA, 1, none⟩) (by have h1_ : bA < wr.heap.size := World.block_lt_of_cell? wr _ hx1; have h2_ := HM.out.2.1.size; show bA < wm.heap.size + 1; omega)).trans YX.out; have hnd : ¬ bA = wm.heap.size := (by have h1_ : bA < wr.heap.size := World.block_lt_of_cell? wr _ hx1; have h2_ := HM.out.2.1.size; omega); have hnd' : ¬ wm.heap.size = bA := (by have h1_ : bA < wr.heap.size := World.block_lt_of_cell? wr _ hx1; have h2_ := HM.out.2.1.size; omega)))
              refine bodyPost_ret (results_cell_row rfl _ _ w.heap.size 30 #[.int .i64 (look [(1, 10), (7, 10), (3, 5), (4, 11), (8, 11)] n0), .int .i32 0, .int .i64 (0)] (0, 0) _ rfl (put3 (by (repeat (first | refine blk_far ?_ hne _ | refine blk_alloc ?_ _)); exact BB.out) _ _ _) Tryd.underlying30 rfl (by kernel_rfl)) rfl ?_
              have hv : toldV s 126 = (look [(1, 10), (7, 10), (3, 5), (4, 11), (8, 11)] n0, 0, 0) := by
                unfold toldV kind1L kind2L
                rw [if_neg (by rw [hok.out]; decide), if_pos rfl, ← rd_getD, show ((0 : Nat) : Int) = 0 from rfl, hn0'.out]
                rw [if_neg hk]; rw [hmo.out]
              obtain ⟨rfl, rfl, rfl⟩ := fin3 hR hv
              exact ⟨rfl, below3 (by (repeat (first | apply below_alloc | refine Below.setCell (p := ⟨wm.heap.size, _, none⟩) ?_ (by show w.heap.size ≤ wm.heap.size; have h1_ := hsw.out; have h2_ := HM.out.2.1.size; omega) _)); exact hWn.out) (Nat.le_refl _) _ _ _⟩
          · have hlb : decide ((1 : Int) < ((pieces s).length : Int)) = false := decide_eq_false (by omega)
            have hmo : Aside0 (modsOf (nums s) = 0) := ⟨by unfold modsOf; rw [if_neg (fun h => hl (by have := hnlen.out; have := h.1; omega))]⟩
            go_wp2_with (first | (refine wpList_insert_lit _ rfl _ _ _ _ rfl 5 3 .u8 Tryd.underlying50 Tryd.underlying5 _ _ _ _ rfl hM _ _ rfl rfl (by decide) ?_; clear hM; intro wm hM; simp only [List.nil_append, List.cons_append] at hM) | (at_lookup; refine wpList_lookup_lit _ rfl _ _ _ rfl 5 3 .u8 Tryd.underlying50 Tryd.underlying5 zero3 _ _ _ _ rfl hM _ rfl ?_; have HM := Aside0.mk hM; clear hM; have hM2 : MapIs ((wm.alloc (.cells #[.int .i64 (look [(65, 6), (66, 7), (67, 9), (68, 8), (72, 10), (70, 11), (90, 3)] 126), .int .i32 0, .int .i64 0] 30)).alloc (.map #[] 0)) (wm.heap.size + 1) .i64 [] ∧ Below (wm.heap.size + 1) ((wm.alloc (.cells #[.int .i64 (look [(65, 6), (66, 7), (67, 9), (68, 8), (72, 10), (70, 11), (90, 3)] 126), .int .i32 0, .int .i64 0] 30)).alloc (.map #[] 0)) ((wm.alloc (.cells #[.int .i64 (look [(65, 6), (66, 7), (67, 9), (68, 8), (72, 10), (70, 11), (90, 3)] 126), .int .i32 0, .int .i64 0] 30)).alloc (.map #[] 0)) ∧ wm.heap.size + 1 ≤ wm.heap.size + 1 := ⟨by have := MapIs.made (wm.alloc (.cells #[.int .i64 (look [(65, 6), (66, 7), (67, 9), (68, 8), (72, 10), (70, 11), (90, 3)] 126), .int .i32 0, .int .i64 0] 30)) .i64; simpa using this, Below.refl _ _, Nat.le_refl _⟩; have xX := al_cell (al_cell ((HM.out.2.1.cell (p := ⟨bA, 0, none⟩) (World.block_lt_of_cell? wr _ hx0)).trans hx0) (.cells #[.int .i64 (look [(65, 6), (66, 7), (67, 9), (68, 8), (72, 10), (70, 11), (90, 3)] 126), .int .i32 0, .int .i64 0] 30)) (.map #[] 0); have kX := blk_alloc (blk_new wm (.cells #[.int .i64 (look [(65, 6), (66, 7), (67, 9), (68, 8), (72, 10), (70, 11), (90, 3)] 126), .int .i32 0, .int .i64 0] 30)) (.map #[] 0); have XX := Aside0.mk xX; have KX := Aside0.mk kX; clear xX kX) | (refine wpList_insert_lit _ rfl _ _ _ _ rfl 3 3 .i64 Tryd.underlying51 Tryd.underlying3 _ _ _ _ rfl hM2 _ _ rfl rfl (by decide) ?_; clear hM2; intro wn hM2; simp only [List.nil_append, List.cons_append] at hM2; (try clear x0); have x0 := (hM2.2.1.cell (p := ⟨bA, 0, none⟩) (by have : bA < wr.heap.size := World.block_lt_of_cell? wr _ hx0; have := HM.out.2.1.size; show bA < wm.heap.size + 1; omega)).trans XX.out) | (at_lookup; refine wpList_lookup_lit _ rfl _ _ _ rfl 3 3 .i64 Tryd.underlying51 Tryd.underlying3 zero3 _ _ _ _ rfl hM2 _ rfl ?_; have HM2 := Aside0.mk hM2; clear hM2; have hsm := HM.out.2.1.size; have KB := Aside0.mk ((HM2.out.2.1.block wm.heap.size (by omega)).trans KX.out); have BB := Aside0.mk ((HM2.out.2.1.block w.heap.size (by have h1_ := hsw.out; omega)).trans (blk_alloc (blk_alloc ((HM.out.2.1.block _ (by have h1_ := hsw.out; omega)).trans hRB.out) (.cells #[.int .i64 (look [(65, 6), (66, 7), (67, 9), (68, 8), (72, 10), (70, 11), (90, 3)] 126), .int .i32 0, .int .i64 0] 30)) (.map #[] 0))); have hWn := Aside0.mk ((below_alloc (below_alloc (hRW.out.trans (HM.out.2.1.mono (by have h1_ := hsw.out; omega))) (.cells #[.int .i64 (look [(65, 6), (66, 7), (67, 9), (68, 8), (72, 10), (70, 11), (90, 3)] 126), .int .i32 0, .int .i64 0] 30)) (.map #[] 0)).trans (HM2.out.2.1.mono (by have h1_ := hsw.out; omega))); have k0 : wn.cell? ⟨wm.heap.size, 0, none⟩ = some (.int .i64 (look [(65, 6), (66, 7), (67, 9), (68, 8), (72, 10), (70, 11), (90, 3)] 126)) := (blk_cell KB.out 0).trans rfl; have k1 : wn.cell? ⟨wm.heap.size, 1, none⟩ = some (.int .i32 0) := (blk_cell KB.out 1).trans rfl; have k2 : wn.cell? ⟨wm.heap.size, 2, none⟩ = some (.int .i64 0) := (blk_cell KB.out 2).trans rfl; have kf0 := blk_frozen KB.out 0; have kf1 := blk_frozen KB.out 1; have kf2 := blk_frozen KB.out 2; have z0 : wn.cell? ⟨w.heap.size, 0, none⟩ = some (.int .i64 0) := (blk_cell BB.out 0).trans rfl; have z1 : wn.cell? ⟨w.heap.size, 1, none⟩ = some (.int .i32 0) := (blk_cell BB.out 1).trans rfl; have z2 : wn.cell? ⟨w.heap.size, 2, none⟩ = some (.int .i64 0) := (blk_cell BB.out 2).trans rfl; have f0 := blk_frozen BB.out 0; have f1 := blk_frozen BB.out 1; have f2 := blk_frozen BB.out 2; have hne : ¬ w.heap.size = wm.heap.size := (by have h1_ := hsw.out; have h2_ := HM.out.2.1.size; omega); have hne' : ¬ wm.heap.size = w.heap.size := (by have h1_ := hsw.out; have h2_ := HM.out.2.1.size; omega)))
            refine bodyPost_ret (results_cell_row rfl _ _ w.heap.size 30 #[.int .i64 (look [(1, 10), (7, 10), (3, 5), (4, 11), (8, 11)] n0), .int .i32 0, .int .i64 (0)] (0, 0) _ rfl (put3 (by (repeat (first | refine blk_far ?_ hne _ | refine blk_alloc ?_ _)); exact BB.out) _ _ _) Tryd.underlying30 rfl (by kernel_rfl)) rfl ?_
            have hv : toldV s 126 = (look [(1, 10), (7, 10), (3, 5), (4, 11), (8, 11)] n0, 0, 0) := by
              unfold toldV kind1L kind2L
              rw [if_neg (by rw [hok.out]; decide), if_pos rfl, ← rd_getD, show ((0 : Nat) : Int) = 0 from rfl, hn0'.out]
              rw [if_neg hk]; rw [hmo.out]
            obtain ⟨rfl, rfl, rfl⟩ := fin3 hR hv
            exact ⟨rfl, below3 (by (repeat (first | apply below_alloc | refine Below.setCell (p := ⟨wm.heap.size, _, none⟩) ?_ (by show w.heap.size ≤ wm.heap.size; have h1_ := hsw.out; have h2_ := HM.out.2.1.size; omega) _)); exact hWn.out) (Nat.le_refl _) _ _ _⟩
      · have h126b : (c == 126) = false := beq_eq_false_iff_ne.2 h126
        by_cases h90 : c = 90
        · subst h90
          by_cases hl : 1 < (pieces s).length
          · have hx1 := hx1'.out hl
            have hlb : decide ((1 : Int) < ((pieces s).length : Int)) = true := decide_eq_true (by omega)
            by_cases h2 : 2 ≤ n1
            · have h2b : decide (2 ≤ n1) = true := decide_eq_true h2
              by_cases h8 : n1 ≤ 8
              · have h8b : decide (n1 ≤ 8) = true := decide_eq_true h8
                have hmo : Aside0 (modsOf (nums s) = n1 - 1) := ⟨by unfold modsOf; rw [← hn1'.out, if_pos ⟨by have := hnlen.out; omega, h2, h8⟩]⟩
                have hw1 : wrap64 (n1 - 1) = n1 - 1 := wrap_of _ (by omega)
                go_wp2_with (first | (refine wpList_insert_lit _ rfl _ _ _ _ rfl 5 3 .u8 Tryd.underlying50 Tryd.underlying5 _ _ _ _ rfl hM _ _ rfl rfl (by decide) ?_; clear hM; intro wm hM; simp only [List.nil_append, List.cons_append] at hM) | (at_lookup; refine wpList_lookup_lit _ rfl _ _ _ rfl 5 3 .u8 Tryd.underlying50 Tryd.underlying5 zero3 _ _ _ _ rfl hM _ rfl ?_; have HM := Aside0.mk hM; clear hM; have hsm := HM.out.2.1.size; have BB := Aside0.mk ((HM.out.2.1.block w.heap.size (by have h1_ := hsw.out; omega)).trans hRB.out); have hWn := Aside0.mk (hRW.out.trans (HM.out.2.1.mono (by have h1_ := hsw.out; omega))); have hBA : ∀ o, (wm.alloc o).heap[w.heap.size]? = some (.cells #[.int .i64 0, .int .i32 0, .int .i64 0] 30 (0, 0)) := fun o => blk_alloc BB.out o; have HBA := Aside0.mk hBA; clear hBA; have z0 : ∀ o, (wm.alloc o).cell? ⟨w.heap.size, 0, none⟩ = some (.int .i64 0) := fun o => (blk_cell (HBA.out o) 0).trans rfl; have z1 : ∀ o, (wm.alloc o).cell? ⟨w.heap.size, 1, none⟩ = some (.int .i32 0) := fun o => (blk_cell (HBA.out o) 1).trans rfl; have z2 : ∀ o, (wm.alloc o).cell? ⟨w.heap.size, 2, none⟩ = some (.int .i64 0) := fun o => (blk_cell (HBA.out o) 2).trans rfl; have f0 : ∀ o, (wm.alloc o).frozen? ⟨w.heap.size, 0, none⟩ = false := fun o => blk_frozen (HBA.out o) 0; have f1 : ∀ o, (wm.alloc o).frozen? ⟨w.heap.size, 1, none⟩ = false := fun o => blk_frozen (HBA.out o) 1; have f2 : ∀ o, (wm.alloc o).frozen? ⟨w.heap.size, 2, none⟩ = false := fun o => blk_frozen (HBA.out o) 2; have hne : ¬ w.heap.size = wm.heap.size := (by have h1_ := hsw.out; have h2_ := HM.out.2.1.size; omega); have hne' : ¬ wm.heap.size = w.heap.size := (by have h1_ := hsw.out; have h2_ := HM.out.2.1.size; omega); have x1 : ∀ o, (wm.alloc o).cell? ⟨bA, 1, none⟩ = some (.int .i64 n1) := fun o => al_cell ((HM.out.2.1.cell (p := ⟨bA, 1, none⟩) (World.block_lt_of_cell? wr _ hx1)).trans hx1) o))
                refine bodyPost_ret (results_cell_row rfl _ _ w.heap.size 30 #[.int .i64 (3), .int .i32 0, .int .i64 (bits .or .i64 (n1 - 1) 1)] (0, 0) _ rfl (put3 (by (repeat (first | refine blk_far ?_ hne _ | refine blk_alloc ?_ _)); exact BB.out) _ _ _) Tryd.underlying30 rfl (by kernel_rfl)) rfl ?_
                have hv : toldV s 90 = (3, 0, bits .or .i64 (n1 - 1) 1) := by
                  unfold toldV kind1L kind2L
                  rw [if_neg (by rw [hok.out]; decide), if_neg (by first | decide | exact h126)]
                  rw [if_neg (by decide), if_pos rfl, hmo.out]; rfl
                obtain ⟨rfl, rfl, rfl⟩ := fin3 hR hv
                exact ⟨rfl, below3 (by (repeat (first | apply below_alloc | refine Below.setCell (p := ⟨wm.heap.size, _, none⟩) ?_ (by show w.heap.size ≤ wm.heap.size; have h1_ := hsw.out; have h2_ := HM.out.2.1.size; omega) _)); exact hWn.out) (Nat.le_refl _) _ _ _⟩
              · have h8b : decide (n1 ≤ 8) = false := decide_eq_false h8
                have hmo : Aside0 (modsOf (nums s) = 0) := ⟨by unfold modsOf; rw [← hn1'.out, if_neg (fun h => h8 h.2.2)]⟩
                go_wp2_with (first | (refine wpList_insert_lit _ rfl _ _ _ _ rfl 5 3 .u8 Tryd.underlying50 Tryd.underlying5 _ _ _ _ rfl hM _ _ rfl rfl (by decide) ?_; clear hM; intro wm hM; simp only [List.nil_append, List.cons_append] at hM) | (at_lookup; refine wpList_lookup_lit _ rfl _ _ _ rfl 5 3 .u8 Tryd.underlying50 Tryd.underlying5 zero3 _ _ _ _ rfl hM _ rfl ?_; have HM := Aside0.mk hM; clear hM; have hsm := HM.out.2.1.size; have BB := Aside0.mk ((HM.out.2.1.block w.heap.size (by have h1_ := hsw.out; omega)).trans hRB.out); have hWn := Aside0.mk (hRW.out.trans (HM.out.2.1.mono (by have h1_ := hsw.out; omega))); have hBA : ∀ o, (wm.alloc o).heap[w.heap.size]? = some (.cells #[.int .i64 0, .int .i32 0, .int .i64 0] 30 (0, 0)) := fun o => blk_alloc BB.out o; have HBA := Aside0.mk hBA; clear hBA; have z0 : ∀ o, (wm.alloc o).cell? ⟨w.heap.size, 0, none⟩ = some (.int .i64 0) := fun o => (blk_cell (HBA.out o) 0).trans rfl; have z1 : ∀ o, (wm.alloc o).cell? ⟨w.heap.size, 1, none⟩ = some (.int .i32 0) := fun o => (blk_cell (HBA.out o) 1).trans rfl; have z2 : ∀ o, (wm.alloc o).cell? ⟨w.heap.size, 2, none⟩ = some (.int .i64 0) := fun o => (blk_cell (HBA.out o) 2).trans rfl; have f0 : ∀ o, (wm.alloc o).frozen? ⟨w.heap.size, 0, none⟩ = false := fun o => blk_frozen (HBA.out o) 0; have f1 : ∀ o, (wm.alloc o).frozen? ⟨w.heap.size, 1, none⟩ = false := fun o => blk_frozen (HBA.out o) 1; have f2 : ∀ o, (wm.alloc o).frozen? ⟨w.heap.size, 2, none⟩ = false := fun o => blk_frozen (HBA.out o) 2; have hne : ¬ w.heap.size = wm.heap.size := (by have h1_ := hsw.out; have h2_ := HM.out.2.1.size; omega); have hne' : ¬ wm.heap.size = w.heap.size := (by have h1_ := hsw.out; have h2_ := HM.out.2.1.size; omega); have x1 : ∀ o, (wm.alloc o).cell? ⟨bA, 1, none⟩ = some (.int .i64 n1) := fun o => al_cell ((HM.out.2.1.cell (p := ⟨bA, 1, none⟩) (World.block_lt_of_cell? wr _ hx1)).trans hx1) o))
                refine bodyPost_ret (results_cell_row rfl _ _ w.heap.size 30 #[.int .i64 (3), .int .i32 0, .int .i64 (bits .or .i64 (0) 1)] (0, 0) _ rfl (put3 (by (repeat (first | refine blk_far ?_ hne _ | refine blk_alloc ?_ _)); exact BB.out) _ _ _) Tryd.underlying30 rfl (by kernel_rfl)) rfl ?_
                have hv : toldV s 90 = (3, 0, bits .or .i64 (0) 1) := by
                  unfold toldV kind1L kind2L
                  rw [if_neg (by rw [hok.out]; decide), if_neg (by first | decide | exact h126)]
                  rw [if_neg (by decide), if_pos rfl, hmo.out]; rfl
                obtain ⟨rfl, rfl, rfl⟩ := fin3 hR hv
                exact ⟨rfl, below3 (by (repeat (first | apply below_alloc | refine Below.setCell (p := ⟨wm.heap.size, _, none⟩) ?_ (by show w.heap.size ≤ wm.heap.size; have h1_ := hsw.out; have h2_ := HM.out.2.1.size; omega) _)); exact hWn.out) (Nat.le_refl _) _ _ _⟩
            · have h2b : decide (2 ≤ n1) = false := decide_eq_false h2
              have hmo : Aside0 (modsOf (nums s) = 0) := ⟨by unfold modsOf; rw [← hn1'.out, if_neg (fun h => h2 h.2.1)]⟩
              go_wp2_with (first | (refine wpList_insert_lit _ rfl _ _ _ _ rfl 5 3 .u8 Tryd.underlying50 Tryd.underlying5 _ _ _ _ rfl hM _ _ rfl rfl (by decide) ?_; clear hM; intro wm hM; simp only [List.nil_append, List.cons_append] at hM) | (at_lookup; refine wpList_lookup_lit _ rfl _ _ _ rfl 5 3 .u8 Tryd.underlying50 Tryd.underlying5 zero3 _ _ _ _ rfl hM _ rfl ?_; have HM := Aside0.mk hM; clear hM; have hsm := HM.out.2.1.size; have BB := Aside0.mk ((HM.out.2.1.block w.heap.size (by have h1_ := hsw.out; omega)).trans hRB.out); have hWn := Aside0.mk (hRW.out.trans (HM.out.2.1.mono (by have h1_ := hsw.out; omega))); have hBA : ∀ o, (wm.alloc o).heap[w.heap.size]? = some (.cells #[.int .i64 0, .int .i32 0, .int .i64 0] 30 (0, 0)) := fun o => blk_alloc BB.out o; have HBA := Aside0.mk hBA; clear hBA; have z0 : ∀ o, (wm.alloc o).cell? ⟨w.heap.size, 0, none⟩ = some (.int .i64 0) := fun o => (blk_cell (HBA.out o) 0).trans rfl; have z1 : ∀ o, (wm.alloc o).cell? ⟨w.heap.size, 1, none⟩ = some (.int .i32 0) := fun o => (blk_cell (HBA.out o) 1).trans rfl; have z2 : ∀ o, (wm.alloc o).cell? ⟨w.heap.size, 2, none⟩ = some (.int .i64 0) := fun o => (blk_cell (HBA.out o) 2).trans rfl; have f0 : ∀ o, (wm.alloc o).frozen? ⟨w.heap.size, 0, none⟩ = false := fun o => blk_frozen (HBA.out o) 0; have f1 : ∀ o, (wm.alloc o).frozen? ⟨w.heap.size, 1, none⟩ = false := fun o => blk_frozen (HBA.out o) 1; have f2 : ∀ o, (wm.alloc o).frozen? ⟨w.heap.size, 2, none⟩ = false := fun o => blk_frozen (HBA.out o) 2; have hne : ¬ w.heap.size = wm.heap.size := (by have h1_ := hsw.out; have h2_ := HM.out.2.1.size; omega); have hne' : ¬ wm.heap.size = w.heap.size := (by have h1_ := hsw.out; have h2_ := HM.out.2.1.size; omega); have x1 : ∀ o, (wm.alloc o).cell? ⟨bA, 1, none⟩ = some (.int .i64 n1) := fun o => al_cell ((HM.out.2.1.cell (p := ⟨bA, 1, none⟩) (World.block_lt_of_cell? wr _ hx1)).trans hx1) o))
              refine bodyPost_ret (results_cell_row rfl _ _ w.heap.size 30 #[.int .i64 (3), .int .i32 0, .int .i64 (bits .or .i64 (0) 1)] (0, 0) _ rfl (put3 (by (repeat (first | refine blk_far ?_ hne _ | refine blk_alloc ?_ _)); exact BB.out) _ _ _) Tryd.underlying30 rfl (by kernel_rfl)) rfl ?_
              have hv : toldV s 90 = (3, 0, bits .or .i64 (0) 1) := by
                unfold toldV kind1L kind2L
                rw [if_neg (by rw [hok.out]; decide), if_neg (by first | decide | exact h126)]
                rw [if_neg (by decide), if_pos rfl, hmo.out]; rfl
              obtain ⟨rfl, rfl, rfl⟩ := fin3 hR hv
              exact ⟨rfl, below3 (by (repeat (first | apply below_alloc | refine Below.setCell (p := ⟨wm.heap.size, _, none⟩) ?_ (by show w.heap.size ≤ wm.heap.size; have h1_ := hsw.out; have h2_ := HM.out.2.1.size; omega) _)); exact hWn.out) (Nat.le_refl _) _ _ _⟩
          · have hlb : decide ((1 : Int) < ((pieces s).length : Int)) = false := decide_eq_false (by omega)
            have hmo : Aside0 (modsOf (nums s) = 0) := ⟨by unfold modsOf; rw [if_neg (fun h => hl (by have := hnlen.out; have := h.1; omega))]⟩
            go_wp2_with (first | (refine wpList_insert_lit _ rfl _ _ _ _ rfl 5 3 .u8 Tryd.underlying50 Tryd.underlying5 _ _ _ _ rfl hM _ _ rfl rfl (by decide) ?_; clear hM; intro wm hM; simp only [List.nil_append, List.cons_append] at hM) | (at_lookup; refine wpList_lookup_lit _ rfl _ _ _ rfl 5 3 .u8 Tryd.underlying50 Tryd.underlying5 zero3 _ _ _ _ rfl hM _ rfl ?_; have HM := Aside0.mk hM; clear hM; have hsm := HM.out.2.1.size; have BB := Aside0.mk ((HM.out.2.1.block w.heap.size (by have h1_ := hsw.out; omega)).trans hRB.out); have hWn := Aside0.mk (hRW.out.trans (HM.out.2.1.mono (by have h1_ := hsw.out; omega))); have hBA : ∀ o, (wm.alloc o).heap[w.heap.size]? = some (.cells #[.int .i64 0, .int .i32 0, .int .i64 0] 30 (0, 0)) := fun o => blk_alloc BB.out o; have HBA := Aside0.mk hBA; clear hBA; have z0 : ∀ o, (wm.alloc o).cell? ⟨w.heap.size, 0, none⟩ = some (.int .i64 0) := fun o => (blk_cell (HBA.out o) 0).trans rfl; have z1 : ∀ o, (wm.alloc o).cell? ⟨w.heap.size, 1, none⟩ = some (.int .i32 0) := fun o => (blk_cell (HBA.out o) 1).trans rfl; have z2 : ∀ o, (wm.alloc o).cell? ⟨w.heap.size, 2, none⟩ = some (.int .i64 0) := fun o => (blk_cell (HBA.out o) 2).trans rfl; have f0 : ∀ o, (wm.alloc o).frozen? ⟨w.heap.size, 0, none⟩ = false := fun o => blk_frozen (HBA.out o) 0; have f1 : ∀ o, (wm.alloc o).frozen? ⟨w.heap.size, 1, none⟩ = false := fun o => blk_frozen (HBA.out o) 1; have f2 : ∀ o, (wm.alloc o).frozen? ⟨w.heap.size, 2, none⟩ = false := fun o => blk_frozen (HBA.out o) 2; have hne : ¬ w.heap.size = wm.heap.size := (by have h1_ := hsw.out; have h2_ := HM.out.2.1.size; omega); have hne' : ¬ wm.heap.size = w.heap.size := (by have h1_ := hsw.out; have h2_ := HM.out.2.1.size; omega)))
            refine bodyPost_ret (results_cell_row rfl _ _ w.heap.size 30 #[.int .i64 (3), .int .i32 0, .int .i64 (bits .or .i64 (0) 1)] (0, 0) _ rfl (put3 (by (repeat (first | refine blk_far ?_ hne _ | refine blk_alloc ?_ _)); exact BB.out) _ _ _) Tryd.underlying30 rfl (by kernel_rfl)) rfl ?_
            have hv : toldV s 90 = (3, 0, bits .or .i64 (0) 1) := by
              unfold toldV kind1L kind2L
              rw [if_neg (by rw [hok.out]; decide), if_neg (by first | decide | exact h126)]
              rw [if_neg (by decide), if_pos rfl, hmo.out]; rfl
            obtain ⟨rfl, rfl, rfl⟩ := fin3 hR hv
            exact ⟨rfl, below3 (by (repeat (first | apply below_alloc | refine Below.setCell (p := ⟨wm.heap.size, _, none⟩) ?_ (by show w.heap.size ≤ wm.heap.size; have h1_ := hsw.out; have h2_ := HM.out.2.1.size; omega) _)); exact hWn.out) (Nat.le_refl _) _ _ _⟩
        · have h90b : (c == 90) = false := beq_eq_false_iff_ne.2 h90
          by_cases hk : look [(65, 6), (66, 7), (67, 9), (68, 8), (72, 10), (70, 11), (90, 3)] c = 0
          · have hmo : Aside0 True := ⟨trivial⟩
            go_wp2_with (first | (refine wpList_insert_lit _ rfl _ _ _ _ rfl 5 3 .u8 Tryd.underlying50 Tryd.underlying5 _ _ _ _ rfl hM _ _ rfl rfl (by decide) ?_; clear hM; intro wm hM; simp only [List.nil_append, List.cons_append] at hM) | (at_lookup; refine wpList_lookup_lit _ rfl _ _ _ rfl 5 3 .u8 Tryd.underlying50 Tryd.underlying5 zero3 _ _ _ _ rfl hM _ rfl ?_; have HM := Aside0.mk hM; clear hM; have hsm := HM.out.2.1.size; have BB := Aside0.mk ((HM.out.2.1.block w.heap.size (by have h1_ := hsw.out; omega)).trans hRB.out); have hWn := Aside0.mk (hRW.out.trans (HM.out.2.1.mono (by have h1_ := hsw.out; omega))); have hBA : ∀ o, (wm.alloc o).heap[w.heap.size]? = some (.cells #[.int .i64 0, .int .i32 0, .int .i64 0] 30 (0, 0)) := fun o => blk_alloc BB.out o; have HBA := Aside0.mk hBA; clear hBA; have z0 : ∀ o, (wm.alloc o).cell? ⟨w.heap.size, 0, none⟩ = some (.int .i64 0) := fun o => (blk_cell (HBA.out o) 0).trans rfl; have z1 : ∀ o, (wm.alloc o).cell? ⟨w.heap.size, 1, none⟩ = some (.int .i32 0) := fun o => (blk_cell (HBA.out o) 1).trans rfl; have z2 : ∀ o, (wm.alloc o).cell? ⟨w.heap.size, 2, none⟩ = some (.int .i64 0) := fun o => (blk_cell (HBA.out o) 2).trans rfl; have f0 : ∀ o, (wm.alloc o).frozen? ⟨w.heap.size, 0, none⟩ = false := fun o => blk_frozen (HBA.out o) 0; have f1 : ∀ o, (wm.alloc o).frozen? ⟨w.heap.size, 1, none⟩ = false := fun o => blk_frozen (HBA.out o) 1; have f2 : ∀ o, (wm.alloc o).frozen? ⟨w.heap.size, 2, none⟩ = false := fun o => blk_frozen (HBA.out o) 2; have hne : ¬ w.heap.size = wm.heap.size := (by have h1_ := hsw.out; have h2_ := HM.out.2.1.size; omega); have hne' : ¬ wm.heap.size = w.heap.size := (by have h1_ := hsw.out; have h2_ := HM.out.2.1.size; omega)))
            refine bodyPost_ret (results_cell_row rfl _ _ w.heap.size 30 #[.int .i64 (0), .int .i32 0, .int .i64 (0)] (0, 0) _ rfl (put3 (by (repeat (first | refine blk_far ?_ hne _ | refine blk_alloc ?_ _)); exact BB.out) _ _ _) Tryd.underlying30 rfl (by kernel_rfl)) rfl ?_
            have hv : toldV s c = (0, 0, 0) := by
              unfold toldV kind1L kind2L
              rw [if_neg (by rw [hok.out]; decide), if_neg (by first | decide | exact h126)]
              rw [if_pos hk]
            obtain ⟨rfl, rfl, rfl⟩ := fin3 hR hv
            exact ⟨rfl, below3 (by (repeat (first | apply below_alloc | refine Below.setCell (p := ⟨wm.heap.size, _, none⟩) ?_ (by show w.heap.size ≤ wm.heap.size; have h1_ := hsw.out; have h2_ := HM.out.2.1.size; omega) _)); exact hWn.out) (Nat.le_refl _) _ _ _⟩
          · have hkb : (look [(65, 6), (66, 7), (67, 9), (68, 8), (72, 10), (70, 11), (90, 3)] c == 0) = false := beq_eq_false_iff_ne.2 hk
            by_cases hl : 1 < (pieces s).length
            · have hx1 := hx1'.out hl
              have hlb : decide ((1 : Int) < ((pieces s).length : Int)) = true := decide_eq_true (by omega)
              by_cases h2 : 2 ≤ n1
              · have h2b : decide (2 ≤ n1) = true := decide_eq_true h2
                by_cases h8 : n1 ≤ 8
                · have h8b : decide (n1 ≤ 8) = true := decide_eq_true h8
                  have hmo : Aside0 (modsOf (nums s) = n1 - 1) := ⟨by unfold modsOf; rw [← hn1'.out, if_pos ⟨by have := hnlen.out; omega, h2, h8⟩]⟩
                  have hw1 : wrap64 (n1 - 1) = n1 - 1 := wrap_of _ (by omega)
                  go_wp2_with (first | (refine wpList_insert_lit _ rfl _ _ _ _ rfl 5 3 .u8 Tryd.underlying50 Tryd.underlying5 _ _ _ _ rfl hM _ _ rfl rfl (by decide) ?_; clear hM; intro wm hM; simp only [List.nil_append, List.cons_append] at hM) | (at_lookup; refine wpList_lookup_lit _ rfl _ _ _ rfl 5 3 .u8 Tryd.underlying50 Tryd.underlying5 zero3 _ _ _ _ rfl hM _ rfl ?_; have HM := Aside0.mk hM; clear hM; have hsm := HM.out.2.1.size; have BB := Aside0.mk ((HM.out.2.1.block w.heap.size (by have h1_ := hsw.out; omega)).trans hRB.out); have hWn := Aside0.mk (hRW.out.trans (HM.out.2.1.mono (by have h1_ := hsw.out; omega))); have hBA : ∀ o, (wm.alloc o).heap[w.heap.size]? = some (.cells #[.int .i64 0, .int .i32 0, .int .i64 0] 30 (0, 0)) := fun o => blk_alloc BB.out o; have HBA := Aside0.mk hBA; clear hBA; have z0 : ∀ o, (wm.alloc o).cell? ⟨w.heap.size, 0, none⟩ = some (.int .i64 0) := fun o => (blk_cell (HBA.out o) 0).trans rfl; have z1 : ∀ o, (wm.alloc o).cell? ⟨w.heap.size, 1, none⟩ = some (.int .i32 0) := fun o => (blk_cell (HBA.out o) 1).trans rfl; have z2 : ∀ o, (wm.alloc o).cell? ⟨w.heap.size, 2, none⟩ = some (.int .i64 0) := fun o => (blk_cell (HBA.out o) 2).trans rfl; have f0 : ∀ o, (wm.alloc o).frozen? ⟨w.heap.size, 0, none⟩ = false := fun o => blk_frozen (HBA.out o) 0; have f1 : ∀ o, (wm.alloc o).frozen? ⟨w.heap.size, 1, none⟩ = false := fun o => blk_frozen (HBA.out o) 1; have f2 : ∀ o, (wm.alloc o).frozen? ⟨w.heap.size, 2, none⟩ = false := fun o => blk_frozen (HBA.out o) 2; have hne : ¬ w.heap.size = wm.heap.size := (by have h1_ := hsw.out; have h2_ := HM.out.2.1.size; omega); have hne' : ¬ wm.heap.size = w.heap.size := (by have h1_ := hsw.out; have h2_ := HM.out.2.1.size; omega); have x1 : ∀ o, (wm.alloc o).cell? ⟨bA, 1, none⟩ = some (.int .i64 n1) := fun o => al_cell ((HM.out.2.1.cell (p := ⟨bA, 1, none⟩) (World.block_lt_of_cell? wr _ hx1)).trans hx1) o))
                  refine bodyPost_ret (results_cell_row rfl _ _ w.heap.size 30 #[.int .i64 (look [(65, 6), (66, 7), (67, 9), (68, 8), (72, 10), (70, 11), (90, 3)] c), .int .i32 0, .int .i64 (n1 - 1)] (0, 0) _ rfl (put3 (by (repeat (first | refine blk_far ?_ hne _ | refine blk_alloc ?_ _)); exact BB.out) _ _ _) Tryd.underlying30 rfl (by kernel_rfl)) rfl ?_
                  have hv : toldV s c = (look [(65, 6), (66, 7), (67, 9), (68, 8), (72, 10), (70, 11), (90, 3)] c, 0, n1 - 1) := by
                    unfold toldV kind1L kind2L
                    rw [if_neg (by rw [hok.out]; decide), if_neg (by first | decide | exact h126)]
                    rw [if_neg hk]; rw [if_neg h90, hmo.out]
                  obtain ⟨rfl, rfl, rfl⟩ := fin3 hR hv
                  exact ⟨rfl, below3 (by (repeat (first | apply below_alloc | refine Below.setCell (p := ⟨wm.heap.size, _, none⟩) ?_ (by show w.heap.size ≤ wm.heap.size; have h1_ := hsw.out; have h2_ := HM.out.2.1.size; omega) _)); exact hWn.out) (Nat.le_refl _) _ _ _⟩
                · have h8b : decide (n1 ≤ 8) = false := decide_eq_false h8
                  have hmo : Aside0 (modsOf (nums s) = 0) := ⟨by unfold modsOf; rw [← hn1'.out, if_neg (fun h => h8 h.2.2)]⟩
                  go_wp2_with (first | (refine wpList_insert_lit _ rfl _ _ _ _ rfl 5 3 .u8 Tryd.underlying50 Tryd.underlying5 _ _ _ _ rfl hM _ _ rfl rfl (by decide) ?_; clear hM; intro wm hM; simp only [List.nil_append, List.cons_append] at hM) | (at_lookup; refine wpList_lookup_lit _ rfl _ _ _ rfl 5 3 .u8 Tryd.underlying50 Tryd.underlying5 zero3 _ _ _ _ rfl hM _ rfl ?_; have HM := Aside0.mk hM; clear hM; have hsm := HM.out.2.1.size; have BB := Aside0.mk ((HM.out.2.1.block w.heap.size (by have h1_ := hsw.out; omega)).trans hRB.out); have hWn := Aside0.mk (hRW.out.trans (HM.out.2.1.mono (by have h1_ := hsw.out; omega))); have hBA : ∀ o, (wm.alloc o).heap[w.heap.size]? = some (.cells #[.int .i64 0, .int .i32 0, .int .i64 0] 30 (0, 0)) := fun o => blk_alloc BB.out o; have HBA := Aside0.mk hBA; clear hBA; have z0 : ∀ o, (wm.alloc o).cell? ⟨w.heap.size, 0, none⟩ = some (.int .i64 0) := fun o => (blk_cell (HBA.out o) 0).trans rfl; have z1 : ∀ o, (wm.alloc o).cell? ⟨w.heap.size, 1, none⟩ = some (.int .i32 0) := fun o => (blk_cell (HBA.out o) 1).trans rfl; have z2 : ∀ o, (wm.alloc o).cell? ⟨w.heap.size, 2, none⟩ = some (.int .i64 0) := fun o => (blk_cell (HBA.out o) 2).trans rfl; have f0 : ∀ o, (wm.alloc o).frozen? ⟨w.heap.size, 0, none⟩ = false := fun o => blk_frozen (HBA.out o) 0; have f1 : ∀ o, (wm.alloc o).frozen? ⟨w.heap.size, 1, none⟩ = false := fun o => blk_frozen (HBA.out o) 1; have f2 : ∀ o, (wm.alloc o).frozen? ⟨w.heap.size, 2, none⟩ = false := fun o => blk_frozen (HBA.out o) 2; have hne : ¬ w.heap.size = wm.heap.size := (by have h1_ := hsw.out; have h2_ := HM.out.2.1.size; omega); have hne' : ¬ wm.heap.size = w.heap.size := (by have h1_ := hsw.out; have h2_ := HM.out.2.1.size; omega); have x1 : ∀ o, (wm.alloc o).cell? ⟨bA, 1, none⟩ = some (.int .i64 n1) := fun o => al_cell ((HM.out.2.1.cell (p := ⟨bA, 1, none⟩) (World.block_lt_of_cell? wr _ hx1)).trans hx1) o))
                  refine bodyPost_ret (results_cell_row rfl _ _ w.heap.size 30 #[.int .i64 (look [(65, 6), (66, 7), (67, 9), (68, 8), (72, 10), (70, 11), (90, 3)] c), .int .i32 0, .int .i64 (0)] (0, 0) _ rfl (put3 (by (repeat (first | refine blk_far ?_ hne _ | refine blk_alloc ?_ _)); exact BB.out) _ _ _) Tryd.underlying30 rfl (by kernel_rfl)) rfl ?_
                  have hv : toldV s c = (look [(65, 6), (66, 7), (67, 9), (68, 8), (72, 10), (70, 11), (90, 3)] c, 0, 0) := by
                    unfold toldV kind1L kind2L
                    rw [if_neg (by rw [hok.out]; decide), if_neg (by first | decide | exact h126)]
                    rw [if_neg hk]; rw [if_neg h90, hmo.out]
                  obtain ⟨rfl, rfl, rfl⟩ := fin3 hR hv
                  exact ⟨rfl, below3 (by (repeat (first | apply below_alloc | refine Below.setCell (p := ⟨wm.heap.size, _, none⟩) ?_ (by show w.heap.size ≤ wm.heap.size; have h1_ := hsw.out; have h2_ := HM.out.2.1.size; omega) _)); exact hWn.out) (Nat.le_refl _) _ _ _⟩
              · have h2b : decide (2 ≤ n1) = false := decide_eq_false h2
                have hmo : Aside0 (modsOf (nums s) = 0) := ⟨by unfold modsOf; rw [← hn1'.out, if_neg (fun h => h2 h.2.1)]⟩
                go_wp2_with (first | (refine wpList_insert_lit _ rfl _ _ _ _ rfl 5 3 .u8 Tryd.underlying50 Tryd.underlying5 _ _ _ _ rfl hM _ _ rfl rfl (by decide) ?_; clear hM; intro wm hM; simp only [List.nil_append, List.cons_append] at hM) | (at_lookup; refine wpList_lookup_lit _ rfl _ _ _ rfl 5 3 .u8 Tryd.underlying50 Tryd.underlying5 zero3 _ _ _ _ rfl hM _ rfl ?_; have HM := Aside0.mk hM; clear hM; have hsm := HM.out.2.1.size; have BB := Aside0.mk ((HM.out.2.1.block w.heap.size (by have h1_ := hsw.out; omega)).trans hRB.out); have hWn := Aside0.mk (hRW.out.trans (HM.out.2.1.mono (by have h1_ := hsw.out; omega))); have hBA : ∀ o, (wm.alloc o).heap[w.heap.size]? = some (.cells #[.int .i64 0, .int .i32 0, .int .i64 0] 30 (0, 0)) := fun o => blk_alloc BB.out o; have HBA := Aside0.mk hBA; clear hBA; have z0 : ∀ o, (wm.alloc o).cell? ⟨w.heap.size, 0, none⟩ = some (.int .i64 0) := fun o => (blk_cell (HBA.out o) 0).trans rfl; have z1 : ∀ o, (wm.alloc o).cell? ⟨w.heap.size, 1, none⟩ = some (.int .i32 0) := fun o => (blk_cell (HBA.out o) 1).trans rfl; have z2 : ∀ o, (wm.alloc o).cell? ⟨w.heap.size, 2, none⟩ = some (.int .i64 0) := fun o => (blk_cell (HBA.out o) 2).trans rfl; have f0 : ∀ o, (wm.alloc o).frozen? ⟨w.heap.size, 0, none⟩ = false := fun o => blk_frozen (HBA.out o) 0; have f1 : ∀ o, (wm.alloc o).frozen? ⟨w.heap.size, 1, none⟩ = false := fun o => blk_frozen (HBA.out o) 1; have f2 : ∀ o, (wm.alloc o).frozen? ⟨w.heap.size, 2, none⟩ = false := fun o => blk_frozen (HBA.out o) 2; have hne : ¬ w.heap.size = wm.heap.size := (by have h1_ := hsw.out; have h2_ := HM.out.2.1.size; omega); have hne' : ¬ wm.heap.size = w.heap.size := (by have h1_ := hsw.out; have h2_ := HM.out.2.1.size; omega); have x1 : ∀ o, (wm.alloc o).cell? ⟨bA, 1, none⟩ = some (.int .i64 n1) := fun o => al_cell ((HM.out.2.1.cell (p := ⟨bA, 1, none⟩) (World.block_lt_of_cell? wr _ hx1)).trans hx1) o))
                refine bodyPost_ret (results_cell_row rfl _ _ w.heap.size 30 #[.int .i64 (look [(65, 6), (66, 7), (67, 9), (68, 8), (72, 10), (70, 11), (90, 3)] c), .int .i32 0, .int .i64 (0)] (0, 0) _ rfl (put3 (by (repeat (first | refine blk_far ?_ hne _ | refine blk_alloc ?_ _)); exact BB.out) _ _ _) Tryd.underlying30 rfl (by kernel_rfl)) rfl ?_
                have hv : toldV s c = (look [(65, 6), (66, 7), (67, 9), (68, 8), (72, 10), (70, 11), (90, 3)] c, 0, 0) := by
                  unfold toldV kind1L kind2L
                  rw [if_neg (by rw [hok.out]; decide), if_neg (by first | decide | exact h126)]
                  rw [if_neg hk]; rw [if_neg h90, hmo.out]
                obtain ⟨rfl, rfl, rfl⟩ := fin3 hR hv
                exact ⟨rfl, below3 (by (repeat (first | apply below_alloc | refine Below.setCell (p := ⟨wm.heap.size, _, none⟩) ?_ (by show w.heap.size ≤ wm.heap.size; have h1_ := hsw.out; have h2_ := HM.out.2.1.size; omega) _)); exact hWn.out) (Nat.le_refl _) _ _ _⟩
            · have hlb : decide ((1 : Int) < ((pieces s).length : Int)) = false := decide_eq_false (by omega)
              have hmo : Aside0 (modsOf (nums s) = 0) := ⟨by unfold modsOf; rw [if_neg (fun h => hl (by have := hnlen.out; have := h.1; omega))]⟩
              go_wp2_with (first | (refine wpList_insert_lit _ rfl _ _ _ _ rfl 5 3 .u8 Tryd.underlying50 Tryd.underlying5 _ _ _ _ rfl hM _ _ rfl rfl (by decide) ?_; clear hM; intro wm hM; simp only [List.nil_append, List.cons_append] at hM) | (at_lookup; refine wpList_lookup_lit _ rfl _ _ _ rfl 5 3 .u8 Tryd.underlying50 Tryd.underlying5 zero3 _ _ _ _ rfl hM _ rfl ?_; have HM := Aside0.mk hM; clear hM; have hsm := HM.out.2.1.size; have BB := Aside0.mk ((HM.out.2.1.block w.heap.size (by have h1_ := hsw.out; omega)).trans hRB.out); have hWn := Aside0.mk (hRW.out.trans (HM.out.2.1.mono (by have h1_ := hsw.out; omega))); have hBA : ∀ o, (wm.alloc o).heap[w.heap.size]? = some (.cells #[.int .i64 0, .int .i32 0, .int .i64 0] 30 (0, 0)) := fun o => blk_alloc BB.out o; have HBA := Aside0.mk hBA; clear hBA; have z0 : ∀ o, (wm.alloc o).cell? ⟨w.heap.size, 0, none⟩ = some (.int .i64 0) := fun o => (blk_cell (HBA.out o) 0).trans rfl; have z1 : ∀ o, (wm.alloc o).cell? ⟨w.heap.size, 1, none⟩ = some (.int .i32 0) := fun o => (blk_cell (HBA.out o) 1).trans rfl; have z2 : ∀ o, (wm.alloc o).cell? ⟨w.heap.size, 2, none⟩ = some (.int .i64 0) := fun o => (blk_cell (HBA.out o) 2).trans rfl; have f0 : ∀ o, (wm.alloc o).frozen? ⟨w.heap.size, 0, none⟩ = false := fun o => blk_frozen (HBA.out o) 0; have f1 : ∀ o, (wm.alloc o).frozen? ⟨w.heap.size, 1, none⟩ = false := fun o => blk_frozen (HBA.out o) 1; have f2 : ∀ o, (wm.alloc o).frozen? ⟨w.heap.size, 2, none⟩ = false := fun o => blk_frozen (HBA.out o) 2; have hne : ¬ w.heap.size = wm.heap.size := (by have h1_ := hsw.out; have h2_ := HM.out.2.1.size; omega); have hne' : ¬ wm.heap.size = w.heap.size := (by have h1_ := hsw.out; have h2_ := HM.out.2.1.size; omega)))
              refine bodyPost_ret (results_cell_row rfl _ _ w.heap.size 30 #[.int .i64 (look [(65, 6), (66, 7), (67, 9), (68, 8), (72, 10), (70, 11), (90, 3)] c), .int .i32 0, .int .i64 (0)] (0, 0) _ rfl (put3 (by (repeat (first | refine blk_far ?_ hne _ | refine blk_alloc ?_ _)); exact BB.out) _ _ _) Tryd.underlying30 rfl (by kernel_rfl)) rfl ?_
              have hv : toldV s c = (look [(65, 6), (66, 7), (67, 9), (68, 8), (72, 10), (70, 11), (90, 3)] c, 0, 0) := by
                unfold toldV kind1L kind2L
                rw [if_neg (by rw [hok.out]; decide), if_neg (by first | decide | exact h126)]
                rw [if_neg hk]; rw [if_neg h90, hmo.out]
              obtain ⟨rfl, rfl, rfl⟩ := fin3 hR hv
              exact ⟨rfl, below3 (by (repeat (first | apply below_alloc | refine Below.setCell (p := ⟨wm.heap.size, _, none⟩) ?_ (by show w.heap.size ≤ wm.heap.size; have h1_ := hsw.out; have h2_ := HM.out.2.1.size; omega) _)); exact hWn.out) (Nat.le_refl _) _ _ _⟩
end Go.Proofs.YthbdiambigfgdahDoor.Hand
