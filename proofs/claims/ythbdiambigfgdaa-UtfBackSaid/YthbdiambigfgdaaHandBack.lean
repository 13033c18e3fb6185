/- What utf.Encode hands back is appended to: the row it makes is the caller's own, and an append onto it answers both rows. -/
import Derived.Test.YthbdiambigfgdaaHandUtf
import Derived.Deep.AppendSrc
namespace Go.Proofs.Ythbdiambigfgdaa.Hand
open Go.RowKit Go.Proofs.YthbdiambigfgdaaW.PrintWords Go.Proofs.YthbdiambigfgdaaW.PrintMore

/-- The row of bytes that the conversion of a string has made. -/
def B (W : World) (base : Nat) (v : Value) (xs : List Int) : Prop :=
  ∃ g cap cur, v = .slice (some ⟨g, 0, none⟩) xs.length cap ∧ base ≤ g ∧ W.heap[g]? = some (.cells cur 5 (cur.size, cur.size + 1)) ∧ xs.length ≤ cap ∧ cap ≤ maxLen ∧ cur.size = cap ∧ cur.toList.take xs.length = xs.map (Value.int .u8)

theorem B_lower {W : World} {b b' : Nat} {v : Value} {xs : List Int} (h : B W b v xs) (hb : b' ≤ b) : B W b' v xs := by
  obtain ⟨g, cap, cur, h1, h2, h3⟩ := h
  exact ⟨g, cap, cur, h1, Nat.le_trans hb h2, h3⟩

theorem V_of_block {W : World} {e base g cap : Nat} {cur : Array Value} {fz : Nat × Nat} {xs : List Int} (hb : W.heap[g]? = some (.cells cur 5 fz)) (h1 : xs.length ≤ cap) (h2 : cap ≤ maxLen)
    (h4 : cur.toList.take xs.length = xs.map (Value.int .u8)) : Kd.V (Kd.int .u8) e W base (fun _ => True) (.slice (some ⟨g, 0, none⟩) xs.length cap) xs := by
  refine ⟨some ⟨g, 0, none⟩, cap, rfl, h1, fun W' hW => ?_⟩
  refine Kd.C_of_reads (enc := Value.int .u8) (d := (0 : Int)) (h1 := fun _ => rfl) ⟨rfl, by simp only [maxLen] at h2; omega, fun _ => ⟨_, rfl, fun j hj => ?_⟩⟩
  have hlt : g < W.heap.size := by
    rcases Nat.lt_or_ge g W.heap.size with h | h
    · exact h
    · rw [Array.getElem?_eq_none h] at hb; cases hb
  rw [add_plain, World.cell?_of_block (w := W) (hW g trivial hlt)]
  simp only [World.cell?, hb]
  have h6 : (cur.toList.take xs.length)[j]? = (xs.map (Value.int .u8))[j]? := by rw [h4]
  rw [List.getElem?_take, if_pos hj, List.getElem?_map, List.getElem?_eq_getElem hj] at h6
  simp only [Option.map_some] at h6
  rw [Array.getElem?_toList] at h6
  simp [List.getD_eq_getElem?_getD, List.getElem?_eq_getElem hj, h6]

theorem B_V {W : World} {b : Nat} {e base : Nat} {v : Value} {xs : List Int} (h : B W b v xs) : Kd.V (Kd.int .u8) e W base (fun _ => True) v xs := by
  obtain ⟨g, cap, cur, rfl, h2, h3, h4, h5, h6, h7⟩ := h
  exact V_of_block h3 h4 h5 h7

theorem B_over {α : Type} {d : Kd α} {e base b : Nat} {ok : Nat → Prop} {W w1 : World} {u v : Value} {xs : List α} {ys : List Int} (h : d.R e W base ok u xs) (hB : B W b v ys) (ht : ∀ q, q ∈ e :: d.E → q ≠ 5) (hg : W.grownBy w1 v.ownBlock) : d.R e w1 base ok u xs := by
  refine Kd.R_mono (Kd.R_move (Kd.R_bound h) (fun k hk => hg.block k hk.2.2.1 (fun he => ?_))) (fun _ hk => hk.1)
  obtain ⟨_, _, _, q, hq, cells, hc⟩ := hk
  obtain ⟨g, cap, cur, rfl, h2, h3, h4⟩ := hB
  simp only [Value.ownBlock, Option.some.injEq] at he
  subst he
  rw [h3] at hc
  simp only [Option.some.injEq, Obj.cells.injEq] at hc
  exact ht q hq hc.2.1.symm

theorem blk_setF {w : World} {g : Nat} {cells : Array Value} {t : TypeId} {fz : Nat × Nat} (h : w.heap[g]? = some (.cells cells t fz)) (j : Nat) (u : Value) :
    (w.setCell ⟨g, j, none⟩ u).heap[g]? = some (.cells (cells.setIfInBounds j u) t fz) := by
  simp [World.setCell, Array.getElem?_modify, h]

theorem below_setCells {B : Nat} {a : World} (b : Nat) (hb : B ≤ b) : ∀ (vs : List Value) (o : Nat) {w : World}, Below B a w → Below B a (w.setCells b o vs)
  | [], _, _, h => h
  | v :: r, o, _, h => below_setCells b hb r (o + 1) (h.setCell (p := ⟨b, o, none⟩) hb v)

theorem setCells_rowF {g : Nat} {e : TypeId} {fz : Nat × Nat} : ∀ (vs : List Value) (o : Nat) (w : World) (cur : Array Value), w.heap[g]? = some (.cells cur e fz) → o + vs.length ≤ cur.size →
    ∃ cur', (w.setCells g o vs).heap[g]? = some (.cells cur' e fz) ∧ cur'.size = cur.size ∧ cur'.toList = cur.toList.take o ++ vs ++ cur.toList.drop (o + vs.length)
  | [], o, w, cur, h, _ => ⟨cur, h, rfl, by simp⟩
  | v :: r, o, w, cur, h, hl => by
    have h2 := blk_setF h o v
    simp only [List.length_cons] at hl
    obtain ⟨cur', h3, h4, h5⟩ := setCells_rowF r (o + 1) (w.setCell ⟨g, o, none⟩ v) _ h2 (by simp; omega)
    refine ⟨cur', h3, by rw [h4]; simp, ?_⟩
    rw [h5, Array.toList_setIfInBounds]
    have ho : o < cur.toList.length := by rw [Array.length_toList]; omega
    rw [List.take_set, List.drop_set_of_lt (by omega)]
    simp only [List.length_cons]
    rw [show o + 1 + r.length = o + (r.length + 1) by omega]
    congr 1
    rw [List.take_succ_eq_append_getElem ho, List.set_append_right _ _ (by rw [List.length_take]; omega)]
    have ho' : o < cur.size := by omega
    simp [Nat.min_eq_left (Nat.le_of_lt ho')]

theorem B_append {w0 W : World} {ops : Array Oper} {rest : List Oper} {o : Oper} {a : Act} {Q : Exit → Act → World → Prop} (base : Nat) (hgd : o.guard = none) (s x : Operand)
    (ho : o.op = .call { callee := .builtin .append, args := #[s, x], argTypes := #[31, 31] })
    (v : Value) (xs ys : List Int) (A : Option Addr) (m c : Nat) (hs : a.eval s = v) (hx : a.eval x = .slice A m c)
    (HO : B W base v xs) (HR : (Kd.int .u8).C W A m ys) (HB : Below base w0 W) (hbase : base ≤ W.heap.size) (hl : (xs.length + m) * 1 ≤ 140737488355328)
    (h : ∀ v1 w1, Kd.V (Kd.int .u8) 5 w1 base (fun _ => True) v1 (xs ++ ys) → Below base w0 w1 → W.grownBy w1 v.ownBlock → wpList Try.prog ops Q rest (a.put o.dst v1) w1) :
    wpList Try.prog ops Q (o :: rest) a W := by
  have info5' : (Try.prog.info? 5).map (fun i => (i.zero, i.size, i.bytes)) = some (some (.int .u8 0), 1, 1) := by kernel_rfl
  obtain ⟨i0, hi, hzz⟩ := Option.map_eq_some_iff.1 info5'
  simp only [Prod.mk.injEq] at hzz
  obtain ⟨hz0, hz1, hz2⟩ := hzz
  have HR' := Kd.reads_of_C (enc := Value.int .u8) (d := (0 : Int)) (h1 := fun _ => rfl) HR
  have hm : ys.length = m := HR'.1
  obtain ⟨g, cap, cur, rfl, hbg, hblk, hn, hcap, hcs, ht⟩ := id HO
  have hlt : g < W.heap.size := by
    rcases Nat.lt_or_ge g W.heap.size with h' | h'
    · exact h'
    · rw [Array.getElem?_eq_none h'] at hblk; cases hblk
  have hsrc : Src Try.prog i0.size 31 (.slice A m c) m (ys.map (Value.int .u8)) W := by
    rcases A with _ | ad
    · have h0 : m = 0 := by
        rcases Nat.eq_zero_or_pos m with h0 | h0
        · exact h0
        · obtain ⟨ad, h, _⟩ := HR'.2.2 h0
          cases h
      subst h0
      obtain rfl : ys = [] := List.eq_nil_of_length_eq_zero hm
      exact Src.ofNil W Try.underlying31 c
    · refine Src.ofSlice W Try.underlying31 ad m c _ (by rw [hz1, List.length_map, hm]; omega) (fun j u hj => ?_) (fun u hu => by obtain ⟨_, _, rfl⟩ := List.mem_map.1 hu; rfl)
      rw [List.getElem?_map, Option.map_eq_some_iff] at hj
      obtain ⟨y, hy, rfl⟩ := hj
      obtain ⟨hjl, hy'⟩ := List.getElem?_eq_some_iff.1 hy
      obtain ⟨ad', h1, h2⟩ := Kd.at_int HR (j : Int) (by omega) (by omega)
      cases h1
      simpa [rd, hjl, hy'] using h2
  have holds : ∀ j u, (xs.map (Value.int .u8))[j]? = some u → W.cell? ⟨g, 0 + j, none⟩ = some u := by
    intro j u hj
    rw [← ht, List.getElem?_take] at hj
    split at hj
    · rw [Array.getElem?_toList] at hj
      simp [World.cell?, hblk, hj]
    · cases hj
  refine wpList_plain hgd fun K hK' => ?_
  by_cases hr : xs.length + m ≤ cap
  · have hcell : ∀ j, j < (ys.map (Value.int .u8)).length → (W.cell? ⟨g, 0 + xs.length * i0.size + j, none⟩).isSome = true := by
      intro j hj
      rw [List.length_map] at hj
      have : xs.length + j < cur.size := by omega
      simp [World.cell?, hblk, hz1, this]
    have hfr : ∀ j, j < (ys.map (Value.int .u8)).length → W.frozen? ⟨g, 0 + xs.length * i0.size + j, none⟩ = false := by
      intro j hj
      rw [List.length_map] at hj
      have : xs.length + j < cur.size := by omega
      simp [World.frozen?, hblk, hz1]
      omega
    have hrun := run_append_room_src (P := Try.prog) W 31 31 o.type 5 i0 Try.underlying31 hi g 0 xs.length cap (.slice A m c) m _ hsrc hr hcell hfr
    unfold Oper.wp
    simp only [execOp, ho]
    simp [resolve, invoke, builtin, hs, hx, hrun, Result.andThen]
    refine hK' _ _ ?_
    rw [hz1]
    obtain ⟨cur', h3, h4, h5⟩ := setCells_rowF (ys.map (Value.int .u8)) xs.length W cur hblk (by rw [List.length_map]; omega)
    have hsm := setCells_same g (ys.map (Value.int .u8)) xs.length W
    refine h _ _ ?_ (by simpa using below_setCells g hbg (ys.map (Value.int .u8)) xs.length HB) ⟨by simpa using hsm.1, by simpa using hsm.2.1, by simpa using hsm.2.2.1, by simp [hsm.2.2.2], fun k hk hne => ?_⟩
    · have := V_of_block (W := W.setCells g xs.length (ys.map (Value.int .u8))) (e := 5) (base := base) (xs := xs ++ ys) (cap := cap) h3 (by rw [List.length_append]; omega) hcap (by
        rw [h5, ht, List.length_append, List.map_append]
        rw [List.take_append_of_le_length (by simp)]
        rw [List.take_of_length_le (by simp)])
      simpa [List.length_append, hm] using this
    · have : k ≠ g := by
        intro e
        subst e
        exact hne rfl
      simpa using setCells_far (g := g) (ys.map (Value.int .u8)) xs.length (w := W) k this
  · have hold : (Builtin.firstCells i0.size xs.length (.slice (some ⟨g, 0, none⟩) xs.length cap)).run Try.prog W.drew = .ok (xs.map (Value.int .u8)).toArray W.drew :=
      run_firstCells_some W.drew i0.size xs.length ⟨g, 0, none⟩ xs.length cap _ (by rw [hz1, List.length_map]; omega) (fun j u hj => by
        have := holds j u hj
        simpa [Addr.add_lit] using this)
    have hrun := run_append_grow_src (P := Try.prog) W 31 31 o.type 5 i0 (.int .u8 0) Try.underlying31 hi hz0 (some ⟨g, 0, none⟩) xs.length cap _ hold (.slice A m c) m _ hsrc (by omega) (by omega)
      (growslice_fits (by omega) (by rw [hz2]; omega))
    unfold Oper.wp
    simp only [execOp, ho]
    simp [resolve, invoke, builtin, hs, hx, hrun, Result.andThen]
    refine hK' _ _ ?_
    have hge := grownCap_ge W (xs.length + m) cap 5
    have hcm : grownCap W (xs.length + m) cap 5 ≤ maxLen := grownCap_le_maxLen W (xs.length + m) cap 5 (by simp only [maxLen]; omega)
    refine h _ _ ?_ ?_ ⟨rfl, rfl, rfl, by simp, fun k hk _ => Below.heap_alloc W.drew _ k hk⟩
    · have hnew := heap_alloc_new W.drew (.cells ((xs.map (Value.int .u8) ++ ys.map (Value.int .u8)).toArray ++ Builtin.zeroCells (Value.int .u8 0).cells (grownCap W (xs.length + m) cap 5 - (xs.length + m))) 5)
      have := V_of_block (e := 5) (base := base) (xs := xs ++ ys) (cap := grownCap W (xs.length + m) cap 5) hnew (by rw [List.length_append, hm]; exact hge) hcm (by
        rw [Array.toList_append, List.map_append]
        rw [List.take_append_of_le_length (by simp)]
        rw [List.take_of_length_le (by simp)])
      simpa [List.length_append, hm] using this
    · exact (HB.drew.alloc hbase _)

set_option maxRecDepth 100000 in
theorem encode_calls_B (A : Option Addr) (c : Nat) (l : List Int) (w : World) (hr : Kd.C (Kd.int .i32) w A l.length l) (hl : l.length ≤ 1000000) :
    Calls Try.prog 19 #[.slice A l.length c] w fun e w' => ∃ v0_ : Value, e = .returned (v0_) ∧ B w' w.heap.size v0_ (encAll l) ∧ Below w.heap.size w w' := by
  have k1 := conv_runes w A c l hr
  have k2 := fun W => print_bytes (P := Try.prog) 9 31 5 Try.underlying9 Try.underlying31 Try.underlying5 (runesBytes l) W
  have hs := runesBytes_size_le l
  go_enter Try.func19, Try.ntmps19
  go_wp2
  go_ret
  refine ⟨.slice (some ⟨w.heap.size, 0, none⟩) (runesBytes l).size (grownCap w (runesBytes l).size 0 5), rfl, ?_, bytes_below (Below.refl _ _) (Nat.le_refl _) 5 _⟩
  have hge := grownCap_ge w (runesBytes l).size 0 5
  refine ⟨w.heap.size, grownCap w (runesBytes l).size 0 5, Lib.bytesCells w 5 (runesBytes l), by rw [encAll_len], Nat.le_refl _, Lib.bytesWorld_at_new w 5 _, by rw [encAll_len]; exact hge, grownCap_le_maxLen w _ _ _ (by simp only [maxLen]; omega), ?_, ?_⟩
  · simp [Lib.bytesCells]
    omega
  · rw [encAll_len]
    unfold encAll bytesOf Lib.bytesCells
    rw [Array.toList_append, List.take_append_of_le_length (by simp)]
    rw [List.take_of_length_le (by simp)]
    simp
end Go.Proofs.Ythbdiambigfgdaa.Hand
