/- Decoder.Feed by hand: the keys of what waits and what comes, and what waits then; up to a thousand bytes. -/
import Derived.Test.YthbdiambigfgdahDoorHandSt
namespace Go.Proofs.YthbdiambigfgdahDoor.Hand
open Go.RowKit Go.Proofs.YthbdiambigfgdahDoorW.PrintWords Go.Proofs.YthbdiambigfgdahDoorW.PrintLast Go.Proofs.YthbdiambigfgdahDoorW.PrintMore Go.Proofs.YthbdiambigfgdahDoor.PKeysParts
open Keys Ut
set_option linter.unusedVariables false
set_option linter.unusedSimpArgs false

set_option maxHeartbeats 4000000 in
set_option maxRecDepth 100000 in
theorem feed_calls (base g : Nat) (l : List Int) (A : Option Addr) (c : Nat) (b : List Int) (w : World) (hS : St w base g l) (hbw : base ≤ w.heap.size) (hr : Kd.C (Kd.int .u8) w A b.length b) (hc : b.length ≤ c)
    (all : List Int) (hall : l ++ b = all) (hbl : ∀ x ∈ all, Byte x) (hlen : all.length ≤ 1000) :
    Calls Tryd.prog 6 #[.pointer (some ⟨g, 0, none⟩), .slice A b.length c] w fun e w' => ∃ v, e = .returned v ∧ Kd.R k30 30 w' w.heap.size (fun _ => True) v ((feed told all).1.map kS) ∧ St w' base g (feed told all).2 ∧ Fr base g w w' := by
  obtain ⟨v0, hg0, hge, hR0⟩ := hS
  have hgl := blk_lt hg0
  have hgb : some g ≠ v0.ownBlock := fun e => by
    obtain ⟨cells, hcb⟩ := Kd.R_typed hR0 _ e.symm
    rw [hg0] at hcb
    simp at hcb
  have c0 : w.cell? ⟨g, 0, none⟩ = some v0 := (blk_cell hg0 0).trans rfl
  have HR0 := Aside0.mk hR0
  have HG0 := Aside0.mk hg0
  have HRr := Aside0.mk hr
  clear hR0 hg0 hr
  have hll : l.length + b.length ≤ 1000 := by rw [← hall] at hlen; simpa using hlen
  go_enter Tryd.func6, Tryd.ntmps6
  go_upto_region 5 with (first | (at_builtin; refine Kd.R_append_row (Value.int .u8) 0 (w0 := w) base rfl (.tmp 13) (.tmp 14) 22 5 (.int .u8 0) 1 rfl Tryd.underlying22 info5 rfl (by decide) v0 l b A b.length c (fun _ => True) rfl rfl (fun _ _ => trivial) HR0.out HRr.out (Below.refl _ _) hbw (by omega) ?_; intro v1 w1 ho1 hb1 hg1 hat1; rw [hall] at ho1; have HR1 := Aside0.mk ho1; have HB1 := Aside0.mk hb1; have HGR := Aside0.mk hg1; clear ho1 hb1 hg1 hat1))
  obtain ⟨A1, c1, rfl⟩ := Kd.R_slice HR1.out
  obtain ⟨_, hc1, HC1⟩ := Kd.R_reads' HR1.out
  have hgA : g < w1.heap.size := Nat.lt_of_lt_of_le hgl HGR.out.size
  have hG1 : w1.heap[g]? = some (.cells #[v0] 33 (0, 0)) := (HGR.out.block g hgl hgb).trans HG0.out
  have HG1 := Aside0.mk hG1
  have hbw1 : base ≤ w1.heap.size := Nat.le_trans hbw HGR.out.size
  have HF1 : Aside0 (∀ i, i < w.heap.size → i ≠ g → (∀ cs, w.heap[i]? ≠ some (.cells cs 5 (0, 0))) → w1.heap[i]? = w.heap[i]?) := ⟨fun i hi hig ht => HGR.out.block i hi (fun e => by
    obtain ⟨cells, hcb⟩ := Kd.R_typed HR0.out _ e.symm
    exact ht cells hcb)⟩
  have hsz := Aside0.mk HGR.out.size
  clear hG1 HR1 HGR HG0 c0 hgb HRr
  go_loopg [5, 6] all.length (fun gg v5 v6 w' => ∃ (ks : List K) (rest : List Int) (A6 : Option Addr) (c6 : Nat), v6 = .slice A6 rest.length c6 ∧ rest.length ≤ gg ∧ Aside0 (Kd.R k30 30 w' w1.heap.size (fun _ => True) v5 (ks.map kS)) ∧ Aside0 (Below w1.heap.size w1 w') ∧ Aside0 (Kd.C (Kd.int .u8) w1 A6 rest.length rest) ∧ Aside0 (rest.length ≤ c6) ∧ Aside0 (∀ x ∈ rest, Byte x) ∧ Aside0 (rest.length ≤ all.length) ∧ Aside0 (ks.length + rest.length ≤ all.length) ∧ Aside0 (feed told all = (ks ++ (feed told rest).1, (feed told rest).2)))
  case atStart => exact ⟨[], all, A1, c1, rfl, Nat.le_refl _, ⟨Kd.R_nil _ _ _ _ _⟩, ⟨Below.refl _ _⟩, ⟨HC1⟩, ⟨hc1⟩, ⟨hbl⟩, ⟨Nat.le_refl _⟩, ⟨by simp⟩, ⟨by simp⟩⟩
  case round =>
    clear HC1
    obtain ⟨ks, rest, A6, c6, rfl, hgg, HO, HB, HC, HC6, HBY, HRL, HKL, HF⟩ := hrel
    by_cases hn : rest = []
    · have hlb : decide ((0 : Int) < (rest.length : Int)) = false := decide_eq_false (by rw [hn]; simp)
      have hnp : (0 < rest.length) = False := eq_false (by rw [hn]; simp)
      have hn' := Aside0.mk hn
      clear hn
      go_wp2_with (first | ((with_reducible refine gate_dst (N := 38) rfl ?_); refine Kd.R_lit (Kd.int .u8) (w0 := wr) (wr).heap.size 5 ?hg (N := 38) ?hd (xs := ([] : List Int)) (inner := []) (ok := fun _ => True) (okp := fun _ => True) ?hr ?hp (fun _ hk => hk) trivial (Below.refl _ _) (Nat.le_refl _) (by simp) ?_; (case hd => rfl); (case hg => rfl); (case hr => first | (go_simp; done) | (go_simp; rfl)); (case hp => exact Reps.none _ _); intro v38 w3 hR3 hB3 hg3 hn3; have HR3 := Aside0.mk hR3; have HB3 := Aside0.mk hB3; clear hR3 hB3 hg3 hn3) | (at_builtin; refine Kd.R_append_row (Value.int .u8) 0 (w0 := wr) (wr).heap.size rfl (.tmp 38) (.tmp 39) 22 5 (.int .u8 0) 1 rfl Tryd.underlying22 info5 rfl (by decide) v38 [] rest A6 rest.length c6 (fun _ => True) rfl rfl (fun _ _ => trivial) HR3.out (Kd.C_below (Kd.C_below HC.out HB.out) HB3.out) HB3.out HB3.out.size (by have h1_ := HRL.out; simp; omega) ?_; intro v2 w4 ho4 hb4 hg4 hat4; obtain ⟨A2, cc2, e2_⟩ := Kd.R_slice ho4; subst e2_; have HR4 := Aside0.mk ho4; have HB4 := Aside0.mk hb4; have GK := Aside0.mk ((hb4.block g (Nat.lt_of_lt_of_le hgA HB.out.size)).trans ((HB.out.block g hgA).trans HG1.out)); have cg : w4.cell? ⟨g, 0, none⟩ = some v0 := (blk_cell GK.out 0).trans rfl; have fg := blk_frozen GK.out 0; clear ho4 hb4 hg4 hat4))
      go_ret
      have hfr : feed told all = (ks, rest) := by
        rw [HF.out, hn'.out, feed_nil]; simp
      refine ⟨u5, rfl, ?_, ?_, ?_, ?_⟩
      · rw [hfr]; exact Kd.R_lower (Kd.R_set (Kd.R_below HO.out HB4.out) GK.out (by decide) 0 _) hsz.out
      · rw [hfr]; exact ⟨_, by simpa using blk_set GK.out 0 _, hge, Kd.R_set (Kd.R_lower (show Kd.R (Kd.int .u8) 5 w4 _ (fun _ => True) (.slice A2 rest.length cc2) rest from HR4.out) (Nat.le_trans hbw1 HB.out.size)) GK.out (by decide) 0 _⟩
      · exact ((HB1.out.trans (HB.out.mono hbw1)).trans (HB4.out.mono (Nat.le_trans hbw1 HB.out.size))).setCell (p := ⟨g, 0, none⟩) hge _
      · intro i hi hig ht
        have hi1 : i < w1.heap.size := Nat.lt_of_lt_of_le hi hsz.out
        exact (Below.heap_setCell w4 ⟨g, 0, none⟩ _ i hig).trans ((HB4.out.block i (Nat.lt_of_lt_of_le hi1 HB.out.size)).trans ((HB.out.block i hi1).trans (HF1.out i hi hig ht)))
    · have hpos : 0 < rest.length := List.length_pos_iff.2 hn
      have hlb : decide ((0 : Int) < (rest.length : Int)) = true := decide_eq_true (by omega)
      have hcall := first_calls A6 c6 rest wr hn HBY.out (by have := HRL.out; omega) (Kd.C_below HC.out HB.out) HC6.out
      have hfl := first_le told rest
      obtain ⟨⟨n, k0, k1, k2⟩, hs⟩ : ∃ s : Step, s = firstF told rest := ⟨_, rfl⟩
      rw [← hs] at hcall hfl
      dsimp only at hcall hfl
      have hs' := Aside0.mk hs
      have hn' := Aside0.mk hn
      clear hs hn
      by_cases hn0 : n = 0
      · subst hn0
        go_wp2_with (first | (go_at_call 8; refine hcall.mono ?_; rintro e w2 ⟨rfl, hb⟩) | ((with_reducible refine gate_dst (N := 38) rfl ?_); refine Kd.R_lit (Kd.int .u8) (w0 := (w2.alloc (.cells #[.int .i64 0, .int .i64 k0, .int .i32 k1, .int .i64 k2] 35))) ((w2.alloc (.cells #[.int .i64 0, .int .i64 k0, .int .i32 k1, .int .i64 k2] 35))).heap.size 5 ?hg (N := 38) ?hd (xs := ([] : List Int)) (inner := []) (ok := fun _ => True) (okp := fun _ => True) ?hr ?hp (fun _ hk => hk) trivial (Below.refl _ _) (Nat.le_refl _) (by simp) ?_; (case hd => rfl); (case hg => rfl); (case hr => first | (go_simp; done) | (go_simp; rfl)); (case hp => exact Reps.none _ _); intro v38 w3 hR3 hB3 hg3 hn3; have HR3 := Aside0.mk hR3; have HB3 := Aside0.mk hB3; clear hR3 hB3 hg3 hn3) | (at_builtin; refine Kd.R_append_row (Value.int .u8) 0 (w0 := (w2.alloc (.cells #[.int .i64 0, .int .i64 k0, .int .i32 k1, .int .i64 k2] 35))) ((w2.alloc (.cells #[.int .i64 0, .int .i64 k0, .int .i32 k1, .int .i64 k2] 35))).heap.size rfl (.tmp 38) (.tmp 39) 22 5 (.int .u8 0) 1 rfl Tryd.underlying22 info5 rfl (by decide) v38 [] rest A6 rest.length c6 (fun _ => True) rfl rfl (fun _ _ => trivial) HR3.out (Kd.C_below (Kd.C_below HC.out (below_alloc (HB.out.trans (hb.mono HB.out.size)) (.cells #[.int .i64 0, .int .i64 k0, .int .i32 k1, .int .i64 k2] 35))) HB3.out) HB3.out HB3.out.size (by have h1_ := HRL.out; simp; omega) ?_; intro v2 w4 ho4 hb4 hg4 hat4; obtain ⟨A2, cc2, e2_⟩ := Kd.R_slice ho4; subst e2_; have HR4 := Aside0.mk ho4; have HB4 := Aside0.mk hb4; have GK := Aside0.mk ((hb4.block g (Nat.lt_of_lt_of_le hgA (below_alloc (HB.out.trans (hb.mono HB.out.size)) (.cells #[.int .i64 0, .int .i64 k0, .int .i32 k1, .int .i64 k2] 35)).size)).trans (((below_alloc (HB.out.trans (hb.mono HB.out.size)) (.cells #[.int .i64 0, .int .i64 k0, .int .i32 k1, .int .i64 k2] 35)).block g hgA).trans HG1.out)); have cg : w4.cell? ⟨g, 0, none⟩ = some v0 := (blk_cell GK.out 0).trans rfl; have fg := blk_frozen GK.out 0; clear ho4 hb4 hg4 hat4))
        go_ret
        have hfr : feed told all = (ks, rest) := by
          rw [HF.out, feed_stop told rest (by rw [← hs'.out])]; simp
        refine ⟨u5, rfl, ?_, ?_, ?_, ?_⟩
        · rw [hfr]; exact Kd.R_lower (Kd.R_set (Kd.R_below (Kd.R_alloc (Kd.R_below HO.out hb) _) HB4.out) GK.out (by decide) 0 _) hsz.out
        · rw [hfr]; exact ⟨_, by simpa using blk_set GK.out 0 _, hge, Kd.R_set (Kd.R_lower (show Kd.R (Kd.int .u8) 5 w4 _ (fun _ => True) (.slice A2 rest.length cc2) rest from HR4.out) (Nat.le_trans hbw1 (below_alloc (HB.out.trans (hb.mono HB.out.size)) (.cells #[.int .i64 0, .int .i64 k0, .int .i32 k1, .int .i64 k2] 35)).size)) GK.out (by decide) 0 _⟩
        · exact ((HB1.out.trans ((below_alloc (HB.out.trans (hb.mono HB.out.size)) (.cells #[.int .i64 0, .int .i64 k0, .int .i32 k1, .int .i64 k2] 35)).mono hbw1)).trans (HB4.out.mono (Nat.le_trans hbw1 (below_alloc (HB.out.trans (hb.mono HB.out.size)) (.cells #[.int .i64 0, .int .i64 k0, .int .i32 k1, .int .i64 k2] 35)).size))).setCell (p := ⟨g, 0, none⟩) hge _
        · intro i hi hig ht
          have hi1 : i < w1.heap.size := Nat.lt_of_lt_of_le hi hsz.out
          exact (Below.heap_setCell w4 ⟨g, 0, none⟩ _ i hig).trans ((HB4.out.block i (Nat.lt_of_lt_of_le hi1 (below_alloc (HB.out.trans (hb.mono HB.out.size)) (.cells #[.int .i64 0, .int .i64 k0, .int .i32 k1, .int .i64 k2] 35)).size)).trans (((below_alloc (HB.out.trans (hb.mono HB.out.size)) (.cells #[.int .i64 0, .int .i64 k0, .int .i32 k1, .int .i64 k2] 35)).block i hi1).trans (HF1.out i hi hig ht)))
      · have hnb : (((n : Nat) : Int) == 0) = false := beq_eq_false_iff_ne.2 (by omega)
        obtain ⟨i04, hi04, _, hsz4, _⟩ := info_parts info5
        obtain ⟨A', hcut, hA', hC'⟩ := drop_of (P := Tryd.prog) (Value.int .u8) 0 22 5 .i64 Tryd.underlying22 hi04 hsz4 A6 c6 rest (n : Int) (by omega) (by omega) HC6.out
        have HRN := Aside0.mk (hA' _ (Kd.reads_of_C HC.out))
        have HCN := Aside0.mk hC'
        clear hA' hC' hi04 hsz4
        by_cases hk : k0 = 0
        · have hkb : (k0 == 0) = true := beq_iff_eq.2 hk
          go_wp2_with (go_at_call 8; refine hcall.mono ?_; rintro e w2 ⟨rfl, hb⟩)
          go_roundg (rest.length - n)
          case measure => omega
          case rel =>
            have hd : dropL rest (Int.toNat (n : Int)) = rest.drop n := by rw [Int.toNat_natCast]; rfl
            have hst := feed_step told rest (by rw [← hs'.out]; exact hn0)
            rw [← hs'.out] at hst
            refine ⟨ks, rest.drop n, A', c6 - n, by rw [← hd]; first | rfl | simp, by simp, ⟨Kd.R_alloc (Kd.R_below HO.out hb) _⟩, ⟨below_alloc (HB.out.trans (hb.mono HB.out.size)) _⟩, ⟨by rw [← hd]; exact Kd.C_of_reads (h1 := fun _ => rfl) HRN.out⟩, ⟨by rw [← hd]; exact HCN.out⟩, ⟨fun x hx => HBY.out x (List.mem_of_mem_drop hx)⟩, ⟨by have := HRL.out; simp; omega⟩, ⟨by have := HKL.out; simp; omega⟩, ⟨?_⟩⟩
            rw [HF.out, hst]
            simp [hk]
        · have hkb : (k0 == 0) = false := beq_eq_false_iff_ne.2 hk
          go_wp2_with (first | (go_at_call 8; refine hcall.mono ?_; rintro e w2 ⟨rfl, hb⟩) | (at_builtin; refine Kd.R_append k30 (w0 := w1) w1.heap.size rfl (.tmp 28) (.tmp 31) 26 30 (.agg #[.int .i64 0, .int .i32 0, .int .i64 0]) 24 rfl Tryd.underlying26 info30 rfl (by decide) (by omega) u5 (ks.map kS) (kS (k0, k1, k2)) [.int .i64 k0, .int .i32 k1, .int .i64 k2] (fun _ => True) (fun _ => False) rfl (by have e_ : (w2.alloc (.cells #[.int .i64 n, .int .i64 k0, .int .i32 k1, .int .i64 k2] 35)).heap.size = w2.heap.size + 1 := (by simp);                         rw [e_]; rfl) (k30_mkM _ _ _ _) (fun _ hk => hk.elim) (fun _ _ => trivial) ?aO ?aB ?aS ?aL ?_; (case aO => exact Kd.R_alloc (Kd.R_below HO.out hb) _); (case aB => exact below_alloc (HB.out.trans (hb.mono HB.out.size)) _); (case aS => have h1_ := HB.out.size; have h2_ := hb.size; simp; omega); (case aL => have h1_ := HKL.out; simp; omega); intro v5' w3 ho3 hb3 hg3 hat3; have HO3 := Aside0.mk ho3; have HB3 := Aside0.mk hb3; have HG3 := Aside0.mk hg3; have hbn := blk_new w2 (.cells #[.int .i64 n, .int .i64 k0, .int .i32 k1, .int .i64 k2] 35); have hra := Kd.R_alloc (Kd.R_below HO.out hb) (.cells #[.int .i64 n, .int .i64 k0, .int .i32 k1, .int .i64 k2] 35); have hnn : some w2.heap.size ≠ u5.ownBlock := Kd.R_ne hra hbn (by decide); have hbk := (hg3.block w2.heap.size (by simp) hnn).trans hbn; have cb0 : w3.cell? ⟨w2.heap.size, 0, none⟩ = some (.int .i64 n) := (blk_cell hbk 0).trans rfl; clear hbn hra hnn hbk; clear ho3 hb3 hg3 hat3))
          go_roundg (rest.length - n)
          case measure => omega
          case rel =>
            have hd : dropL rest (Int.toNat (n : Int)) = rest.drop n := by rw [Int.toNat_natCast]; rfl
            have hst := feed_step told rest (by rw [← hs'.out]; exact hn0)
            rw [← hs'.out] at hst
            refine ⟨ks ++ [(k0, k1, k2)], rest.drop n, A', c6 - n, by rw [← hd]; first | rfl | simp, by simp, ⟨by simpa using HO3.out⟩, ⟨HB3.out⟩, ⟨by rw [← hd]; exact Kd.C_of_reads (h1 := fun _ => rfl) HRN.out⟩, ⟨by rw [← hd]; exact HCN.out⟩, ⟨fun x hx => HBY.out x (List.mem_of_mem_drop hx)⟩, ⟨by have := HRL.out; simp; omega⟩, ⟨by have := HKL.out; simp; omega⟩, ⟨?_⟩⟩
            rw [HF.out, hst]
            simp [hk]
end Go.Proofs.YthbdiambigfgdahDoor.Hand
