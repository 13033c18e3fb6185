/- The law KeysParts' walk by hand: two decoders, one fed in parts, one at once; no condition beyond the arguments' own form. -/
import Derived.Test.YthbdiambigfgdahDoorHandKnows
namespace Go.Proofs.YthbdiambigfgdahDoor.Hand
open Go.RowKit Go.Proofs.YthbdiambigfgdahDoorW.PrintWords Go.Proofs.YthbdiambigfgdahDoorW.PrintLast Go.Proofs.YthbdiambigfgdahDoorW.PrintMore Go.Proofs.YthbdiambigfgdahDoor.PKeysParts
open Keys Ut Go.Joins
set_option linter.unusedVariables false
set_option linter.unusedSimpArgs false

theorem feed_suffix : ∀ (n : Nat) (a : List Int), a.length ≤ n → ∃ p, a = p ++ (feed told a).2 := by
  intro n
  induction n with
  | zero =>
    intro a h
    obtain rfl : a = [] := List.length_eq_zero_iff.1 (by omega)
    exact ⟨[], by rw [feed_nil]; rfl⟩
  | succ n ih =>
    intro a h
    by_cases hs : (firstF told a).1 = 0
    · exact ⟨[], by rw [feed_stop told a hs]; rfl⟩
    · obtain ⟨p, hp⟩ := ih (a.drop (firstF told a).1) (by simp; omega)
      refine ⟨a.take (firstF told a).1 ++ p, ?_⟩
      rw [feed_step told a hs, List.append_assoc]
      conv => lhs; rw [← List.take_append_drop (firstF told a).1 a]
      exact congrArg _ hp
theorem feed_mem (a : List Int) : ∀ x ∈ (feed told a).2, x ∈ a := fun x hx => by
  obtain ⟨p, hp⟩ := feed_suffix a.length a (Nat.le_refl _)
  rw [hp]
  exact List.mem_append_right _ hx
theorem St.grown30 {w3 w4 : World} {base g b2 : Nat} {l : List Int} {ok : Nat → Prop} {u : Value} {xs : List S30} (h : St w3 base g l) (hr : Kd.R k30 30 w3 b2 ok u xs) (hg : w3.grownBy w4 u.ownBlock) : St w4 base g l := by
  obtain ⟨v, h1, h2, h3⟩ := h
  refine ⟨v, blk_grown h1 hg (Kd.R_ne hr h1 (by decide)), h2, Kd.R_mono (Kd.R_grown (Kd.R_bound h3) hg (fun k hk e => ?_)) (fun _ _ => trivial)⟩
  obtain ⟨_, _, _, q, hq, cells, hc⟩ := hk
  have : q = 5 := by simpa [show (Kd.int .u8).E = [] from rfl] using hq
  subst this
  obtain ⟨cells2, h4⟩ := Kd.R_typed hr k e.symm
  rw [hc] at h4
  simp at h4
theorem blk33_grown {w3 w4 : World} {i b2 : Nat} {cs : Array Value} {ok : Nat → Prop} {u : Value} {xs : List S30} (h : w3.heap[i]? = some (.cells cs 33 (0, 0))) (hr : Kd.R k30 30 w3 b2 ok u xs) (hg : w3.grownBy w4 u.ownBlock) : w4.heap[i]? = some (.cells cs 33 (0, 0)) :=
  blk_grown h hg (Kd.R_ne hr h (by decide))
/-- xs[:n], under a name that no rule of the walk takes apart. -/
def takeL {α : Type} (xs : List α) (n : Nat) : List α := xs.take n
theorem take_of {P : Program} {α : Type} (enc : α → Value) (d : α) (t e : TypeId) (kl : IntKind) {i : TypeInfo} (ht : P.underlying t = some (.slice e)) (hi : P.info? e = some i) (hsz : i.size = 1) (A : Option Addr) (c : Nat) (xs : List α) (j : Int) (h0 : 0 ≤ j) (hm : j ≤ xs.length) (hc : xs.length ≤ c) :
    (∀ W : World, (Instr.slice t (.slice A xs.length c) none (some (.int kl j)) none).run P W = .ok (.slice A (takeL xs j.toNat).length c) W) ∧
      (∀ w : World, ReadsOf enc d w A xs.length xs → ReadsOf enc d w A (takeL xs j.toNat).length (takeL xs j.toNat)) :=
  ⟨(print_take_of enc d t e kl ht hi hsz A c xs j h0 hm hc).1, (print_take_of (P := P) enc d t e kl ht hi hsz A c xs j h0 hm hc).2.1⟩

theorem Fr.blk {base g : Nat} {w w' : World} (h : Fr base g w w') {i : Nat} {cs : Array Value} {t : TypeId} (hb : w.heap[i]? = some (.cells cs t (0, 0))) (hne : i ≠ g) (ht : t ≠ 5) : w'.heap[i]? = some (.cells cs t (0, 0)) :=
  (h.2 i (blk_lt hb) hne (fun cs' e => by
    rw [hb] at e
    simp at e
    exact ht e.2)).trans hb
theorem R_fr {base0 base g : Nat} {w w' : World} {ok : Nat → Prop} {v : Value} {xs : List S30} {cg : Array Value} (h : Kd.R k30 30 w base ok v xs) (hg : w.heap[g]? = some (.cells cg 33 (0, 0))) (hf : Fr base0 g w w') : Kd.R k30 30 w' base ok v xs :=
  Kd.R_mono (Kd.R_step (Kd.R_bound h) (fun k hk hlt => by
    obtain ⟨_, _, _, q, hq, cells, hc⟩ := hk
    have : q = 30 := by simpa [show k30.E = [] from rfl] using hq
    subst this
    refine hf.2 k hlt (fun e => ?_) (fun cs e => ?_)
    · subst e
      rw [hg] at hc
      simp at hc
    · rw [hc] at e
      simp at e)) (fun _ hk => hk.1)

set_option maxHeartbeats 4000000 in
set_option maxRecDepth 100000 in
theorem law_calls (A0 A1 : Option Addr) (c0 c1 : Nat) (b cuts : List Int) (w : World) (hr0 : Kd.C (Kd.int .u8) w A0 b.length b) (hc0 : b.length ≤ c0) (hr1 : Kd.C (Kd.int .u8) w A1 cuts.length cuts) (hc1 : cuts.length ≤ c1)
    (hb0 : ∀ x ∈ b, Byte x) (hb1 : ∀ x ∈ cuts, Byte x) :
    Calls Tryd.prog 3 #[.slice A0 b.length c0, .slice A1 cuts.length c1] w fun e w' => e = .returned (.bool true) ∧ Below w.heap.size w w' := by
  have HR0 := Aside0.mk hr0
  have HR1 := Aside0.mk hr1
  clear hr0 hr1
  by_cases hbig : 500 < b.length ∨ 100 < cuts.length
  · have hk := fun w => knows_calls w
    by_cases h1 : 500 < b.length
    · have h1b : decide ((500 : Int) < (b.length : Int)) = true := decide_eq_true (by omega)
      go_enter Tryd.func3, Tryd.ntmps3
      go_wp2_with (first | (go_at_call 4; refine (new_calls _).mono ?_; rintro e w1 ⟨rfl, rfl⟩) | (go_at_call 5; refine (hk _).mono ?_; rintro e w2 ⟨rfl, hb⟩))
      go_ret
      exact ⟨rfl, (below_alloc (below_alloc (Below.refl _ _) _) _).trans (hb.mono (by simp; omega))⟩
    · have h1b : decide ((500 : Int) < (b.length : Int)) = false := decide_eq_false (by omega)
      have h2b : decide ((100 : Int) < (cuts.length : Int)) = true := decide_eq_true (by omega)
      go_enter Tryd.func3, Tryd.ntmps3
      go_wp2_with (first | (go_at_call 4; refine (new_calls _).mono ?_; rintro e w1 ⟨rfl, rfl⟩) | (go_at_call 5; refine (hk _).mono ?_; rintro e w2 ⟨rfl, hb⟩))
      go_ret
      exact ⟨rfl, (below_alloc (below_alloc (Below.refl _ _) _) _).trans (hb.mono (by simp; omega))⟩
  · have h1b : decide ((500 : Int) < (b.length : Int)) = false := decide_eq_false (by omega)
    have h2b : decide ((100 : Int) < (cuts.length : Int)) = false := decide_eq_false (by omega)
    go_enter Tryd.func3, Tryd.ntmps3
    go_upto_region 5 with (go_at_call 4; refine (new_calls _).mono ?_; rintro e w1 ⟨rfl, rfl⟩)
    obtain ⟨W2, hW2⟩ : ∃ W2, W2 = (w.alloc (.cells #[.slice none 0 0] 33)).alloc (.cells #[.slice none 0 0] 33) := ⟨_, rfl⟩
    have hsd : Aside0 (St W2 w.heap.size w.heap.size []) := ⟨by rw [hW2]; exact (St_new w).below (below_alloc (Below.refl _ _) _)⟩
    have hse : Aside0 (W2.heap[w.heap.size + 1]? = some (.cells #[.slice none 0 0] 33 (0, 0))) := ⟨by rw [hW2]; simpa using blk_new (w.alloc (.cells #[.slice none 0 0] 33)) (.cells #[.slice none 0 0] 33)⟩
    have hB2 : Aside0 (Below w.heap.size w W2) := ⟨by rw [hW2]; exact below_alloc (below_alloc (Below.refl _ _) _) _⟩
    rw [← hW2]
    clear hW2
    go_wp2
    go_loopg [7, 8, 9] cuts.length (fun gg v7 v8 v9 w' => ∃ (i : Nat) (rest done l : List Int) (ks : List K) (A8 : Option Addr) (c8 : Nat), i ≤ cuts.length ∧ cuts.length - i ≤ gg ∧ v9 = .int .i64 i ∧ v8 = .slice A8 rest.length c8 ∧ Aside0 (rest.length ≤ c8) ∧ Aside0 (Kd.C (Kd.int .u8) w A8 rest.length rest) ∧ Aside0 (done ++ rest = b) ∧ Aside0 (feed told done = (ks, l)) ∧ Aside0 (∀ x ∈ l, x ∈ done) ∧ Aside0 (ks.length ≤ 500 ∧ l.length ≤ done.length) ∧ Aside0 (Kd.R k30 30 w' w.heap.size (fun _ => True) v7 (ks.map kS)) ∧ Aside0 (St w' w.heap.size w.heap.size l) ∧ Aside0 (w'.heap[w.heap.size + 1]? = some (.cells #[.slice none 0 0] 33 (0, 0))) ∧ Aside0 (Below w.heap.size w w'))
    case atStart => exact ⟨0, b, [], [], [], A0, c0, Nat.zero_le _, by omega, rfl, rfl, ⟨hc0⟩, HR0, ⟨rfl⟩, ⟨feed_nil told⟩, ⟨by simp⟩, ⟨by simp⟩, ⟨Kd.R_nil _ _ _ _ _⟩, hsd, hse, hB2⟩
    case round =>
      obtain ⟨i, rest, done, l, ks, A8, c8, hi, hg, rfl, rfl, HC8, HRR, hDB, hDF, hLB, hKB, HO, HS, HE, HB⟩ := hrel
      have hAB : Aside0 (b.length ≤ 500) := ⟨by omega⟩
      by_cases hlt : i < cuts.length
      · have hltz : (i : Int) < (cuts.length : Int) := by omega
        obtain ⟨ad, e1, hx⟩ := Kd.at_int HR1.out (i : Int) (by omega) (by omega)
        cases e1
        replace hx := (HB.out.cell (World.block_lt_of_cell? w _ hx)).trans hx
        have hrd : rd cuts (i : Int) = cuts[i] := rd_at cuts i hlt
        have hby := hb1 cuts[i] (List.getElem_mem hlt)
        unfold Byte at hby
        rw [hrd, Int.toNat_natCast] at hx
        generalize cuts[i] = n0 at hx hby
        have hw0 : wrap64 n0 = n0 := wrap_of _ (by omega)
        by_cases hgt : (rest.length : Int) < n0
        · have hgtb : decide ((rest.length : Int) < n0) = true := decide_eq_true hgt
          obtain ⟨i04, hi04, _, hsz4, _⟩ := info_parts info5
          obtain ⟨A', hdr, hdrR, hdrC⟩ := drop_of (P := Tryd.prog) (Value.int .u8) 0 22 5 .i64 Tryd.underlying22 hi04 hsz4 A8 c8 rest (rest.length : Int) (by omega) (by omega) HC8.out
          have hd0 : dropL rest (Int.toNat (rest.length : Int)) = [] := by rw [Int.toNat_natCast]; exact List.drop_length
          rw [hd0] at hdr hdrR hdrC
          have HDR := Aside0.mk (Kd.C_of_reads (h1 := fun _ => rfl) (hdrR _ (Kd.reads_of_C HRR.out)))
          clear hdrR hi04 hsz4 hdrC hd0
          have hlen3 : done.length + rest.length = b.length := by rw [← hDB.out]; simp
          have hsub : ∀ x ∈ l ++ rest, Byte x := fun x hx => by
            rcases List.mem_append.1 hx with h | h
            · exact hb0 x (by rw [← hDB.out]; exact List.mem_append_left _ (hLB.out x h))
            · exact hb0 x (by rw [← hDB.out]; exact List.mem_append_right _ h)
          have hll : (l ++ rest).length ≤ 1000 := by have := hKB.out; simp; omega
          have hcall := feed_calls w.heap.size w.heap.size l A8 c8 rest wr HS.out HB.out.size (Kd.C_below HRR.out HB.out) HC8.out (l ++ rest) rfl hsub hll
          obtain ⟨vd, hvd, _, _⟩ := HS.out
          have hgd := Aside0.mk hvd
          clear hvd
          obtain ⟨kk, hkk⟩ : ∃ kk : List S30, kk = (feed told (l ++ rest)).1.map kS := ⟨_, rfl⟩
          obtain ⟨l2, hl2⟩ : ∃ l2 : List Int, l2 = (feed told (l ++ rest)).2 := ⟨_, rfl⟩
          rw [← hkk, ← hl2] at hcall
          have hkkl : Aside0 (kk.length ≤ 1000) := ⟨by have h1_ := feed_keys_le told _ (l ++ rest) (Nat.le_refl _); rw [hkk, List.length_map]; omega⟩
          have HKK := Aside0.mk hkk
          have HL2 := Aside0.mk hl2
          have hsub' := Aside0.mk hsub
          clear hkk hl2 hsub
          have hcc := HC8.out
          go_wp2_with (first | (go_at_call 6; refine hcall.mono ?_; rintro e w3 ⟨v, rfl, hR, hS3, hF⟩; obtain ⟨Av, cv, ev⟩ := Kd.R_slice hR; subst ev; obtain ⟨_, hcv, hRv⟩ := Kd.R_reads' hR; have HV := Aside0.mk hRv; have HS3 := Aside0.mk hS3; have HF3 := Aside0.mk hF; clear hR hS3 hF hRv hcv) | (at_builtin; refine Kd.R_append_rows k30 (w0 := w) w.heap.size rfl (.tmp 58) (.tmp 63) 26 30 (.agg #[.int .i64 0, .int .i32 0, .int .i64 0]) 24 rfl Tryd.underlying26 info30 rfl (by decide) (by omega) u7 (ks.map kS) kk _ _ _ (fun _ => True) (fun _ => False) rfl rfl (R_fr HO.out hgd.out HF3.out) HV.out (fun x cs h => h) (fun _ h => h.elim) (fun _ _ => trivial) (HB.out.trans HF3.out.1) (HB.out.trans HF3.out.1).size ?aL ?_; (case aL => have h1_ := hkkl.out; have h2_ := hKB.out; simp; omega); intro v4 w4 ho4 hb4 hg4 hat4; have HO4 := Aside0.mk ho4; have HB4 := Aside0.mk hb4; have HG4 := Aside0.mk hg4; clear ho4 hb4 hg4 hat4))
          go_roundg (cuts.length - (i + 1))
          case measure => omega
          case rel =>
            have hfp : feed told (done ++ rest) = (ks ++ (feed told (l ++ rest)).1, (feed told (l ++ rest)).2) := by rw [feed_parts, hDF.out]
            refine ⟨i + 1, [], done ++ rest, l2, ks ++ (feed told (l ++ rest)).1, A', c8 - rest.length, by omega, by omega, by go_num, rfl, ⟨by simp⟩, HDR, ⟨by rw [List.append_nil]; exact hDB.out⟩, ⟨by rw [hfp, HL2.out]⟩, ⟨fun x hx => (List.mem_append.1 (feed_mem _ x (HL2.out ▸ hx))).elim (fun h => List.mem_append_left _ (hLB.out x h)) (fun h => List.mem_append_right _ h)⟩, ⟨⟨by have h1_ := feed_keys_le told _ (done ++ rest) (Nat.le_refl _); rw [hfp] at h1_; have h2_ := hAB.out; have h3_ := hlen3; simp at h1_ ⊢; omega, by have h1_ := feed_rest_le told _ (done ++ rest) (Nat.le_refl _); rw [hfp] at h1_; rw [HL2.out]; exact h1_⟩⟩, ⟨by rw [List.map_append, ← HKK.out]; exact HO4.out⟩, ⟨HS3.out.grown30 (R_fr HO.out hgd.out HF3.out) HG4.out⟩, ⟨blk33_grown (HF3.out.blk HE.out (by omega) (by decide)) (R_fr HO.out hgd.out HF3.out) HG4.out⟩, HB4⟩
        · have hgtb : decide ((rest.length : Int) < n0) = false := decide_eq_false hgt
          obtain ⟨i04, hi04, _, hsz4, _⟩ := info_parts info5
          obtain ⟨htk, htkR⟩ := take_of (P := Tryd.prog) (Value.int .u8) 0 22 5 .i64 Tryd.underlying22 hi04 hsz4 A8 c8 rest (n0) (by omega) (by omega) HC8.out
          obtain ⟨A', hdr, hdrR, hdrC⟩ := drop_of (P := Tryd.prog) (Value.int .u8) 0 22 5 .i64 Tryd.underlying22 hi04 hsz4 A8 c8 rest (n0) (by omega) (by omega) HC8.out
          have HTK := Aside0.mk (Kd.C_of_reads (h1 := fun _ => rfl) (htkR _ (Kd.reads_of_C HRR.out)))
          have HDR := Aside0.mk (Kd.C_of_reads (h1 := fun _ => rfl) (hdrR _ (Kd.reads_of_C HRR.out)))
          have HDC := Aside0.mk hdrC
          clear htkR hdrR hdrC hi04 hsz4
          have htl : takeL rest (Int.toNat (n0)) = rest.take (Int.toNat (n0)) := rfl
          have hdl : dropL rest (Int.toNat (n0)) = rest.drop (Int.toNat (n0)) := rfl
          have htd : takeL rest (Int.toNat (n0)) ++ dropL rest (Int.toNat (n0)) = rest := by rw [htl, hdl]; exact List.take_append_drop _ _
          have htn : (takeL rest (Int.toNat (n0))).length = (n0).toNat := by rw [htl, List.length_take]; omega
          clear htk
          generalize takeL rest (Int.toNat (n0)) = tk at *
          generalize dropL rest (Int.toNat (n0)) = dr at *
          have hlen3 : done.length + (tk.length + dr.length) = b.length := by rw [← hDB.out, ← htd]; simp
          have hsub : ∀ x ∈ l ++ tk, Byte x := fun x hx => by
            rcases List.mem_append.1 hx with h | h
            · exact hb0 x (by rw [← hDB.out]; exact List.mem_append_left _ (hLB.out x h))
            · exact hb0 x (by rw [← hDB.out, ← htd]; simp [h])
          have hll : (l ++ tk).length ≤ 1000 := by have := hKB.out; simp; omega
          have hcall := feed_calls w.heap.size w.heap.size l A8 c8 tk wr HS.out HB.out.size (Kd.C_below HTK.out HB.out) (by have h1_ := HC8.out; have h2_ := congrArg List.length htd; simp at h2_; omega) (l ++ tk) rfl hsub hll
          obtain ⟨vd, hvd, _, _⟩ := HS.out
          have hgd := Aside0.mk hvd
          clear hvd
          obtain ⟨kk, hkk⟩ : ∃ kk : List S30, kk = (feed told (l ++ tk)).1.map kS := ⟨_, rfl⟩
          obtain ⟨l2, hl2⟩ : ∃ l2 : List Int, l2 = (feed told (l ++ tk)).2 := ⟨_, rfl⟩
          rw [← hkk, ← hl2, htn] at hcall
          have hcc := HC8.out
          have hkkl : Aside0 (kk.length ≤ 1000) := ⟨by have h1_ := feed_keys_le told _ (l ++ tk) (Nat.le_refl _); rw [hkk, List.length_map]; omega⟩
          have HKK := Aside0.mk hkk
          have HL2 := Aside0.mk hl2
          clear hkk hl2
          go_wp2_with (first | (go_at_call 6; refine hcall.mono ?_; rintro e w3 ⟨v, rfl, hR, hS3, hF⟩; obtain ⟨Av, cv, ev⟩ := Kd.R_slice hR; subst ev; obtain ⟨_, hcv, hRv⟩ := Kd.R_reads' hR; have HV := Aside0.mk hRv; have HS3 := Aside0.mk hS3; have HF3 := Aside0.mk hF; clear hR hS3 hF hRv hcv) | (at_builtin; refine Kd.R_append_rows k30 (w0 := w) w.heap.size rfl (.tmp 58) (.tmp 63) 26 30 (.agg #[.int .i64 0, .int .i32 0, .int .i64 0]) 24 rfl Tryd.underlying26 info30 rfl (by decide) (by omega) u7 (ks.map kS) kk _ _ _ (fun _ => True) (fun _ => False) rfl rfl (R_fr HO.out hgd.out HF3.out) HV.out (fun x cs h => h) (fun _ h => h.elim) (fun _ _ => trivial) (HB.out.trans HF3.out.1) (HB.out.trans HF3.out.1).size ?aL ?_; (case aL => have h1_ := hkkl.out; have h2_ := hKB.out; simp; omega); intro v4 w4 ho4 hb4 hg4 hat4; have HO4 := Aside0.mk ho4; have HB4 := Aside0.mk hb4; have HG4 := Aside0.mk hg4; clear ho4 hb4 hg4 hat4))
          go_roundg (cuts.length - (i + 1))
          case measure => omega
          case rel =>
            have hfp : feed told (done ++ tk) = (ks ++ (feed told (l ++ tk)).1, (feed told (l ++ tk)).2) := by rw [feed_parts, hDF.out]
            refine ⟨i + 1, dr, done ++ tk, l2, ks ++ (feed told (l ++ tk)).1, A', _, by omega, by omega, by go_num, by rw [show dr.length = rest.length - n0.toNat from by have h1_ := congrArg List.length htd; simp at h1_; omega], HDC, HDR, ⟨by rw [List.append_assoc, htd]; exact hDB.out⟩, ⟨by rw [hfp, HL2.out]⟩, ⟨fun x hx => (List.mem_append.1 (feed_mem _ x (HL2.out ▸ hx))).elim (fun h => List.mem_append_left _ (hLB.out x h)) (fun h => List.mem_append_right _ h)⟩, ⟨⟨by have h1_ := feed_keys_le told _ (done ++ tk) (Nat.le_refl _); rw [hfp] at h1_; have h2_ := hAB.out; have h3_ := hlen3; simp at h1_ ⊢; omega, by have h1_ := feed_rest_le told _ (done ++ tk) (Nat.le_refl _); rw [hfp] at h1_; rw [HL2.out]; exact h1_⟩⟩, ⟨by rw [List.map_append, ← HKK.out]; exact HO4.out⟩, ⟨HS3.out.grown30 (R_fr HO.out hgd.out HF3.out) HG4.out⟩, ⟨blk33_grown (HF3.out.blk HE.out (by omega) (by decide)) (R_fr HO.out hgd.out HF3.out) HG4.out⟩, HB4⟩
      · have hieq : i = cuts.length := by omega
        have hnlt : ¬ (i : Int) < (cuts.length : Int) := by omega
        obtain ⟨KS, hKS⟩ : ∃ KS : List S30, KS = (feed told b).1.map kS := ⟨_, rfl⟩
        obtain ⟨l2, hl2⟩ : ∃ l2 : List Int, l2 = (feed told b).2 := ⟨_, rfl⟩
        have hfb : feed told b = (ks ++ (feed told (l ++ rest)).1, (feed told (l ++ rest)).2) := by
          have h1_ := feed_parts told done rest
          rw [hDB.out, hDF.out] at h1_
          exact h1_
        have hlen3 : done.length + rest.length = b.length := by rw [← hDB.out]; simp
        have hsub : ∀ x ∈ l ++ rest, Byte x := fun x hx => by
          rcases List.mem_append.1 hx with h | h
          · exact hb0 x (by rw [← hDB.out]; exact List.mem_append_left _ (hLB.out x h))
          · exact hb0 x (by rw [← hDB.out]; exact List.mem_append_right _ h)
        have hll : (l ++ rest).length ≤ 1000 := by have := hKB.out; have := hAB.out; simp; omega
        have hcall := feed_calls w.heap.size w.heap.size l A8 c8 rest wr HS.out HB.out.size (Kd.C_below HRR.out HB.out) HC8.out (l ++ rest) rfl hsub hll
        obtain ⟨vd, hvd, _, _⟩ := HS.out
        have hgd := Aside0.mk hvd
        obtain ⟨kk, hkk⟩ : ∃ kk : List S30, kk = (feed told (l ++ rest)).1.map kS := ⟨_, rfl⟩
        have hkks : Aside0 (ks.map kS ++ kk = KS) := ⟨by rw [hkk, hKS, hfb, List.map_append]⟩
        have hl2' : (feed told (l ++ rest)).2 = l2 := by rw [hl2, hfb]
        rw [← hkk, hl2'] at hcall
        have hkkl : Aside0 (kk.length ≤ 1000) := ⟨by have h1_ := feed_keys_le told _ (l ++ rest) (Nat.le_refl _); rw [hkk, List.length_map]; omega⟩
        have HKS := Aside0.mk hKS
        have HL2 := Aside0.mk hl2
        have HFB := Aside0.mk hfb
        clear hkk hl2 hl2' hKS hfb hvd hsub
        go_upto_region 16 with (first | (go_at_call 6; refine hcall.mono ?_; rintro e w3 ⟨v, rfl, hR, hS3, hF⟩; obtain ⟨Av, cv, ev⟩ := Kd.R_slice hR; subst ev; obtain ⟨_, hcv, hRv⟩ := Kd.R_reads' hR; have HV := Aside0.mk hRv; have HS3 := Aside0.mk hS3; have HF3 := Aside0.mk hF; clear hR hS3 hF hRv hcv) | (at_builtin; refine Kd.R_append_rows k30 (w0 := w) w.heap.size rfl (.tmp 68) (.tmp 71) 26 30 (.agg #[.int .i64 0, .int .i32 0, .int .i64 0]) 24 rfl Tryd.underlying26 info30 rfl (by decide) (by omega) u7 (ks.map kS) kk _ _ _ (fun _ => True) (fun _ => False) rfl rfl (R_fr HO.out hgd.out HF3.out) HV.out (fun x cs h => h) (fun _ h => h.elim) (fun _ _ => trivial) (HB.out.trans HF3.out.1) (HB.out.trans HF3.out.1).size ?aL ?_; (case aL => have h1_ := hkkl.out; have h2_ := hKB.out; simp; omega); intro v4 w4 ho4 hb4 hg4 hat4; rw [hkks.out] at ho4; have HO4 := Aside0.mk ho4; have HB4 := Aside0.mk hb4; have HG4 := Aside0.mk hg4; clear ho4 hb4 hg4 hat4))
        have hS4 : St w4 w.heap.size w.heap.size l2 := HS3.out.grown30 (R_fr HO.out hgd.out HF3.out) HG4.out
        have hE4 : w4.heap[w.heap.size + 1]? = some (.cells #[.slice none 0 0] 33 (0, 0)) := blk33_grown (HF3.out.blk HE.out (by omega) (by decide)) (R_fr HO.out hgd.out HF3.out) HG4.out
        have hcall2 := feed_calls w.heap.size (w.heap.size + 1) [] A0 c0 b w4 ⟨_, hE4, by omega, Kd.R_nil _ _ _ _ _⟩ HB4.out.size (Kd.C_below HR0.out HB4.out) hc0 b rfl hb0 (by have := hAB.out; omega)
        rw [← HKS.out, ← HL2.out] at hcall2
        have HS4 := Aside0.mk hS4
        have HE4 := Aside0.mk hE4
        clear hcall HS HE HS3 HF3 HG4 hS4 hE4 HV HO HB hgd
        go_upto_region 17 with (go_at_call 6; refine hcall2.mono ?_; rintro e w5 ⟨v5, rfl, hR5, hS5, hF5⟩; have HR5 := Aside0.mk hR5; have HS5 := Aside0.mk hS5; have HF5 := Aside0.mk hF5; clear hR5 hS5 hF5)
        have hO5 := R_fr HO4.out HE4.out HF5.out
        obtain ⟨Aa, ca, rfl⟩ := Kd.R_slice hO5
        obtain ⟨Ab, cb, rfl⟩ := Kd.R_slice HR5.out
        obtain ⟨vd4, hd4, _, hr4⟩ := HS4.out
        obtain ⟨Ad, cd, rfl⟩ := Kd.R_slice hr4
        have hd5 := HF5.out.blk hd4 (by omega) (by decide)
        have wd : w5.cell? ⟨w.heap.size, 0, none⟩ = some (.slice Ad l2.length cd) := (blk_cell hd5 0).trans rfl
        obtain ⟨ve5, he5, _, hr5⟩ := HS5.out
        obtain ⟨Ae, ce, rfl⟩ := Kd.R_slice hr5
        have we : w5.cell? ⟨w.heap.size + 1, 0, none⟩ = some (.slice Ae l2.length ce) := (blk_cell he5 0).trans rfl
        have HO5 := Aside0.mk hO5
        have HB5 := Aside0.mk (HB4.out.trans HF5.out.1)
        clear hcall2 hd4 hr4 hd5 he5 hr5 hO5
        go_upto_region 19 with (first | (go_at_call 7; refine (waiting_calls w5 w.heap.size Ad l2.length cd wd).mono ?_; rintro e w6 ⟨rfl, hw6⟩; obtain rfl : w5 = w6 := hw6.symm) | (go_at_call 7; refine (waiting_calls w5 (w.heap.size + 1) Ae l2.length ce we).mono ?_; rintro e w6 ⟨rfl, hw6⟩; obtain rfl : w5 = w6 := hw6.symm))
        have hk := fun w => knows_calls w
        have hKL : Aside0 (KS.length ≤ 1000) := ⟨by have h1_ := feed_keys_le told _ b (Nat.le_refl _); have h2_ := hAB.out; rw [HKS.out, List.length_map]; omega⟩
        clear wd we
        rcases Nat.eq_zero_or_pos KS.length with h0 | h0
        · have h0' := Aside0.mk h0
          rw [h0]
          clear h0
          go_wp2
          refine wp_loop_rounds 1 ?_
          rw [rounds_succ]
          go_wp2_with (go_at_call 5; refine (hk _).mono ?_; rintro e w7 ⟨rfl, hb7⟩)
          go_ret
          exact ⟨rfl, HB5.out.trans (hb7.mono HB5.out.size)⟩
        · obtain ⟨ba, ca', ea, hca', hata⟩ := keys_at HO5.out h0
          obtain ⟨bb, cb', eb, hcb', hatb⟩ := keys_at HR5.out h0
          simp only [Value.slice.injEq] at ea eb
          obtain ⟨rfl, _, rfl⟩ := ea
          obtain ⟨rfl, _, rfl⟩ := eb
          have HAA := Aside0.mk hata
          have HBB := Aside0.mk hatb
          clear hata hatb
          have he := fun w a b c d e f => eqA30 9998 w a b c d e f
          go_wp2
          go_loopg [12] KS.length (fun gg v12 w' => ∃ i : Nat, i ≤ KS.length ∧ KS.length - i ≤ gg ∧ v12 = .int .i64 i ∧ Aside0 (Below w5.heap.size w5 w'))
          case atStart => exact ⟨0, Nat.zero_le _, by omega, rfl, ⟨Below.refl _ _⟩⟩
          case round =>
            obtain ⟨j, hj, hgj, rfl, HBJ⟩ := hrel
            by_cases hjl : j < KS.length
            · have hjz : (j : Int) < (KS.length : Int) := by omega
              obtain ⟨a0, a1, a2⟩ := HAA.out j hjl
              obtain ⟨b0, b1, b2⟩ := HBB.out j hjl
              replace a0 := (HBJ.out.cell (World.block_lt_of_cell? _ _ a0)).trans a0
              replace a1 := (HBJ.out.cell (World.block_lt_of_cell? _ _ a1)).trans a1
              replace a2 := (HBJ.out.cell (World.block_lt_of_cell? _ _ a2)).trans a2
              replace b0 := (HBJ.out.cell (World.block_lt_of_cell? _ _ b0)).trans b0
              replace b1 := (HBJ.out.cell (World.block_lt_of_cell? _ _ b1)).trans b1
              replace b2 := (HBJ.out.cell (World.block_lt_of_cell? _ _ b2)).trans b2
              generalize KS[j] = q at a0 a1 a2 b0 b1 b2
              go_wp2
              go_quiet (fail)
              go_wp2
              go_roundg (KS.length - (j + 1))
              case measure => omega
              case rel => exact ⟨j + 1, by omega, by omega, by have h_ := hKL.out; first | (rw [wrap_of _ (by omega)]; rfl) | (simp only [Value.int.injEq, true_and]; rw [wrap_of _ (by omega)]; omega) | (simp; rw [wrap_of _ (by omega)]), ⟨pw_below_drewN HBJ.out _⟩⟩
            · have hjz : ¬ (j : Int) < (KS.length : Int) := by omega
              go_wp2_with (go_at_call 5; refine (hk _).mono ?_; rintro e w7 ⟨rfl, hb7⟩)
              go_ret
              exact ⟨rfl, (HB5.out.trans (HBJ.out.mono HB5.out.size)).trans (hb7.mono (Nat.le_trans HB5.out.size HBJ.out.size))⟩
end Go.Proofs.YthbdiambigfgdahDoor.Hand
