/- The terminal's sequence at the two sequences that the statement's example reaches, by hand: the map of functions, the numbers, the deed; no condition beyond the terminal's form. -/
import Derived.Test.YtaicpljgijjenaaGreatDoorHandMove
import Derived.Maps.OwnOps
namespace Go.Proofs.YtaicpljgijjenaaGreatDoor.Hand
open Go Go.RowKit Go.Maps Go.ChangeMaps Go.MapKept Go.Proofs.YtaicpljgijjenaaGreatDoorW.PrintWords Go.Proofs.YtaicpljgijjenaaGreatDoorW.PrintLast Go.Proofs.YtaicpljgijjenaaGreatDoorW.PrintMore Go.Proofs.YtaicpljgijjenaaGreatDoor.PVtP
set_option linter.unusedVariables false
set_option linter.unusedSimpArgs false

/-- Block b is a map that holds these pairs, in this order. -/
def MapF (w : World) (b : Nat) (q : IntKind) (l : List (Int × Value)) : Prop :=
  ∃ es clock, w.heap[b]? = some (.map es clock) ∧ es.toList.map (fun e => (e.key, e.val)) = l.map (fun p => (Value.int q p.1, p.2))
def lookF (l : List (Int × Value)) (x : Int) : Option Value := match l with
  | [] => none
  | (a, v) :: r => if x = a then some v else lookF r x
theorem find_no (q : IntKind) (d : IntKind) (x : Int) : ∀ (es : List MapEntry) (l : List (Int × Value)) (i : Nat), es.map (fun e => (e.key, e.val)) = l.map (fun p => (Value.int q p.1, p.2)) → (∀ p ∈ l, x ≠ p.1) →
    Instr.findNow (.int d) (.int q x) es i = some none
  | [], l, i, _, _ => rfl
  | e :: es, [], i, h, _ => by simp at h
  | e :: es, (a, v) :: l, i, h, hn => by
    simp only [List.map_cons, List.cons.injEq, Prod.mk.injEq] at h
    obtain ⟨⟨h1, _⟩, h2⟩ := h
    have hx : x ≠ a := hn (a, v) (by simp)
    have ih := find_no q d x es l (i + 1) h2 (fun p hp => hn p (by simp [hp]))
    have hxb : (x == a) = false := beq_eq_false_iff_ne.2 hx
    simp only [Instr.findNow, h1, Instr.sameNow, if_true, hxb, ih]
theorem find_yes (q : IntKind) (d : IntKind) (x : Int) (u : Value) : ∀ (es : List MapEntry) (l : List (Int × Value)) (i : Nat), es.map (fun e => (e.key, e.val)) = l.map (fun p => (Value.int q p.1, p.2)) → lookF l x = some u →
    ∃ j, Instr.findNow (.int d) (.int q x) es i = some (some (j, u))
  | [], [], i, _, hl => by simp [lookF] at hl
  | [], (a, v) :: l, i, h, _ => by simp at h
  | e :: es, [], i, h, _ => by simp at h
  | e :: es, (a, v) :: l, i, h, hl => by
    simp only [List.map_cons, List.cons.injEq, Prod.mk.injEq] at h
    obtain ⟨⟨h1, h3⟩, h2⟩ := h
    by_cases hx : x = a
    · have : v = u := by simpa [lookF, hx] using hl
      exact ⟨i, by simp [Instr.findNow, h1, Instr.sameNow, hx, h3, this]⟩
    · have hxb : (x == a) = false := beq_eq_false_iff_ne.2 hx
      obtain ⟨j, ih⟩ := find_yes q d x u es l (i + 1) h2 (by simpa [lookF, hx] using hl)
      exact ⟨j, by simp only [Instr.findNow, h1, Instr.sameNow, if_true, hxb, ih]⟩
section
variable {P : Program} {w : World} {b : Nat} {q : IntKind} {l : List (Int × Value)} {t k e : TypeId}
theorem check_k (w : World) (em : Bool) (hk : P.underlying k = some (.int q)) (x : Int) : (Instr.checkKey em 10000 k (.int q x)).run P w = .ok () w := run_checkKey hk (show IsKey (.int q) (.int q x) from rfl) em 9999
theorem MapF.made (w : World) (q : IntKind) : MapF (w.alloc (.map #[] 0)) w.heap.size q [] := ⟨#[], 0, (MapKept.heap_alloc w _).1, rfl⟩
theorem MapF.update (h : MapF w b q l) (ht : P.underlying t = some (.map k e)) (hk : P.underlying k = some (.int q)) (x : Int) (v : Value) (hn : ∀ p ∈ l, x ≠ p.1) :
    ∃ w', (Instr.mapUpdate t (.map (some b)) (.int q x) v).run P w = .ok () w' ∧ MapF w' b q (l ++ [(x, v)]) ∧ w.grownBy w' (some b) := by
  obtain ⟨es, clock, hb, he⟩ := h
  have hf := find_no q q x es.toList l 0 he hn
  refine ⟨_, ?_, ⟨es.push ⟨.int q x, v, clock⟩, clock + 1, heap_setBlock_same hb _, by simp [he]⟩, ⟨rfl, rfl, rfl, by simp [setBlock], fun i _ hi => heap_setBlock_other hb _ (fun e => hi (by rw [e]))⟩⟩
  simp [Instr.mapUpdate, run_underlying ht, MapKept.run_getObj_map hb, check_k w false hk x, run_findKey hk hf, MapKept.run_setObj_map _ hb, Result.andThen, setBlock]
theorem MapF.lookup (h : MapF w b q l) (ht : P.underlying t = some (.map k e)) (hk : P.underlying k = some (.int q)) (x : Int) (u : Value) (hu : lookF l x = some u) :
    (Instr.lookup t (.map (some b)) (.int q x) true).run P w = .ok (.tuple #[u, .bool true]) w := by
  obtain ⟨es, clock, hb, he⟩ := h
  obtain ⟨j, hf⟩ := find_yes q q x u es.toList l 0 he hu
  simp [Instr.lookup, run_underlying ht, MapKept.run_getObj_map hb, check_k _ _ hk x, run_findKey hk hf, Result.andThen]
end
/-- A store of a literal's entry, at the operation. -/
theorem wpList_insert_f {P : Program} (w : World) {ops : Array Oper} {rest : List Oper} {o : Oper} {a : Act} {Q : Exit → Act → World → Prop}
    (hg : o.guard = none) (m : Operand) (x v : Operand) (t : TypeId) (hop : o.op = Op.insert t m x v)
    (k e : TypeId) (q : IntKind) (ht : P.underlying t = some (.map k e)) (hk : P.underlying k = some (.int q)) (b : Nat) (l : List (Int × Value)) (B : Nat) (w0 : World)
    (hm : a.eval m = .map (some b)) (h : MapF w b q l ∧ Below B w0 w ∧ B ≤ b) (xi : Int) (vi : Value) (hx : a.eval x = .int q xi) (hv : a.eval v = vi) (hn : (l.all fun p => !(xi == p.1)) = true)
    (hK : ∀ w', (MapF w' b q (l ++ [(xi, vi)]) ∧ Below B w0 w' ∧ B ≤ b) → wpList P ops Q rest (a.put o.dst undef) w') :
    wpList P ops Q (o :: rest) a w := by
  refine wpList_plain hg fun K' hK' => ?_
  obtain ⟨w', hrun, r1, r2⟩ := h.1.update ht hk xi vi (fun p hp => by have := List.all_eq_true.1 hn p hp; simpa using this)
  have hlt : b < w.heap.size := by obtain ⟨es, cl, hb, _⟩ := h.1; exact (Array.getElem?_eq_some_iff.1 hb).1
  unfold Oper.wp
  simp [execOp, hop, hm, hx, hv, hrun, Result.andThen]
  exact hK' _ _ (hK w' ⟨r1, h.2.1.grown r2 (Nat.le_trans h.2.2 (Nat.le_of_lt hlt)) (fun j hj => by cases hj; exact h.2.2), h.2.2⟩)
/-- A look-up of an entry, told with 'is it there', at the operation. -/
theorem wpList_lookup_f {P : Program} (w : World) {ops : Array Oper} {rest : List Oper} {o : Oper} {a : Act} {Q : Exit → Act → World → Prop}
    (hg : o.guard = none) (m x : Operand) (t : TypeId) (hop : o.op = Op.lookup t m x true)
    (k e : TypeId) (q : IntKind) (ht : P.underlying t = some (.map k e)) (hk : P.underlying k = some (.int q)) (b : Nat) (l : List (Int × Value)) (B : Nat) (w0 : World)
    (hm : a.eval m = .map (some b)) (h : MapF w b q l ∧ Below B w0 w ∧ B ≤ b) (xi : Int) (u : Value) (hx : a.eval x = .int q xi) (hu : lookF l xi = some u)
    (hK : wpList P ops Q rest (a.put o.dst (.tuple #[u, .bool true])) w) :
    wpList P ops Q (o :: rest) a w := by
  refine wpList_plain hg fun K' hK' => ?_
  have hrun := h.1.lookup ht hk xi u hu
  unfold Oper.wp
  simp [execOp, hop, hm, hx, hrun, Result.andThen]
  exact hK' _ _ hK

set_option maxHeartbeats 1000000 in
set_option maxRecDepth 100000 in
theorem seqH_calls {base p g cap : Nat} {sty : Int} {x y : S41} {wt : Value} (w : World) (h : Tm w base p g cap 0 0 sty x y wt) :
    Calls Tryz.prog 37 #[.pointer (some ⟨p, 0, none⟩), .string ⟨#[49, 59, 49]⟩, .int .u8 72] w fun e w' => e = .returned (.tuple #[]) ∧ Tm w' base p g cap 0 0 sty x y wt ∧ Fr p g w w' := by
  have HT := Aside0.mk h
  clear h
  have hM : MapF (w.alloc (.map #[] 0)) w.heap.size .u8 [] ∧ Below w.heap.size w (w.alloc (.map #[] 0)) ∧ w.heap.size ≤ w.heap.size := ⟨MapF.made _ _, below_alloc (Below.refl _ _) _, Nat.le_refl _⟩
  have hmm := @run_makeMap Tryz.prog
  go_enter Tryz.func37, Tryz.ntmps37
  go_wp2_with (first
    | (refine wpList_insert_f _ rfl _ _ _ _ rfl 5 _ .u8 Tryz.underlying90 Tryz.underlying5 _ _ _ _ rfl hM _ _ rfl rfl (by rfl) ?_; clear hM; intro wm hM; simp only [List.nil_append, List.cons_append] at hM)
    | (refine wpList_lookup_f _ rfl _ _ _ rfl 5 _ .u8 Tryz.underlying90 Tryz.underlying5 _ _ _ _ rfl hM _ _ rfl (by rfl) ?_; have HM := Aside0.mk hM.2.1; clear hM)
    | (go_at_call 46; refine (numbers_h _).mono ?_; rintro e w2 ⟨sl, rfl, hR, hB⟩; have HR := Aside0.mk hR; have HB := Aside0.mk hB; obtain ⟨sb, c, rfl, hs1, hs2, hs3⟩ := Kd.R_form hR (by simp); have HS := Aside0.mk hs1; clear hR hB hs1 hs2 hs3))
  have hb : Below w.heap.size w w2 := below_step HM.out HB.out
  have c0 : w2.cell? ⟨sb, 0, none⟩ = some (.int .i64 1) := by obtain ⟨ad, e0, hx⟩ := Kd.at_int (Kd.R_reads' HR.out).2.2 0 (by decide) (by decide); cases e0; exact hx
  have c1 : w2.cell? ⟨sb, 1, none⟩ = some (.int .i64 1) := by obtain ⟨ad, e0, hx⟩ := Kd.at_int (Kd.R_reads' HR.out).2.2 1 (by decide) (by decide); cases e0; exact hx
  have hsp : sb ≠ p := by have h1 := blk_lt HT.out.bp; have h2 := HM.out.size; have h3 := HS.out; omega
  refine (move_calls sb c w2 (HT.out.below hb) c0 c1 hsp).mono ?_
  rintro e w4 ⟨rfl, hT4, hF4⟩
  have HT4 := Aside0.mk hT4
  have HF4 := Aside0.mk ((Fr.of_below (p := p) (g := g) hb).trans hF4)
  clear hT4 hF4
  go_wp2
  refine bodyPost_end (results_none rfl _ _ _) rfl ?_
  exact ⟨rfl, HT4.out, HF4.out⟩
set_option maxHeartbeats 1000000 in
set_option maxRecDepth 100000 in
theorem seqM_calls {base p g cap : Nat} {x y : S41} {wt : Value} (w : World) (h : Tm w base p g cap 0 0 0 x y wt) :
    Calls Tryz.prog 37 #[.pointer (some ⟨p, 0, none⟩), .string ⟨#[48]⟩, .int .u8 109] w fun e w' => e = .returned (.tuple #[]) ∧ Tm w' base p g cap 0 0 0 x y wt ∧ Fr p g w w' := by
  have HT := Aside0.mk h
  clear h
  have hM : MapF (w.alloc (.map #[] 0)) w.heap.size .u8 [] ∧ Below w.heap.size w (w.alloc (.map #[] 0)) ∧ w.heap.size ≤ w.heap.size := ⟨MapF.made _ _, below_alloc (Below.refl _ _) _, Nat.le_refl _⟩
  have hmm := @run_makeMap Tryz.prog
  go_enter Tryz.func37, Tryz.ntmps37
  go_wp2_with (first
    | (refine wpList_insert_f _ rfl _ _ _ _ rfl 5 _ .u8 Tryz.underlying90 Tryz.underlying5 _ _ _ _ rfl hM _ _ rfl rfl (by rfl) ?_; clear hM; intro wm hM; simp only [List.nil_append, List.cons_append] at hM)
    | (refine wpList_lookup_f _ rfl _ _ _ rfl 5 _ .u8 Tryz.underlying90 Tryz.underlying5 _ _ _ _ rfl hM _ _ rfl (by rfl) ?_; have HM := Aside0.mk hM.2.1; clear hM)
    | (go_at_call 46; refine (numbers_m _).mono ?_; rintro e w2 ⟨sl, rfl, hR, hB⟩; have HR := Aside0.mk hR; have HB := Aside0.mk hB; obtain ⟨sb, c, rfl, hs1, hs2, hs3⟩ := Kd.R_form hR (by simp); have HS := Aside0.mk hs1; clear hR hB hs1 hs2 hs3))
  have hb : Below w.heap.size w w2 := below_step HM.out HB.out
  have c0 : w2.cell? ⟨sb, 0, none⟩ = some (.int .i64 0) := by obtain ⟨ad, e0, hx⟩ := Kd.at_int (Kd.R_reads' HR.out).2.2 0 (by decide) (by decide); cases e0; exact hx
  have hsp : sb ≠ p := by have h1 := blk_lt HT.out.bp; have h2 := HM.out.size; have h3 := HS.out; omega
  refine (dresses_calls sb c w2 (HT.out.below hb) c0 hsp).mono ?_
  rintro e w4 ⟨rfl, hT4, hF4⟩
  have HT4 := Aside0.mk hT4
  have HF4 := Aside0.mk ((Fr.of_below (p := p) (g := g) hb).trans hF4)
  clear hT4 hF4
  go_wp2
  refine bodyPost_end (results_none rfl _ _ _) rfl ?_
  exact ⟨rfl, HT4.out, HF4.out⟩
end Go.Proofs.YtaicpljgijjenaaGreatDoor.Hand
