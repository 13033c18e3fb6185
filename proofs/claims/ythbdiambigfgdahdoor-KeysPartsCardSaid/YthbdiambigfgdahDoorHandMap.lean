/- Maps of whole numbers that a call makes and reads: stored into at a new key, looked up; no condition. -/
import Derived.Test.YthbdiambigfgdahDoorHandNum
import Derived.Maps.OwnOps
namespace Go.Proofs.YthbdiambigfgdahDoor.Hand
open Go Go.RowKit Go.Maps Go.ChangeMaps Go.MapKept

/-- Block b is a map that holds these pairs, in this order. -/
def MapIs (w : World) (b : Nat) (q : IntKind) (l : List (Int × Int)) : Prop :=
  ∃ es clock, w.heap[b]? = some (.map es clock) ∧ es.toList.map (fun e => (e.key, e.val)) = l.map (fun p => (Value.int q p.1, Value.int .i64 p.2))
def look (l : List (Int × Int)) (x : Int) : Int := match l with
  | [] => 0
  | (a, v) :: r => if x = a then v else look r x

theorem find_no (q : IntKind) (d : IntKind) (x : Int) : ∀ (es : List MapEntry) (l : List (Int × Int)) (i : Nat), es.map (fun e => (e.key, e.val)) = l.map (fun p => (Value.int q p.1, Value.int .i64 p.2)) → (∀ p ∈ l, x ≠ p.1) →
    Instr.findNow (.int d) (.int q x) es i = some none
  | [], l, i, _, _ => rfl
  | e :: es, [], i, h, _ => by simp at h
  | e :: es, (a, v) :: l, i, h, hn => by
    simp only [List.map_cons, List.cons.injEq, Prod.mk.injEq] at h
    obtain ⟨⟨h1, _⟩, h2⟩ := h
    have hx : x ≠ a := hn (a, v) (by simp)
    have ih := find_no q d x es l (i + 1) h2 (fun p hp => hn p (by simp [hp]))
    have hxb : (x == a) = false := beq_eq_false_iff_ne.2 hx
    simp only [Instr.findNow, h1, Instr.sameNow, if_true, hxb, ih]
theorem find_yes (q : IntKind) (d : IntKind) (x : Int) : ∀ (es : List MapEntry) (l : List (Int × Int)) (i : Nat), es.map (fun e => (e.key, e.val)) = l.map (fun p => (Value.int q p.1, Value.int .i64 p.2)) →
    (Instr.findNow (.int d) (.int q x) es i = some none ∧ look l x = 0) ∨ ∃ j, Instr.findNow (.int d) (.int q x) es i = some (some (j, .int .i64 (look l x)))
  | [], [], i, _ => .inl ⟨rfl, rfl⟩
  | [], (a, v) :: l, i, h => by simp at h
  | e :: es, [], i, h => by simp at h
  | e :: es, (a, v) :: l, i, h => by
    simp only [List.map_cons, List.cons.injEq, Prod.mk.injEq] at h
    obtain ⟨⟨h1, h3⟩, h2⟩ := h
    by_cases hx : x = a
    · exact .inr ⟨i, by simp [Instr.findNow, h1, Instr.sameNow, hx, h3, look]⟩
    · have hxb : (x == a) = false := beq_eq_false_iff_ne.2 hx
      rcases find_yes q d x es l (i + 1) h2 with ⟨ih, il⟩ | ⟨j, ih⟩
      · exact .inl ⟨by simp only [Instr.findNow, h1, Instr.sameNow, if_true, hxb, ih], by simp [look, hx, il]⟩
      · exact .inr ⟨j, by simp only [Instr.findNow, h1, Instr.sameNow, if_true, hxb, ih, look, if_neg hx]⟩

section
variable {P : Program} {w : World} {b : Nat} {q : IntKind} {l : List (Int × Int)} {t k e : TypeId}
theorem check_k (w : World) (em : Bool) (hk : P.underlying k = some (.int q)) (x : Int) : (Instr.checkKey em 10000 k (.int q x)).run P w = .ok () w := run_checkKey hk (show IsKey (.int q) (.int q x) from rfl) em 9999
theorem MapIs.made (w : World) (q : IntKind) : MapIs (w.alloc (.map #[] 0)) w.heap.size q [] := ⟨#[], 0, (MapKept.heap_alloc w _).1, rfl⟩
theorem MapIs.update (h : MapIs w b q l) (ht : P.underlying t = some (.map k e)) (hk : P.underlying k = some (.int q)) (x v : Int) (hn : ∀ p ∈ l, x ≠ p.1) :
    ∃ w', (Instr.mapUpdate t (.map (some b)) (.int q x) (.int .i64 v)).run P w = .ok () w' ∧ MapIs w' b q (l ++ [(x, v)]) ∧ w.grownBy w' (some b) := by
  obtain ⟨es, clock, hb, he⟩ := h
  have hf := find_no q q x es.toList l 0 he hn
  refine ⟨_, ?_, ⟨es.push ⟨.int q x, .int .i64 v, clock⟩, clock + 1, heap_setBlock_same hb _, by simp [he]⟩, ⟨rfl, rfl, rfl, by simp [setBlock], fun i _ hi => heap_setBlock_other hb _ (fun e => hi (by rw [e]))⟩⟩
  simp [Instr.mapUpdate, run_underlying ht, MapKept.run_getObj_map hb, check_k w false hk x, run_findKey hk hf, MapKept.run_setObj_map _ hb, Result.andThen, setBlock]
theorem MapIs.lookup (h : MapIs w b q l) (ht : P.underlying t = some (.map k e)) (hk : P.underlying k = some (.int q)) (hz : (zeroValue e).run P w = .ok (.int .i64 0) w) (x : Int) :
    (Instr.lookup t (.map (some b)) (.int q x) false).run P w = .ok (.int .i64 (look l x)) w := by
  obtain ⟨es, clock, hb, he⟩ := h
  rcases find_yes q q x es.toList l 0 he with ⟨hf, hl⟩ | ⟨j, hf⟩
  · simp [Instr.lookup, run_underlying ht, MapKept.run_getObj_map hb, check_k _ _ hk x, run_findKey hk hf, hz, hl, Result.andThen]
  · simp [Instr.lookup, run_underlying ht, MapKept.run_getObj_map hb, check_k _ _ hk x, run_findKey hk hf, Result.andThen]
end

/-- A store of a literal's entry, at the operation. -/
theorem wpList_insert_lit {P : Program} (w : World) {ops : Array Oper} {rest : List Oper} {o : Oper} {a : Act} {Q : Exit → Act → World → Prop}
    (hg : o.guard = none) (m : Operand) (x v : Operand) (t : TypeId) (hop : o.op = Op.insert t m x v)
    (k e : TypeId) (q : IntKind) (ht : P.underlying t = some (.map k e)) (hk : P.underlying k = some (.int q)) (b : Nat) (l : List (Int × Int)) (B : Nat) (w0 : World)
    (hm : a.eval m = .map (some b)) (h : MapIs w b q l ∧ Below B w0 w ∧ B ≤ b) (xi vi : Int) (hx : a.eval x = .int q xi) (hv : a.eval v = .int .i64 vi) (hn : (l.all fun p => !(xi == p.1)) = true)
    (hK : ∀ w', (MapIs w' b q (l ++ [(xi, vi)]) ∧ Below B w0 w' ∧ B ≤ b) → wpList P ops Q rest (a.put o.dst undef) w') :
    wpList P ops Q (o :: rest) a w := by
  refine wpList_plain hg fun K' hK' => ?_
  obtain ⟨w', hrun, r1, r2⟩ := h.1.update ht hk xi vi (fun p hp => by have := List.all_eq_true.1 hn p hp; simpa using this)
  have hlt : b < w.heap.size := by obtain ⟨es, cl, hb, _⟩ := h.1; exact (Array.getElem?_eq_some_iff.1 hb).1
  unfold Oper.wp
  simp [execOp, hop, hm, hx, hv, hrun, Result.andThen]
  exact hK' _ _ (hK w' ⟨r1, h.2.1.grown r2 (Nat.le_trans h.2.2 (Nat.le_of_lt hlt)) (fun j hj => by cases hj; exact h.2.2), h.2.2⟩)
end Go.Proofs.YthbdiambigfgdahDoor.Hand
