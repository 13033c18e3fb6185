/- A slice literal of many structs: what the machine lays down for it, once its cells are told. -/
import Derived.Test.YthbdiambigfgdacProg
import Derived.Test.YthbdiambigfgdacWMore
import Derived.Test.YthbdiambigfgdacWWords
import Derived.Test.YthbdiambigfgdacWRepsOne
import Derived.ArgAppend
import Derived.KernelRfl
import Derived.Tactics
namespace Go.Proofs.Ythbdiambigfgdac.Hand
open Go.RowKit Go.Proofs.YthbdiambigfgdacW.PrintWords Go.Proofs.YthbdiambigfgdacW.PrintMore

theorem run_lit {P : Program} {ev : Operand → Value} {o : Oper} {t e : TypeId} {len : Nat} {parts : Array (Nat × Operand)} {z : Value} {size bytes : Nat} (ho : o.op = .buildSlice t len parts)
    (ht : P.underlying t = some (.slice e)) (hinfo : (P.info? e).map (fun i => (i.zero, i.size, i.bytes)) = some (some z, size, bytes)) (h0 : ¬ len * size = 0) (h1 : len * size ≤ 2 ^ 24) (cells : Array Value)
    (hf : Instr.fill (fun i => some (i * size, size)) ((Array.range (len * size)).map fun j => z.cells[j % z.cells.size]!) (parts.map fun p => (p.1, ev p.2)).toList = some cells) (W : World) :
    (execOp ev o).run P W = .ok (.value (.slice (some ⟨W.heap.size, 0, none⟩) len len)) (W.alloc (.cells cells e)) := by
  obtain ⟨i0, hi, hzz⟩ := Option.map_eq_some_iff.1 hinfo
  simp only [Prod.mk.injEq] at hzz
  obtain ⟨hz0, hz1, hz2⟩ := hzz
  subst hz1
  have h1' : ¬ (16777216 < len * i0.size) := by omega
  simp only [Array.toList_map] at hf
  simp [execOp, ho, hf, Result.andThen, Instr.buildSlice, run_underlying ht, sizeOf, typeInfo, hi, h0, h1', zeroValue, hz0, newRow]

/-- Structs of four cells, one behind another. -/
theorem reps4 {α : Type} {R : α → List Value → Prop} {f : α → List Value} (hf : ∀ x, ∃ a b c d, f x = [a, b, c, d]) (hR : ∀ x, R x (f x)) : ∀ xs : List α, Reps R 4 xs (xs.flatMap f)
  | [] => Reps.none _ _
  | x :: xs => by
    obtain ⟨a, b, c, d, e⟩ := hf x
    have h := hR x
    rw [e] at h
    rw [List.flatMap_cons, e]
    exact Reps.c4 h (reps4 hf hR xs)
theorem build_struct {P : Program} {t : TypeId} {fs : Array Field} {z : Value} {pl : Array (Nat × Nat)} (hu : P.underlying t = some (.struct fs)) (hz : ∀ w, (zeroValue t).run P w = .ok z w)
    (hp : ∀ w, (fs.mapM fun f => Prod.mk f.offset <$> sizeOf f.type : Sem _).run P w = .ok pl w) (ps : Array (Nat × Value)) (cells : Array Value) (hf : Instr.fill (fun i => pl[i]?) z.cells ps.toList = some cells) (w : World) :
    (Instr.build t ps).run P w = .ok (.agg cells) w := by
  simp [Instr.build, run_underlying hu, hz, hp, hf, Result.andThen]

def runB (P : Program) (T : TypeId → Option (Array Value × Array (Nat × Nat))) : List Oper → Act → Option Act
  | [], a => some a
  | o :: r, a =>
    match o.guard, o.op with
    | none, .build t ps =>
      match T t with
      | some (z, pl) =>
        match Instr.fill (fun i => pl[i]?) z (ps.map fun p => (p.1, a.eval p.2)).toList with
        | some cells => runB P T r (a.put o.dst (.agg cells))
        | none => none
      | none => none
    | none, .assign x => runB P T r (a.put o.dst (a.eval x))
    | _, _ => none

theorem wpList_builds {P : Program} {T : TypeId → Option (Array Value × Array (Nat × Nat))} (hT : ∀ t z pl, T t = some (z, pl) → ∀ ps cells, Instr.fill (fun i => pl[i]?) z ps.toList = some cells → ∀ w, (Instr.build t ps).run P w = .ok (.agg cells) w)
    {ops : Array Oper} {Q : Exit → Act → World → Prop} {rest : List Oper} {w : World} : ∀ (pre : List Oper) (a a' : Act), runB P T pre a = some a' → wpList P ops Q rest a' w → wpList P ops Q (pre ++ rest) a w
  | [], a, a', h, hr => by
    simp only [runB, Option.some.injEq] at h
    subst h
    exact hr
  | o :: r, a, a', h, hr => by
    simp only [runB] at h
    split at h
    · rename_i t ps hgd hop
      split at h
      · rename_i z pl hTt
        split at h
        · rename_i cells hf
          have hrun := hT t z pl hTt _ cells hf
          have ih := wpList_builds hT r _ a' h hr
          rw [List.cons_append]
          refine wpList_plain hgd fun K hK' => ?_
          unfold Oper.wp
          simp [execOp, hop, hrun, Result.andThen]
          exact hK' _ _ ih
        · cases h
      · cases h
    · rename_i x hgd hop
      have ih := wpList_builds hT r _ a' h hr
      rw [List.cons_append]
      refine wpList_plain hgd fun K hK' => ?_
      unfold Oper.wp
      simp [execOp, hop]
      exact hK' _ _ ih
    · cases h
theorem wpList_builds_n {P : Program} {T : TypeId → Option (Array Value × Array (Nat × Nat))} (hT : ∀ t z pl, T t = some (z, pl) → ∀ ps cells, Instr.fill (fun i => pl[i]?) z ps.toList = some cells → ∀ w, (Instr.build t ps).run P w = .ok (.agg cells) w)
    {ops : Array Oper} {Q : Exit → Act → World → Prop} {l : List Oper} {w : World} {a : Act} (n : Nat) (a' : Act) (h : runB P T (l.take n) a = some a') (hr : wpList P ops Q (l.drop n) a' w) : wpList P ops Q l a w := by
  rw [← List.take_append_drop n l]
  exact wpList_builds hT _ a a' h hr

/-- The struct types of this program's literals: their zero cells, their fields' places. -/
def tab : TypeId → Option (Array Value × Array (Nat × Nat))
  | 39 => some (#[.int .i64 0, .int .i32 0, .int .i64 0, .int .i64 0], #[(0, 1), (1, 1), (2, 1), (3, 1)])
  | 23 => some (#[.int .i64 0, .int .i32 0, .int .i64 0], #[(0, 1), (1, 1), (2, 1)])
  | 43 => some (#[.int .i64 0, .int .i32 0, .int .i64 0, .int .i64 0], #[(0, 3), (3, 1)])
  | _ => none
theorem tab_ok : ∀ t z pl, tab t = some (z, pl) → ∀ ps cells, Instr.fill (fun i => pl[i]?) z ps.toList = some cells → ∀ w, (Instr.build t ps).run Try.prog w = .ok (.agg cells) w := by
  intro t z pl h ps cells hf w
  unfold tab at h
  split at h
  · simp only [Option.some.injEq, Prod.mk.injEq] at h
    obtain ⟨rfl, rfl⟩ := h
    refine build_struct (z := .agg #[.int .i64 0, .int .i32 0, .int .i64 0, .int .i64 0]) Try.underlying39 (fun w => by go_simp) (fun w => by go_simp) ps cells hf w
  · simp only [Option.some.injEq, Prod.mk.injEq] at h
    obtain ⟨rfl, rfl⟩ := h
    refine build_struct (z := .agg #[.int .i64 0, .int .i32 0, .int .i64 0]) Try.underlying23 (fun w => by go_simp) (fun w => by go_simp) ps cells hf w
  · simp only [Option.some.injEq, Prod.mk.injEq] at h
    obtain ⟨rfl, rfl⟩ := h
    refine build_struct (z := .agg #[.int .i64 0, .int .i32 0, .int .i64 0, .int .i64 0]) Try.underlying43 (fun w => by go_simp) (fun w => by go_simp) ps cells hf w
  · cases h

theorem lit_big {α : Type} {P : Program} {ops : Array Oper} {rest : List Oper} {o : Oper} {a : Act} {Q : Exit → Act → World → Prop} {W : World} (d : Kd α) {t e : TypeId} {len : Nat} {parts : Array (Nat × Operand)} {z : Value} {size bytes : Nat}
    (hgd : o.guard = none) (ho : o.op = .buildSlice t len parts) (hu : P.underlying t = some (.slice e)) (hinfo : (P.info? e).map (fun i => (i.zero, i.size, i.bytes)) = some (some z, size, bytes)) (h0 : ¬ len * size = 0) (h1 : len * size ≤ 2 ^ 24)
    (xs : List α) (f : α → List Value) (hlen : xs.length = len) (hf : Instr.fill (fun i => some (i * size, size)) ((Array.range (len * size)).map fun j => z.cells[j % z.cells.size]!) (parts.map fun p => (p.1, a.eval p.2)).toList = some (xs.flatMap f).toArray)
    (hrep : Reps (d.M W W.heap.size (fun _ => True)) d.sz xs (xs.flatMap f))
    (h : ∀ v1 w1, d.R e w1 W.heap.size (fun _ => True) v1 xs → Below W.heap.size W w1 → wpList P ops Q rest (a.put o.dst v1) w1) : wpList P ops Q (o :: rest) a W := by
  subst hlen
  have hm : xs.length ≤ 9223372036854775807 := by
    have : 0 < size := Nat.pos_of_ne_zero fun e => h0 (by rw [e, Nat.mul_zero])
    have := Nat.le_mul_of_pos_right xs.length this
    omega
  exact Kd.event_run hgd (run_lit ho hu hinfo h0 h1 _ hf W) (by
    have hown := World.ownsRow_lit (base := W.heap.size) (e := e) (size := d.sz) W (xs.flatMap f).toArray xs.length (Nat.le_refl _) (by simpa [maxLen] using hm) (by simpa using hrep.1)
    refine h _ _ ⟨fun k _ => trivial, xs.flatMap f, by simpa using hown, ?_⟩ ((Below.refl _ W).alloc (Nat.le_refl _) _)
    refine hrep.imp_ (fun p c hp => d.M_mono (fun k hk => ⟨trivial, fun he => ?_⟩) (Kd.M_below (d.M_bound hp) (below_alloc (Below.refl _ _) _)))
    have h3 : k = W.heap.size := by simpa [Value.ownBlock] using he
    have := hk.2.2.1
    omega)
theorem info39 : (Try.prog.info? 39).map (fun i => (i.zero, i.size, i.bytes)) = some (some (.agg #[(.int .i64 0), (.int .i32 0), (.int .i64 0), (.int .i64 0)]), 4, 32) := by kernel_rfl
theorem info43 : (Try.prog.info? 43).map (fun i => (i.zero, i.size, i.bytes)) = some (some (.agg #[(.int .i64 0), (.int .i32 0), (.int .i64 0), (.int .i64 0)]), 4, 32) := by kernel_rfl
end Go.Proofs.Ythbdiambigfgdac.Hand
