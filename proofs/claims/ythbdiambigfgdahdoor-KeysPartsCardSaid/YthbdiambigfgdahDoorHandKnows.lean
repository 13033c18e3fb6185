/- styluslaw20.knows answers true; no condition. -/
import Derived.Test.YthbdiambigfgdahDoorHandFeed
import Derived.Test.YthbdiambigfgdahDoorWEqStruct
import Derived.Laws.StructEq
import Derived.Lib.SmallJoins
namespace Go.Proofs.YthbdiambigfgdahDoor.Hand
open Go.RowKit Go.Proofs.YthbdiambigfgdahDoorW.PrintWords Go.Proofs.YthbdiambigfgdahDoorW.PrintLast Go.Proofs.YthbdiambigfgdahDoorW.PrintMore Go.Proofs.YthbdiambigfgdahDoor.PKeysParts
open Keys Ut Go.Joins
set_option linter.unusedVariables false
set_option linter.unusedSimpArgs false

theorem eqA30 (d : Nat) (w : World) (x0 y0 : Int) (x1 y1 : Int) (x2 y2 : Int) :
    (Op.equalIn (d + 2) 30 (.agg #[.int .i64 x0, .int .i32 x1, .int .i64 x2]) (.agg #[.int .i64 y0, .int .i32 y1, .int .i64 y2])).run Tryd.prog w = .ok (x0 == y0 && (x1 == y1 && (x2 == y2))) w := by
  refine eqA_of Tryd.underlying30 (by kernel_rfl) ?_
  refine eqf_cons (by rfl) (by go_simp; rfl) (by go_simp; rfl) (by go_simp) ?_
  refine eqf_cons (by rfl) (by go_simp; rfl) (by go_simp; rfl) (by go_simp) ?_
  exact eqf_last (by rfl) (by go_simp; rfl) (by go_simp; rfl) (by go_simp)

def ex : List Int := [27, 91, 49, 59, 53, 67, 27, 120]
theorem feed_ex : feed told ex = ([(9, 0, 4), (1, 120, 2)], []) := by decide +kernel
theorem St_new (w : World) : St (w.alloc (.cells #[.slice none 0 0] 33)) w.heap.size w.heap.size [] := ⟨_, blk_new w _, Nat.le_refl _, Kd.R_nil _ _ _ _ _⟩

/-- Where the keys of a row of its own lie. -/
theorem keys_at {W : World} {base : Nat} {v : Value} {l : List S30} (h : Kd.R k30 30 W base (fun _ => True) v l) (h0 : 0 < l.length) :
    ∃ b c, v = .slice (some ⟨b, 0, none⟩) l.length c ∧ l.length ≤ c ∧ ∀ j (hj : j < l.length), W.cell? ⟨b, j * 3, none⟩ = some (.int .i64 l[j].f0) ∧ W.cell? ⟨b, j * 3 + 1, none⟩ = some (.int .i32 l[j].f1) ∧ W.cell? ⟨b, j * 3 + 2, none⟩ = some (.int .i64 l[j].f2) := by
  obtain ⟨A, c, rfl⟩ := Kd.R_slice h
  obtain ⟨_, hc, hr⟩ := Kd.R_reads' h
  obtain ⟨inner, ho⟩ := Kd.R_own h
  obtain ⟨b, rfl⟩ : ∃ b, A = some ⟨b, 0, none⟩ := by
    rcases ho.2 with ⟨e, e2⟩ | ⟨b, cap, cur, e, _⟩
    · simp only [Value.slice.injEq] at e
      have := e.2.1
      omega
    · simp only [Value.slice.injEq] at e; exact ⟨b, e.1⟩
  refine ⟨b, c, rfl, hc, fun j hj => ?_⟩
  obtain ⟨ad, e, h1, h2, h3⟩ := at_T30 hr (j : Int) (by omega) (by omega)
  cases e
  have hrd : rd_T30 l (j : Int) = l[j] := by simp [rd_T30, hj]
  rw [hrd] at h1 h2 h3
  simp only [Int.toNat_natCast, add_plain] at h1 h2 h3
  exact ⟨h1, h2, h3⟩
theorem C_lit (W : World) (g : Nat) (l : List Int) (fr : Nat × Nat) (hl : l.length ≤ 1000) (h : W.heap[g]? = some (.cells (l.map (Value.int .u8)).toArray 5 fr)) : Kd.C (Kd.int .u8) W (some ⟨g, 0, none⟩) l.length l := by
  refine Kd.C_of_reads (enc := Value.int .u8) (d := (0 : Int)) (h1 := fun _ => rfl) ⟨rfl, by omega, fun _ => ⟨_, rfl, fun j hj => ?_⟩⟩
  rw [add_plain, cell_of_block h j]
  simp [hj]

set_option maxHeartbeats 800000 in
set_option maxRecDepth 100000 in
theorem knows_calls (w : World) : Calls Tryd.prog 5 #[] w fun e w' => e = .returned (.bool true) ∧ Below w.heap.size w w' := by
  have hnew := new_calls w
  have hl : Aside0 ([] ++ ex = ex) := ⟨rfl⟩
  have hby : Aside0 (∀ x ∈ ex, Byte x) := ⟨by unfold Byte; decide⟩
  have he := fun w a b c d e f => eqA30 9998 w a b c d e f
  have hcv := run_convert_bytes_const_at (P := Tryd.prog) (w.alloc (.cells #[.slice none 0 0] 33)) 22 5 #[.int .u8 27, .int .u8 91, .int .u8 49, .int .u8 59, .int .u8 53, .int .u8 67, .int .u8 27, .int .u8 120] 8 8 (w.heap.size + 1) (by simp) Tryd.underlying22 Tryd.underlying5
  have hca := fun w => run_convert_bytes_const_at (P := Tryd.prog) w 22 5 #[.int .u8 97] 1 1 w.heap.size rfl Tryd.underlying22 Tryd.underlying5
  go_enter Tryd.func5, Tryd.ntmps5
  go_upto_region 5 with (go_at_call 4; refine hnew.mono ?_; rintro e w1 ⟨rfl, rfl⟩)
  obtain ⟨W2, hW2⟩ : ∃ W2, W2 = (w.alloc (.cells #[.slice none 0 0] 33)).alloc (.cells (ex.map (Value.int .u8)).toArray 5 (8, 9)) := ⟨_, rfl⟩
  have hrow : W2.heap[w.heap.size + 1]? = some (.cells (ex.map (Value.int .u8)).toArray 5 (8, 9)) := by rw [hW2]; simpa using blk_new (w.alloc (.cells #[.slice none 0 0] 33)) (.cells (ex.map (Value.int .u8)).toArray 5 (8, 9))
  have hC := C_lit W2 (w.heap.size + 1) ex (8, 9) (by decide) hrow
  have hS : St W2 w.heap.size w.heap.size [] := by rw [hW2]; exact (St_new w).below (below_alloc (Below.refl _ _) _)
  have hB2 : Below w.heap.size w W2 := by rw [hW2]; exact below_alloc (below_alloc (Below.refl _ _) _) _
  have hcall := feed_calls w.heap.size w.heap.size [] (some ⟨w.heap.size + 1, 0, none⟩) 8 ex W2 hS hB2.size hC (by decide) ex rfl hby.out (by decide)
  rw [feed_ex] at hcall
  rw [hW2] at hcall
  have hlen2 : (w.alloc (.cells #[.slice none 0 0] 33)).heap.size = w.heap.size + 1 := by simp
  change Calls Tryd.prog 6 #[.pointer (some ⟨w.heap.size, 0, none⟩), .slice (some ⟨w.heap.size + 1, 0, none⟩) 8 8] ((w.alloc (.cells #[.slice none 0 0] 33)).alloc (.cells #[.int .u8 27, .int .u8 91, .int .u8 49, .int .u8 59, .int .u8 53, .int .u8 67, .int .u8 27, .int .u8 120] 5 (8, 9))) _ at hcall
  have hBW := Aside0.mk hB2
  rw [hW2] at hBW
  clear hW2 hrow hC hS hB2 hlen2
  go_upto_region 8 with (first | (go_at_call 6; refine hcall.mono ?_; rintro e w3 ⟨v, rfl, hR, hS3, hF⟩; obtain ⟨b, cv, ev, hcv2, hat⟩ := keys_at hR (by decide); obtain rfl : v = .slice (some ⟨b, 0, none⟩) 2 cv := ev; have a0 := hat 0 (by decide); have a1 := hat 1 (by decide); simp [kS] at a0 a1; obtain ⟨a00, a01, a02⟩ := a0; obtain ⟨a10, a11, a12⟩ := a1; have HF := Aside0.mk hF; have HR := Aside0.mk hR; have HS3 := Aside0.mk hS3; clear hF hat hR hS3 hcv2))
  have HC := Aside0.mk hcall
  clear hcall hcv hnew
  have hca3 := hca w3
  clear hca
  go_wp2_with (go_at_call 6; refine (feed_nil_calls _ _ _ _).mono ?_; rintro e w5 ⟨rfl, rfl⟩)
  go_ret
  exact ⟨rfl, below_alloc (hBW.out.trans (HF.out.1)) _⟩
end Go.Proofs.YthbdiambigfgdahDoor.Hand
