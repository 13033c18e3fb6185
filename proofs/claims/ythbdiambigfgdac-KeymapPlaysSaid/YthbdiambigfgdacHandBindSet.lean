/- (*Map).Bind where the key is bound already: its command is turned, in place. -/
import Derived.Test.YthbdiambigfgdacHandBind
namespace Go.Proofs.Ythbdiambigfgdac.Hand
open Go.RowKit Go.Proofs.YthbdiambigfgdacW.PrintWords Go.Proofs.YthbdiambigfgdacW.PrintMore Go.Proofs.Ythbdiambigfgdac.PKeymapFinds

/-- What a deed may turn: what lies from base on: the map itself, and rows of binds. -/
def Fr (base g : Nat) (w w' : World) : Prop := Below base w w' ∧ ∀ i, i < w.heap.size → i ≠ g → (∀ cs, w.heap[i]? ≠ some (.cells cs 43 (0, 0))) → w'.heap[i]? = w.heap[i]?

theorem row_fz {W : World} {base b cc n : Nat} {l : List S43} (h : Kd.R k43 43 W base (fun _ => True) (.slice (some ⟨b, 0, none⟩) n cc) l) (o : Nat) : W.frozen? ⟨b, o, none⟩ = false := by
  obtain ⟨cells, hb⟩ := Kd.R_typed h b rfl
  simp [World.frozen?, hb]

set_option maxHeartbeats 2000000 in
theorem Bind_set (k : S23) (c : Int) (base g : Nat) (l : List S43) (K j : Nat) (w : World) (h : St w base g l) (hb0 : base ≤ w.heap.size) (hc : keymap_Is.f K c = some true) (hi : idxFrom (isKey k) 0 l = (j : Int)) (hj : j < l.length) :
    Calls Try.prog 13 #[.pointer (some ⟨g, 0, none⟩), keyV k, .int .i64 c] w fun e w' => e = .returned (.int .i64 0) ∧ St w' base g (l.set j ⟨l[j].f0, c⟩) ∧ Fr base g w w' := by
  have hB0 : Below w.heap.size w (w.alloc (.cells #[.int .i64 k.f0, .int .i32 k.f1, .int .i64 k.f2] 23)) := (Below.refl _ w).alloc (Nat.le_refl _) _
  have hcon1 := fun W (hb : Below w.heap.size w W) => find_calls k base g l W (h.below hb)
  obtain ⟨A, b, cc, hcell, hA, hC, hlc, hlen⟩ := h.view
  obtain rfl := hA (by omega)
  have hcell' : ∀ w', Below w.heap.size w w' → w'.cell? ⟨g, 0, none⟩ = some (.slice (some ⟨b, 0, none⟩) l.length cc) := fun w' hb => by
    rw [hb.cell (p := ⟨g, 0, none⟩) (World.block_lt_of_cell? w _ hcell), hcell]
  have hst : ∀ w', Below w.heap.size w w' → w'.heap[g]? = some (.cells #[.slice (some ⟨b, 0, none⟩) l.length cc] 46 (0, 0)) ∧ base ≤ g ∧ Kd.R k43 43 w' base (fun _ => True) (.slice (some ⟨b, 0, none⟩) l.length cc) l := fun w' hb => by
    obtain ⟨v, s1, s2, s3⟩ := h.below hb
    have := hcell' w' hb
    simp only [World.cell?, s1] at this
    simp at this
    subst this
    exact ⟨s1, s2, s3⟩
  have hbox : Box (w.alloc (.cells #[.int .i64 k.f0, .int .i32 k.f1, .int .i64 k.f2] 23)) w.heap.size k := ⟨by simp, by simp, by simp, by simp⟩
  have hib : decide (0 ≤ (j : Int)) = true := decide_eq_true (by omega)
  have hjb : decide ((j : Int) < (l.length : Int)) = true := decide_eq_true (by omega)
  have hsz : w.heap.size ≤ (w.alloc (.cells #[.int .i64 k.f0, .int .i32 k.f1, .int .i64 k.f2] 23)).heap.size := by simp
  clear h hA hcell
  rw [hi] at hcon1
  unfold keyV at hcon1 ⊢
  have hcc := Aside0.mk hcell'
  have hcn := Aside0.mk hcon1
  have hs0 := Aside0.mk hst
  have hCC := Aside0.mk hC
  clear hcell' hcon1 hst hC
  go_enter Try.func13, Try.ntmps13
  go_wp2_with (first | (go_at_call 9; ((with_reducible refine (keymap_Is.calls K c true _ hc).mono ?_); rintro e w' ⟨rfl, hd⟩; have hb := drawn_below' hd; obtain ⟨hx, b0, b1, b2⟩ := hbox.below hb; have HB := hB0.trans (hb.mono hsz); clear hd)) | (go_at_call 15; ((with_reducible refine (hcn.out _ HB).mono ?_); rintro e w' ⟨rfl, hb⟩; replace HB := HB.trans (hb.mono HB.size); have d0 := hcc.out _ HB; have d3 := ((hCC.out.below HB) j hj).2.2.2; have S1 := Aside0.mk (hs0.out _ HB); have W1 := Aside0.mk HB; have fz := row_fz S1.out.2.2 (j * 4 + 3))))
  go_ret
  have DD := (hCC.out.below HB) j hj
  obtain ⟨s1, s2, s3⟩ := S1.out
  obtain ⟨r1, r2⟩ := Kd.R_seg (d := k43) (x' := ⟨l[j].f0, c⟩) (seg := [.int .i64 c]) (j := 3) (c := [.int .i64 l[j].f0.f0, .int .i32 l[j].f0.f1, .int .i64 l[j].f0.f2, .int .i64 l[j].f1]) (okp := fun _ => False) s3 (j : Int) (by omega) (by omega) rfl (fun q u hq => by
    match q, hq with
    | 0, hq => simp at hq; subst hq; exact DD.1
    | 1, hq => simp at hq; subst hq; exact DD.2.1
    | 2, hq => simp at hq; subst hq; exact DD.2.2.1
    | 3, hq => simp at hq; subst hq; exact DD.2.2.2
    | q + 4, hq => simp at hq) (Nat.le_refl 4) (k43_mkM _ _ _ (⟨l[j].f0, c⟩ : S43)) (fun _ hk => hk.elim)
  have hw := (hs0.out w (Below.refl _ w)).2.2
  obtain ⟨cells, hcb⟩ := Kd.R_typed hw b rfl
  have hgb : g ≠ b := by
    intro e
    subst e
    have h1 := (hs0.out w (Below.refl _ w)).1
    rw [hcb] at h1
    simp at h1
  refine ⟨rfl, ⟨_, (r2.block g (blk_lt s1) (by simpa using hgb)).trans s1, s2, r1⟩, (W1.out.mono hb0).setCell (p := ⟨b, j * 4 + 3, none⟩) (Kd.R_base hw b rfl) _, fun i hi hig hn => ?_⟩
  have hib' : i ≠ b := fun e => hn cells (e ▸ hcb)
  exact (Below.heap_setCell w' ⟨b, j * 4 + 3, none⟩ (.int .i64 c) i hib').trans (W1.out.block i hi)
end Go.Proofs.Ythbdiambigfgdac.Hand
