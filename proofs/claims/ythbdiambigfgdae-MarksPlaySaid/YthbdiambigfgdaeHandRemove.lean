/- (*Marks).Remove: where the number is nowhere, and where it is. -/
import Derived.Test.YthbdiambigfgdaeHandDelete
import Derived.Test.YthbdiambigfgdaePMarksReadx3
namespace Go.Proofs.Ythbdiambigfgdae.Hand
open Go.RowKit Go.Proofs.YthbdiambigfgdaeW.PrintWords Go.Proofs.YthbdiambigfgdaeW.PrintMore Go.Proofs.Ythbdiambigfgdae.PMarksRead

set_option maxHeartbeats 1000000 in
set_option maxRecDepth 100000 in
theorem Remove_none (base g : Nat) (l : List S94) (last : Int) (k : Nat) (nr i : Int) (w : World) (h : St w base g l last) (hf : marks_Marks_find.f k l last nr = some (i, false)) :
    Calls Try.prog 12 #[.pointer (some ⟨g, 0, none⟩), .int .i64 nr] w fun e w' => e = .returned (.int .i64 4) ∧ Below w.heap.size w w' := by
  obtain ⟨A, c, hb, hlc, hlen, hr⟩ := h.view
  have hcon1 := marks_Marks_find.calls k g A c l last nr i false w hr hlc hb hf
  clear h hb hr hf
  go_enter Try.func12, Try.ntmps12
  go_wp2_with (go_at_call 50; ((with_reducible refine hcon1.mono ?_); rintro e w' ⟨rfl, hb⟩))
  go_ret
  exact ⟨rfl, hb⟩

set_option maxHeartbeats 2000000 in
set_option maxRecDepth 100000 in
theorem Remove_one (base g : Nat) (l : List S94) (last : Int) (k : Nat) (nr : Int) (j : Nat) (w : World) (h : St w base g l last) (hb0 : base ≤ w.heap.size) (hf : marks_Marks_find.f k l last nr = some ((j : Int), true)) (hj : j < l.length) :
    Calls Try.prog 12 #[.pointer (some ⟨g, 0, none⟩), .int .i64 nr] w fun e w' => e = .returned (.int .i64 0) ∧ St w' base g (l.eraseIdx j) last ∧ Fr base g w w' := by
  obtain ⟨A, c, hb, hlc, hlen, hr⟩ := h.view
  have hcon1 := marks_Marks_find.calls k g A c l last nr (j : Int) true w hr hlc hb hf
  obtain ⟨v0, s1, t2, s3⟩ := h
  have e0 : v0 = .slice A l.length c := by
    rw [hb] at s1
    simp at s1
    exact s1.symm
  subst e0
  obtain ⟨b, rfl⟩ : ∃ b, A = some ⟨b, 0, none⟩ := by
    obtain ⟨inner, ho⟩ := Kd.R_own s3
    rcases ho.2 with ⟨e, e2⟩ | ⟨b, cap, cur, e, _⟩
    · omega
    · simp only [Value.slice.injEq] at e
      exact ⟨b, e.1⟩
  have hgb : g ≠ b := fun e => Kd.R_ne s3 s1 (by decide) (by rw [e]; rfl)
  have hjw : wrap64 ((j : Int) + 1) = (j : Int) + 1 := by unfold wrap64; omega
  have S0 := Aside0.mk s1
  have S3 := Aside0.mk s3
  have hst := Aside0.mk (fun w' (hb' : Below w.heap.size w w') => cells_90 ((hb'.block g (blk_lt hb)).trans hb))
  clear hb hr hf s1 s3
  go_enter Try.func12, Try.ntmps12
  go_wp2_with (first | (go_at_call 50; ((with_reducible refine hcon1.mono ?_); rintro e w1 ⟨rfl, HB⟩; obtain ⟨d0, d1, d2, d3⟩ := hst.out _ HB; have S1 := Aside0.mk ((HB.block g (blk_lt S0.out)).trans S0.out); have hcon2 := delete_calls base b c j l w1 (Kd.R_below S3.out HB) hj (Nat.le_trans hb0 HB.size))) | (go_at_call 51; ((with_reducible refine hcon2.mono ?_); rintro e w2 ⟨rfl, hR2, hB2, hk2⟩; have hg2 := (hk2 g (blk_lt S1.out) hgb).trans S1.out; obtain ⟨f0, f1, f2, f3⟩ := cells_90 hg2)))
  go_ret
  refine ⟨rfl, ⟨_, by simpa using blk_set hg2 0 (.slice (some ⟨b, 0, none⟩) (l.length - 1) c), t2, Kd.R_set hR2 hg2 (by decide) 0 _⟩, ((HB.mono hb0).trans hB2).setCell (p := ⟨g, 0, none⟩) t2 _, fun i hi hig hn => ?_⟩
  refine (Below.heap_setCell w2 ⟨g, 0, none⟩ _ i hig).trans ((hk2 i (Nat.lt_of_lt_of_le hi HB.size) (fun e => ?_)).trans (HB.block i hi))
  obtain ⟨cells, hcb⟩ := Kd.R_typed S3.out b rfl
  exact hn cells (e ▸ hcb)
end Go.Proofs.Ythbdiambigfgdae.Hand
