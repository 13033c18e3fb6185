/- The terminal's Write of the bytes that the statement's example reaches, by hand; no condition beyond the forms. -/
import Derived.Test.YtaicpljgijjenaaGreatDoorHandStep
namespace Go.Proofs.YtaicpljgijjenaaGreatDoor.Hand
open Go.RowKit Go.Proofs.YtaicpljgijjenaaGreatDoorW.PrintWords Go.Proofs.YtaicpljgijjenaaGreatDoorW.PrintLast Go.Proofs.YtaicpljgijjenaaGreatDoorW.PrintMore Go.Proofs.YtaicpljgijjenaaGreatDoor.PVtP
set_option linter.unusedVariables false
set_option linter.unusedSimpArgs false
theorem info5 : (Tryz.prog.info? 5).map (fun i => (i.zero, i.size, i.bytes)) = some (some (.int .u8 0), 1, 1) := by kernel_rfl

set_option maxHeartbeats 1000000 in
set_option maxRecDepth 100000 in
theorem write_calls {base p g cap : Nat} (A : Option Addr) (cb : Nat) (w : World) (h : Tm w base p g cap 0 0 0 ⟨32, 0⟩ ⟨32, 0⟩ (.slice none 0 0)) (hr : Kd.C (Kd.int .u8) w A 12 bs) :
    Calls Tryz.prog 12 #[.pointer (some ⟨p, 0, none⟩), .slice A 12 cb] w fun e w' => e = .returned (.tuple #[]) ∧ (∃ wt, Tm w' base p g cap 0 2 0 ⟨97, 0⟩ ⟨98, 0⟩ wt) ∧ Fr p g w w' := by
  have HT := Aside0.mk h
  have HR := Aside0.mk hr
  have p6 : w.cell? ⟨p, 6, none⟩ = some (.slice none 0 0) := (blk_cell h.bp 6).trans rfl
  clear h hr
  go_enter Tryz.func12, Tryz.ntmps12
  go_wp2_with ((with_reducible refine gate_dst (N := 13) rfl ?_); refine Kd.R_append_rows (Kd.int .u8) (w0 := w) w.heap.size rfl (.tmp 11) (.tmp 12) 26 5 (.int .u8 0) 1 rfl Tryz.underlying26 info5 rfl (by decide) (by omega) (.slice none 0 0) [] bs _ _ _ (fun _ => True) (fun _ => False) rfl rfl (Kd.R_nil _ _ _ _ _) HR.out ?aM (fun _ h => h.elim) (fun _ _ => trivial) (Below.refl _ _) (Nat.le_refl _) ?aL ?_; (case aM => exact fun x cs h => h); (case aL => simp); intro v1 w1 hR1 hB1 hg1 hn1; have HR1 := Aside0.mk hR1; have HB1 := Aside0.mk hB1; clear hg1 hn1; obtain ⟨ab, c, rfl, hs1, hs2, hs3⟩ := Kd.R_form hR1 (by decide); have HS1 := Aside0.mk hs1; have hcb := (Kd.R_reads' hR1).2.1; clear hR1 hB1 hs1 hs2 hs3)
  clear p6 HR
  have hc12 : 12 ≤ c := hcb
  have HT1 := Aside0.mk (HT.out.below HB1.out)
  have hap := Aside0.mk (show ab ≠ p from by have h1 := blk_lt HT.out.bp; have h2 := HS1.out; omega)
  have hag := Aside0.mk (show ab ≠ g from by have h1 := HT.out.gb; have h2 := HS1.out; omega)
  have HBs := Aside0.mk (show Bs w1 ab from fun j hj => by obtain ⟨ad, e0, hx⟩ := Kd.at_int (Kd.R_reads' HR1.out).2.2 (j : Int) (by omega) (by show (j : Int) < 12; omega); cases e0; rw [Int.toNat_natCast, add_plain] at hx; rw [hx]; rfl)
  have hl12 : ([] ++ bs : List Int).length = 12 := rfl
  go_wp2
  go_loopg [4] 4 (fun gg v4 w' => Aside0 (Fr p g w1 w') ∧ Aside0 (Bs w' ab) ∧ ((gg = 4 ∧ v4 = .slice (some ⟨ab, 0, none⟩) 12 (c - 0) ∧ Aside0 (Tm w' base p g cap 0 0 0 ⟨32, 0⟩ ⟨32, 0⟩ (.slice none 0 0))) ∨ (gg = 3 ∧ v4 = .slice (some ⟨ab, 6, none⟩) 6 (c - 6) ∧ Aside0 (Tm w' base p g cap 0 0 0 ⟨32, 0⟩ ⟨32, 0⟩ (.slice none 0 0))) ∨ (gg = 2 ∧ v4 = .slice (some ⟨ab, 10, none⟩) 2 (c - 10) ∧ Aside0 (Tm w' base p g cap 0 0 0 ⟨32, 0⟩ ⟨32, 0⟩ (.slice none 0 0))) ∨ (gg = 1 ∧ v4 = .slice (some ⟨ab, 11, none⟩) 1 (c - 11) ∧ Aside0 (Tm w' base p g cap 0 1 0 ⟨97, 0⟩ ⟨32, 0⟩ (.slice none 0 0))) ∨ (gg = 0 ∧ (∃ A c', v4 = .slice A 0 c') ∧ Aside0 (Tm w' base p g cap 0 2 0 ⟨97, 0⟩ ⟨98, 0⟩ (.slice none 0 0)))))
  case atStart => exact ⟨⟨Fr.refl _ _ _⟩, HBs, .inl ⟨rfl, rfl, HT1⟩⟩
  case round =>
    obtain ⟨HFr, HBr, hst⟩ := hrel
    clear HT1 HBs
    rcases hst with ⟨hgg, rfl, HTm⟩ | ⟨hgg, rfl, HTm⟩ | ⟨hgg, rfl, HTm⟩ | ⟨hgg, rfl, HTm⟩ | ⟨hgg, ⟨A', c', rfl⟩, HTm⟩
    · have hc0 : ¬ c - 0 - 6 = 0 := by omega
      have hle : 12 ≤ c - 0 := by omega
      go_wp2_with (go_at_call 23; refine (step_A ab (c - 0) _ HTm.out HBr.out (by omega)).mono ?_; rintro e w3 ⟨rfl, hT3, hF3⟩; have HT3 := Aside0.mk hT3; have HF3 := Aside0.mk (HFr.out.trans hF3); have HB3 := Aside0.mk (HBr.out.fr hap.out hag.out hF3); clear hT3 hF3)
      go_roundg 3
      case measure => omega
      case rel => exact ⟨HF3, HB3, .inr (.inl ⟨rfl, by rw [show c - 6 = c - 0 - 6 from by omega], ⟨HT3.out⟩⟩)⟩
    · have hc0 : ¬ c - 6 - 4 = 0 := by omega
      have hle : 6 ≤ c - 6 := by omega
      go_wp2_with (go_at_call 23; refine (step_B ab (c - 6) _ HTm.out HBr.out (by omega)).mono ?_; rintro e w3 ⟨rfl, hT3, hF3⟩; have HT3 := Aside0.mk hT3; have HF3 := Aside0.mk (HFr.out.trans hF3); have HB3 := Aside0.mk (HBr.out.fr hap.out hag.out hF3); clear hT3 hF3)
      go_roundg 2
      case measure => omega
      case rel => exact ⟨HF3, HB3, .inr (.inr (.inl ⟨rfl, by rw [show c - 10 = c - 6 - 4 from by omega], ⟨HT3.out⟩⟩))⟩
    · have hc0 : ¬ c - 10 - 1 = 0 := by omega
      have hle : 2 ≤ c - 10 := by omega
      go_wp2_with (go_at_call 23; refine (step_C ab (c - 10) _ HTm.out HBr.out (by omega)).mono ?_; rintro e w3 ⟨rfl, hT3, hF3⟩; have HT3 := Aside0.mk hT3; have HF3 := Aside0.mk (HFr.out.trans hF3); have HB3 := Aside0.mk (HBr.out.fr hap.out hag.out hF3); clear hT3 hF3)
      go_roundg 1
      case measure => omega
      case rel => exact ⟨HF3, HB3, .inr (.inr (.inr (.inl ⟨rfl, by rw [show c - 11 = c - 10 - 1 from by omega], ⟨HT3.out⟩⟩)))⟩
    · rcases (by omega : c - 11 = 1 ∨ 2 ≤ c - 11) with h11 | h11
      · rw [h11]
        go_wp2_with (go_at_call 23; refine (step_D ab 1 _ HTm.out HBr.out (by omega)).mono ?_; rintro e w3 ⟨rfl, hT3, hF3⟩; have HT3 := Aside0.mk hT3; have HF3 := Aside0.mk (HFr.out.trans hF3); have HB3 := Aside0.mk (HBr.out.fr hap.out hag.out hF3); clear hT3 hF3)
        go_roundg 0
        case measure => omega
        case rel => exact ⟨HF3, HB3, .inr (.inr (.inr (.inr (⟨rfl, ⟨_, _, rfl⟩, ⟨HT3.out⟩⟩))))⟩
      · have hc0 : ¬ c - 11 - 1 = 0 := by omega
        have hle : 1 ≤ c - 11 := by omega
        go_wp2_with (go_at_call 23; refine (step_D ab (c - 11) _ HTm.out HBr.out (by omega)).mono ?_; rintro e w3 ⟨rfl, hT3, hF3⟩; have HT3 := Aside0.mk hT3; have HF3 := Aside0.mk (HFr.out.trans hF3); have HB3 := Aside0.mk (HBr.out.fr hap.out hag.out hF3); clear hT3 hF3)
        go_roundg 0
        case measure => omega
        case rel => exact ⟨HF3, HB3, .inr (.inr (.inr (.inr (⟨rfl, ⟨_, _, rfl⟩, ⟨HT3.out⟩⟩))))⟩
    · have hc6 : wr.cell? ⟨p, 6, none⟩ = some (.slice none 0 0) := (blk_cell HTm.out.bp 6).trans rfl
      have hf6 := blk_frozen HTm.out.bp 6
      go_wp2_with (first | ((with_reducible refine gate_dst (N := 26) rfl ?_); refine Kd.R_lit (Kd.int .u8) (w0 := wr) wr.heap.size 5 ?hg (N := 26) ?hd (xs := ([] : List Int)) (inner := []) (ok := fun _ => True) (okp := fun _ => True) ?hr ?hp (fun _ hk => hk) trivial (Below.refl _ _) (Nat.le_refl _) (by simp) ?_; (case hd => rfl); (case hg => rfl); (case hr => first | (go_simp; done) | (go_simp; rfl)); (case hp => exact (Reps.none _ _)); intro v2 w2 hR2 hB2 hg2 hn2; obtain ⟨A2, c2, rfl⟩ := Kd.R_slice hR2) | ((with_reducible refine gate_dst (N := 28) rfl ?_); refine Kd.R_append_rows (Kd.int .u8) (Rr := (Kd.int .u8).K w2) (w0 := wr) wr.heap.size rfl (.tmp 26) (.tmp 27) 26 5 (.int .u8 0) 1 rfl Tryz.underlying26 info5 rfl (by decide) (by omega) _ [] [] _ _ _ (fun _ => True) (fun _ => False) rfl rfl hR2 ?aC ?aM (fun _ h => h.elim) (fun _ _ => trivial) hB2 hB2.size ?aL ?_; (case aC => exact ⟨rfl, by omega, fun h => absurd h (by omega)⟩); (case aM => exact fun x cs h => h); (case aL => simp); intro v3 w3 hR3 hB3 hg3 ha3; obtain ⟨A3, c3, rfl⟩ := Kd.R_slice hR3; have HT3 := Aside0.mk (HTm.out.below hB3); have HF3 := Aside0.mk (HFr.out.trans (Fr.of_below hB3)); clear hR3 hB3 hg3 ha3 hR2 hB2 hg2 hn2 hc6 hf6; have hc6 : w3.cell? ⟨p, 6, none⟩ = some (.slice none 0 0) := (blk_cell HT3.out.bp 6).trans rfl; have hf6 := blk_frozen HT3.out.bp 6))
      refine bodyPost_end (results_none rfl _ _ _) rfl ?_
      exact ⟨rfl, ⟨_, HT3.out.setp 6 _ rfl⟩, (Fr.of_below HB1.out).trans (HF3.out.trans (Fr.setp _ _ _))⟩
end Go.Proofs.YtaicpljgijjenaaGreatDoor.Hand
