/- The terminal's step at the four places of the bytes that the statement's example reaches, by hand; no condition beyond the forms. -/
import Derived.Test.YtaicpljgijjenaaGreatDoorHandSeq
import Derived.Test.YtaicpljgijjenaaGreatDoorHandPut
namespace Go.Proofs.YtaicpljgijjenaaGreatDoor.Hand
open Go.RowKit Go.Proofs.YtaicpljgijjenaaGreatDoorW.PrintWords Go.Proofs.YtaicpljgijjenaaGreatDoorW.PrintLast Go.Proofs.YtaicpljgijjenaaGreatDoorW.PrintMore Go.Proofs.YtaicpljgijjenaaGreatDoor.PVtP
set_option linter.unusedVariables false
set_option linter.unusedSimpArgs false

def bs : List Int := [27, 91, 49, 59, 49, 72, 27, 91, 48, 109, 97, 98]
/-- The twelve bytes lie in block ab. -/
def Bs (w : World) (ab : Nat) : Prop := ∀ j, j < 12 → w.cell? ⟨ab, j, none⟩ = some (.int .u8 (bs.getD j 0))
theorem Bs.fr {w w' : World} {ab p g : Nat} (h : Bs w ab) (hp : ab ≠ p) (hg : ab ≠ g) (hf : Fr p g w w') : Bs w' ab := fun j hj =>
  (World.cell?_of_block (hf.block ab (World.block_lt_of_cell? _ _ (h j hj)) hp hg)).trans (h j hj)
theorem Bs.str {w : World} {ab : Nat} (h : Bs w ab) (o n c : Nat) (ho : o + n ≤ 12) :
    (convert 26 9 (.slice (some ⟨ab, o, none⟩) n c)).run Tryz.prog w = .ok (.string (strOfNums ((bs.drop o).take n))) w := by
  have hl : ((bs.drop o).take n).length = n := by rw [List.length_take, List.length_drop]; show min n (12 - o) = n; omega
  refine Kd.C_string Tryz.underlying26 Tryz.underlying5 Tryz.underlying9 (xs := (bs.drop o).take n) ?_
  refine Kd.C_of_reads (enc := Value.int .u8) (d := (0 : Int)) (h1 := fun _ => rfl) ⟨hl, by omega, fun _ => ⟨_, rfl, fun j hj => ?_⟩⟩
  have ea : (⟨ab, o, none⟩ : Addr).add j = ⟨ab, o + j, none⟩ := by unfold Addr.add; split <;> simp_all
  rw [ea, h (o + j) (by omega)]
  congr 2
  simp only [List.getD_eq_getElem?_getD, List.getElem?_take, List.getElem?_drop, if_pos hj]

set_option maxHeartbeats 1000000 in
set_option maxRecDepth 100000 in
theorem step_A {base p g cap : Nat} {sty : Int} {x y : S41} {wt : Value} (ab c : Nat) (w : World) (h : Tm w base p g cap 0 0 sty x y wt) (hb : Bs w ab) (hc : 12 ≤ c) :
    Calls Tryz.prog 23 #[.pointer (some ⟨p, 0, none⟩), .slice (some ⟨ab, 0, none⟩) 12 c] w fun e w' => e = .returned (.int .i64 6) ∧ Tm w' base p g cap 0 0 sty x y wt ∧ Fr p g w w' := by
  have HT := Aside0.mk h
  have hB := Aside0.mk hb
  clear h
  have h0 : w.cell? ⟨ab, 0, none⟩ = some (.int .u8 27) := hb 0 (by decide)
  have h1 : w.cell? ⟨ab, 1, none⟩ = some (.int .u8 91) := hb 1 (by decide)
  have hc2 : ¬ c - 2 = 0 := by omega
  have hc3 : 2 ≤ c := by omega
  clear hb
  go_enter Tryz.func23, Tryz.ntmps23
  go_wp2
  go_loopg [46] 4 (fun gg v46 w' => ∃ (i : Nat), i ≤ 3 ∧ 4 - i ≤ gg ∧ v46 = .int .i64 i ∧ Aside0 (w' = w))
  case atStart => exact ⟨0, by omega, by omega, rfl, ⟨rfl⟩⟩
  case round =>
    obtain ⟨i, hi, hg, rfl, hw⟩ := hrel
    obtain rfl := hw.out
    clear h0 h1
    rcases (by omega : i = 0 ∨ i = 1 ∨ i = 2 ∨ i = 3) with rfl | rfl | rfl | rfl
    · have hx : wr.cell? ⟨ab, 2, none⟩ = some (.int .u8 49) := hB.out 2 (by decide)
      go_wp2
      go_roundg 3
      case measure => omega
      case rel => exact ⟨1, by omega, by omega, by go_num, ⟨rfl⟩⟩
    · have hx : wr.cell? ⟨ab, 3, none⟩ = some (.int .u8 59) := hB.out 3 (by decide)
      go_wp2
      go_roundg 2
      case measure => omega
      case rel => exact ⟨2, by omega, by omega, by go_num, ⟨rfl⟩⟩
    · have hx : wr.cell? ⟨ab, 4, none⟩ = some (.int .u8 49) := hB.out 4 (by decide)
      go_wp2
      go_roundg 1
      case measure => omega
      case rel => exact ⟨3, by omega, by omega, by go_num, ⟨rfl⟩⟩
    · have hx : wr.cell? ⟨ab, 5, none⟩ = some (.int .u8 72) := hB.out 5 (by decide)
      have hst := hB.out.str 2 3 (c - 2) (by decide)
      rw [show strOfNums ((bs.drop 2).take 3) = ⟨#[49, 59, 49]⟩ from by decide +kernel] at hst
      go_wp2_with (go_at_call 37; refine (seqH_calls wr HT.out).mono ?_; rintro e w2 ⟨rfl, hT2, hF2⟩; have HT2 := Aside0.mk hT2; have HF2 := Aside0.mk hF2; clear hT2 hF2)
      go_ret
      exact ⟨rfl, HT2.out, HF2.out⟩

set_option maxHeartbeats 1000000 in
set_option maxRecDepth 100000 in
theorem step_B {base p g cap : Nat} {x y : S41} {wt : Value} (ab c : Nat) (w : World) (h : Tm w base p g cap 0 0 0 x y wt) (hb : Bs w ab) (hc : 6 ≤ c) :
    Calls Tryz.prog 23 #[.pointer (some ⟨p, 0, none⟩), .slice (some ⟨ab, 6, none⟩) 6 c] w fun e w' => e = .returned (.int .i64 4) ∧ Tm w' base p g cap 0 0 0 x y wt ∧ Fr p g w w' := by
  have HT := Aside0.mk h
  have hB := Aside0.mk hb
  clear h
  have h0 : w.cell? ⟨ab, 6, none⟩ = some (.int .u8 27) := hb 6 (by decide)
  have h1 : w.cell? ⟨ab, 7, none⟩ = some (.int .u8 91) := hb 7 (by decide)
  have hc2 : ¬ c - 2 = 0 := by omega
  have hc3 : 2 ≤ c := by omega
  clear hb
  go_enter Tryz.func23, Tryz.ntmps23
  go_wp2
  go_loopg [46] 2 (fun gg v46 w' => ∃ (i : Nat), i ≤ 1 ∧ 2 - i ≤ gg ∧ v46 = .int .i64 i ∧ Aside0 (w' = w))
  case atStart => exact ⟨0, by omega, by omega, rfl, ⟨rfl⟩⟩
  case round =>
    obtain ⟨i, hi, hg, rfl, hw⟩ := hrel
    obtain rfl := hw.out
    clear h0 h1
    rcases (by omega : i = 0 ∨ i = 1) with rfl | rfl
    · have hx : wr.cell? ⟨ab, 8, none⟩ = some (.int .u8 48) := hB.out 8 (by decide)
      go_wp2
      go_roundg 1
      case measure => omega
      case rel => exact ⟨1, by omega, by omega, by go_num, ⟨rfl⟩⟩
    · have hx : wr.cell? ⟨ab, 9, none⟩ = some (.int .u8 109) := hB.out 9 (by decide)
      have hst := hB.out.str 8 1 (c - 2) (by decide)
      rw [show strOfNums ((bs.drop 8).take 1) = ⟨#[48]⟩ from by decide +kernel] at hst
      go_wp2_with (go_at_call 37; refine (seqM_calls wr HT.out).mono ?_; rintro e w2 ⟨rfl, hT2, hF2⟩; have HT2 := Aside0.mk hT2; have HF2 := Aside0.mk hF2; clear hT2 hF2)
      go_ret
      exact ⟨rfl, HT2.out, HF2.out⟩

set_option maxHeartbeats 1000000 in
set_option maxRecDepth 100000 in
theorem step_C {base p g cap : Nat} {wt : Value} (ab c : Nat) (w : World) (h : Tm w base p g cap 0 0 0 ⟨32, 0⟩ ⟨32, 0⟩ wt) (hb : Bs w ab) (hc : 2 ≤ c) :
    Calls Tryz.prog 23 #[.pointer (some ⟨p, 0, none⟩), .slice (some ⟨ab, 10, none⟩) 2 c] w fun e w' => e = .returned (.int .i64 1) ∧ Tm w' base p g cap 0 1 0 ⟨97, 0⟩ ⟨32, 0⟩ wt ∧ Fr p g w w' := by
  have HT := Aside0.mk h
  clear h
  have h0 : w.cell? ⟨ab, 10, none⟩ = some (.int .u8 97) := hb 10 (by decide)
  have hf := first_calls2 ab 10 c 97 w h0 hc (by omega) (by omega)
  clear hb
  go_enter Tryz.func23, Tryz.ntmps23
  go_wp2_with (first
    | (go_at_call 35; refine hf.mono ?_; rintro e w1 ⟨rfl, hb1⟩; have HT1 := Aside0.mk (HT.out.below hb1); have HF1 := Aside0.mk (Fr.of_below (p := p) (g := g) hb1); clear hb1)
    | (go_at_call 36; refine (put_calls0 _ HT1.out).mono ?_; rintro e w2 ⟨rfl, hT2, hF2⟩; have HT2 := Aside0.mk hT2; have HF2 := Aside0.mk (HF1.out.trans hF2); clear hT2 hF2))
  go_ret
  exact ⟨rfl, HT2.out, HF2.out⟩

set_option maxHeartbeats 1000000 in
set_option maxRecDepth 100000 in
theorem step_D {base p g cap : Nat} {wt : Value} (ab c : Nat) (w : World) (h : Tm w base p g cap 0 1 0 ⟨97, 0⟩ ⟨32, 0⟩ wt) (hb : Bs w ab) (hc : 1 ≤ c) :
    Calls Tryz.prog 23 #[.pointer (some ⟨p, 0, none⟩), .slice (some ⟨ab, 11, none⟩) 1 c] w fun e w' => e = .returned (.int .i64 1) ∧ Tm w' base p g cap 0 2 0 ⟨97, 0⟩ ⟨98, 0⟩ wt ∧ Fr p g w w' := by
  have HT := Aside0.mk h
  clear h
  have h0 : w.cell? ⟨ab, 11, none⟩ = some (.int .u8 98) := hb 11 (by decide)
  have hf := first_calls1 ab 11 c 98 w h0 hc (by omega) (by omega)
  clear hb
  go_enter Tryz.func23, Tryz.ntmps23
  go_wp2_with (first
    | (go_at_call 35; refine hf.mono ?_; rintro e w1 ⟨rfl, hb1⟩; have HT1 := Aside0.mk (HT.out.below hb1); have HF1 := Aside0.mk (Fr.of_below (p := p) (g := g) hb1); clear hb1)
    | (go_at_call 36; refine (put_calls1 _ HT1.out).mono ?_; rintro e w2 ⟨rfl, hT2, hF2⟩; have HT2 := Aside0.mk hT2; have HF2 := Aside0.mk (HF1.out.trans hF2); clear hT2 hF2))
  go_ret
  exact ⟨rfl, HT2.out, HF2.out⟩
end Go.Proofs.YtaicpljgijjenaaGreatDoor.Hand
