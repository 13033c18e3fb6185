/- KeymapFinds, the plain law: the map as at first finds what the document's row finds; both tell alike which numbers are commands. -/
import Derived.Test.YthbdiambigfgdacHandLaw
namespace Go.Proofs.Ythbdiambigfgdac.Pure
open Go.RowKit Go.Proofs.Ythbdiambigfgdac.PKeymapFinds Go.Proofs.YthbdiambigfgdacW.PrintWords Go.Proofs.YthbdiambigfgdacW.PrintLast
open Hand

theorem i64_of (x : Int) (h : (Lit.int .i64 x).wf = true) : -9223372036854775808 ≤ x ∧ x ≤ 9223372036854775807 := by
  simp [Lit.wf, IntKind.min, IntKind.max, IntKind.signed, IntKind.bits] at h; exact ⟨by omega, by omega⟩
theorem wrap_of (x : Int) (h : -9223372036854775808 ≤ x ∧ x ≤ 9223372036854775807) : wrap64 x = x := by unfold wrap64; omega

def conv (x : S43) : S39 := ⟨x.f0.f0, x.f0.f1, x.f0.f2, x.f1⟩
theorem first_eq : stylusref21_First.l = binds0.map conv := by rfl

theorem at_l0 (l : List S43) (hl : l.length ≤ 100000) (q : S23) (d : Nat) : ∀ (k i : Nat), i ≤ l.length → l.length - i = d → d < k → stylusref21_At.l0 k (l.map conv) q.f0 q.f1 q.f2 i = some (idxFrom (isKey q) i (l.drop i)) := by
  induction d with
  | zero =>
    intro k i h0 hd hk
    obtain ⟨k, rfl⟩ : ∃ m, k = m + 1 := ⟨k - 1, by omega⟩
    simp only [stylusref21_At.l0]
    rw [if_neg (by rw [List.length_map]; omega), List.drop_eq_nil_of_le (by omega)]
    rfl
  | succ d ih =>
    intro k i h0 hd hk
    obtain ⟨k, rfl⟩ : ∃ m, k = m + 1 := ⟨k - 1, by omega⟩
    have hi : i < l.length := by omega
    have hrd : rd_T39 (l.map conv) (i : Int) = conv l[i] := by simp [rd_T39, hi]
    have step := ih k (i + 1) (by omega) (by omega) (by omega)
    simp only [stylusref21_At.l0]
    rw [if_pos (by rw [List.length_map]; omega), if_pos (by omega), hrd, wrap_of _ (by omega), show ((i : Int) + 1) = ((i + 1 : Nat) : Int) by omega, step, List.drop_eq_getElem_cons hi]
    simp only [idxFrom, isKey, conv]
    by_cases h1 : l[i].f0.f0 = q.f0
    · by_cases h2 : l[i].f0.f1 = q.f1
      · by_cases h3 : l[i].f0.f2 = q.f2
        · simp [h1, h2, h3]
        · simp [h1, h2, h3]
      · simp [h1, h2]
    · simp [h1]
theorem at_eq (l : List S43) (hl : l.length ≤ 100000) (q : S23) (k : Nat) (hk : l.length < k) : stylusref21_At.f k (l.map conv) q.f0 q.f1 q.f2 = some (idxFrom (isKey q) 0 l) := by
  unfold stylusref21_At.f
  exact at_l0 l hl q l.length k 0 (by omega) (by omega) hk

theorem refRight_eq (r : Int) : stylusref01_Right.f r = some (okB r) := by
  unfold stylusref01_Right.f okB
  (repeat' split) <;> (congr 1; first | (rw [eq_comm, decide_eq_true_eq]; omega) | (rw [eq_comm, decide_eq_false_iff_not]; omega) | (rw [decide_eq_decide]; omega))

theorem find_eq (q : S23) (l : List S43) (hl : l.length ≤ 100000) (k : Nat) (hk : l.length < k) : stylusref21_Find.f k (l.map conv) q.f0 q.f1 q.f2 = some (findV q l) := by
  unfold stylusref21_Find.f findV elseV
  have hlt := idxFrom_lt (isKey q) l 0
  rw [at_eq l hl q k hk, refRight_eq]
  simp only [Option.bind_some]
  generalize idxFrom (isKey q) 0 l = i at hlt ⊢
  by_cases hi : 0 ≤ i
  · obtain ⟨j, rfl⟩ : ∃ j : Nat, i = (j : Int) := ⟨i.toNat, by omega⟩
    have hj : j < l.length := by omega
    rw [if_pos (by omega), if_pos (by omega), if_pos (by rw [List.length_map]; omega), if_pos (by omega)]
    simp [rd_T39, rd_T43, hj, conv]
  · rw [if_neg (by omega), if_neg hi]
    generalize okB q.f1 = b
    (repeat' split) <;> first | rfl | (exfalso; simp_all; done) | (exfalso; simp_all; omega)

theorem is_small : (List.range 100).all (fun n => keymap_Is.f 12 (n : Int) == stylusref21_Is.f 12 (n : Int) && (keymap_Is.f 12 (n : Int)).isSome) = true := by decide +kernel
theorem is_eq (c : Int) (hc : -9223372036854775808 ≤ c ∧ c ≤ 9223372036854775807) (k : Nat) (hk : 12 ≤ k) : ∃ b, keymap_Is.f k c = some b ∧ stylusref21_Is.f k c = some b := by
  by_cases h0 : 0 ≤ c ∧ c < 100
  · obtain ⟨n, rfl⟩ : ∃ n : Nat, c = (n : Int) := ⟨c.toNat, by omega⟩
    have hn : n ∈ List.range 100 := List.mem_range.2 (by omega)
    have := List.all_eq_true.1 is_small n hn
    simp only [Bool.and_eq_true, beq_iff_eq] at this
    obtain ⟨h1, h2⟩ := this
    obtain ⟨b, hb⟩ := Option.isSome_iff_exists.1 h2
    exact ⟨b, at_rounds (keymap_Is.mono _) hk hb, at_rounds (stylusref21_Is.mono _) hk (h1 ▸ hb)⟩
  · refine ⟨false, at_rounds (keymap_Is.mono _) hk ?_, at_rounds (stylusref21_Is.mono _) hk ?_⟩
    · by_cases hneg : c < 0
      · have a1 : ¬ 0 ≤ c := by omega
        have a2 : ¬ 10 < c := by omega
        have a3 : ¬ 30 < c := by omega
        have a4 : ¬ 51 ≤ c := by omega
        have a5 : ¬ 61 ≤ c := by omega
        have a6 : ¬ 71 ≤ c := by omega
        have a7 : ¬ 81 ≤ c := by omega
        have a8 : ¬ 91 ≤ c := by omega
        simp [keymap_Is.f, keymap_Is.j0, keymap_Is.j1, keymap_Is.j2, keymap_Is.j3, keymap_Is.j4, keymap_Is.j5, a1, a2, a3, a4, a5, a6, a7, a8]
      · have a1 : 0 ≤ c := by omega
        have a2 : 10 < c := by omega
        have a4 : 51 ≤ c := by omega
        have a5 : 61 ≤ c := by omega
        have a6 : 71 ≤ c := by omega
        have a7 : 81 ≤ c := by omega
        have a8 : 91 ≤ c := by omega
        have b0 : ¬ c ≤ 4 := by omega
        have b1 : ¬ c ≤ 20 := by omega
        have a3 : 30 < c := by omega
        have b2 : ¬ c ≤ 40 := by omega
        have b3 : ¬ c ≤ 56 := by omega
        have b4 : ¬ c ≤ 62 := by omega
        have b5 : ¬ c ≤ 74 := by omega
        have b6 : ¬ c ≤ 83 := by omega
        have b7 : ¬ c ≤ 93 := by omega
        simp [keymap_Is.f, keymap_Is.j0, keymap_Is.j1, keymap_Is.j2, keymap_Is.j3, keymap_Is.j4, keymap_Is.j5, a1, a2, a3, a4, a5, a6, a7, a8, b0, b1, b2, b3, b4, b5, b6, b7]
    · by_cases hneg : c < 0
      · unfold stylusref21_Is.f
        rw [if_pos hneg]
      · have ht : Int.tdiv c 10 = c / 10 := Int.tdiv_eq_ediv_of_nonneg (by omega)
        unfold stylusref21_Is.f
        rw [if_neg hneg, if_neg (by omega), if_neg (by omega), ht, wrap_of _ (by omega)]
        have e : (c == 40) = false := beq_eq_false_iff_ne.mpr (by omega)
        have e2 : (c / 10 == 3) = false := beq_eq_false_iff_ne.mpr (by omega)
        rw [e]
        simp only [stylusref21_Is.j0, stylusref21_Is.j1]
        rw [if_neg (by decide), if_neg (by omega), e2, if_neg (by decide), if_neg (by omega), if_neg (by omega), if_neg (by omega), if_neg (by omega), if_neg (by omega)]

theorem KeymapFinds (q : S23) (c : Int) (hc : (Lit.int .i64 c).wf = true) : ∃ (l : List S39) (v : Int) (b : Bool) (KK : Nat), findV q binds0 = v ∧ stylusref21_First.f = some l ∧ stylusref21_Find.f KK l q.f0 q.f1 q.f2 = some v ∧ keymap_Is.f KK c = some b ∧ stylusref21_Is.f KK c = some b := by
  obtain ⟨b, h1, h2⟩ := is_eq c (i64_of c hc) 100 (by omega)
  refine ⟨stylusref21_First.l, _, b, 100, rfl, rfl, ?_, h1, h2⟩
  rw [first_eq]
  exact find_eq q binds0 (by decide) 100 (by decide)
end Go.Proofs.Ythbdiambigfgdac.Pure
