/- VtPaints: what is painted, and whether a grid is proper, is what the document says; plain Lean, over the program told as functions; no condition but the types'. -/
import Derived.Test.YtaicpljgijjenaaGreatDoorOpenVtPaints
import Derived.Test.YtaicpljgijjenaaGreatDoorVtPlain9
namespace Go.Proofs.YtaicpljgijjenaaGreatDoor.Pure
open Go.Proofs.YtaicpljgijjenaaGreatDoor.OpenVtPaints
open Go.RowKit Go.Proofs.YtaicpljgijjenaaGreatDoor.PVtP Go.Proofs.YtaicpljgijjenaaGreatDoorW.PrintWords Go.Proofs.YtaicpljgijjenaaGreatDoorW.PrintLast Go.Proofs.YtaicpljgijjenaaGreatDoor.Op Go.Proofs.YtaicpljgijjenaaGreatDoor.Vp Hand

/-- What stands ahead of the rows. -/
def pre (fresh : Bool) : List UInt8 := if fresh = true then [27, 91, 50, 74] else []
theorem pre_len (fresh : Bool) : (pre fresh).length ≤ 4 := by cases fresh <;> simp [pre]
theorem bytes_ns (L : List UInt8) : bytesOf (⟨L.toArray⟩ : ByteArray) = ns L := by simp [bytesOf, ns]
theorem rows_len (fresh : Bool) (l m : List S41) (c : Nat) (n : Nat) : ∀ i, i + n ≤ 60 → c ≤ 60 → (rowsL fresh l m c n i).length ≤ 847 * n := by
  induction n with
  | zero => intro i _ _; simp [rowsL]
  | succ n ih =>
    intro i hi hc
    have h1 := ih (i + 1) (by omega) hc
    have h2 := paintL_len i (by omega) ((m.take (i * c + c)).drop (i * c))
    have h3 : ((m.take (i * c + c)).drop (i * c)).length ≤ c := by rw [List.length_drop, List.length_take]; omega
    unfold rowsL
    split
    · rw [List.nil_append]; omega
    · rw [List.length_append]; omega

theorem paint_both (fresh : Bool) (l m : List S41) (c r : Nat) (hc : c ≤ 60) (hr : r ≤ 60) (hm : m.length = r * c) (h3 : m.length ≤ 300) (hg : ∀ i : Nat, i < m.length → Gd (rd_T41 m i)) (hl : fresh = false → l.length = m.length) (x y : Int) (k : Nat) (hk : 5000 ≤ k) :
    vt_PaintS.j0 k fresh x y l r c m = some (⟨(pre fresh ++ rowsL fresh l m c r 0).toArray⟩, 0) := by
  obtain ⟨k, rfl⟩ : ∃ q, k = q + 2 := ⟨k - 2, by omega⟩
  have hp := pre_len fresh
  have := paints_l0 fresh l m c r hc hr hm h3 hg hl x y r k 0 (pre fresh) (by omega) (by omega) (by omega)
  rw [vt_PaintS.j0]
  cases fresh with
  | true => rw [if_pos (rfl : true = true), vt_PaintS.j1]; exact this
  | false => rw [if_neg (show ¬ (false = true) by decide), vt_PaintS.j1]; exact this
theorem ref_both (fresh : Bool) (l m : List S41) (c r : Nat) (hc : c ≤ 60) (hr : r ≤ 60) (hm : m.length = r * c) (h3 : m.length ≤ 300) (hg : ∀ i : Nat, i < m.length → Gd (rd_T41 m i)) (hl : fresh = false → l.length = m.length) (alike : Bool) (k : Nat) (hk : 5000 ≤ k) (ha : fresh = false → alike = true) :
    stylusref23_Paint.j0 k (toRef l) (toRef m) r c alike [] fresh = some (ns (pre fresh ++ rowsL fresh l m c r 0)) := by
  obtain ⟨k, rfl⟩ : ∃ q, k = q + 2 := ⟨k - 2, by omega⟩
  have hp := pre_len fresh
  have := ref_l0r fresh l m c r hc hr hm h3 hg hl r k 0 (ns (pre fresh)) (by omega) (by omega) (by rw [ns_length]; omega)
  rw [stylusref23_Paint.j0, ns_append]
  cases fresh with
  | true => rw [if_pos (rfl : true = true), Option.bind_some, if_pos (by decide), stylusref23_Paint.j1]; exact this
  | false => rw [if_neg (show ¬ (false = true) by decide), stylusref23_Paint.j1, ha rfl]; exact this
/-- What a rune may be, by its type. -/
theorem rune_in {x : Int} (h : (Lit.int .i32 x).wf = true) : -2147483648 ≤ x ∧ x ≤ 2147483647 := by
  simp [Lit.wf, IntKind.min, IntKind.max, IntKind.signed, IntKind.bits] at h
  exact ⟨by omega, by omega⟩
theorem runes_in (l : List S41) (h : ∀ e ∈ l, Q41 e) (j : Int) : -2147483648 ≤ (rd_T41 l j).f0 ∧ (rd_T41 l j).f0 ≤ 2147483647 := by
  unfold rd_T41
  rw [List.getD_eq_getElem?_getD]
  cases hq : l[j.toNat]? with
  | none => exact ⟨by decide, by decide⟩
  | some x =>
    obtain ⟨hlt, rfl⟩ := List.getElem?_eq_some_iff.1 hq
    exact rune_in (h _ (List.getElem_mem hlt)).1
theorem gd_of (m : List S41) (c : Int) (h : ∀ j : Nat, j < m.length → Ok c m j) : ∀ i : Nat, i < m.length → Gd (rd_T41 m i) := by
  intro i hi
  obtain ⟨h1, h2, h3, h4⟩ := h i hi
  exact ⟨h1, h2, fun hz => ((shown_iff _).1 (h4 hz).1).1⟩

/-- The program's Paint, of a proper grid. -/
theorem paint_f (a b : Int) (l m : List S41) (c r : Nat) (hc : c ≤ 60) (hr : r ≤ 60) (hm : m.length = r * c) (h3 : m.length ≤ 300) (hg : ∀ i : Nat, i < m.length → Gd (rd_T41 m i)) (k : Nat) (hk : 5000 ≤ k) (hp : vt_Proper.f k r c m = some true) (fresh : Bool) (hf : fresh = !(decide (a = (r : Int)) && (decide (b = (c : Int)) && decide (l.length = m.length)))) :
    vt_Paint.f k a b l r c m = some (ns (pre fresh ++ rowsL fresh l m c r 0), 0) := by
  have hl : fresh = false → l.length = m.length := by
    intro h
    rw [h] at hf
    simp at hf
    exact hf.2.2
  have hj := paint_both fresh l m c r hc hr hm h3 hg hl a b k hk
  have h1 := pre_len fresh
  have h2 := rows_len fresh l m c r 0 (by omega) hc
  have hs : vt_PaintS.f k a b l r c m = some (⟨(pre fresh ++ rowsL fresh l m c r 0).toArray⟩, 0) := by
    unfold vt_PaintS.f
    rw [hp, Option.bind_some, if_pos (rfl : true = true)]
    by_cases ha : a = (r : Int)
    · rw [if_pos ha]
      by_cases hb : b = (c : Int)
      · rw [if_pos hb]
        have e : ((l.length : Int) != (m.length : Int)) = fresh := by
          rw [hf, ha, hb]
          by_cases hq : l.length = m.length
          · rw [hq]; simp
          · have : ¬ (l.length : Int) = (m.length : Int) := by omega
            simp [hq, bne, this]
        rw [e]
        exact hj
      · rw [if_neg hb]
        have e : fresh = true := by rw [hf]; simp [hb]
        rw [e] at hj ⊢
        exact hj
    · rw [if_neg ha]
      have e : fresh = true := by rw [hf]; simp [ha]
      rw [e] at hj ⊢
      exact hj
  unfold vt_Paint.f
  rw [hs, Option.bind_some]
  have hsz : (⟨(pre fresh ++ rowsL fresh l m c r 0).toArray⟩ : ByteArray).size = (pre fresh ++ rowsL fresh l m c r 0).length := by simp [ByteArray.size]
  have hle : (pre fresh ++ rowsL fresh l m c r 0).length ≤ 60000 := by rw [List.length_append]; omega
  rw [if_pos (by rw [hsz]; omega), bytes_ns]
/-- The document's Paint, of a proper grid. -/
theorem ref_f (a b : Int) (l m : List S41) (c r : Nat) (hc : c ≤ 60) (hr : r ≤ 60) (hm : m.length = r * c) (h3 : m.length ≤ 300) (hg : ∀ i : Nat, i < m.length → Gd (rd_T41 m i)) (k : Nat) (hk : 5000 ≤ k) (fresh : Bool) (hf : fresh = !(decide (a = (r : Int)) && (decide (b = (c : Int)) && decide (l.length = m.length)))) (alike : Bool) (ha : alike = (decide (a = (r : Int)) && decide (b = (c : Int)))) :
    stylusref23_Paint.f k (toRef l) (toRef m) r c alike = some (ns (pre fresh ++ rowsL fresh l m c r 0)) := by
  have hl : fresh = false → l.length = m.length := by
    intro h
    rw [h] at hf
    simp at hf
    exact hf.2.2
  have hal : fresh = false → alike = true := by
    intro h
    rw [h] at hf
    simp at hf
    rw [ha]
    simp [hf.1, hf.2.1]
  have hj := ref_both fresh l m c r hc hr hm h3 hg hl alike k hk hal
  unfold stylusref23_Paint.f
  rw [toRef_length, toRef_length]
  cases hq : alike with
  | true =>
    rw [if_pos (rfl : true = true)]
    rw [hq] at ha hj
    have e : ((l.length : Int) != (m.length : Int)) = fresh := by
      have ha' := ha.symm
      simp only [Bool.and_eq_true, decide_eq_true_eq] at ha'
      obtain ⟨h1, h2⟩ := ha'
      rw [hf, h1, h2]
      by_cases hq : l.length = m.length
      · rw [hq]; simp
      · have : ¬ (l.length : Int) = (m.length : Int) := by omega
        simp [hq, bne, this]
    rw [e]
    exact hj
  | false =>
    rw [if_neg (show ¬ (false = true) by decide)]
    rw [hq] at hal hj
    have e : fresh = true := by
      cases fresh with
      | true => rfl
      | false => exact absurd (hal rfl) (by decide)
    rw [e] at hj ⊢
    exact hj

theorem main (a b r c : Int) (l m : List S41) (h3 : l.length ≤ 300) (h4 : m.length ≤ 300) (hw : ∀ j : Int, -2147483648 ≤ (rd_T41 m j).f0 ∧ (rd_T41 m j).f0 ≤ 2147483647) :
    styluslaw23_VtPaints.f 6000 a b l r c m = some true := by
  have hk : styluslaw23_knows.f = some true := rfl
  unfold styluslaw23_VtPaints.f
  rw [if_neg (by omega), decide_eq_false (by omega), styluslaw23_VtPaints.j0, if_neg (show ¬ (false = true) by decide)]
  obtain ⟨p, hp1, hp2, hp3⟩ := proper_both m r c h4 hw 5999 (by omega)
  cases p with
  | false =>
    have hpf : vt_Paint.f 5999 a b l r c m = some ([], 1) := by
      unfold vt_Paint.f vt_PaintS.f
      rw [hp1]
      rfl
    rw [hpf, Option.bind_some, as_eq m h4 r c 5999 (by omega), Option.bind_some, hp2, Option.bind_some, hp1, Option.bind_some, if_neg (by decide), if_neg (by decide), if_pos (by decide), if_pos (by decide), hk]
    rfl
  | true =>
    obtain ⟨⟨r1, r2⟩, ⟨c1, c2⟩, hrc, hok⟩ := hp3.1 rfl
    obtain ⟨r', rfl⟩ : ∃ q : Nat, r = q := ⟨r.toNat, by omega⟩
    obtain ⟨c', rfl⟩ : ∃ q : Nat, c = q := ⟨c.toNat, by omega⟩
    have hm : m.length = r' * c' := by rw [← Int.natCast_mul] at hrc; exact Int.ofNat.inj hrc
    have hg := gd_of m c' hok
    have hq := paint_f a b l m c' r' (by omega) (by omega) hm h4 hg 5999 (by omega) hp1 _ rfl
    have hr := fun alike ha => ref_f a b l m c' r' (by omega) (by omega) hm h4 hg 5998 (by omega) _ rfl alike ha
    rw [hq, Option.bind_some, as_eq m h4 _ _ 5999 (by omega), Option.bind_some, hp2, Option.bind_some, hp1, Option.bind_some, if_neg (by decide), if_pos (rfl : true = true)]
    by_cases ha : a = (r' : Int)
    · rw [if_pos ha, styluslaw23_VtPaints.j1, as_eq l h3 _ _ 5998 (by omega), Option.bind_some, as_eq m h4 _ _ 5998 (by omega), Option.bind_some, hr _ (by rw [ha]; simp [BEq.beq]), Option.bind_some, if_pos rfl, if_pos rfl, hk]
      rfl
    · rw [if_neg ha, styluslaw23_VtPaints.j1, as_eq l h3 _ _ 5998 (by omega), Option.bind_some, as_eq m h4 _ _ 5998 (by omega), Option.bind_some, hr _ (by simp [ha]), Option.bind_some, if_pos rfl, if_pos rfl, hk]
      rfl

theorem VtPaints : OpenVtPaints.Pure := by
  intro x0 x1 q0 q1
  refine ⟨6000, ?_⟩
  by_cases h3 : x0.f2.length ≤ 300
  · by_cases h4 : x1.f2.length ≤ 300
    · exact main _ _ _ _ _ _ h3 h4 (runes_in _ q1.2.2.2)
    · unfold styluslaw23_VtPaints.f
      rw [if_neg (by omega), decide_eq_true (by omega), styluslaw23_VtPaints.j0, if_pos (rfl : true = true)]
      rfl
  · unfold styluslaw23_VtPaints.f
    rw [if_pos (by omega), styluslaw23_VtPaints.j0, if_pos (rfl : true = true)]
    rfl
end Go.Proofs.YtaicpljgijjenaaGreatDoor.Pure
