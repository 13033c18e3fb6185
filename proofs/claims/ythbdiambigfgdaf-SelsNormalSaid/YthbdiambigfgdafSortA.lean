/- The sort of runs, in plain Lean, part A: order, stability, insertion sort, exchange and rotation. -/
import Derived.Test.YthbdiambigfgdafPSelsNormalx2
import Derived.Test.YthbdiambigfgdafPSelsNormalx3
import Derived.Test.YthbdiambigfgdafPSelsNormalx4
namespace Go.Proofs.Ythbdiambigfgdaf.Sort
open Go.RowKit Go.Proofs.Ythbdiambigfgdaf.PSelsNormal Go.Proofs.YthbdiambigfgdafW.PrintWords Go.Proofs.YthbdiambigfgdafW.PrintLast Go.Proofs.YthbdiambigfgdafW.PrintMore
set_option linter.unusedVariables false
set_option linter.unusedSimpArgs false

theorem w64 {n : Int} (h0 : -9223372036854775808 ≤ n) (h1 : n < 9223372036854775808) : wrap64 n = n := by unfold wrap64; omega

/-- From some number of rounds on. -/
def Ev (p : Nat → Prop) : Prop := ∃ K, ∀ k, K ≤ k → p k
theorem Ev.mk0 {p : Nat → Prop} (h : ∀ k, p k) : Ev p := ⟨0, fun k _ => h k⟩
theorem Ev.and {p q : Nat → Prop} (h1 : Ev p) (h2 : Ev q) : Ev fun k => p k ∧ q k := by
  obtain ⟨a, ha⟩ := h1
  obtain ⟨b, hb⟩ := h2
  exact ⟨a + b, fun k hk => ⟨ha k (by omega), hb k (by omega)⟩⟩
theorem Ev.mono {p q : Nat → Prop} (h1 : Ev p) (h : ∀ k, p k → q k) : Ev q := by
  obtain ⟨a, ha⟩ := h1
  exact ⟨a, fun k hk => h k (ha k hk)⟩
/-- One round more. -/
theorem Ev.step {p q : Nat → Prop} (h1 : Ev p) (h : ∀ k, p k → q (k + 1)) : Ev q := by
  obtain ⟨a, ha⟩ := h1
  refine ⟨a + 1, fun k hk => ?_⟩
  obtain ⟨k', rfl⟩ : ∃ k', k = k' + 1 := ⟨k - 1, by omega⟩
  exact h k' (ha k' (by omega))
theorem Ev.step0 {q : Nat → Prop} (h : ∀ k, q (k + 1)) : Ev q := (Ev.mk0 (p := fun _ => True) fun _ => trivial).step fun k _ => h k
theorem Ev.one {p : Nat → Prop} (h : Ev p) : ∃ k, p k := by obtain ⟨a, ha⟩ := h; exact ⟨a, ha a (Nat.le_refl _)⟩

/-! ### the order -/
def lt (a b : S41) : Prop := a.f0.f0 < b.f0.f0 ∨ (a.f0.f0 = b.f0.f0 ∧ a.f0.f1 < b.f0.f1)
instance (a b : S41) : Decidable (lt a b) := by unfold lt; infer_instance
def le (a b : S41) : Prop := ¬ lt b a
theorem le_trans {a b c : S41} (h1 : le a b) (h2 : le b c) : le a c := by simp only [le, lt] at *; omega
theorem le_refl (a : S41) : le a a := by simp only [le, lt]; omega
theorem lt_le {a b : S41} (h : lt a b) : le a b := by simp only [le, lt] at *; omega
theorem lt_le_trans {a b c : S41} (h1 : lt a b) (h2 : le b c) : lt a c := by simp only [le, lt] at *; omega
theorem le_lt_trans {a b c : S41} (h1 : le a b) (h2 : lt b c) : lt a c := by simp only [le, lt] at *; omega
def Sorted : List S41 → Prop := List.Pairwise le

theorem cmp_ev (a b : S41) : ∃ t : Int, (t < 0 ↔ lt a b) ∧ Ev fun k => sels_Normal_2.f k a.f0.f0 a.f0.f1 a.f1 b.f0.f0 b.f0.f1 b.f1 = some t := by
  have hc : ∀ x y : Int, cmp_Compare_int.f x y = some (if x < y then -1 else if x > y then 1 else 0) := by
    intro x y
    simp only [cmp_Compare_int.f, cmp_isNaN_int.f, Option.bind_some, bne_self_eq_false]
    rw [if_neg (by decide), if_neg (by decide)]
    (repeat' split) <;> rfl
  have ho : ∀ x y : Int, Ev fun k => cmp_Or_int.f k [x, y] = some (if x = 0 then y else x) := by
    intro x y
    refine ⟨4, fun k hk => ?_⟩
    obtain ⟨k', rfl⟩ : ∃ k', k = k' + 4 := ⟨k - 4, by omega⟩
    simp only [cmp_Or_int.f, cmp_Or_int.l0, rd, List.length_cons, List.length_nil]
    by_cases hx : x = 0
    · by_cases hy : y = 0
      · subst hx; subst hy
        simp [wrap64]
      · subst hx
        simp [wrap64, hy]
    · simp [wrap64, hx]
  refine ⟨if (if a.f0.f0 < b.f0.f0 then (-1 : Int) else if a.f0.f0 > b.f0.f0 then 1 else 0) = 0 then (if a.f0.f1 < b.f0.f1 then (-1 : Int) else if a.f0.f1 > b.f0.f1 then 1 else 0) else (if a.f0.f0 < b.f0.f0 then (-1 : Int) else if a.f0.f0 > b.f0.f0 then 1 else 0), ?_, (ho (if a.f0.f0 < b.f0.f0 then (-1 : Int) else if a.f0.f0 > b.f0.f0 then 1 else 0) (if a.f0.f1 < b.f0.f1 then (-1 : Int) else if a.f0.f1 > b.f0.f1 then 1 else 0)).mono fun k hk => ?_⟩
  rotate_left
  · simp only [sels_Normal_2.f, hc, Option.bind_some]
    exact (congrArg (fun z => Option.bind z fun t113 => some t113) hk).trans rfl
  · simp only [lt]
    by_cases h1 : a.f0.f0 < b.f0.f0
    · simp [h1]
    · by_cases h2 : a.f0.f0 > b.f0.f0
      · simp [h1, h2]; omega
      · have h3 : a.f0.f0 = b.f0.f0 := by omega
        simp only [if_neg h1, if_neg h2]
        simp only [if_true]
        by_cases h4 : a.f0.f1 < b.f0.f1
        · simp [h4, h3]
        · simp only [if_neg h4]
          split <;> (try simp) <;> omega

/-! ### what a stable change keeps -/
def key (c : Int × Int) (x : S41) : Bool := x.f0.f0 == c.1 && x.f0.f1 == c.2
def Stab (l r : List S41) : Prop := ∀ c, l.filter (key c) = r.filter (key c)
theorem Stab.refl (l : List S41) : Stab l l := fun _ => rfl
theorem Stab.trans {a b c : List S41} (h1 : Stab a b) (h2 : Stab b c) : Stab a c := fun k => (h1 k).trans (h2 k)
theorem Stab.symm {a b : List S41} (h1 : Stab a b) : Stab b a := fun k => (h1 k).symm
theorem Stab.app {a b c d : List S41} (h1 : Stab a b) (h2 : Stab c d) : Stab (a ++ c) (b ++ d) := fun k => by rw [List.filter_append, List.filter_append, h1 k, h2 k]
theorem Stab.mem {a b : List S41} (h : Stab a b) (x : S41) : x ∈ a ↔ x ∈ b := by
  have h1 := h (x.f0.f0, x.f0.f1)
  have e : ∀ l : List S41, x ∈ l ↔ x ∈ l.filter (key (x.f0.f0, x.f0.f1)) := fun l => by simp [List.mem_filter, key]
  rw [e a, e b, h1]
theorem length_key (l : List S41) : ∀ n, ∀ r : List S41, l.length = n → Stab l r → l.length = r.length := by
  intro n
  induction n using Nat.strongRecOn generalizing l with
  | _ n ih =>
  intro r hn h
  match l, r with
  | [], [] => rfl
  | [], y :: r => have := (h.mem y).2 List.mem_cons_self; exact absurd this (by simp)
  | x :: l, r =>
    let c := (x.f0.f0, x.f0.f1)
    have e : ∀ l : List S41, l.length = (l.filter (key c)).length + (l.filter (fun z => !key c z)).length := by
      intro l
      induction l with
      | nil => rfl
      | cons a l ih => simp only [List.filter_cons]; split <;> simp_all <;> omega
    have hx : key c x = true := by simp [key, c]
    rw [e (x :: l), e r, h c]
    have hlt : ((x :: l).filter (fun z => !key c z)).length < n := by
      subst hn; simp only [List.filter_cons, hx]; simp
      exact Nat.lt_succ_of_le (List.length_filter_le _ _)
    rw [ih _ hlt ((x :: l).filter (fun z => !key c z)) (r.filter (fun z => !key c z)) rfl (fun d => ?_)]
    have q := h d
    rw [List.filter_filter, List.filter_filter]
    have e2 : ∀ l : List S41, l.filter (fun z => key d z && !key c z) = (l.filter (key d)).filter (fun z => !key c z) := fun l => by rw [List.filter_filter]; congr 1; funext z; exact Bool.and_comm _ _
    rw [e2, e2, q]
theorem Stab.length {a b : List S41} (h : Stab a b) : a.length = b.length := length_key a _ b rfl h
theorem stab_move {u v : List S41} (h : ∀ a ∈ u, ∀ b ∈ v, lt b a) : Stab (u ++ v) (v ++ u) := by
  intro c
  rw [List.filter_append, List.filter_append]
  by_cases hu : u.filter (key c) = []
  · rw [hu]; simp
  · have hv : v.filter (key c) = [] := by
      rw [List.filter_eq_nil_iff]
      intro b hb hk
      apply hu
      rw [List.filter_eq_nil_iff]
      intro a ha hk2
      have := h a ha b hb
      simp only [key, Bool.and_eq_true, beq_iff_eq, lt] at *
      omega
    rw [hv]; simp
/-- Sorted lists that are stable changes of each other are one. -/
theorem stab_unique : ∀ (l r : List S41), Sorted l → Sorted r → Stab l r → l = r := by
  intro l
  induction l with
  | nil =>
    intro r _ _ h
    have := h.length
    cases r with
    | nil => rfl
    | cons _ _ => simp at this
  | cons a l ih =>
    intro r hl hr h
    cases r with
    | nil => have := h.length; simp at this
    | cons b r =>
      have ha := (h.mem a).1 List.mem_cons_self
      have hb := (h.mem b).2 List.mem_cons_self
      simp only [Sorted, List.pairwise_cons] at hl hr
      have h1 : le b a := by
        rcases List.mem_cons.1 ha with rfl | h2
        · exact le_refl _
        · exact hr.1 _ h2
      have h2 : le a b := by
        rcases List.mem_cons.1 hb with rfl | h2
        · exact le_refl _
        · exact hl.1 _ h2
      have hk : a.f0.f0 = b.f0.f0 ∧ a.f0.f1 = b.f0.f1 := by simp only [le, lt] at h1 h2; omega
      have hka : key (a.f0.f0, a.f0.f1) a = true := by simp [key]
      have hkb : key (a.f0.f0, a.f0.f1) b = true := by simp [key, hk.1, hk.2]
      have h3 := h (a.f0.f0, a.f0.f1)
      rw [List.filter_cons_of_pos hka, List.filter_cons_of_pos hkb] at h3
      obtain ⟨rfl, h4⟩ := List.cons.inj h3
      congr 1
      refine ih r hl.2 hr.2 fun c => ?_
      have h5 := h c
      by_cases hc : key c a = true
      · rw [List.filter_cons_of_pos hc, List.filter_cons_of_pos hc] at h5
        exact (List.cons.inj h5).2
      · rw [List.filter_cons_of_neg hc, List.filter_cons_of_neg hc] at h5
        exact h5

/-! ### reading and changing by place -/
theorem rd_at (P : List S41) (a : S41) (Q : List S41) {i : Int} (h : i = P.length) : rd_T41 (P ++ a :: Q) i = a := by
  subst h; simp [rd_T41]
theorem set_at (P : List S41) (a b : S41) (Q : List S41) {i : Int} (h : i = P.length) : (P ++ a :: Q).set i.toNat b = P ++ b :: Q := by
  subst h; simp
theorem rd_at2 (P : List S41) (a : S41) (M : List S41) (b : S41) (Q : List S41) {i : Int} (h : i = P.length + 1 + M.length) : rd_T41 (P ++ a :: (M ++ b :: Q)) i = b := by
  have := rd_at (P ++ a :: M) b Q (i := i) (by subst h; simp <;> omega)
  rwa [List.append_assoc, List.cons_append] at this
theorem set_at2 (P : List S41) (a : S41) (M : List S41) (b c : S41) (Q : List S41) {i : Int} (h : i = P.length + 1 + M.length) : (P ++ a :: (M ++ b :: Q)).set i.toNat c = P ++ a :: (M ++ c :: Q) := by
  have := set_at (P ++ a :: M) b c Q (i := i) (by subst h; simp <;> omega)
  rwa [List.append_assoc, List.cons_append, List.append_assoc, List.cons_append] at this

/-! ### insertion sort -/
theorem ins_in (P : List S41) (v : S41) (a b : Int) : ∀ (n : Nat) (S Q : List S41) (i : Int), S.length = n → Sorted S → a = P.length → (P ++ S ++ v :: Q).length < 1000000000 →
    ∃ S', Sorted S' ∧ Stab (S ++ [v]) S' ∧ ∀ R, Ev (fun k => sels_run_25.l0 k (P ++ S' ++ Q) a b (wrap64 (i + 1)) = some R) → Ev (fun k => sels_run_25.l1 k (P ++ S ++ v :: Q) a b i (P.length + S.length) = some R) := by
  intro n
  induction n with
  | zero =>
    intro S Q i hn hs ha hl
    obtain rfl := List.length_eq_zero_iff.1 hn
    refine ⟨[v], List.pairwise_singleton _ _, Stab.refl _, fun R hR => hR.step fun k hk => ?_⟩
    simp only [sels_run_25.l1]
    rw [if_neg (by simp <;> omega)]
    simpa using hk
  | succ n ih =>
    intro S Q i hn hs ha hl
    obtain ⟨S0, u, rfl⟩ : ∃ S0 u, S = S0 ++ [u] := ⟨S.dropLast, S.getLast (by intro h; simp [h] at hn), (List.dropLast_concat_getLast _).symm⟩
    simp only [List.length_append, List.length_cons, List.length_nil] at hn hl
    have hs0 : Sorted S0 := (List.pairwise_append.1 hs).1
    have hu : ∀ x ∈ S0, le x u := fun x hx => (List.pairwise_append.1 hs).2.2 x hx u (by simp)
    obtain ⟨t, ht, hev⟩ := cmp_ev v u
    have hxe : (P ++ (S0 ++ [u]) ++ v :: Q) = (P ++ S0) ++ u :: ([] ++ v :: Q) := by simp
    have hj : wrap64 (((P.length : Int) + (S0 ++ [u]).length) - 1) = ((P ++ S0).length : Int) := by rw [w64] <;> (try simp) <;> omega
    have rv : rd_T41 (P ++ (S0 ++ [u]) ++ v :: Q) ((P.length : Int) + (S0 ++ [u]).length) = v := by rw [hxe]; exact rd_at2 _ _ _ _ _ (by simp <;> omega)
    have ru : rd_T41 (P ++ (S0 ++ [u]) ++ v :: Q) (((P ++ S0).length : Int)) = u := by rw [hxe]; exact rd_at _ _ _ rfl
    by_cases hlt : lt v u
    · obtain ⟨S', hS, hst, hR⟩ := ih S0 (u :: Q) i (by omega) hs0 ha (by simp <;> omega)
      refine ⟨S' ++ [u], ?_, ?_, fun R h => ?_⟩
      · refine List.pairwise_append.2 ⟨hS, List.pairwise_singleton _ _, ?_⟩
        intro x hx y hy
        obtain rfl := List.mem_singleton.1 hy
        rcases List.mem_append.1 ((hst.mem x).2 hx) with h1 | h1
        · exact hu x h1
        · obtain rfl := List.mem_singleton.1 h1; exact lt_le hlt
      · have h1 : Stab (S0 ++ [u] ++ [v]) (S0 ++ [v] ++ [u]) := by
          rw [List.append_assoc, List.append_assoc]
          exact (Stab.refl S0).app (stab_move (by intro a ha b hb; obtain rfl := List.mem_singleton.1 ha; obtain rfl := List.mem_singleton.1 hb; exact hlt))
        exact h1.trans (hst.app (Stab.refl _))
      · have h2 := hR R (by simpa using h)
        refine (h2.and hev).step fun k hk => ?_
        simp only [sels_run_25.l1]
        rw [if_pos (by simp <;> omega), if_pos (by simp <;> omega), if_pos (by simp <;> omega), hj, if_pos (by simp <;> omega), if_pos (by simp <;> omega), rv, ru, hk.2, Option.bind_some, if_pos (ht.2 hlt)]
        rw [hxe, set_at2 _ _ _ _ _ _ (by simp <;> omega), set_at _ _ _ _ rfl]
        simpa using hk.1
    · refine ⟨S0 ++ [u] ++ [v], ?_, Stab.refl _, fun R h => (h.and hev).step fun k hk => ?_⟩
      · refine List.pairwise_append.2 ⟨hs, List.pairwise_singleton _ _, ?_⟩
        intro x hx y hy
        obtain rfl := List.mem_singleton.1 hy
        rcases List.mem_append.1 hx with h1 | h1
        · exact le_trans (hu x h1) hlt
        · obtain rfl := List.mem_singleton.1 h1; exact hlt
      · simp only [sels_run_25.l1]
        rw [if_pos (by simp <;> omega), if_pos (by simp <;> omega), if_pos (by simp <;> omega), hj, if_pos (by simp <;> omega), if_pos (by simp <;> omega), rv, ru, hk.2, Option.bind_some, if_neg (fun h => hlt (ht.1 h))]
        simpa using hk.1

theorem ins_out (P Q : List S41) (a b : Int) (ha : a = P.length) : ∀ (T S : List S41), Sorted S → b = P.length + S.length + T.length → (P ++ S ++ T ++ Q).length < 1000000000 →
    ∃ S', Sorted S' ∧ Stab (S ++ T) S' ∧ Ev (fun k => sels_run_25.l0 k (P ++ S ++ T ++ Q) a b (P.length + S.length) = some (P ++ S' ++ Q)) := by
  intro T
  induction T with
  | nil =>
    intro S hs hb hl
    refine ⟨S, hs, by simpa using Stab.refl S, Ev.step0 fun k => ?_⟩
    simp only [sels_run_25.l0]
    rw [if_neg (by simp at hb; omega)]
    simp
  | cons v T ih =>
    intro S hs hb hl
    simp only [List.length_append, List.length_cons] at hb hl
    obtain ⟨S', hS, hst, hR⟩ := ins_in P v a b S.length S (T ++ Q) (P.length + S.length) rfl hs ha (by simp <;> omega)
    have hlen := hst.length
    simp only [List.length_append, List.length_cons, List.length_nil] at hlen
    obtain ⟨S2, hS2, hst2, hE⟩ := ih S' hS (by omega) (by simp <;> omega)
    refine ⟨S2, hS2, ?_, ?_⟩
    · have e : S ++ v :: T = S ++ [v] ++ T := by simp
      rw [e]
      exact (hst.app (Stab.refl T)).trans hst2
    · have e : wrap64 ((P.length : Int) + S.length + 1) = P.length + S'.length := by rw [w64] <;> omega
      have h1 := hR (P ++ S2 ++ Q) (by rw [e]; simpa using hE)
      refine h1.step fun k hk => ?_
      simp only [sels_run_25.l0]
      rw [if_pos (by omega)]
      simpa using hk

/-- insertionSort sorts its part. -/
theorem insertion (P B Q : List S41) (a b : Int) (ha : a = P.length) (hb : b = P.length + B.length) (hl : (P ++ B ++ Q).length < 1000000000) :
    ∃ S, Sorted S ∧ Stab B S ∧ Ev (fun k => sels_run_25.f k (P ++ B ++ Q) a b = some (P ++ S ++ Q)) := by
  simp only [sels_run_25.f]
  simp only [List.length_append] at hl
  have e : wrap64 (a + 1) = P.length + 1 := by rw [w64] <;> omega
  rw [e]
  cases B with
  | nil =>
    refine ⟨[], List.Pairwise.nil, Stab.refl _, Ev.step0 fun k => ?_⟩
    simp only [sels_run_25.l0]
    rw [if_neg (by simp at hb; omega)]
  | cons v B =>
    simp only [List.length_cons] at hb hl
    obtain ⟨S, h1, h2, h3⟩ := ins_out P Q a b ha B [v] (List.pairwise_singleton _ _) (by simp <;> omega) (by simp <;> omega)
    exact ⟨S, h1, by simpa using h2, by simpa using h3⟩

/-! ### exchange of two parts, and rotation -/
theorem swap_loop (n x1 x2 : Int) : ∀ (A B P M Q : List S41) (x10 : Int), A.length = B.length → x10 + A.length = n → 0 ≤ x10 → 0 ≤ x1 → 0 ≤ x2 → x1 + x10 = P.length → x2 + x10 = P.length + A.length + M.length → (P ++ A ++ M ++ B ++ Q).length < 1000000000 →
    Ev fun k => sels_run_28.l0 k (P ++ A ++ M ++ B ++ Q) x1 x2 n x10 = some (P ++ B ++ M ++ A ++ Q) := by
  intro A
  induction A with
  | nil =>
    intro B P M Q x10 hab hn h0 _ _ h1 h2 hl
    obtain rfl := List.length_eq_zero_iff.1 hab.symm
    refine Ev.step0 fun k => ?_
    simp only [sels_run_28.l0]
    rw [if_neg (by simp at hn; omega)]
  | cons a A ih =>
    intro B P M Q x10 hab hn h0 hx1 hx2 h1 h2 hl
    cases B with
    | nil => simp at hab
    | cons b B =>
      simp only [List.length_cons, List.length_append] at hab hn h2 hl
      have hE := ih B (P ++ [b]) (M ++ [a]) Q (x10 + 1) (by omega) (by omega) (by omega) hx1 hx2 (by simp <;> omega) (by simp <;> omega) (by simp <;> omega)
      have ex : P ++ (a :: A) ++ M ++ (b :: B) ++ Q = P ++ a :: ((A ++ M) ++ b :: (B ++ Q)) := by simp
      refine hE.step fun k hk => ?_
      simp only [sels_run_28.l0]
      have e1 : wrap64 (x1 + x10) = P.length := by rw [w64] <;> omega
      have e2 : wrap64 (x2 + x10) = P.length + 1 + (A ++ M).length := by rw [w64] <;> (try simp) <;> omega
      have e3 : wrap64 (x10 + 1) = x10 + 1 := by rw [w64] <;> omega
      rw [if_pos (by omega), e1, e2, e3, if_pos (by simp <;> omega), if_pos (by simp <;> omega), if_pos (by simp <;> omega), if_pos (by simp <;> omega)]
      rw [ex, rd_at _ _ _ rfl, rd_at2 _ _ _ _ _ rfl, set_at _ _ _ _ rfl, set_at2 _ _ _ _ _ _ rfl]
      simpa using hk

theorem swaps (A B P M Q : List S41) (x1 x2 n : Int) (hab : A.length = B.length) (hn : n = A.length) (h1 : x1 = P.length) (h2 : x2 = P.length + A.length + M.length) (hl : (P ++ A ++ M ++ B ++ Q).length < 1000000000) :
    Ev fun k => sels_run_28.f k (P ++ A ++ M ++ B ++ Q) x1 x2 n = some (P ++ B ++ M ++ A ++ Q) := by
  simp only [sels_run_28.f]
  exact swap_loop n x1 x2 A B P M Q 0 hab (by omega) (by omega) (by omega) (by omega) (by omega) (by omega) hl

theorem rot_loop (x2 : Int) : ∀ (d : Nat) (A B P Q : List S41), A.length + B.length ≤ d → 0 < A.length → 0 < B.length → x2 = P.length + A.length → (P ++ A ++ B ++ Q).length < 1000000000 →
    Ev fun k => sels_run_27.l0 k (P ++ A ++ B ++ Q) x2 A.length B.length = some (P ++ B ++ A ++ Q) := by
  intro d
  induction d with
  | zero => intro A B P Q h h1; omega
  | succ d ih =>
    intro A B P Q hd hA hB h2 hl
    simp only [List.length_append] at hl
    have e0 : wrap64 (x2 - (A.length : Int)) = P.length := by rw [w64] <;> omega
    by_cases h : A.length = B.length
    · have hs := swaps A B P [] Q P.length x2 A.length h rfl rfl (by simp <;> omega) (by simp <;> omega)
      simp only [List.append_nil] at hs
      refine hs.step fun k hk => ?_
      simp only [sels_run_27.l0]
      rw [if_pos (by omega), e0, hk, Option.bind_some]
    · by_cases hg : A.length > B.length
      · obtain ⟨A1, A2, rfl, h1⟩ : ∃ A1 A2, A = A1 ++ A2 ∧ A1.length = B.length := ⟨A.take B.length, A.drop B.length, (List.take_append_drop _ _).symm, by rw [List.length_take]; omega⟩
        simp only [List.length_append] at *
        have hs := swaps A1 B P A2 Q P.length x2 B.length h1 (by omega) rfl (by omega) (by simp <;> omega)
        have hr := ih A2 A1 (P ++ B) Q (by omega) (by omega) (by omega) (by simp <;> omega) (by simp <;> omega)
        refine (hs.and hr).step fun k hk => ?_
        simp only [sels_run_27.l0]
        rw [if_neg (by simp <;> omega), if_pos (by simp <;> omega)]
        have e1 : wrap64 ((((A1.length + A2.length : Nat)) : Int) - (B.length : Int)) = A2.length := by rw [w64] <;> (try simp) <;> omega
        have e0' : wrap64 (x2 - ((A1.length + A2.length : Nat) : Int)) = P.length := by rw [w64] <;> (try simp) <;> omega
        have h3 := hk.1
        have h4 := hk.2
        rw [e0', e1]
        simp only [List.append_assoc] at h3 h4 ⊢
        rw [h3, Option.bind_some]
        rw [h1] at h4
        exact h4
      · obtain ⟨B1, B2, rfl, h1⟩ : ∃ B1 B2, B = B1 ++ B2 ∧ B2.length = A.length := ⟨B.take (B.length - A.length), B.drop (B.length - A.length), (List.take_append_drop _ _).symm, by rw [List.length_drop]; omega⟩
        simp only [List.length_append] at *
        have hs := swaps A B2 P B1 Q P.length (x2 + B1.length) A.length h1.symm (by omega) rfl (by omega) (by simp <;> omega)
        have hr := ih B2 B1 P (A ++ Q) (by omega) (by omega) (by omega) (by omega) (by simp <;> omega)
        refine (hs.and hr).step fun k hk => ?_
        simp only [sels_run_27.l0]
        rw [if_neg (by simp <;> omega), if_neg (by simp <;> omega)]
        have e1 : wrap64 ((((B1.length + B2.length : Nat)) : Int) - (A.length : Int)) = B1.length := by rw [w64] <;> (try simp) <;> omega
        have e2 : wrap64 (wrap64 (x2 + ((B1.length + B2.length : Nat) : Int)) - (A.length : Int)) = x2 + B1.length := by rw [w64 (n := x2 + _), w64] <;> (try simp) <;> omega
        have h3 := hk.1
        have h4 := hk.2
        rw [e0, e1, e2]
        simp only [List.append_assoc] at h3 h4 ⊢
        rw [h3, Option.bind_some]
        rw [h1] at h4
        exact h4

/-- rotate exchanges two parts that lie side by side. -/
theorem rotate (A B P Q : List S41) (a m b : Int) (hA : 0 < A.length) (hB : 0 < B.length) (h1 : a = P.length) (h2 : m = P.length + A.length) (h3 : b = P.length + A.length + B.length) (hl : (P ++ A ++ B ++ Q).length < 1000000000) :
    Ev fun k => sels_run_27.f k (P ++ A ++ B ++ Q) a m b = some (P ++ B ++ A ++ Q) := by
  simp only [sels_run_27.f]
  have hl' := hl
  simp only [List.length_append] at hl'
  rw [show wrap64 (m - a) = (A.length : Int) by rw [w64] <;> omega, show wrap64 (b - m) = (B.length : Int) by rw [w64] <;> omega]
  exact rot_loop m _ A B P Q (Nat.le_refl _) hA hB h2 hl
end Go.Proofs.Ythbdiambigfgdaf.Sort
