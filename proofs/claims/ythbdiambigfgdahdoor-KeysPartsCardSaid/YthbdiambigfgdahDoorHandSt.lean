/- The keys' decoder as a state: what waits; and keys.first's contract in plain words. -/
import Derived.Test.YthbdiambigfgdahDoorKeysEq
import Derived.Test.YthbdiambigfgdahDoorKeyKinds
namespace Go.Proofs.YthbdiambigfgdahDoor.Hand
open Go.RowKit Go.Proofs.YthbdiambigfgdahDoorW.PrintWords Go.Proofs.YthbdiambigfgdahDoorW.PrintLast Go.Proofs.YthbdiambigfgdahDoorW.PrintMore Go.Proofs.YthbdiambigfgdahDoor.PKeysParts
open Keys Ut
set_option linter.unusedVariables false
set_option linter.unusedSimpArgs false

def kS (k : K) : S30 := ⟨k.1, k.2.1, k.2.2⟩
theorem info5 : (Tryd.prog.info? 5).map (fun i => (i.zero, i.size, i.bytes)) = some (some (.int .u8 0), 1, 1) := by kernel_rfl
theorem info30 : (Tryd.prog.info? 30).map (fun i => (i.zero, i.size, i.bytes)) = some (some (.agg #[.int .i64 0, .int .i32 0, .int .i64 0]), 3, 24) := by kernel_rfl

/-- The decoder at block g waits with these bytes; what it leads to lies from base on. -/
def St (W : World) (base g : Nat) (l : List Int) : Prop :=
  ∃ v, W.heap[g]? = some (.cells #[v] 33 (0, 0)) ∧ base ≤ g ∧ Kd.R (Kd.int .u8) 5 W base (fun _ => True) v l
theorem St.below {W W' : World} {base g : Nat} {l : List Int} (h : St W base g l) (hb : Below W.heap.size W W') : St W' base g l := by
  obtain ⟨v, h1, h2, h3⟩ := h
  exact ⟨v, (hb.block g (blk_lt h1)).trans h1, h2, Kd.R_below h3 hb⟩
/-- What feeding may turn: what lies from base on: the decoder itself, and rows of bytes. -/
def Fr (base g : Nat) (w w' : World) : Prop := Below base w w' ∧ ∀ i, i < w.heap.size → i ≠ g → (∀ cs, w.heap[i]? ≠ some (.cells cs 5 (0, 0))) → w'.heap[i]? = w.heap[i]?

theorem first_calls (A : Option Addr) (c : Nat) (b : List Int) (w : World) (h0 : b ≠ []) (hb : ∀ x ∈ b, Byte x) (hl : b.length ≤ 1000) (hr : Kd.C (Kd.int .u8) w A b.length b) (hc : b.length ≤ c) :
    Calls Tryd.prog 8 #[.slice A b.length c] w fun e w' => e = .returned (.agg #[.int .i64 ((firstF told b).1 : Int), .int .i64 (firstF told b).2.1, .int .i32 (firstF told b).2.2.1, .int .i64 (firstF told b).2.2.2]) ∧ Below w.heap.size w w' :=
  PKeysAll.keys_first.calls 50 A c b _ _ _ _ w hr hc (first_f b h0 hb hl 50 (Nat.le_refl _))

theorem new_calls (w : World) : Calls Tryd.prog 4 #[] w fun e w' => e = .returned (.pointer (some ⟨w.heap.size, 0, none⟩)) ∧ w' = w.alloc (.cells #[.slice none 0 0] 33) := by
  go_enter Tryd.func4, Tryd.ntmps4
  go_wp2
  go_ret
  exact ⟨rfl, rfl⟩
theorem waiting_calls (w : World) (g : Nat) (A : Option Addr) (n c : Nat) (h : w.cell? ⟨g, 0, none⟩ = some (.slice A n c)) :
    Calls Tryd.prog 7 #[.pointer (some ⟨g, 0, none⟩)] w fun e w' => e = .returned (.int .i64 n) ∧ w' = w := by
  go_enter Tryd.func7, Tryd.ntmps7
  go_wp2
  go_ret
  exact ⟨rfl, rfl⟩
theorem feed_nil_calls (w : World) (A : Option Addr) (n c : Nat) : Calls Tryd.prog 6 #[.pointer none, .slice A n c] w fun e w' => e = .returned (.slice none 0 0) ∧ w' = w := by
  go_enter Tryd.func6, Tryd.ntmps6
  go_wp2
  go_ret
  exact ⟨rfl, rfl⟩
end Go.Proofs.YthbdiambigfgdahDoor.Hand
