/- A call's contract at a row whose length is spelled otherwise; a row that is cut at both ends, under one name; no condition. -/
import Derived.Tactics
import Derived.Test.YthbdiambigfgdahDoorWWords
namespace Go.Proofs.YthbdiambigfgdahDoor.Hand
open Go.RowKit Go.Proofs.YthbdiambigfgdahDoorW.PrintWords
theorem calls_len {P : Program} {f : Nat} {A : Option Addr} {n m c : Nat} {w : World} {Q : Ending → World → Prop} (h : n = m) (hc : Calls P f #[.slice A n c] w Q) : Calls P f #[.slice A m c] w Q := h ▸ hc

/-- xs[a:b], under a name that no rule of the walk takes apart. -/
def cutL {α : Type} (xs : List α) (a b : Int) : List α := (xs.take b.toNat).drop a.toNat
theorem mid_of {P : Program} {α : Type} (enc : α → Value) (d : α) (t e : TypeId) (kl kh : IntKind) {i : TypeInfo} (ht : P.underlying t = some (.slice e)) (hi : P.info? e = some i) (hsz : i.size = 1) (A : Option Addr) (c : Nat) (xs : List α) (a b : Int) (h0 : 0 ≤ a) (h1 : a ≤ b) (hm : b ≤ xs.length) (hc : xs.length ≤ c) :
    ∃ A' : Option Addr, (∀ W : World, (Instr.slice t (.slice A xs.length c) (some (.int kl a)) (some (.int kh b)) none).run P W = .ok (.slice A' (cutL xs a b).length (c - a.toNat)) W) ∧
      (∀ w : World, ReadsOf enc d w A xs.length xs → ReadsOf enc d w A' (cutL xs a b).length (cutL xs a b)) ∧ (cutL xs a b).length ≤ c - a.toNat :=
  print_mid_of enc d t e kl kh ht hi hsz A c xs a b h0 h1 hm hc
/-- xs[n:], under a name that no rule of the walk takes apart. -/
def dropL {α : Type} (xs : List α) (n : Nat) : List α := xs.drop n
theorem drop_of {P : Program} {α : Type} (enc : α → Value) (d : α) (t e : TypeId) (kl : IntKind) {i : TypeInfo} (ht : P.underlying t = some (.slice e)) (hi : P.info? e = some i) (hsz : i.size = 1) (A : Option Addr) (c : Nat) (xs : List α) (j : Int) (h0 : 0 ≤ j) (hm : j ≤ xs.length) (hc : xs.length ≤ c) :
    ∃ A' : Option Addr, (∀ W : World, (Instr.slice t (.slice A xs.length c) (some (.int kl j)) none none).run P W = .ok (.slice A' (dropL xs j.toNat).length (c - j.toNat)) W) ∧
      (∀ w : World, ReadsOf enc d w A xs.length xs → ReadsOf enc d w A' (dropL xs j.toNat).length (dropL xs j.toNat)) ∧ (dropL xs j.toNat).length ≤ c - j.toNat :=
  print_drop_of enc d t e kl ht hi hsz A c xs j h0 hm hc
end Go.Proofs.YthbdiambigfgdahDoor.Hand
