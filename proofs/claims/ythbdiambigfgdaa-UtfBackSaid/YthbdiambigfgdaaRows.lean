/-
  No cell of these rows narrows 'for every input' (looked for: loops, veiled, ifaces, maps, wideKeys, modest, calm, conditions, laid).
  DERIVED. THE GIVEN ROWS OF THIS SEAT. 6 by the template 'for every input the law returns true; each argument reads behind the call as it read before'; 0 by the template 'total and deterministic' (their statements: YthbdiambigfgdaaTotals.lean).
  GIVEN WITH THE SEED: the statements are not yours to turn. If you find one false, say at which input.
  Laid BY PROGRAM, IN A SANDBOX (cutbox-rows.mjs): the forced cells as the released guide's own fill.sh prints them over the translation 4c66fc7efca7ad59… (all of the seat's roots in one cut). By AI agents, Wed Nov 11 2026. No macro, syntax, notation, axiom, sorry.
-/
import Derived.Test.YthbdiambigfgdaaChecked
import GoSem.Claim
import GoSem.ClaimJoined
import GoSem.ClaimMapViews
import Derived.JoinedTies
import Derived.KernelRfl
namespace Go.Proofs.Ythbdiambigfgdaa
/- THE CELL 'sum', in the pinned program and in every row, IS THE sha256 OF THE DUMP (.gsa) THAT YthbdiambigfgdaaProg.lean LOADS. Nothing in Lean hashes anything: it is a label: what it is worth is what the hold of that sum in a sandbox is worth. -/
noncomputable def Try.pinned : Pinned := { name := "ythbdiambigfgdaa", sum := "4c66fc7efca7ad5945168f12c99437666ea52b7e9ae389008588090af04f2fcb", checked := Try.checked }
namespace Rows
def none {H : Type} : Left H := { results := [], args := [] }

/-- 'styluslaw02.WidthTells': WHATEVER THE INPUT: true; the input reads as it did. -/
def widthTellsSpec : ChangeSpec := { name := "widthTells", fn := fun _ => fun
  | [d1, d2, d3] => { results := [.lit (.bool true)], args := [d1, d2, d3] }
  | _ => none }
def widthTellsRow : OpenClaim := { program := "ythbdiambigfgdaa", sum := "4c66fc7efca7ad5945168f12c99437666ea52b7e9ae389008588090af04f2fcb", func := "stylus/styluslaw02.WidthTells", spec := "widthTells", apart := false }
def WidthTellsSaid : Prop := widthTellsRow.holds Try.pinned (OpenSpec.ofChange widthTellsSpec)

/-- ITS FALSE NEIGHBOUR: 'it returns false'. Refute it at one input. -/
def widthTellsWrong : ChangeSpec := { name := "widthTells", fn := fun _ => fun
  | [d1, d2, d3] => { results := [.lit (.bool false)], args := [d1, d2, d3] }
  | _ => none }
def WidthTellsWrongFalsely : Prop := widthTellsRow.holds Try.pinned (OpenSpec.ofChange widthTellsWrong)

/-- 'styluslaw02.WidthAdds': WHATEVER THE INPUT: true; the input reads as it did. -/
def widthAddsSpec : ChangeSpec := { name := "widthAdds", fn := fun _ => fun
  | [d1, d2, d3] => { results := [.lit (.bool true)], args := [d1, d2, d3] }
  | _ => none }
def widthAddsRow : OpenClaim := { program := "ythbdiambigfgdaa", sum := "4c66fc7efca7ad5945168f12c99437666ea52b7e9ae389008588090af04f2fcb", func := "stylus/styluslaw02.WidthAdds", spec := "widthAdds", apart := false }
def WidthAddsSaid : Prop := widthAddsRow.holds Try.pinned (OpenSpec.ofChange widthAddsSpec)

/-- ITS FALSE NEIGHBOUR: 'it returns false'. Refute it at one input. -/
def widthAddsWrong : ChangeSpec := { name := "widthAdds", fn := fun _ => fun
  | [d1, d2, d3] => { results := [.lit (.bool false)], args := [d1, d2, d3] }
  | _ => none }
def WidthAddsWrongFalsely : Prop := widthAddsRow.holds Try.pinned (OpenSpec.ofChange widthAddsWrong)

/-- 'styluslaw01.UtfWrites': WHATEVER THE INPUT: true; the input reads as it did. -/
def utfWritesSpec : ChangeSpec := { name := "utfWrites", fn := fun _ => fun
  | [d1, d2] => { results := [.lit (.bool true)], args := [d1, d2] }
  | _ => none }
def utfWritesRow : OpenClaim := { program := "ythbdiambigfgdaa", sum := "4c66fc7efca7ad5945168f12c99437666ea52b7e9ae389008588090af04f2fcb", func := "stylus/styluslaw01.UtfWrites", spec := "utfWrites", apart := false }
def UtfWritesSaid : Prop := utfWritesRow.holds Try.pinned (OpenSpec.ofChange utfWritesSpec)

/-- ITS FALSE NEIGHBOUR: 'it returns false'. Refute it at one input. -/
def utfWritesWrong : ChangeSpec := { name := "utfWrites", fn := fun _ => fun
  | [d1, d2] => { results := [.lit (.bool false)], args := [d1, d2] }
  | _ => none }
def UtfWritesWrongFalsely : Prop := utfWritesRow.holds Try.pinned (OpenSpec.ofChange utfWritesWrong)

/-- 'styluslaw01.UtfReads': WHATEVER THE INPUT: true; the input reads as it did. -/
def utfReadsSpec : ChangeSpec := { name := "utfReads", fn := fun _ => fun
  | [d] => { results := [.lit (.bool true)], args := [d] }
  | _ => none }
def utfReadsRow : OpenClaim := { program := "ythbdiambigfgdaa", sum := "4c66fc7efca7ad5945168f12c99437666ea52b7e9ae389008588090af04f2fcb", func := "stylus/styluslaw01.UtfReads", spec := "utfReads", apart := false }
def UtfReadsSaid : Prop := utfReadsRow.holds Try.pinned (OpenSpec.ofChange utfReadsSpec)

/-- ITS FALSE NEIGHBOUR: 'it returns false'. Refute it at one input. -/
def utfReadsWrong : ChangeSpec := { name := "utfReads", fn := fun _ => fun
  | [d] => { results := [.lit (.bool false)], args := [d] }
  | _ => none }
def UtfReadsWrongFalsely : Prop := utfReadsRow.holds Try.pinned (OpenSpec.ofChange utfReadsWrong)

/-- 'styluslaw01.UtfBack': WHATEVER THE INPUT: true; the input reads as it did. -/
def utfBackSpec : ChangeSpec := { name := "utfBack", fn := fun _ => fun
  | [d1, d2] => { results := [.lit (.bool true)], args := [d1, d2] }
  | _ => none }
def utfBackRow : OpenClaim := { program := "ythbdiambigfgdaa", sum := "4c66fc7efca7ad5945168f12c99437666ea52b7e9ae389008588090af04f2fcb", func := "stylus/styluslaw01.UtfBack", spec := "utfBack", apart := false }
def UtfBackSaid : Prop := utfBackRow.holds Try.pinned (OpenSpec.ofChange utfBackSpec)

/-- ITS FALSE NEIGHBOUR: 'it returns false'. Refute it at one input. -/
def utfBackWrong : ChangeSpec := { name := "utfBack", fn := fun _ => fun
  | [d1, d2] => { results := [.lit (.bool false)], args := [d1, d2] }
  | _ => none }
def UtfBackWrongFalsely : Prop := utfBackRow.holds Try.pinned (OpenSpec.ofChange utfBackWrong)

/-- 'styluslaw04.MarksMove': WHATEVER THE INPUT: true; the input reads as it did. -/
def marksMoveSpec : ChangeSpec := { name := "marksMove", fn := fun _ => fun
  | [d1, d2] => { results := [.lit (.bool true)], args := [d1, d2] }
  | _ => none }
def marksMoveRow : OpenClaim := { program := "ythbdiambigfgdaa", sum := "4c66fc7efca7ad5945168f12c99437666ea52b7e9ae389008588090af04f2fcb", func := "stylus/styluslaw04.MarksMove", spec := "marksMove", unfollowed := true, recurses := true, apart := false }
def MarksMoveSaid : Prop := marksMoveRow.holds Try.pinned (OpenSpec.ofChange marksMoveSpec)

/-- ITS FALSE NEIGHBOUR: 'it returns false'. Refute it at one input. -/
def marksMoveWrong : ChangeSpec := { name := "marksMove", fn := fun _ => fun
  | [d1, d2] => { results := [.lit (.bool false)], args := [d1, d2] }
  | _ => none }
def MarksMoveWrongFalsely : Prop := marksMoveRow.holds Try.pinned (OpenSpec.ofChange marksMoveWrong)

/- THE SECOND FORM. 'bulk': how many values and letters a reading holds, each counted each time it is reached (what is shared counts as often as it is met; a slice's spare places count too). A statement '..UptoSaid' is the law's where the arguments, and the package variables that the reading takes, are together of bulk at most 1048576: NARROWER than '..Said'. Prove '..Said' where nothing that the law and all that it calls make is longer than what came in: it says more and counts as full. Else prove '..UptoSaid'. A law counts once. -/
mutual
def uptoBulk {H : Type} : DataW H → Nat
  | .lit (.string bytes) => bytes.length + 1
  | .lit _ => 1
  | .nil => 1
  | .ptr d => uptoBulk d + 1
  | .slice elems spare => uptoBulkAll elems + uptoBulkAll spare + 1
  | .agg parts => uptoBulkAll parts + 1
  | .iface _ d => uptoBulk d + 1
  | .map entries => uptoBulkEntries entries + 1
  | .held _ => 1
def uptoBulkAll {H : Type} : List (DataW H) → Nat
  | [] => 0
  | d :: r => uptoBulk d + uptoBulkAll r
def uptoBulkEntries {H : Type} : List (Lit × DataW H) → Nat
  | [] => 0
  | x :: r => uptoBulkEntry x + uptoBulkEntries r
def uptoBulkEntry {H : Type} : Lit × DataW H → Nat
  | (.string bytes, d) => bytes.length + uptoBulk d + 1
  | (_, d) => uptoBulk d + 1
 end
def uptoSmall : (H : Type) → List (DataW H) → Bool := fun _ ds => decide (uptoBulkAll ds ≤ 1048576)
def OpenSpec.upto (s : _root_.Go.ChangeSpec) : _root_.Go.OpenSpec := { _root_.Go.OpenSpec.ofChange s with cond := some uptoSmall }

/-- 'styluslaw02.WidthTells', WHERE WHAT IT READS IS OF BULK AT MOST 1048576: true; the input reads as it did. -/
def widthTellsUptoRow : OpenClaim := { program := "ythbdiambigfgdaa", sum := "4c66fc7efca7ad5945168f12c99437666ea52b7e9ae389008588090af04f2fcb", func := "stylus/styluslaw02.WidthTells", spec := "widthTells", apart := false, narrowed := true }
def WidthTellsUptoSaid : Prop := widthTellsUptoRow.holds Try.pinned (OpenSpec.upto widthTellsSpec)

/-- 'styluslaw02.WidthAdds', WHERE WHAT IT READS IS OF BULK AT MOST 1048576: true; the input reads as it did. -/
def widthAddsUptoRow : OpenClaim := { program := "ythbdiambigfgdaa", sum := "4c66fc7efca7ad5945168f12c99437666ea52b7e9ae389008588090af04f2fcb", func := "stylus/styluslaw02.WidthAdds", spec := "widthAdds", apart := false, narrowed := true }
def WidthAddsUptoSaid : Prop := widthAddsUptoRow.holds Try.pinned (OpenSpec.upto widthAddsSpec)

/-- 'styluslaw01.UtfWrites', WHERE WHAT IT READS IS OF BULK AT MOST 1048576: true; the input reads as it did. -/
def utfWritesUptoRow : OpenClaim := { program := "ythbdiambigfgdaa", sum := "4c66fc7efca7ad5945168f12c99437666ea52b7e9ae389008588090af04f2fcb", func := "stylus/styluslaw01.UtfWrites", spec := "utfWrites", apart := false, narrowed := true }
def UtfWritesUptoSaid : Prop := utfWritesUptoRow.holds Try.pinned (OpenSpec.upto utfWritesSpec)

/-- 'styluslaw01.UtfReads', WHERE WHAT IT READS IS OF BULK AT MOST 1048576: true; the input reads as it did. -/
def utfReadsUptoRow : OpenClaim := { program := "ythbdiambigfgdaa", sum := "4c66fc7efca7ad5945168f12c99437666ea52b7e9ae389008588090af04f2fcb", func := "stylus/styluslaw01.UtfReads", spec := "utfReads", apart := false, narrowed := true }
def UtfReadsUptoSaid : Prop := utfReadsUptoRow.holds Try.pinned (OpenSpec.upto utfReadsSpec)

/-- 'styluslaw01.UtfBack', WHERE WHAT IT READS IS OF BULK AT MOST 1048576: true; the input reads as it did. -/
def utfBackUptoRow : OpenClaim := { program := "ythbdiambigfgdaa", sum := "4c66fc7efca7ad5945168f12c99437666ea52b7e9ae389008588090af04f2fcb", func := "stylus/styluslaw01.UtfBack", spec := "utfBack", apart := false, narrowed := true }
def UtfBackUptoSaid : Prop := utfBackUptoRow.holds Try.pinned (OpenSpec.upto utfBackSpec)

/-- 'styluslaw04.MarksMove', WHERE WHAT IT READS IS OF BULK AT MOST 1048576: true; the input reads as it did. -/
def marksMoveUptoRow : OpenClaim := { program := "ythbdiambigfgdaa", sum := "4c66fc7efca7ad5945168f12c99437666ea52b7e9ae389008588090af04f2fcb", func := "stylus/styluslaw04.MarksMove", spec := "marksMove", unfollowed := true, recurses := true, apart := false, narrowed := true }
def MarksMoveUptoSaid : Prop := marksMoveUptoRow.holds Try.pinned (OpenSpec.upto marksMoveSpec)

end Rows
end Go.Proofs.Ythbdiambigfgdaa
