/- Words of the print for this claim, as its tool wrote them, cut down to what this claim uses. -/
import Derived.Test.YthbdiambigfgdafVInv
import Derived.Test.YthbdiambigfgdafVFootNe
namespace Go.Proofs.YthbdiambigfgdafW.PrintWords
open Go.RowKit
end Go.Proofs.YthbdiambigfgdafW.PrintWords
namespace Go.Proofs.YthbdiambigfgdafW.PrintLast
section
variable {ops : Array Oper} {a : Act} {o og : Oper} {g : Nat} {t : Tmp} {u : Bool}
end
end Go.Proofs.YthbdiambigfgdafW.PrintLast
