/- Words of the print for this claim, as its tool wrote them, cut down to what this claim uses. -/
import Derived.Test.YthbdiambigfgdaeVInv
import Derived.Test.YthbdiambigfgdaeVFootNe
namespace Go.Proofs.YthbdiambigfgdaeW.PrintWords
open Go.RowKit
end Go.Proofs.YthbdiambigfgdaeW.PrintWords
namespace Go.Proofs.YthbdiambigfgdaeW.PrintLast
section
variable {ops : Array Oper} {a : Act} {o og : Oper} {g : Nat} {t : Tmp} {u : Bool}
end
end Go.Proofs.YthbdiambigfgdaeW.PrintLast
