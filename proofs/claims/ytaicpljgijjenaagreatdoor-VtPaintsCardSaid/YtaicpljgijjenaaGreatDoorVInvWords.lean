/- Words of the print for this claim, as its tool wrote them, cut down to what this claim uses. -/
import Derived.Test.YtaicpljgijjenaaGreatDoorVInv
import Derived.Test.YtaicpljgijjenaaGreatDoorVFootNe
namespace Go.Proofs.YtaicpljgijjenaaGreatDoorW.PrintWords
open Go.RowKit
end Go.Proofs.YtaicpljgijjenaaGreatDoorW.PrintWords
namespace Go.Proofs.YtaicpljgijjenaaGreatDoorW.PrintLast
section
variable {ops : Array Oper} {a : Act} {o og : Oper} {g : Nat} {t : Tmp} {u : Bool}
end
end Go.Proofs.YtaicpljgijjenaaGreatDoorW.PrintLast
