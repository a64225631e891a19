-- Out of the words that the kit's print laid for this seat: what this claim doesn't come to is left out (wip/trim.py of this session).
import Derived.Test.YtgiodeiibmbhhaaWInv
import Derived.Test.YtgiodeiibmbhhaaWFootNe
namespace Go.Proofs.YtgiodeiibmbhhaaW.PrintWords
open Go.RowKit
end Go.Proofs.YtgiodeiibmbhhaaW.PrintWords
namespace Go.Proofs.YtgiodeiibmbhhaaW.PrintLast
section
variable {ops : Array Oper} {a : Act} {o og : Oper} {g : Nat} {t : Tmp} {u : Bool}
end
end Go.Proofs.YtgiodeiibmbhhaaW.PrintLast
