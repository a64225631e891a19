-- Out of the words that the kit's print laid for this seat: what this claim doesn't come to is left out (wip/trim.py of this session).
import Derived.Test.YtmedmifkeliepaaWInv
import Derived.Test.YtmedmifkeliepaaWFootNe
namespace Go.Proofs.YtmedmifkeliepaaW.PrintWords
open Go.RowKit
end Go.Proofs.YtmedmifkeliepaaW.PrintWords
namespace Go.Proofs.YtmedmifkeliepaaW.PrintLast
section
variable {ops : Array Oper} {a : Act} {o og : Oper} {g : Nat} {t : Tmp} {u : Bool}
end
end Go.Proofs.YtmedmifkeliepaaW.PrintLast
