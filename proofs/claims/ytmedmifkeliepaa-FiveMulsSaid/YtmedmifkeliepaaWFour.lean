-- Out of the words that the kit's print laid for this seat: what this claim doesn't come to is left out (wip/trim.py of this session).
import Derived.Test.YtmedmifkeliepaaWTab
namespace Go.Proofs.YtmedmifkeliepaaW.PrintLast
section
variable {P : Program} {ops : Array Oper} {Q : Exit → Act → World → Prop} {md : Region.Mode} {S : World → Prop} {ds : List Nat} {T : Bool × List (List Nat × List Nat)}
end
end Go.Proofs.YtmedmifkeliepaaW.PrintLast
