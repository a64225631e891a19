-- Out of the words that the kit's print laid for this seat: what this claim doesn't come to is left out (wip/trim.py of this session).
import Derived.Test.YtmedmifkeliepaaWWords
import Derived.Laws.StructEq
namespace Go.Proofs.YtmedmifkeliepaaW.PrintWords
open Go.RowKit
section
variable {P : Program} {d : Nat} {xs ys : Array Value} {f : Field} {fs : List Field} {a b : Value} {r s : Bool} {w : World}
end
end Go.Proofs.YtmedmifkeliepaaW.PrintWords
