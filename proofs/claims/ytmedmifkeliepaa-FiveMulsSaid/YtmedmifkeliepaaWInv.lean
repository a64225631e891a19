-- Out of the words that the kit's print laid for this seat: what this claim doesn't come to is left out (wip/trim.py of this session).
import Derived.Test.YtmedmifkeliepaaWTab
namespace Go.Proofs.YtmedmifkeliepaaW.PrintLast
def up (b : Nat → Bool) (i : Nat) : Nat → Bool := fun j => if j = i then true else b j
section
variable {P : Program} {ops : Array Oper} {Q : Exit → Act → World → Prop} {md : Region.Mode} {T : Bool × List (List Nat × List Nat)} {B : List Nat} {O : List Nat} {b : Nat → Bool} {i j n : Nat}
end
end Go.Proofs.YtmedmifkeliepaaW.PrintLast
