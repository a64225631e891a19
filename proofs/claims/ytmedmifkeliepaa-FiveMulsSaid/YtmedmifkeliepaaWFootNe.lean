-- Out of the words that the kit's print laid for this seat: what this claim doesn't come to is left out (wip/trim.py of this session).
import Derived.Test.YtmedmifkeliepaaWN
namespace Go.Proofs.YtmedmifkeliepaaW.PrintWords
open Go.RowKit
namespace Kd
section
variable {α : Type} {d : Kd α} {W : World} {g n : Nat} {S ok : Nat → Prop} {A : Option Addr} {ad : Addr} {xs : List α}
end
end Kd
end Go.Proofs.YtmedmifkeliepaaW.PrintWords
