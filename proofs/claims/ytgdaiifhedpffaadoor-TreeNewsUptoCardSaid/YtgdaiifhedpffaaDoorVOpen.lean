/- How an argument is read: a plain value that the cells hold, its bounds, and how much of the law's bulk it takes. -/
import Derived.Test.YtgdaiifhedpffaaDoorVNode
import Derived.Test.YtgdaiifhedpffaaDoorRows
import Derived.SizedLaws
import Derived.ChangeReads
set_option linter.unusedVariables false
set_option linter.unusedSimpArgs false
namespace Go.Proofs.YtgdaiifhedpffaaDoor.V
open Go Go.RowKit
abbrev OldIm (W : World) : Nat → Prop := fun k => k < W.heap.size
end Go.Proofs.YtgdaiifhedpffaaDoor.V
