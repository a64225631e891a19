/- The table of types is as the program has it. -/
import Derived.Test.YtgdaiifhedpffaaDoorVNode
import Derived.Test.YtgdaiifhedpffaaDoorVEnv
import Derived.Test.YtgdaiifhedpffaaDoorProg
import Derived.KernelRfl
namespace Go.Proofs.YtgdaiifhedpffaaDoor.V
open Go
theorem env_envB : envB Tryd.prog env = true := by kernel_rfl
theorem mixed : Tryd.prog.follows .mixedOrders = true := by kernel_rfl
end Go.Proofs.YtgdaiifhedpffaaDoor.V
