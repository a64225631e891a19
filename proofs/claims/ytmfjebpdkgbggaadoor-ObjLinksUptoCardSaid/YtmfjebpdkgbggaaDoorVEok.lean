/- The table of types is as the program has it. -/
import Derived.Test.YtmfjebpdkgbggaaDoorVNode
import Derived.Test.YtmfjebpdkgbggaaDoorVEnv
import Derived.Test.YtmfjebpdkgbggaaDoorProg
import Derived.KernelRfl
namespace Go.Proofs.YtmfjebpdkgbggaaDoor.V
open Go
theorem env_envB : envB Tryd.prog env = true := by kernel_rfl
theorem mixed : Tryd.prog.follows .mixedOrders = true := by kernel_rfl
end Go.Proofs.YtmfjebpdkgbggaaDoor.V
