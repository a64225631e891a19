/- The table of types is as the program has it. -/
import Derived.Test.YtmfjebpdkgbggaaVNode
import Derived.Test.YtmfjebpdkgbggaaVEnv
import Derived.Test.YtmfjebpdkgbggaaProg
import Derived.KernelRfl
namespace Go.Proofs.Ytmfjebpdkgbggaa.V
open Go
theorem env_envB : envB Try.prog env = true := by kernel_rfl
theorem mixed : Try.prog.follows .mixedOrders = true := by kernel_rfl
end Go.Proofs.Ytmfjebpdkgbggaa.V
