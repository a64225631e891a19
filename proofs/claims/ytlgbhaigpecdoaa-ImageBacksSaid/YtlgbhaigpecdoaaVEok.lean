/- The table of types is as the program has it. -/
import Derived.Test.YtlgbhaigpecdoaaVNode
import Derived.Test.YtlgbhaigpecdoaaVEnv
import Derived.Test.YtlgbhaigpecdoaaProg
import Derived.KernelRfl
namespace Go.Proofs.Ytlgbhaigpecdoaa.V
open Go
theorem env_envB : envB Try.prog env = true := by kernel_rfl
theorem mixed : Try.prog.follows .mixedOrders = true := by kernel_rfl
end Go.Proofs.Ytlgbhaigpecdoaa.V
