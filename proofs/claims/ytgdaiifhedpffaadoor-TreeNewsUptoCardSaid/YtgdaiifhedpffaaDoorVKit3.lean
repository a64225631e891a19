/- Words for loops over lists, with ways out; equal rows. -/
import Derived.Test.YtgdaiifhedpffaaDoorVKit2
set_option linter.unusedVariables false
set_option linter.unusedSimpArgs false
namespace Go.Proofs.YtgdaiifhedpffaaDoor.V
open Go
theorem dlt {j n : Nat} (h : j < n) : decide ((j : Int) < (n : Int)) = true := by simp; omega
theorem dge {n : Nat} : decide ((n : Int) < (n : Int)) = false := by simp
theorem wj {j : Nat} (h : j < 9223372036854775807) : IntKind.i64.wrap ((j : Int) + 1) = ((j + 1 : Nat) : Int) := by rw [wi (by omega) (by omega)]; omega
end Go.Proofs.YtgdaiifhedpffaaDoor.V
