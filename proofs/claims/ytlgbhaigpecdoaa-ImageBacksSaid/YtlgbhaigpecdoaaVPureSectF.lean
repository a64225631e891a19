/- Sectors are formatted alike. -/
import Derived.Test.YtlgbhaigpecdoaaVFnSect
import Derived.Test.YtlgbhaigpecdoaaVPureSectA
set_option linter.unusedVariables false
set_option linter.unusedSimpArgs false
namespace Go.Proofs.Ytlgbhaigpecdoaa.V
open Go
end Go.Proofs.Ytlgbhaigpecdoaa.V
