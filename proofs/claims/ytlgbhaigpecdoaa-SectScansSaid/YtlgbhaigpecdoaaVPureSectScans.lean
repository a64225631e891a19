/- The pure statement of SectScans: sectors are read alike. -/
import Derived.Test.YtlgbhaigpecdoaaVPureSectS
set_option linter.unusedVariables false
set_option linter.unusedSimpArgs false
namespace Go.Proofs.Ytlgbhaigpecdoaa.V
open Go

theorem Pure.SectScans (x0 : den (.slc (.int .i64))) (x1 : Int) (w0 : ∀ y0 ∈ x0, ((Lit.int .i64 y0).wf = true)) (s0 : List.length x0 * 8 ≤ 140737488351232 ∧ ∀ y0 ∈ x0, (True)) (w1 : (Lit.int .i64 x1).wf = true) : f10 x0 x1 = some ((true, ()), ()) := by
  have h := scanR_ok x0 x1
  unfold f10 f10_k
  rw [scan53, scan54, begun55]
  simp only [some_bind, cond_true, beq_self_eq_true]
  unfold f56 f56_k
  rw [eq112 _ _ (by omega) (fun s hs => by have := h.2 s hs; omega)]
  simp
end Go.Proofs.Ytlgbhaigpecdoaa.V
