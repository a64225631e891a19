/- The pure statement of SectFormats: sectors are checked and formatted alike. -/
import Derived.Test.YtlgbhaigpecdoaaVPureSectS
set_option linter.unusedVariables false
set_option linter.unusedSimpArgs false
namespace Go.Proofs.Ytlgbhaigpecdoaa.V
open Go

theorem Pure.SectFormats (x0 : Int) (x1 : den (.slc (.pair (.int .i64) (.pair (.int .i64) (.pair (.slc (.int .u8)) (.pair .bool .unit)))))) (x2 : Int) (w0 : (Lit.int .i64 x0).wf = true) (w1 : ∀ y0 ∈ x1, (((Lit.int .i64 y0.1).wf = true) ∧ (((Lit.int .i64 y0.2.1).wf = true) ∧ ((∀ y1 ∈ y0.2.2.1, ((Lit.int .u8 y1).wf = true)) ∧ ((True) ∧ (True)))))) (s1 : List.length x1 * 48 ≤ 140737488351232 ∧ ∀ y0 ∈ x1, ((True) ∧ ((True) ∧ ((List.length y0.2.2.1 * 1 ≤ 140737488351232 ∧ ∀ y1 ∈ y0.2.2.1, (True)) ∧ ((True) ∧ (True)))))) (w2 : (Lit.int .i64 x2).wf = true) : f11 x0 x1 x2 = some ((true, ()), ()) := by
  have hb : ∀ s ∈ x1, byteL s.2.2.1 := fun s hs x hx => wf_u8 ((w1 s hs).2.2.1 x hx)
  unfold f11 f11_k
  rw [form57 x0 x1 x2 hb, form52 x0 x1 x2 hb, begun55, check58, check59]
  simp only [some_bind, cond_true, beq_self_eq_true]
  rw [eq33 _ _ (by have := formR_len x0 x1 x2; omega)]
  simp
end Go.Proofs.Ytlgbhaigpecdoaa.V
