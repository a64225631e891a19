/-
  FiveWholes: for all whole numbers and all numbers of five bytes: five.Of, five.Check and five.Int return what the reference's FiveOf, FiveErr and FiveInt return. No condition beyond the row's own.
-/
import Derived.Test.YtgiodeiibmbhhaaZFiveWholes
set_option linter.unusedVariables false
set_option linter.unusedSimpArgs false
namespace Go.Proofs.Ytgiodeiibmbhhaa.Pure
open Go Go.RowKit Go.Proofs.YtgiodeiibmbhhaaW.PrintWords Go.Proofs.YtgiodeiibmbhhaaW.PrintLast Go.Proofs.YtgiodeiibmbhhaaW.PrintMore Go.Proofs.Ytgiodeiibmbhhaa.PFiveWholes Go.Proofs.Ytgiodeiibmbhhaa.Bk Go.Proofs.Ytgiodeiibmbhhaa.BkFiveWholes
theorem FiveWholes : bakelaw2_FiveWholes.Pure := by
  intro x0 x1 w0 w1 _
  have hn := i64_one w0
  have b0 : By x1.f0 := u8_one w1.1
  have b1 : By x1.f1 := u8_one w1.2.1
  have b2 : By x1.f2 := u8_one w1.2.2.1
  have b3 : By x1.f3 := u8_one w1.2.2.2.1
  have b4 : By x1.f4 := u8_one w1.2.2.2.2
  obtain ⟨r, r1, r2⟩ := of_ev x0 hn.1 hn.2
  obtain ⟨s, s1, s2⟩ := int_ev x1.f0 x1.f1 x1.f2 x1.f3 x1.f4 b0 b1 b2 b3 b4
  have hc := check_ev x1.f0 x1.f1 x1.f2 x1.f3 x1.f4
  have hE := err_ev x1.f0 x1.f1 x1.f2 x1.f3 x1.f4 b1 b2 b3 b4
  have main : Ev (fun k => bakelaw2_FiveWholes.f k x0 x1.f0 x1.f1 x1.f2 x1.f3 x1.f4) true := by
    unfold bakelaw2_FiveWholes.f
    refine Ev.bind r1 (Ev.bind r2 (Ev.bind s1 (Ev.bind s2 (Ev.bind begun_ev (Ev.pos rfl (Ev.bind (Ev.all fun k => hc) (Ev.bind (Ev.all fun k => hE) (Ev.pos rfl ?_))))))))
    refine Ev.pos (by simp) (Ev.pos rfl (Ev.pos rfl (Ev.all fun k => ?_)))
    simp
  exact main.rounds
end Go.Proofs.Ytgiodeiibmbhhaa.Pure
