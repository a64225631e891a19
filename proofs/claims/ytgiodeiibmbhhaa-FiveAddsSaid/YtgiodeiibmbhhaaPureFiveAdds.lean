/-
  FiveAdds: for all pairs of numbers of five bytes: five.Neg, five.Add and five.Sub return what the reference's Opposite, FivePlus and FiveMinus return. No condition beyond the row's own.
-/
import Derived.Test.YtgiodeiibmbhhaaZFiveAdds
set_option linter.unusedVariables false
set_option linter.unusedSimpArgs false
namespace Go.Proofs.Ytgiodeiibmbhhaa.Pure
open Go Go.RowKit Go.Proofs.YtgiodeiibmbhhaaW.PrintWords Go.Proofs.YtgiodeiibmbhhaaW.PrintLast Go.Proofs.YtgiodeiibmbhhaaW.PrintMore Go.Proofs.Ytgiodeiibmbhhaa.PFiveAdds Go.Proofs.Ytgiodeiibmbhhaa.Bk Go.Proofs.Ytgiodeiibmbhhaa.BkFiveAdds
theorem FiveAdds : bakelaw2_FiveAdds.Pure := by
  intro x0 x1 w0 _ w1 _
  have ba : B5 x0.f0 x0.f1 x0.f2 x0.f3 x0.f4 := ⟨u8_one w0.1, u8_one w0.2.1, u8_one w0.2.2.1, u8_one w0.2.2.2.1, u8_one w0.2.2.2.2⟩
  have bc : B5 x1.f0 x1.f1 x1.f2 x1.f3 x1.f4 := ⟨u8_one w1.1, u8_one w1.2.1, u8_one w1.2.2.1, u8_one w1.2.2.2.1, u8_one w1.2.2.2.2⟩
  obtain ⟨r, r1, r2⟩ := add_ev x0.f0 x0.f1 x0.f2 x0.f3 x0.f4 x1.f0 x1.f1 x1.f2 x1.f3 x1.f4 ba bc
  obtain ⟨s, s1, s2⟩ := sub_ev x0.f0 x0.f1 x0.f2 x0.f3 x0.f4 x1.f0 x1.f1 x1.f2 x1.f3 x1.f4 ba bc
  have hN := neg_ev x0.f0 x0.f1 x0.f2 x0.f3 x0.f4 ba.b1
  have hO := opp_ev x0.f0 x0.f1 x0.f2 x0.f3 x0.f4 ba.b0 ba.b1
  have main : Ev (fun k => bakelaw2_FiveAdds.f k x0.f0 x0.f1 x0.f2 x0.f3 x0.f4 x1.f0 x1.f1 x1.f2 x1.f3 x1.f4) true := by
    unfold bakelaw2_FiveAdds.f
    refine Ev.bind r1 (Ev.bind s1 (Ev.bind r2 (Ev.bind s2 (Ev.bind begun_ev (Ev.pos rfl (Ev.bind (Ev.all fun k => hN) (Ev.bind hO ?_)))))))
    refine Ev.pos (by simp) (Ev.pos (by simp) (Ev.pos rfl (Ev.pos (by simp) (Ev.all fun k => ?_))))
    simp
  exact main.rounds
end Go.Proofs.Ytgiodeiibmbhhaa.Pure
