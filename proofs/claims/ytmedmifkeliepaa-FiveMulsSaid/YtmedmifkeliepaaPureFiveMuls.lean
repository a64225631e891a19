/-
  FiveMuls: for all pairs of numbers of five bytes: five.Mul, five.Div and five.Cmp return what the reference's FiveTimes, FiveOver, FiveErr and FiveCmp return. No condition beyond the row's own.
-/
import Derived.Test.YtmedmifkeliepaaZFiveMuls
set_option linter.unusedVariables false
set_option linter.unusedSimpArgs false
namespace Go.Proofs.Ytmedmifkeliepaa.Pure
open Go Go.RowKit Go.Proofs.YtmedmifkeliepaaW.PrintWords Go.Proofs.YtmedmifkeliepaaW.PrintLast Go.Proofs.YtmedmifkeliepaaW.PrintMore Go.Proofs.Ytmedmifkeliepaa.PFiveMuls Go.Proofs.Ytmedmifkeliepaa.Bk Go.Proofs.Ytmedmifkeliepaa.BkFiveMuls
theorem FiveMuls : bakelaw2_FiveMuls.Pure := by
  intro x0 x1 w0 _ w1 _
  have ba : B5 x0.f0 x0.f1 x0.f2 x0.f3 x0.f4 := ⟨u8_one w0.1, u8_one w0.2.1, u8_one w0.2.2.1, u8_one w0.2.2.2.1, u8_one w0.2.2.2.2⟩
  have bc : B5 x1.f0 x1.f1 x1.f2 x1.f3 x1.f4 := ⟨u8_one w1.1, u8_one w1.2.1, u8_one w1.2.2.1, u8_one w1.2.2.2.1, u8_one w1.2.2.2.2⟩
  obtain ⟨r, r1, r2⟩ := mul_ev x0.f0 x0.f1 x0.f2 x0.f3 x0.f4 x1.f0 x1.f1 x1.f2 x1.f3 x1.f4 ba bc
  obtain ⟨s, s1, s2⟩ := div_ev x0.f0 x0.f1 x0.f2 x0.f3 x0.f4 x1.f0 x1.f1 x1.f2 x1.f3 x1.f4 ba bc
  have hE := err_ev x0.f0 x0.f1 x0.f2 x0.f3 x0.f4 ba.b1 ba.b2 ba.b3 ba.b4
  have hF := err_ev x1.f0 x1.f1 x1.f2 x1.f3 x1.f4 bc.b1 bc.b2 bc.b3 bc.b4
  have hB := both_ev x0.f0 x0.f1 x0.f2 x0.f3 x0.f4 x1.f0 x1.f1 x1.f2 x1.f3 x1.f4
  have main : Ev (fun k => bakelaw2_FiveMuls.f k x0.f0 x0.f1 x0.f2 x0.f3 x0.f4 x1.f0 x1.f1 x1.f2 x1.f3 x1.f4) true := by
    unfold bakelaw2_FiveMuls.f
    refine Ev.bind r1 (Ev.bind s1 (Ev.bind r2 (Ev.bind s2 ?_)))
    by_cases e1 : chk x0.f0 x0.f1 x0.f2 x0.f3 x0.f4 = 0
    · rw [if_pos e1] at hB
      by_cases e2 : chk x1.f0 x1.f1 x1.f2 x1.f3 x1.f4 = 0
      · refine Ev.bind (cmp_ev x0.f0 x0.f1 x0.f2 x0.f3 x0.f4 x1.f0 x1.f1 x1.f2 x1.f3 x1.f4 ba bc e1 e2) (Ev.bind (Ev.all fun k => hE) (Ev.pos e1 (Ev.bind (Ev.all fun k => hF) ?_)))
        refine Ev.step (fun k => by simp only [bakelaw2_FiveMuls.j0]; rfl) (Ev.pos e2 (Ev.bind (Ev.all fun k => fcmp_ev x0.f0 x0.f1 x0.f2 x0.f3 x0.f4 x1.f0 x1.f1 x1.f2 x1.f3 x1.f4 ba bc) (Ev.bind begun_ev (Ev.pos rfl ?_))))
        refine Ev.pos (by simp) (Ev.pos (by first | trivial | rfl) (Ev.pos (by simp) (Ev.pos (by first | trivial | rfl) (Ev.pos (by first | trivial | rfl) (Ev.all fun k => ?_)))))
        rw [e2]; rfl
      · have hC : Ev (fun k => five_Cmp.f k x0.f0 x0.f1 x0.f2 x0.f3 x0.f4 x1.f0 x1.f1 x1.f2 x1.f3 x1.f4) (0, chk x1.f0 x1.f1 x1.f2 x1.f3 x1.f4) := by
          unfold five_Cmp.f
          exact Ev.bind (Ev.all fun k => hB) (Ev.neg e2 (Ev.all fun k => rfl))
        refine Ev.bind hC (Ev.bind (Ev.all fun k => hE) (Ev.pos e1 (Ev.bind (Ev.all fun k => hF) ?_)))
        refine Ev.step (fun k => by simp only [bakelaw2_FiveMuls.j0]; rfl) (Ev.neg e2 (Ev.bind begun_ev (Ev.pos rfl ?_)))
        refine Ev.pos (by simp) (Ev.pos (by first | trivial | rfl) (Ev.pos (by simp) (Ev.pos (by first | trivial | rfl) (Ev.pos (by first | trivial | rfl) (Ev.all fun k => ?_)))))
        simp
    · rw [if_neg e1] at hB
      have hC : Ev (fun k => five_Cmp.f k x0.f0 x0.f1 x0.f2 x0.f3 x0.f4 x1.f0 x1.f1 x1.f2 x1.f3 x1.f4) (0, chk x0.f0 x0.f1 x0.f2 x0.f3 x0.f4) := by
        unfold five_Cmp.f
        exact Ev.bind (Ev.all fun k => hB) (Ev.neg e1 (Ev.all fun k => rfl))
      refine Ev.bind hC (Ev.bind (Ev.all fun k => hE) (Ev.neg e1 ?_))
      refine Ev.step (fun k => by simp only [bakelaw2_FiveMuls.j0]; rfl) (Ev.neg e1 (Ev.bind begun_ev (Ev.pos rfl ?_)))
      refine Ev.pos (by simp) (Ev.pos (by first | trivial | rfl) (Ev.pos (by simp) (Ev.pos (by first | trivial | rfl) (Ev.pos (by first | trivial | rfl) (Ev.all fun k => ?_)))))
      simp
  exact main.rounds
end Go.Proofs.Ytmedmifkeliepaa.Pure
