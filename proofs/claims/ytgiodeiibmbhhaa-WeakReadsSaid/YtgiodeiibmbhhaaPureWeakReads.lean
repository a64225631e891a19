/-
  WeakReads: for all weak surfaces and seeds: weak.Read and weak.Check return what the reference's Weakly and SurfaceErr return. No condition beyond the row's own.
-/
import Derived.Test.YtgiodeiibmbhhaaZWeakReads
set_option linter.unusedVariables false
set_option linter.unusedSimpArgs false
namespace Go.Proofs.Ytgiodeiibmbhhaa.Pure
open Go Go.RowKit Go.Proofs.YtgiodeiibmbhhaaW.PrintWords Go.Proofs.YtgiodeiibmbhhaaW.PrintLast Go.Proofs.YtgiodeiibmbhhaaW.PrintMore Go.Proofs.Ytgiodeiibmbhhaa.PWeakReads Go.Proofs.Ytgiodeiibmbhhaa.Bk Go.Proofs.Ytgiodeiibmbhhaa.BkWeakReads
theorem ofL_len (l : List Int) : (ofL l).1.length ≤ 40000 := by
  unfold ofL
  split
  · simp
  · have := difA_bound l [] 0
    simp only [List.length_nil] at this; omega
theorem read_bad (t : List Int) (l : List S122) (s : Int) (ht : t.length ≤ 140737488355328) (h : ¬ surfOf t l = 0) : Ev (fun k => weak_Read.f k t l s) ([], surfOf t l) := by
  unfold weak_Read.f
  exact Ev.bind (wcheck_ev t l ht) (Ev.neg h (Ev.all fun k => rfl))
theorem WeakReads : bakelaw2_WeakReads.Pure := by
  intro x0 x1 w0 s0 w1
  have ht : x0.f0.length ≤ 140737488355328 := by have := s0.1.1; omega
  have main : Ev (fun k => bakelaw2_WeakReads.f k x0.f0 x0.f1 x1) true := by
    unfold bakelaw2_WeakReads.f
    refine Ev.bind (wread_ev [5, 7] [] 1 (by decide) (by decide)) ?_
    rw [wk_nil, show ofL (cum 0 [5, 7]) = ([5, 7], 0) by decide]
    refine Ev.pos rfl (Ev.bind (slices_Equal_api_Track_int_ev [5, 7] [5, 7] (by decide)) ?_)
    refine Ev.step (fun k => by simp only [bakelaw2_WeakReads.j0]; rw [if_neg (by decide)]) ?_
    refine Ev.bind (serr_ev x0.f0 x0.f1 ht) ?_
    by_cases h : surfOf x0.f0 x0.f1 = 0
    · refine Ev.bind (wread_ev x0.f0 x0.f1 x1 ht h) (Ev.pos h (Ev.bind (weakly_ev x0.f0 x0.f1 x1 h) (Ev.bind (wcheck_ev x0.f0 x0.f1 ht) ?_)))
      refine Ev.pos rfl (Ev.pos rfl ?_)
      have a := ofL_len (wk x0.f1 0 0 (IntKind.u64.wrap x1) (cum 0 x0.f0))
      refine Ev.bind (slices_Equal_api_Track_int_ev _ _ (by omega)) (Ev.all fun k => ?_)
      simp
    · refine Ev.bind (read_bad x0.f0 x0.f1 x1 ht h) (Ev.neg h (Ev.bind (wcheck_ev x0.f0 x0.f1 ht) ?_))
      refine Ev.pos rfl (Ev.pos rfl ?_)
      refine Ev.bind (slices_Equal_api_Track_int_ev _ _ (by simp)) (Ev.all fun k => ?_)
      simp
  exact main.rounds
end Go.Proofs.Ytgiodeiibmbhhaa.Pure
