/-
  WeakShows: for all guards and readings: weak.Shows returns what the reference's Guarded returns. No condition beyond the row's own.
-/
import Derived.Test.YtgiodeiibmbhhaaZWeakShows
set_option linter.unusedVariables false
set_option linter.unusedSimpArgs false
namespace Go.Proofs.Ytgiodeiibmbhhaa.Pure
open Go Go.RowKit Go.Proofs.YtgiodeiibmbhhaaW.PrintWords Go.Proofs.YtgiodeiibmbhhaaW.PrintLast Go.Proofs.YtgiodeiibmbhhaaW.PrintMore Go.Proofs.Ytgiodeiibmbhhaa.PWeakShows Go.Proofs.Ytgiodeiibmbhhaa.Bk Go.Proofs.Ytgiodeiibmbhhaa.BkWeakShows
theorem all_eq (g0 g1 n : Int) (h : 0 ≤ g0 ∧ g0 < 5 ∧ ¬ g0 = 3) (l : List (List S107)) : l.all (gdM g0 g1 n) = l.all (oneM g0 g1 n) := by
  have : gdM g0 g1 n = oneM g0 g1 n := funext fun r => gd_one g0 g1 n r h
  rw [this]
theorem WeakShows : bakelaw2_WeakShows.Pure := by
  intro x0 x1 w0 s0 w1 s1
  have hm : x1.length < 5864062014805 := by have := s1.1; omega
  have hr : ∀ r ∈ x1, r.length ≤ 2932031007400 := fun r h => by have := (s1.2 r h).1; omega
  have hb : ∀ r ∈ x1, ∀ z ∈ r, z.f2.length ≤ 140737488355328 := fun r h z hz => by have := ((s1.2 r h).2 z hz).2.2.1.1; omega
  have main : Ev (fun k => bakelaw2_WeakShows.f k x0.f0 x0.f1 x0.f2 x1) true := by
    generalize x0.f0 = g0, x0.f1 = g1, x0.f2 = n
    unfold bakelaw2_WeakShows.f
    refine Ev.bind (shows_ev 0 0 0 [[]] (by simp) (by simp) (by simp)) ?_
    rw [show showM 0 0 0 [[]] = (true, 0) by decide]
    refine Ev.pos rfl ?_
    refine Ev.step (f := fun k => (weak_Shows.f k g0 g1 n x1).bind fun bt => if g0 < 0 then bakelaw2_WeakShows.j1 k x1 bt.1 bt.2 true g0 g1 n else bakelaw2_WeakShows.j1 k x1 bt.1 bt.2 (decide (g0 > 4)) g0 g1 n) (fun k => by simp only [bakelaw2_WeakShows.j0]; rw [if_neg (by decide)]) ?_
    refine Ev.bind (shows_ev g0 g1 n x1 (by omega) hr hb) ?_
    have j (b : Bool) (hbv : b = decide (g0 < 0 ∨ g0 ≥ 5)) : Ev (fun k => bakelaw2_WeakShows.j1 k x1 (showM g0 g1 n x1).1 (showM g0 g1 n x1).2 b g0 g1 n) true := by
      unfold showM
      by_cases h : g0 < 0 ∨ g0 ≥ 5
      · rw [decide_eq_true h] at hbv
        rw [if_pos h, hbv]
        exact Ev.done fun k => by simp only [bakelaw2_WeakShows.j1]; rfl
      · rw [decide_eq_false h] at hbv
        rw [if_neg h, hbv]
        by_cases h0 : x1.length = 0
        · rw [if_pos h0]
          exact Ev.done fun k => by simp only [bakelaw2_WeakShows.j1]; rw [if_neg (by simp), if_pos (by omega)]; rfl
        · rw [if_neg h0]
          refine Ev.step (f := fun k => (bakeref2_Guarded.f k g0 g1 n x1).bind fun t => some (((if g0 = 3 then (uns n false [] x1, (0 : Int)) else (x1.all (oneM g0 g1 n), 0)).1) == t)) (fun k => ?_) (Ev.bind (guard_ev g0 g1 n (by omega) x1 hm hr hb) (Ev.all fun k => ?_))
          · simp only [bakelaw2_WeakShows.j1]
            rw [if_neg (by simp), if_neg (by omega)]
            by_cases h3 : g0 = 3
            · simp only [if_pos h3]; rfl
            · simp only [if_neg h3]; rfl
          · by_cases h3 : g0 = 3
            · simp [h3]
            · simp only [if_neg h3]
              rw [all_eq g0 g1 n (by omega)]; simp
    by_cases h : g0 < 0
    · exact Ev.pos h (j true (by rw [decide_eq_true (.inl h)]))
    · refine Ev.neg h (j _ ?_)
      rw [decide_eq_decide]; omega
  exact main.rounds
end Go.Proofs.Ytgiodeiibmbhhaa.Pure
