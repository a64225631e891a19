/-
  FmWrites: for all rows of bytes, all tracks and all cells: fm.Write and fm.Read return what the reference's Fm and FmBytes return. No condition beyond the row's own.
-/
import Derived.Test.YtgiodeiibmbhhaaZFmWrites
set_option linter.unusedVariables false
set_option linter.unusedSimpArgs false
namespace Go.Proofs.Ytgiodeiibmbhhaa.Pure
open Go Go.RowKit Go.Proofs.YtgiodeiibmbhhaaW.PrintWords Go.Proofs.YtgiodeiibmbhhaaW.PrintLast Go.Proofs.YtgiodeiibmbhhaaW.PrintMore Go.Proofs.Ytgiodeiibmbhhaa.PFmWrites Go.Proofs.Ytgiodeiibmbhhaa.Bk Go.Proofs.Ytgiodeiibmbhhaa.BkFmWrites
theorem pulsesOf_length (l : List Int) (c : Int) : (pulsesOf l c).1.length ≤ 40000 := by
  unfold pulsesOf
  split
  · split
    · simp
    · rw [pulL_all]
      split
      · simp; omega
      · simp
  · simp
theorem fmOf_length (b : List Int) (c : Int) : (fmOf b c).1.length ≤ 40000 := by
  unfold fmOf; split
  · simp
  · exact pulsesOf_length _ _
theorem finL_length (B : List Bool) : (finL B).1.length ≤ 40000 := by
  unfold finL
  split
  · split
    · simp
    · have := (pkA_count B [] 0 0 (by omega)).2
      simp only [bytesL, List.length_nil] at this ⊢
      omega
  · simp
theorem fmRead_length (n : List Int) : (fmRead n).1.length ≤ 40000 := by
  unfold fmRead
  split
  · simp
  · split
    · split
      · simp
      · exact finL_length _
    · simp
theorem fmBytesOf_length (t : List Int) (c : Int) : (fmBytesOf t c).1.length ≤ 40000 := by
  unfold fmBytesOf; split
  · exact fmRead_length _
  · simp
theorem fm_begun : fmOf [128] 10 = ([10, 10, 10, 20, 20, 20, 20, 20, 20, 20], 0) := by decide +kernel
theorem FmWrites : bakelaw2_FmWrites.Pure := by
  intro x0 x1 x2 w0 s0 w1 s1 w2
  have h0 : ∀ c ∈ x0, 0 ≤ c ∧ c < 256 := u8_of w0
  have h1 : x1.length ≤ 140737488355328 := by have := s1.1; omega
  have main : Ev (fun k => bakelaw2_FmWrites.f k x0 x1 x2) true := by
    unfold bakelaw2_FmWrites.f
    refine Ev.bind (fmWrite_ev [128] 10 (by simp)) ?_
    rw [fm_begun]
    refine Ev.pos rfl (Ev.pos (by simp) (Ev.pos (by simp) ?_))
    refine Ev.step (fun k => by simp only [bakelaw2_FmWrites.j0]; rw [if_neg (by decide)]) ?_
    refine Ev.bind (fmWrite_ev x0 x2 h0) (Ev.bind (fmRead_ev x1 x2 h1) (Ev.bind (fm_ev x0 x2 h0) (Ev.bind (fmBytes_ev x1 x2 h1) ?_)))
    refine Ev.pos rfl (Ev.pos rfl ?_)
    have a := fmOf_length x0 x2
    have b := fmBytesOf_length x1 x2
    refine Ev.bind (slices_Equal_api_Track_int_ev _ _ (by omega)) ?_
    simp only [decide_true, if_true]
    refine Ev.bind (slices_Equal_byte_byte_ev _ _ (by omega)) (Ev.all fun k => ?_)
    simp
  exact main.rounds
end Go.Proofs.Ytgiodeiibmbhhaa.Pure
