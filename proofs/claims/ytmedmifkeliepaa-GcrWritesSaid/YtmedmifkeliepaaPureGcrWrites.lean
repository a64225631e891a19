/-
  GcrWrites: for all bytes, tracks and cells: gcr.Codes, gcr.Write and gcr.Read return the fixed list and what the reference's Gcr and GcrBytes return. No condition beyond the row's own.
-/
import Derived.Test.YtmedmifkeliepaaZGcrR
set_option linter.unusedVariables false
set_option linter.unusedSimpArgs false
namespace Go.Proofs.Ytmedmifkeliepaa.Pure
open Go Go.RowKit Go.Proofs.YtmedmifkeliepaaW.PrintWords Go.Proofs.YtmedmifkeliepaaW.PrintLast Go.Proofs.YtmedmifkeliepaaW.PrintMore Go.Proofs.Ytmedmifkeliepaa.PGcrWrites Go.Proofs.Ytmedmifkeliepaa.Bk Go.Proofs.Ytmedmifkeliepaa.BkGcrWrites
theorem pulsesOf_length (l : List Int) (c : Int) : (pulsesOf l c).1.length ≤ 40000 := by
  unfold pulsesOf
  split
  · split
    · simp
    · rw [pulL_all]
      split
      · simp; omega
      · simp
  · simp
theorem gcrOf_length (b : List Int) (c : Int) : (gcrOf b c).1.length ≤ 40000 := by
  unfold gcrOf; split
  · simp
  · exact pulsesOf_length _ _
theorem dec_length : ∀ (n : Nat) (S : List Bool) (out : List Int), S.length = 10 * n → (dec S out).1.length ≤ out.length + n
  | 0, S, out, h => by
    have e : S = [] := List.eq_nil_of_length_eq_zero h
    subst e
    simp [dec]
  | n + 1, S, out, h => by
    obtain ⟨a1, a2, a3, a4, a5, b1, b2, b3, b4, b5, R, rfl, hR⟩ := ten S n h
    simp only [dec]
    split
    · simp
    · split
      · simp
      · have := dec_length n R (out ++ [(16 * ix (v5 a1 a2 a3 a4 a5) + ix (v5 b1 b2 b3 b4 b5)) % 256]) hR
        rw [List.length_append, List.length_singleton] at this
        exact Nat.le_trans this (by clear this; omega)
theorem readOf_length (L : List Bool) : (readOf L).1.length ≤ 40000 := by
  unfold readOf
  split
  · simp
  · split
    · split
      · simp
      · have := dec_length ((L.length - 1) / 10) L.dropLast [] (by rw [List.length_dropLast]; omega)
        rw [List.length_nil] at this
        omega
    · simp
theorem gcrBytesOf_length (t : List Int) (c : Int) : (gcrBytesOf t c).1.length ≤ 40000 := by
  unfold gcrBytesOf; split
  · exact readOf_length _
  · simp
theorem gcr_begun : gcrOf [] 10 = ([10], 0) := by decide +kernel
theorem GcrWrites : bakelaw2_GcrWrites.Pure := by
  intro x0 x1 x2 w0 s0 w1 s1 w2
  have h0 : ∀ c ∈ x0, 0 ≤ c ∧ c < 256 := u8_of w0
  have h1 : x1.length ≤ 140737488355328 := by have := s1.1; omega
  have main : Ev (fun k => bakelaw2_GcrWrites.f k x0 x1 x2) true := by
    unfold bakelaw2_GcrWrites.f
    refine Ev.bind (gcrWrite_ev [] 10 (by simp)) ?_
    rw [gcr_begun]
    refine Ev.pos rfl (Ev.bind (slices_Equal_api_Track_int_ev [10] [10] (by decide)) ?_)
    refine Ev.step (fun k => by simp only [bakelaw2_GcrWrites.j0]; rw [if_neg (by decide)]) ?_
    refine Ev.bind (gcrWrite_ev x0 x2 h0) (Ev.bind (gcrRead_ev x1 x2 h1) (Ev.bind (gcrRef_ev x0 x2 h0) (Ev.bind (gcrBytes_ev x1 x2 h1) ?_)))
    refine Ev.pos rfl (Ev.pos rfl ?_)
    have a := gcrOf_length x0 x2
    have b := gcrBytesOf_length x1 x2
    refine Ev.bind (slices_Equal_api_Track_int_ev _ _ (by omega)) (Ev.pos (by simp) ?_)
    refine Ev.bind (slices_Equal_byte_byte_ev _ _ (by omega)) (Ev.pos (by simp) ?_)
    refine Ev.bind (a := codes) (Ev.all fun k => rfl) (Ev.bind (slices_Equal_int_int_ev codes codes (by decide)) (Ev.all fun k => ?_))
    simp
  exact main.rounds
end Go.Proofs.Ytmedmifkeliepaa.Pure
