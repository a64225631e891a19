/-
  FluxTimes: for all tracks, times and bounds: Check, Total, Marks, Of and Near of package flux return what the reference's functions return. No condition beyond the row's own.
-/
import Derived.Test.YtgiodeiibmbhhaaZFluxTimes
set_option linter.unusedVariables false
set_option linter.unusedSimpArgs false
namespace Go.Proofs.Ytgiodeiibmbhhaa.Pure
open Go Go.RowKit Go.Proofs.YtgiodeiibmbhhaaW.PrintWords Go.Proofs.YtgiodeiibmbhhaaW.PrintLast Go.Proofs.YtgiodeiibmbhhaaW.PrintMore Go.Proofs.Ytgiodeiibmbhhaa.PFluxTimes Go.Proofs.Ytgiodeiibmbhhaa.Bk Go.Proofs.Ytgiodeiibmbhhaa.BkFluxTimes
theorem fluxBegun_ev : Ev (fun k => bakelaw2_fluxBegun.f k) true := Ev.of bakelaw2_fluxBegun.mono (k := 40) (by decide +kernel)
theorem gap_eq (a b m : Int) (ha : 0 ≤ a ∧ a ≤ 4000000000) (hb : 0 ≤ b ∧ b ≤ 4000000000) : decide (wrap64 (mx a b - mn a b) ≤ m) = decide (a - b ≤ m ∧ b - a ≤ m) := by
  unfold mx mn
  congr 1
  apply propext
  split <;> split <;> (rw [w64 _ (by omega) (by omega)]; omega)
theorem fin_ev (x0 x1 : List Int) (x3 : Int) (A : List Int) (e : Int) (x16 : Bool) (hA : A.length ≤ 140737488355328) (h0 : x0.length ≤ 140737488355328) (h1 : x1.length ≤ 140737488355328) (hb : nearB x3 x0 x1 = x16) :
    Ev (fun k => if e = e then ((slices_Equal_api_Track_int.f k A A).bind fun t199 => (if t199 = true then ((flux_Near.f k x0 x1 x3).bind fun t200 => (some (t200 == x16))) else (some false))) else (some false)) true := by
  refine Ev.pos rfl ?_
  refine Ev.bind (slices_Equal_api_Track_int_ev A A hA) ?_
  simp only [decide_true, if_true]
  refine Ev.bind (near_ev x3 x0 x1 h0 h1) (Ev.all fun k => ?_)
  rw [hb]; simp
theorem law_loop (x0 x1 : List Int) (x3 : Int) (A : List Int) (e : Int) (hA : A.length ≤ 140737488355328) (h0 : x0.length ≤ 140737488355328) (h1 : x1.length ≤ 140737488355328) (l r : List Int) (hm : l.length ≤ 40000) (hl0 : ∀ x ∈ l, 0 ≤ x ∧ x ≤ 4000000000) (hr0 : ∀ x ∈ r, 0 ≤ x ∧ x ≤ 4000000000) :
    ∀ (suf suf' pre pre' : List Int) (b : Bool), l = pre ++ suf → r = pre' ++ suf' → pre.length = pre'.length → suf.length = suf'.length → nearB x3 x0 x1 = (b && near2 x3 suf suf') →
    Ev (fun k => bakelaw2_FluxTimes.l0 k x0 x1 x3 A e A e b l r (l.length : Int) (pre.length : Int)) true
  | [], [], pre, pre', b, hl, hr, _, _, hn => by
    have hn' : nearB x3 x0 x1 = b := by rw [hn]; simp [near2]
    refine Ev.step (fun k => ?_) (fin_ev x0 x1 x3 A e b hA h0 h1 hn')
    simp only [bakelaw2_FluxTimes.l0]
    rw [if_neg (at_end hl)]
  | [], _ :: _, _, _, _, _, _, _, h, _ => by simp at h
  | _ :: _, [], _, _, _, _, _, _, h, _ => by simp at h
  | x :: suf, y :: suf', pre, pre', b, hl, hr, hp, h, hn => by
    have a := at_mid hl (by omega)
    have g1 := len_mid' hl
    have g2 := len_mid' hr
    have hs : suf.length = suf'.length := by simpa using h
    have c := at_mid hr (by omega)
    rw [← hp] at c
    have hx := hl0 x (by rw [hl]; simp)
    have hy := hr0 y (by rw [hr]; simp)
    cases b with
    | false =>
      have ih := law_loop x0 x1 x3 A e hA h0 h1 l r hm hl0 hr0 suf suf' (pre ++ [x]) (pre' ++ [y]) false (next_mid hl) (next_mid hr) (by simp [hp]) hs (by rw [hn]; simp)
      refine Ev.step (fun k => ?_) ih
      simp only [bakelaw2_FluxTimes.l0]
      rw [if_pos a.2.1, if_neg (by simp), a.2.2.2]
    | true =>
      have ih := law_loop x0 x1 x3 A e hA h0 h1 l r hm hl0 hr0 suf suf' (pre ++ [x]) (pre' ++ [y]) (decide (x - y ≤ x3 ∧ y - x ≤ x3)) (next_mid hl) (next_mid hr) (by simp [hp]) hs (by rw [hn]; simp [near2])
      refine Ev.step (fun k => ?_) ih
      simp only [bakelaw2_FluxTimes.l0]
      rw [if_pos a.2.1, if_pos trivial, if_pos a.1, if_pos a.2.1, if_pos c.2.1, a.2.2.1, c.2.2.1, gap_eq x y x3 hx hy, a.2.2.2]
theorem FluxTimes : bakelaw2_FluxTimes.Pure := by
  intro x0 x1 x2 x3 w0 s0 w1 s1 w2 s2 w3
  have h0 : x0.length ≤ 140737488355328 := by have := s0.1; omega
  have h1 : x1.length ≤ 140737488355328 := by have := s1.1; omega
  have i2 := i64_of w2
  have j2f : ∀ A e, A.length ≤ 140737488355328 → nearB x3 x0 x1 = false → Ev (fun k => bakelaw2_FluxTimes.j2 k x0 x1 x3 A e A e false) true := by
    intro A e hA hn
    refine Ev.step (fun k => ?_) (fin_ev x0 x1 x3 A e false hA h0 h1 hn)
    simp only [bakelaw2_FluxTimes.j2]
    rw [if_neg (by simp)]
  have j2t : ∀ A e, A.length ≤ 140737488355328 → Valid x0 → Valid x1 → x0.length = x1.length → Ev (fun k => bakelaw2_FluxTimes.j2 k x0 x1 x3 A e A e true) true := by
    intro A e hA v0 v1 hl
    refine Ev.step (fun k => by simp only [bakelaw2_FluxTimes.j2]; rw [if_pos trivial]) ?_
    refine Ev.bind (times_ev x0 v0) (Ev.bind (times_ev x1 v1) ?_)
    refine law_loop x0 x1 x3 A e hA h0 h1 (cum 0 x0) (cum 0 x1) (by rw [cum_length]; exact v0.1) (cum_small v0) (cum_small v1) (cum 0 x0) (cum 0 x1) [] [] true rfl rfl rfl (by rw [cum_length, cum_length, hl]) ?_
    simp [nearB, ck_zero.2 v0, ck_zero.2 v1, hl]
  have hof : (ofL x2).1.length ≤ 140737488355328 := by
    unfold ofL
    split
    · simp
    · have := difA_bound x2 [] 0; simp at this; omega
  have j1 : Ev (fun k => bakelaw2_FluxTimes.j1 k x0 x1 x2 x3) true := by
    refine Ev.step (fun k => by rw [bakelaw2_FluxTimes.j1]) ?_
    refine Ev.bind (fluxOf_ev x2 i2) (Ev.bind (between_ev x2 i2) (Ev.bind (trackErr_ev x0 h0) ?_))
    by_cases c0 : ck x0 = 0
    · refine Ev.pos c0 (Ev.bind (trackErr_ev x1 h1) ?_)
      by_cases c1 : ck x1 = 0
      · refine Ev.pos c1 ?_
        by_cases hl : x0.length = x1.length
        · have e : ((x0.length : Int) == (x1.length : Int)) = true := by simp [hl]
          rw [e]; exact j2t _ _ hof (ck_zero.1 c0) (ck_zero.1 c1) hl
        · have e : ((x0.length : Int) == (x1.length : Int)) = false := by simp; omega
          rw [e]; exact j2f _ _ hof (by simp [nearB, hl])
      · exact Ev.neg c1 (j2f _ _ hof (by simp [nearB, c1]))
    · exact Ev.neg c0 (j2f _ _ hof (by simp [nearB, c0]))
  have j0 : Ev (fun k => bakelaw2_FluxTimes.j0 k x0 x1 x2 x3 false) true := by
    refine Ev.step (fun k => by simp only [bakelaw2_FluxTimes.j0]; rw [if_neg (by simp)]) ?_
    refine Ev.bind (marks_ev x0 h0) (Ev.bind (trackErr_ev x0 h0) ?_)
    by_cases c0 : ck x0 = 0
    · have v0 := ck_zero.1 c0
      refine Ev.pos c0 ?_
      simp only [c0, if_true]
      refine Ev.bind (times_ev x0 v0) (Ev.bind (slices_Equal_int_int_ev (cum 0 x0) (cum 0 x0) (by rw [cum_length]; exact h0)) ?_)
      simp only [decide_true, if_true]
      refine Ev.bind (total_ev x0 h0) (Ev.bind (end_ev x0 v0) ?_)
      simp only [c0, if_true]
      exact j1
    · refine Ev.neg c0 ?_
      simp only [c0, if_false, if_true]
      refine Ev.neg (by simp) (Ev.bind (total_ev x0 h0) ?_)
      simp only [c0, if_false, if_true]
      exact j1
  have main : Ev (fun k => bakelaw2_FluxTimes.f k x0 x1 x2 x3) true := by
    unfold bakelaw2_FluxTimes.f
    refine Ev.bind fluxBegun_ev ?_
    simp only [if_true]
    refine Ev.bind (fluxCheck_ev x0 h0) (Ev.bind (trackErr_ev x0 h0) ?_)
    simp only [bne_self_eq_false]
    exact j0
  exact main.rounds
end Go.Proofs.Ytgiodeiibmbhhaa.Pure
