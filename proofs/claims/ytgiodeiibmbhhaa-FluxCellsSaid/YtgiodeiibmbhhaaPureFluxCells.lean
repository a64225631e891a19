/-
  FluxCells: for all tracks, places, cells and numbers: Splice, Cells and Pulses of package flux return what the law's own splicing, the reference's counts and the law's own pulses come to. No condition beyond the row's own.
-/
import Derived.Test.YtgiodeiibmbhhaaZFluxCells
set_option linter.unusedVariables false
set_option linter.unusedSimpArgs false
namespace Go.Proofs.Ytgiodeiibmbhhaa.Pure
open Go Go.RowKit Go.Proofs.YtgiodeiibmbhhaaW.PrintWords Go.Proofs.YtgiodeiibmbhhaaW.PrintLast Go.Proofs.YtgiodeiibmbhhaaW.PrintMore Go.Proofs.Ytgiodeiibmbhhaa.PFluxCells Go.Proofs.Ytgiodeiibmbhhaa.Bk Go.Proofs.Ytgiodeiibmbhhaa.BkFluxCells
theorem fluxBegun_ev : Ev (fun k => bakelaw2_fluxBegun.f k) true := Ev.of bakelaw2_fluxBegun.mono (k := 40) (by decide +kernel)
theorem fin_ev (A C P : List Int) (e g h h' : Int) (hh : h = h') (hA : A.length ≤ 140737488355328) (hC : C.length ≤ 140737488355328) (hP : P.length ≤ 140737488355328) :
    Ev (fun k => if e = e then ((slices_Equal_api_Track_int.f k A A).bind fun t244 => (if t244 = true then (if g = g then ((slices_Equal_int_int.f k C C).bind fun t245 => (if t245 = true then (if h = h' then ((slices_Equal_api_Track_int.f k P P).bind fun t246 => (some t246)) else (some false)) else (some false))) else (some false)) else (some false))) else (some false)) true := by
  refine Ev.pos rfl (Ev.bind (slices_Equal_api_Track_int_ev A A hA) ?_)
  simp only [decide_true, if_true]
  refine Ev.bind (slices_Equal_int_int_ev C C hC) ?_
  simp only [decide_true, if_true]
  refine Ev.pos hh (Ev.bind (slices_Equal_api_Track_int_ev P P hP) (Ev.all fun k => ?_))
  simp
theorem cont1 (a : Int) : bakelaw2_FluxCells_1.f a = some (!okN a) := by
  unfold bakelaw2_FluxCells_1.f okN
  by_cases h : a < 1
  · rw [if_pos h, decide_eq_false (by omega)]; rfl
  · rw [if_neg h]
    by_cases h2 : a > 100
    · rw [decide_eq_true h2, decide_eq_false (by omega)]; rfl
    · rw [decide_eq_false h2, decide_eq_true (by omega)]; rfl
theorem cont_loop (l : List Int) (hm : l.length ≤ 140737488355328) : ∀ (suf pre : List Int), l = pre ++ suf →
    ∃ r : Int, (0 ≤ r ↔ suf.all okN = false) ∧ Ev (fun k => slices_IndexFunc_bakelaw2_FluxCells_1.l0 k l (l.length : Int) (pre.length : Int)) r
  | [], pre, hl => ⟨-1, by simp, Ev.done fun k => by simp only [slices_IndexFunc_bakelaw2_FluxCells_1.l0]; rw [if_neg (at_end hl)]⟩
  | x :: suf, pre, hl => by
    have a := at_mid hl hm
    cases hx : okN x with
    | true =>
      obtain ⟨r, h1, h2⟩ := cont_loop l hm suf (pre ++ [x]) (next_mid hl)
      refine ⟨r, by simpa [hx] using h1, Ev.step (fun k => ?_) h2⟩
      simp only [slices_IndexFunc_bakelaw2_FluxCells_1.l0]
      rw [if_pos a.2.1, if_pos a.1, if_pos a.2.1, a.2.2.1, cont1, hx, a.2.2.2]
      rfl
    | false =>
      refine ⟨(pre.length : Int), by simp [hx], Ev.done fun k => ?_⟩
      simp only [slices_IndexFunc_bakelaw2_FluxCells_1.l0]
      rw [if_pos a.2.1, if_pos a.1, if_pos a.2.1, a.2.2.1, cont1, hx]
      rfl
theorem cont_ev (l : List Int) (hm : l.length ≤ 140737488355328) : Ev (fun k => slices_ContainsFunc_bakelaw2_FluxCells_1.f k l) (!l.all okN) := by
  obtain ⟨r, h1, h2⟩ := cont_loop l hm l [] rfl
  unfold slices_ContainsFunc_bakelaw2_FluxCells_1.f slices_IndexFunc_bakelaw2_FluxCells_1.f
  refine Ev.bind h2 (Ev.all fun k => ?_)
  cases hq : l.all okN with
  | true => rw [decide_eq_false (fun h => by have := h1.1 h; rw [hq] at this; cases this)]; rfl
  | false => rw [decide_eq_true (show r ≥ 0 from h1.2 hq)]; rfl
theorem loop3 (x3 : Int) (hc : 2 ≤ x3 ∧ x3 ≤ 1000) (A C P : List Int) (e g : Int) (hA : A.length ≤ 140737488355328) (hC : C.length ≤ 140737488355328) (l : List Int) (hm : l.length ≤ 40000) (hok : ∀ x ∈ l, 1 ≤ x ∧ x ≤ 100) : ∀ (suf pre out : List Int), l = pre ++ suf → out.length = pre.length → P = out ++ suf.map (· * x3) →
    Ev (fun k => bakelaw2_FluxCells.l3 k x3 A e A e C g C g P 0 out 0 l (l.length : Int) (pre.length : Int)) true
  | [], pre, out, hl, ho, hP => by
    have hp : P = out := by simpa using hP
    subst hp
    have hq : l.length = pre.length := by rw [hl]; simp
    have hPl : P.length ≤ 140737488355328 := by omega
    refine Ev.step (fun k => ?_) (fin_ev A C P e g 0 0 rfl hA hC hPl)
    simp only [bakelaw2_FluxCells.l3]; rw [if_neg (at_end hl)]
  | x :: suf, pre, out, hl, ho, hP => by
    have a := at_mid hl (by omega)
    have hlen := len_mid' hl
    have hol : out.length < 17592186044416 := by omega
    have hx := hok x (by rw [hl]; simp)
    have hms := mul_small x x3 hx hc
    have e1 : out ++ (x :: suf).map (· * x3) = (out ++ [x * x3]) ++ suf.map (· * x3) := by simp
    rw [e1] at hP
    have ih := loop3 x3 hc A C P e g hA hC l hm hok suf (pre ++ [x]) (out ++ [x * x3]) (next_mid hl) (by simp [ho]) hP
    refine Ev.step (fun k => ?_) ih
    simp only [bakelaw2_FluxCells.l3]
    rw [if_pos a.2.1, if_pos a.1, if_pos a.2.1, if_pos hol, a.2.2.1, Int.mul_comm x3 x, w64 (x * x3) (by omega) (by omega), a.2.2.2]
theorem j6_ev (x0 : List Int) (x3 x4 : Int) (x5 A : List Int) (e : Int) (h0 : x0.length ≤ 140737488355328) (h5 : x5.length ≤ 140737488355328) (hA : A.length ≤ 140737488355328) : Ev (fun k => bakelaw2_FluxCells.j6 k x0 x3 x4 x5 A e A e) true := by
  refine Ev.step (fun k => by rw [bakelaw2_FluxCells.j6]) ?_
  refine Ev.bind (cells_ev x0 x3 x4 h0) (Ev.bind (counts_ev x0 x3 x4 h0) (Ev.bind (pulses_ev x5 x3 h5) ?_))
  have hC : (cellsOf x0 x3 x4).1.length ≤ 140737488355328 := Nat.le_trans (cellsOf_length x0 x3 x4) h0
  generalize cellsOf x0 x3 x4 = C at hC ⊢
  have hbad : ¬ (2 ≤ x3 ∧ x3 ≤ 1000) → Ev (fun k => bakelaw2_FluxCells.j7 k x3 x5 A e A e C.1 C.2 C.1 C.2 (pulsesOf x5 x3).1 (pulsesOf x5 x3).2 [] 0 true) true := by
    intro hc
    have : pulsesOf x5 x3 = ([], 1) := by unfold pulsesOf; rw [if_neg hc]
    rw [this]
    refine Ev.step (fun k => by simp only [bakelaw2_FluxCells.j7]; rw [if_pos trivial]) ?_
    have := fin_ev A C.1 [] e C.2 1 1 rfl hA hC (by simp)
    simpa using this
  have hgood : (2 ≤ x3 ∧ x3 ≤ 1000) → Ev (fun k => bakelaw2_FluxCells.j7 k x3 x5 A e A e C.1 C.2 C.1 C.2 (pulsesOf x5 x3).1 (pulsesOf x5 x3).2 [] 0 false) true := by
    intro hc
    refine Ev.step (fun k => by simp only [bakelaw2_FluxCells.j7]; rw [if_neg (by simp)]) ?_
    by_cases hl : 40000 < x5.length
    · have : pulsesOf x5 x3 = ([], 2) := by unfold pulsesOf; rw [if_pos hc, if_pos hl]
      rw [this]
      refine Ev.pos (by omega) ?_
      have := fin_ev A C.1 [] e C.2 2 2 rfl hA hC (by simp)
      simpa using this
    · refine Ev.neg (by omega) (Ev.bind (cont_ev x5 h5) ?_)
      cases hq : x5.all okN with
      | true =>
        have : pulsesOf x5 x3 = (x5.map (· * x3), 0) := by unfold pulsesOf; rw [if_pos hc, if_neg hl, pulL_all, if_pos hq]; simp
        rw [this]
        refine Ev.neg (by simp) ?_
        refine loop3 x3 hc A C.1 (x5.map (· * x3)) e C.2 hA hC x5 (by omega) ?_ x5 [] [] rfl rfl rfl
        intro x hx
        have := List.all_eq_true.1 hq x hx
        simpa [okN] using this
      | false =>
        have : pulsesOf x5 x3 = ([], 3) := by unfold pulsesOf; rw [if_pos hc, if_neg hl, pulL_all, if_neg (by rw [hq]; simp)]
        rw [this]
        refine Ev.pos (by simp) ?_
        have := fin_ev A C.1 [] e C.2 3 3 rfl hA hC (by simp)
        simpa using this
  by_cases h1 : x3 < 2
  · exact Ev.pos h1 (hbad (by omega))
  · refine Ev.neg h1 ?_
    by_cases h2 : x3 > 1000
    · rw [decide_eq_true h2]; exact hbad (by omega)
    · rw [decide_eq_false h2]; exact hgood (by omega)
section
variable (x0 x1 : List Int) (x2 x3 x4 : Int) (x5 A : List Int) (e : Int) (v0 : Valid x0) (v1 : Valid x1) (ha : 0 ≤ x2 ∧ x2 ≤ x0.sum) (hj6 : Ev (fun k => bakelaw2_FluxCells.j6 k x0 x3 x4 x5 A e A e) true)
include v0 v1 ha hj6
theorem loop2 (l : List Int) (hm : l.length ≤ 40000) : ∀ (suf pre out : List Int), l = pre ++ suf → out.length + suf.length ≤ 200000 →
    (∀ x ∈ out ++ suf.filter (fun x => decide (x > x2 + x1.sum)), -9223372036854775808 ≤ x ∧ x ≤ 9223372036854775807) → (A, e) = ofL (out ++ suf.filter (fun x => decide (x > x2 + x1.sum))) →
    Ev (fun k => bakelaw2_FluxCells.l2 k x0 x1 x2 x3 x4 x5 A e out l (l.length : Int) (pre.length : Int)) true
  | [], pre, out, hl, ho, hi, hof => by
    simp only [List.filter_nil, List.append_nil] at hi hof
    refine Ev.step (fun k => by simp only [bakelaw2_FluxCells.l2]; rw [if_neg (at_end hl)]) (Ev.bind (between_ev out hi) ?_)
    rw [← hof]
    exact hj6
  | x :: suf, pre, out, hl, ho, hi, hof => by
    have a := at_mid hl (by omega)
    have hol : out.length < 17592186044416 := by omega
    have s0 := sum_bound v0.2
    have s1 := sum_bound v1.2
    have l0 := v0.1
    have l1 := v1.1
    have w : wrap64 (x2 + x1.sum) = x2 + x1.sum := w64 _ (by omega) (by omega)
    refine Ev.step (f := fun k => (bakeref2_End.f k x1).bind fun t224 => (if x > (wrap64 (x2 + t224)) then (if out.length < 17592186044416 then (bakelaw2_FluxCells.l2 k x0 x1 x2 x3 x4 x5 A e (out ++ [x]) l (l.length : Int) ((pre ++ [x]).length : Int)) else (none)) else (bakelaw2_FluxCells.l2 k x0 x1 x2 x3 x4 x5 A e out l (l.length : Int) ((pre ++ [x]).length : Int)))) (fun k => ?_) (Ev.bind (end_ev x1 v1) ?_)
    · simp only [bakelaw2_FluxCells.l2]
      rw [if_pos a.2.1, if_pos a.1, if_pos a.2.1, a.2.2.1, a.2.2.2]
    · rw [w]
      by_cases h : x > x2 + x1.sum
      · have e1 : out ++ (x :: suf).filter (fun x => decide (x > x2 + x1.sum)) = (out ++ [x]) ++ suf.filter (fun x => decide (x > x2 + x1.sum)) := by simp [h]
        rw [e1] at hi hof
        exact Ev.pos h (Ev.pos hol (loop2 l hm suf (pre ++ [x]) (out ++ [x]) (next_mid hl) (by simp at ho ⊢; omega) hi hof))
      · have e1 : out ++ (x :: suf).filter (fun x => decide (x > x2 + x1.sum)) = out ++ suf.filter (fun x => decide (x > x2 + x1.sum)) := by simp [h]
        rw [e1] at hi hof
        exact Ev.neg h (loop2 l hm suf (pre ++ [x]) out (next_mid hl) (by simp at ho ⊢; omega) hi hof)
theorem loop1 (l : List Int) (hm : l.length ≤ 40000) (hs : ∀ x ∈ l, 0 ≤ x ∧ x ≤ 4000000000) : ∀ (suf pre out : List Int), l = pre ++ suf → out.length + suf.length ≤ 100000 →
    (∀ x ∈ (out ++ suf.map (fun x => x2 + x)) ++ (cum 0 x0).filter (fun x => decide (x > x2 + x1.sum)), -9223372036854775808 ≤ x ∧ x ≤ 9223372036854775807) → (A, e) = ofL ((out ++ suf.map (fun x => x2 + x)) ++ (cum 0 x0).filter (fun x => decide (x > x2 + x1.sum))) →
    Ev (fun k => bakelaw2_FluxCells.l1 k x0 x1 x2 x3 x4 x5 A e out l (l.length : Int) (pre.length : Int)) true
  | [], pre, out, hl, ho, hi, hof => by
    simp only [List.map_nil, List.append_nil] at hi hof
    have l0 := v0.1
    refine Ev.step (fun k => by simp only [bakelaw2_FluxCells.l1]; rw [if_neg (at_end hl)]) (Ev.bind (times_ev x0 v0) ?_)
    exact loop2 x0 x1 x2 x3 x4 x5 A e v0 v1 ha hj6 (cum 0 x0) (by rw [cum_length]; exact l0) (cum 0 x0) [] out rfl (by simp [cum_length] at ho ⊢; omega) hi hof
  | x :: suf, pre, out, hl, ho, hi, hof => by
    have a := at_mid hl (by omega)
    have hol : out.length < 17592186044416 := by omega
    have s0 := sum_bound v0.2
    have l0 := v0.1
    have hx := hs x (by rw [hl]; simp)
    have e1 : out ++ (x :: suf).map (fun x => x2 + x) = (out ++ [x2 + x]) ++ suf.map (fun x => x2 + x) := by simp
    rw [e1] at hi hof
    have ih := loop1 l hm hs suf (pre ++ [x]) (out ++ [x2 + x]) (next_mid hl) (by simp at ho ⊢; omega) hi hof
    refine Ev.step (fun k => ?_) ih
    simp only [bakelaw2_FluxCells.l1]
    rw [if_pos a.2.1, if_pos a.1, if_pos a.2.1, if_pos hol, a.2.2.1, w64 (x2 + x) (by omega) (by omega), a.2.2.2]
theorem loop0 (l : List Int) (hm : l.length ≤ 40000) : ∀ (suf pre out : List Int), l = pre ++ suf → out.length + suf.length ≤ 40000 →
    (∀ x ∈ ((out ++ suf.filter (fun x => decide (x ≤ x2))) ++ (cum 0 x1).map (fun x => x2 + x)) ++ (cum 0 x0).filter (fun x => decide (x > x2 + x1.sum)), -9223372036854775808 ≤ x ∧ x ≤ 9223372036854775807) → (A, e) = ofL (((out ++ suf.filter (fun x => decide (x ≤ x2))) ++ (cum 0 x1).map (fun x => x2 + x)) ++ (cum 0 x0).filter (fun x => decide (x > x2 + x1.sum))) →
    Ev (fun k => bakelaw2_FluxCells.l0 k x0 x1 x2 x3 x4 x5 A e out l (l.length : Int) (pre.length : Int)) true
  | [], pre, out, hl, ho, hi, hof => by
    simp only [List.filter_nil, List.append_nil] at hi hof
    have l1 := v1.1
    refine Ev.step (fun k => by simp only [bakelaw2_FluxCells.l0]; rw [if_neg (at_end hl)]) (Ev.bind (times_ev x1 v1) ?_)
    exact loop1 x0 x1 x2 x3 x4 x5 A e v0 v1 ha hj6 (cum 0 x1) (by rw [cum_length]; exact l1) (cum_small v1) (cum 0 x1) [] out rfl (by simp [cum_length] at ho ⊢; omega) hi hof
  | x :: suf, pre, out, hl, ho, hi, hof => by
    have a := at_mid hl (by omega)
    have hol : out.length < 17592186044416 := by omega
    by_cases h : x ≤ x2
    · have e1 : out ++ (x :: suf).filter (fun x => decide (x ≤ x2)) = (out ++ [x]) ++ suf.filter (fun x => decide (x ≤ x2)) := by simp [h]
      rw [e1] at hi hof
      have ih := loop0 l hm suf (pre ++ [x]) (out ++ [x]) (next_mid hl) (by simp at ho ⊢; omega) hi hof
      refine Ev.step (fun k => ?_) ih
      simp only [bakelaw2_FluxCells.l0]
      rw [if_pos a.2.1, if_pos a.1, if_pos a.2.1, a.2.2.1, if_pos h, if_pos hol, a.2.2.2]
    · have e1 : out ++ (x :: suf).filter (fun x => decide (x ≤ x2)) = out ++ suf.filter (fun x => decide (x ≤ x2)) := by simp [h]
      rw [e1] at hi hof
      have ih := loop0 l hm suf (pre ++ [x]) out (next_mid hl) (by simp at ho ⊢; omega) hi hof
      refine Ev.step (fun k => ?_) ih
      simp only [bakelaw2_FluxCells.l0]
      rw [if_pos a.2.1, if_pos a.1, if_pos a.2.1, a.2.2.1, if_neg h, a.2.2.2]
end
theorem ck_cases (l : List Int) : ck l = 0 ∨ ck l = 1 ∨ ck l = 2 := by
  unfold ck
  split
  · simp
  · split <;> simp
theorem FluxCells : bakelaw2_FluxCells.Pure := by
  intro x0 x1 x2 x3 x4 x5 w0 s0 w1 s1 w2 w3 w4 w5 s5
  have h0 : x0.length ≤ 140737488355328 := by have := s0.1; omega
  have h1 : x1.length ≤ 140737488355328 := by have := s1.1; omega
  have h5 : x5.length ≤ 140737488355328 := by have := s5.1; omega
  have i2 := i64_one w2
  have main : Ev (fun k => bakelaw2_FluxCells.f k x0 x1 x2 x3 x4 x5) true := by
    unfold bakelaw2_FluxCells.f
    refine Ev.bind fluxBegun_ev ?_
    simp only [if_true]
    refine Ev.bind (splice_ev x0 x1 x2 i2 h0 h1) (Ev.bind (trackErr_ev x0 h0) ?_)
    obtain ⟨A, e, hS⟩ : ∃ A e, spliceOf x0 x1 x2 = (A, e) := ⟨_, _, rfl⟩
    rw [hS]
    have hfail : ∀ b : Int, b ≠ 0 → A = [] → e = b → Ev (fun k => bakelaw2_FluxCells.j2 k x0 x1 x2 x3 x4 x5 A e [] b) true := by
      intro b hb hA he
      subst hA he
      refine Ev.step (fun k => by simp only [bakelaw2_FluxCells.j2]; rw [if_neg hb]) ?_
      exact j6_ev x0 x3 x4 x5 [] e h0 h5 (by simp)
    have hj0bad : ∀ b : Int, b ≠ 0 → A = [] → e = b → Ev (fun k => bakelaw2_FluxCells.j0 k x0 x1 x2 x3 x4 x5 A e [] b) true := by
      intro b hb hA he
      refine Ev.step (fun k => by simp only [bakelaw2_FluxCells.j0]; rw [if_neg hb]) (Ev.step (fun k => by simp only [bakelaw2_FluxCells.j1]; rw [if_neg (by simp)]) ?_)
      exact hfail b hb hA he
    by_cases c0 : ck x0 = 0
    · have v0 := ck_zero.1 c0
      refine Ev.pos c0 (Ev.bind (trackErr_ev x1 h1) ?_)
      by_cases c1 : ck x1 = 0
      · have v1 := ck_zero.1 c1
        rw [c1]
        have hout : ¬ (0 ≤ x2 ∧ x2 ≤ x0.sum) → Ev (fun k => bakelaw2_FluxCells.j1 k x0 x1 x2 x3 x4 x5 A e [] 0 true) true := by
          intro hn
          have : (A, e) = ([], 1) := by rw [← hS]; unfold spliceOf; rw [if_pos c0, if_pos c1, if_neg hn]
          obtain ⟨hA, he⟩ := Prod.mk.inj this
          refine Ev.step (fun k => by simp only [bakelaw2_FluxCells.j1]; rw [if_pos trivial]) ?_
          exact hfail 1 (by decide) hA he
        refine Ev.step (fun k => by simp only [bakelaw2_FluxCells.j0]; rw [if_pos trivial]) ?_
        by_cases n1 : x2 < 0
        · exact Ev.pos n1 (hout (by omega))
        · refine Ev.neg n1 (Ev.bind (end_ev x0 v0) ?_)
          by_cases n2 : x2 > x0.sum
          · rw [decide_eq_true n2]; exact hout (by omega)
          · rw [decide_eq_false n2]
            have ha : 0 ≤ x2 ∧ x2 ≤ x0.sum := by omega
            have hof : (A, e) = ofL (splL x0 x1 x2) := by rw [← hS]; unfold spliceOf; rw [if_pos c0, if_pos c1, if_pos ha]
            have hAl : A.length ≤ 140737488355328 := by
              have q1 := ofL_bound (splL x0 x1 x2)
              rw [← hof] at q1
              have q2 := splL_length x0 x1 x2
              have := v0.1; have := v1.1
              simp only at q1
              omega
            have hj6 := j6_ev x0 x3 x4 x5 A e h0 h5 hAl
            have hbd := splL_bound x0 x1 x2 v0 v1 ha
            refine Ev.step (fun k => by simp only [bakelaw2_FluxCells.j1]; rw [if_neg (by simp)]) (Ev.step (fun k => by simp only [bakelaw2_FluxCells.j2]; rw [if_pos trivial]) (Ev.bind (times_ev x0 v0) ?_))
            unfold splL at hof hbd
            rw [← List.append_assoc] at hof hbd
            exact loop0 x0 x1 x2 x3 x4 x5 A e v0 v1 ha hj6 (cum 0 x0) (by rw [cum_length]; exact v0.1) (cum 0 x0) [] [] rfl (by simp [cum_length]; exact v0.1) hbd hof
      · have : (A, e) = ([], ck x1) := by rw [← hS]; unfold spliceOf; rw [if_pos c0, if_neg c1]
        obtain ⟨hA, he⟩ := Prod.mk.inj this
        exact hj0bad (ck x1) c1 hA he
    · have : (A, e) = ([], ck x0) := by rw [← hS]; unfold spliceOf; rw [if_neg c0]
      obtain ⟨hA, he⟩ := Prod.mk.inj this
      exact Ev.neg c0 (hj0bad (ck x0) c0 hA he)
  exact main.rounds
end Go.Proofs.Ytgiodeiibmbhhaa.Pure
