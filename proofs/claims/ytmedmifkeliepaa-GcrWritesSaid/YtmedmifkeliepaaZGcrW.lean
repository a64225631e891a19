/-
  What the functions that GcrWrites uses come to, in plain words (models of ZGcr). Conditions stand in each lemma.
-/
import Derived.Test.YtmedmifkeliepaaZGcr
import Derived.Test.YtmedmifkeliepaaPGcrWritesx0
import Derived.Test.YtmedmifkeliepaaPGcrWritesx1
import Derived.Test.YtmedmifkeliepaaPGcrWritesx2
import Derived.Test.YtmedmifkeliepaaPGcrWritesx3
import Derived.Test.YtmedmifkeliepaaPGcrWritesx4
import Derived.Test.YtmedmifkeliepaaPGcrWritesx5
import Derived.Test.YtmedmifkeliepaaPGcrWritesx6
import Derived.Test.YtmedmifkeliepaaPGcrWritesx7
set_option linter.unusedVariables false
set_option linter.unusedSimpArgs false
namespace Go.Proofs.Ytmedmifkeliepaa.BkGcrWrites
open Go Go.RowKit Go.Proofs.YtmedmifkeliepaaW.PrintWords Go.Proofs.YtmedmifkeliepaaW.PrintLast Go.Proofs.YtmedmifkeliepaaW.PrintMore Go.Proofs.Ytmedmifkeliepaa.PGcrWrites Go.Proofs.Ytmedmifkeliepaa.Bk
theorem slices_Equal_api_Track_int_loop (l r : List Int) (hm : l.length ≤ 140737488355328) : ∀ (suf suf' pre : List Int), l = pre ++ suf → r = pre ++ suf' → suf.length = suf'.length →
    Ev (fun k => slices_Equal_api_Track_int.l0 k l r (l.length : Int) (pre.length : Int)) (decide (suf = suf'))
  | [], [], pre, hl, hr, _ => Ev.done fun k => by simp only [slices_Equal_api_Track_int.l0]; rw [if_neg (at_end hl)]; rfl
  | [], _ :: _, _, _, _, h => by simp at h
  | _ :: _, [], _, _, _, h => by simp at h
  | x :: suf, y :: suf', pre, hl, hr, h => by
    have a := at_mid hl hm
    have hlen : l.length = r.length := by rw [hl, hr]; simp at h ⊢; exact h
    have b := at_mid hr (by omega)
    by_cases e : x = y
    · subst e
      have ih := slices_Equal_api_Track_int_loop l r hm suf suf' (pre ++ [x]) (next_mid hl) (next_mid hr) (by simpa using h)
      have e2 : decide (x :: suf = x :: suf') = decide (suf = suf') := by simp
      rw [e2]
      refine Ev.step (fun k => ?_) ih
      simp only [slices_Equal_api_Track_int.l0]
      rw [if_pos a.2.1, if_pos a.1, if_pos a.2.1, if_pos b.2.1, a.2.2.1, b.2.2.1, if_pos rfl, a.2.2.2]
    · refine Ev.done fun k => ?_
      simp only [slices_Equal_api_Track_int.l0]
      rw [if_pos a.2.1, if_pos a.1, if_pos a.2.1, if_pos b.2.1, a.2.2.1, b.2.2.1, if_neg e]
      simp [e]
theorem slices_Equal_api_Track_int_ev (l r : List Int) (hm : l.length ≤ 140737488355328) : Ev (fun k => slices_Equal_api_Track_int.f k l r) (decide (l = r)) := by
  by_cases h : l.length = r.length
  · refine Ev.congr (fun k => ?_) (slices_Equal_api_Track_int_loop l r hm l r [] rfl rfl h)
    unfold slices_Equal_api_Track_int.f
    rw [if_pos (by omega)]; rfl
  · refine Ev.all fun k => ?_
    unfold slices_Equal_api_Track_int.f
    rw [if_neg (by omega)]
    have : ¬ l = r := fun e => h (by rw [e])
    simp [this]
theorem slices_Equal_byte_byte_loop (l r : List Int) (hm : l.length ≤ 140737488355328) : ∀ (suf suf' pre : List Int), l = pre ++ suf → r = pre ++ suf' → suf.length = suf'.length →
    Ev (fun k => slices_Equal_byte_byte.l0 k l r (l.length : Int) (pre.length : Int)) (decide (suf = suf'))
  | [], [], pre, hl, hr, _ => Ev.done fun k => by simp only [slices_Equal_byte_byte.l0]; rw [if_neg (at_end hl)]; rfl
  | [], _ :: _, _, _, _, h => by simp at h
  | _ :: _, [], _, _, _, h => by simp at h
  | x :: suf, y :: suf', pre, hl, hr, h => by
    have a := at_mid hl hm
    have hlen : l.length = r.length := by rw [hl, hr]; simp at h ⊢; exact h
    have b := at_mid hr (by omega)
    by_cases e : x = y
    · subst e
      have ih := slices_Equal_byte_byte_loop l r hm suf suf' (pre ++ [x]) (next_mid hl) (next_mid hr) (by simpa using h)
      have e2 : decide (x :: suf = x :: suf') = decide (suf = suf') := by simp
      rw [e2]
      refine Ev.step (fun k => ?_) ih
      simp only [slices_Equal_byte_byte.l0]
      rw [if_pos a.2.1, if_pos a.1, if_pos a.2.1, if_pos b.2.1, a.2.2.1, b.2.2.1, if_pos rfl, a.2.2.2]
    · refine Ev.done fun k => ?_
      simp only [slices_Equal_byte_byte.l0]
      rw [if_pos a.2.1, if_pos a.1, if_pos a.2.1, if_pos b.2.1, a.2.2.1, b.2.2.1, if_neg e]
      simp [e]
theorem slices_Equal_byte_byte_ev (l r : List Int) (hm : l.length ≤ 140737488355328) : Ev (fun k => slices_Equal_byte_byte.f k l r) (decide (l = r)) := by
  by_cases h : l.length = r.length
  · refine Ev.congr (fun k => ?_) (slices_Equal_byte_byte_loop l r hm l r [] rfl rfl h)
    unfold slices_Equal_byte_byte.f
    rw [if_pos (by omega)]; rfl
  · refine Ev.all fun k => ?_
    unfold slices_Equal_byte_byte.f
    rw [if_neg (by omega)]
    have : ¬ l = r := fun e => h (by rw [e])
    simp [this]
theorem slices_Equal_int_int_loop (l r : List Int) (hm : l.length ≤ 140737488355328) : ∀ (suf suf' pre : List Int), l = pre ++ suf → r = pre ++ suf' → suf.length = suf'.length →
    Ev (fun k => slices_Equal_int_int.l0 k l r (l.length : Int) (pre.length : Int)) (decide (suf = suf'))
  | [], [], pre, hl, hr, _ => Ev.done fun k => by simp only [slices_Equal_int_int.l0]; rw [if_neg (at_end hl)]; rfl
  | [], _ :: _, _, _, _, h => by simp at h
  | _ :: _, [], _, _, _, h => by simp at h
  | x :: suf, y :: suf', pre, hl, hr, h => by
    have a := at_mid hl hm
    have hlen : l.length = r.length := by rw [hl, hr]; simp at h ⊢; exact h
    have b := at_mid hr (by omega)
    by_cases e : x = y
    · subst e
      have ih := slices_Equal_int_int_loop l r hm suf suf' (pre ++ [x]) (next_mid hl) (next_mid hr) (by simpa using h)
      have e2 : decide (x :: suf = x :: suf') = decide (suf = suf') := by simp
      rw [e2]
      refine Ev.step (fun k => ?_) ih
      simp only [slices_Equal_int_int.l0]
      rw [if_pos a.2.1, if_pos a.1, if_pos a.2.1, if_pos b.2.1, a.2.2.1, b.2.2.1, if_pos rfl, a.2.2.2]
    · refine Ev.done fun k => ?_
      simp only [slices_Equal_int_int.l0]
      rw [if_pos a.2.1, if_pos a.1, if_pos a.2.1, if_pos b.2.1, a.2.2.1, b.2.2.1, if_neg e]
      simp [e]
theorem slices_Equal_int_int_ev (l r : List Int) (hm : l.length ≤ 140737488355328) : Ev (fun k => slices_Equal_int_int.f k l r) (decide (l = r)) := by
  by_cases h : l.length = r.length
  · refine Ev.congr (fun k => ?_) (slices_Equal_int_int_loop l r hm l r [] rfl rfl h)
    unfold slices_Equal_int_int.f
    rw [if_pos (by omega)]; rfl
  · refine Ev.all fun k => ?_
    unfold slices_Equal_int_int.f
    rw [if_neg (by omega)]
    have : ¬ l = r := fun e => h (by rw [e])
    simp [this]
theorem fluxCheck_loop (l : List Int) (hm : l.length ≤ 140737488355328) : ∀ (suf pre : List Int), l = pre ++ suf → Ev (fun k => flux_Check.l0 k l (l.length : Int) (pre.length : Int)) (if suf.all okP then 0 else 1)
  | [], pre, hl => Ev.done fun k => by simp only [flux_Check.l0]; rw [if_neg (at_end hl)]; rfl
  | x :: suf, pre, hl => by
    have a := at_mid hl hm
    by_cases hx : 1 ≤ x ∧ x ≤ 100000
    · have ih := fluxCheck_loop l hm suf (pre ++ [x]) (next_mid hl)
      have e : (x :: suf).all okP = suf.all okP := by simp [okP, hx]
      rw [e]
      refine Ev.step (fun k => ?_) ih
      simp only [flux_Check.l0]
      rw [if_pos a.2.1, if_pos a.1, if_pos a.2.1, a.2.2.1, if_neg (by omega), if_neg (by omega), a.2.2.2]
    · have e : (x :: suf).all okP = false := by simp [okP, hx]
      rw [e]
      refine Ev.done fun k => ?_
      simp only [flux_Check.l0]
      rw [if_pos a.2.1, if_pos a.1, if_pos a.2.1, a.2.2.1]
      by_cases h1 : x < 1
      · rw [if_pos h1]; rfl
      · rw [if_neg h1, if_pos (by omega)]; rfl
theorem fluxCheck_ev (l : List Int) (hm : l.length ≤ 140737488355328) : Ev (fun k => flux_Check.f k l) (ck l) := by
  unfold ck
  by_cases h : 40000 < l.length
  · rw [if_pos h]; exact Ev.all fun k => by unfold flux_Check.f; rw [if_pos (by omega)]
  · rw [if_neg h]
    refine Ev.congr (fun k => ?_) (fluxCheck_loop l hm l [] rfl)
    unfold flux_Check.f; rw [if_neg (by omega)]; rfl
theorem trackErr1 (a : Int) : bakeref2_TrackErr_1.f a = some (!okP a) := by
  unfold bakeref2_TrackErr_1.f okP
  by_cases h : a ≤ 0
  · rw [if_pos h, decide_eq_false (by omega)]; rfl
  · rw [if_neg h]
    by_cases h2 : a > 100000
    · rw [decide_eq_true h2, decide_eq_false (by omega)]; rfl
    · rw [decide_eq_false h2, decide_eq_true (by omega)]; rfl
theorem trackErr_loop (l : List Int) (hm : l.length ≤ 140737488355328) : ∀ (suf pre : List Int), l = pre ++ suf →
    ∃ r : Int, (0 ≤ r ↔ suf.all okP = false) ∧ Ev (fun k => slices_IndexFunc_bakeref2_TrackErr_1.l0 k l (l.length : Int) (pre.length : Int)) r
  | [], pre, hl => ⟨-1, by simp, Ev.done fun k => by simp only [slices_IndexFunc_bakeref2_TrackErr_1.l0]; rw [if_neg (at_end hl)]⟩
  | x :: suf, pre, hl => by
    have a := at_mid hl hm
    cases hx : okP x with
    | true =>
      obtain ⟨r, h1, h2⟩ := trackErr_loop l hm suf (pre ++ [x]) (next_mid hl)
      refine ⟨r, by simpa [hx] using h1, Ev.step (fun k => ?_) h2⟩
      simp only [slices_IndexFunc_bakeref2_TrackErr_1.l0]
      rw [if_pos a.2.1, if_pos a.1, if_pos a.2.1, a.2.2.1, trackErr1, hx, a.2.2.2]
      rfl
    | false =>
      refine ⟨(pre.length : Int), by simp [hx], Ev.done fun k => ?_⟩
      simp only [slices_IndexFunc_bakeref2_TrackErr_1.l0]
      rw [if_pos a.2.1, if_pos a.1, if_pos a.2.1, a.2.2.1, trackErr1, hx]
      rfl
theorem trackErr_ev (l : List Int) (hm : l.length ≤ 140737488355328) : Ev (fun k => bakeref2_TrackErr.f k l) (ck l) := by
  unfold ck
  by_cases h : 40000 < l.length
  · rw [if_pos h]; exact Ev.all fun k => by unfold bakeref2_TrackErr.f; rw [if_pos (by omega)]
  · rw [if_neg h]
    obtain ⟨r, h1, h2⟩ := trackErr_loop l hm l [] rfl
    have hc : Ev (fun k => slices_ContainsFunc_bakeref2_TrackErr_1.f k l) (!l.all okP) := by
      unfold slices_ContainsFunc_bakeref2_TrackErr_1.f slices_IndexFunc_bakeref2_TrackErr_1.f
      refine Ev.bind h2 (Ev.all fun k => ?_)
      cases hq : l.all okP with
      | true => rw [decide_eq_false (fun h => by have := h1.1 h; rw [hq] at this; cases this)]; rfl
      | false => rw [decide_eq_true (show r ≥ 0 from h1.2 hq)]; rfl
    refine Ev.congr (f := fun k => (slices_ContainsFunc_bakeref2_TrackErr_1.f k l).bind fun t => if t = true then some 1 else some 0) (fun k => ?_) (Ev.bind hc (Ev.all fun k => ?_))
    · unfold bakeref2_TrackErr.f
      rw [if_neg (by omega)]
    · cases l.all okP <;> rfl
theorem cells_loop (c m : Int) (hc : 2 ≤ c ∧ c ≤ 1000) (l : List Int) (hv : Valid l) : ∀ (suf pre out : List Int), l = pre ++ suf → out.length = pre.length →
    Ev (fun k => flux_Cells.l0 k c m out l (l.length : Int) (pre.length : Int)) (cellsL c m out suf)
  | [], pre, out, hl, ho => Ev.done fun k => by simp only [flux_Cells.l0]; rw [if_neg (at_end hl)]; rfl
  | x :: suf, pre, out, hl, ho => by
    have h1 := hv.1
    have a := at_mid hl (by omega)
    have hlen := len_mid' hl
    have hx := hv.2 x (by rw [hl]; simp)
    have hw2 : ¬ wrap64 (2 * c) = 0 := by rw [w64 _ (by omega) (by omega)]; omega
    have hol : out.length < 17592186044416 := by omega
    have g := cellN_go c x hc hx
    by_cases h : cellN c x < 1 ∨ cellN c x > m
    · refine Ev.done fun k => ?_
      simp only [flux_Cells.l0, cellsL]
      rw [if_pos a.2.1, if_pos a.1, if_pos a.2.1, a.2.2.1, if_neg hw2, g, if_pos h]
      by_cases h2 : cellN c x < 1
      · rw [if_pos h2]
      · rw [if_neg h2, if_pos (by omega)]
    · have ih := cells_loop c m hc l hv suf (pre ++ [x]) (out ++ [cellN c x]) (next_mid hl) (by simp [ho])
      have e : cellsL c m out (x :: suf) = cellsL c m (out ++ [cellN c x]) suf := by rw [cellsL, if_neg h]
      rw [e]
      refine Ev.step (fun k => ?_) ih
      simp only [flux_Cells.l0]
      rw [if_pos a.2.1, if_pos a.1, if_pos a.2.1, a.2.2.1, if_neg hw2, g, if_neg (by omega), if_neg (by omega), if_pos hol, a.2.2.2]
theorem cells_ev (l : List Int) (c m : Int) (hm : l.length ≤ 140737488355328) : Ev (fun k => flux_Cells.f k l c m) (cellsOf l c m) := by
  unfold flux_Cells.f cellsOf
  refine Ev.bind (fluxCheck_ev l hm) ?_
  have hbad : Ev (fun k => flux_Cells.j0 k l c m true) ([], 1) := Ev.done fun k => by simp [flux_Cells.j0]
  by_cases h : ck l = 0
  · simp only [h, if_true]
    by_cases hc : 2 ≤ c ∧ c ≤ 1000
    · rw [if_pos hc]
      refine Ev.neg (by omega) ?_
      rw [decide_eq_false (by omega)]
      refine Ev.step (fun k => by simp only [flux_Cells.j0]; rw [if_neg (by simp)]) ?_
      exact cells_loop c m hc l (ck_zero.1 h) l [] [] rfl rfl
    · rw [if_neg hc]
      by_cases h1 : c < 2
      · exact Ev.pos h1 hbad
      · refine Ev.neg h1 ?_
        rw [decide_eq_true (by omega)]
        exact hbad
  · simp only [h, if_false]
    exact Ev.all fun k => rfl
theorem counts_loop (c m : Int) (hc : 2 ≤ c ∧ c ≤ 1000) (l : List Int) (hv : Valid l) : ∀ (suf pre out : List Int), l = pre ++ suf → out.length = pre.length →
    Ev (fun k => bakeref2_Counts.l0 k c m out l (l.length : Int) (pre.length : Int)) (cellsL c m out suf)
  | [], pre, out, hl, ho => Ev.done fun k => by simp only [bakeref2_Counts.l0]; rw [if_neg (at_end hl)]; rfl
  | x :: suf, pre, out, hl, ho => by
    have h1 := hv.1
    have a := at_mid hl (by omega)
    have hlen := len_mid' hl
    have hx := hv.2 x (by rw [hl]; simp)
    have hol : out.length < 17592186044416 := by omega
    have hb := cellN_bound c x hc hx
    have hr := cellN_ref c x hc hx
    have q0 : 0 ≤ x / c := Int.ediv_nonneg (by omega) (by omega)
    have q1 : x / c ≤ x := Int.ediv_le_self _ (by omega)
    have r0 := Int.emod_nonneg x (show c ≠ 0 by omega)
    have r1 := Int.emod_lt_of_pos x (show 0 < c by omega)
    have t1 : Int.tdiv x c = x / c := Int.tdiv_eq_ediv_of_nonneg (by omega)
    have t2 : Int.tmod x c = x % c := Int.tmod_eq_emod_of_nonneg (by omega)
    have ih := fun h => counts_loop c m hc l hv suf (pre ++ [x]) (out ++ [cellN c x]) (next_mid hl) h
    replace ih := ih (by simp [ho])
    have wm : wrap64 (2 * (x % c)) = 2 * (x % c) := w64 _ (by omega) (by omega)
    have wq : wrap64 (x / c) = x / c := w64 _ (by omega) (by omega)
    have wq1 : wrap64 (x / c + 1) = x / c + 1 := w64 _ (by omega) (by omega)
    have hpick : (if 2 * (x % c) ≥ c then x / c + 1 else x / c) = cellN c x := by rw [hr]; split <;> omega
    have hne : ¬ c = 0 := by omega
    have key : ∀ k, bakeref2_Counts.l0 (k + 1) c m out l (l.length : Int) (pre.length : Int) = if cellN c x = 0 then some ([], 18) else if cellN c x > m then some ([], 18) else bakeref2_Counts.l0 k c m (out ++ [cellN c x]) l (l.length : Int) ((pre ++ [x]).length : Int) := by
      intro k
      simp only [bakeref2_Counts.l0]
      rw [if_pos a.2.1, if_pos a.1, if_pos a.2.1, a.2.2.1, if_neg hne, t1, t2, wm, wq, wq1, a.2.2.2]
      simp only [if_pos hol]
      rw [← hpick]
      split <;> rfl
    by_cases h : cellN c x < 1 ∨ cellN c x > m
    · refine Ev.done fun k => ?_
      rw [key, cellsL, if_pos h]
      by_cases h2 : cellN c x = 0
      · rw [if_pos h2]
      · rw [if_neg h2, if_pos (by omega)]
    · have e : cellsL c m out (x :: suf) = cellsL c m (out ++ [cellN c x]) suf := by rw [cellsL, if_neg h]
      rw [e]
      refine Ev.step (fun k => ?_) ih
      rw [key, if_neg (by omega), if_neg (by omega)]
theorem counts_ev (l : List Int) (c m : Int) (hm : l.length ≤ 140737488355328) : Ev (fun k => bakeref2_Counts.f k l c m) (cellsOf l c m) := by
  unfold bakeref2_Counts.f cellsOf
  refine Ev.bind (trackErr_ev l hm) ?_
  have hbad : Ev (fun k => bakeref2_Counts.j0 k l c m true) ([], 1) := Ev.done fun k => by simp [bakeref2_Counts.j0]
  by_cases h : ck l = 0
  · simp only [h, if_true]
    by_cases hc : 2 ≤ c ∧ c ≤ 1000
    · rw [if_pos hc]
      refine Ev.neg (by omega) ?_
      rw [decide_eq_false (by omega)]
      refine Ev.step (fun k => by simp only [bakeref2_Counts.j0]; rw [if_neg (by simp)]) ?_
      exact counts_loop c m hc l (ck_zero.1 h) l [] [] rfl rfl
    · rw [if_neg hc]
      by_cases h1 : c < 2
      · exact Ev.pos h1 hbad
      · refine Ev.neg h1 ?_
        rw [decide_eq_true (by omega)]
        exact hbad
  · simp only [h, if_false]
    exact Ev.all fun k => rfl
theorem mul_small (x c : Int) (hx : 1 ≤ x ∧ x ≤ 100) (hc : 2 ≤ c ∧ c ≤ 1000) : 0 ≤ x * c ∧ x * c ≤ 100000 :=
  ⟨Int.mul_nonneg (by omega) (by omega), Int.mul_le_mul hx.2 hc.2 (by omega) (by omega)⟩
theorem pulses_loop (c : Int) (hc : 2 ≤ c ∧ c ≤ 1000) (l : List Int) (hm : l.length ≤ 40000) : ∀ (suf pre out : List Int), l = pre ++ suf → out.length = pre.length →
    Ev (fun k => flux_Pulses.l0 k c out l (l.length : Int) (pre.length : Int)) (pulL c out suf)
  | [], pre, out, hl, ho => Ev.done fun k => by simp only [flux_Pulses.l0]; rw [if_neg (at_end hl)]; rfl
  | x :: suf, pre, out, hl, ho => by
    have a := at_mid hl (by omega)
    have hlen := len_mid' hl
    have hol : out.length < 17592186044416 := by omega
    cases hx : okN x with
    | true =>
      have hx' : 1 ≤ x ∧ x ≤ 100 := by simpa [okN] using hx
      have hms := mul_small x c hx' hc
      have ih := pulses_loop c hc l hm suf (pre ++ [x]) (out ++ [x * c]) (next_mid hl) (by simp [ho])
      have e : pulL c out (x :: suf) = pulL c (out ++ [x * c]) suf := by rw [pulL, hx, if_pos rfl]
      rw [e]
      refine Ev.step (fun k => ?_) ih
      simp only [flux_Pulses.l0]
      rw [if_pos a.2.1, if_pos a.1, if_pos a.2.1, a.2.2.1, if_neg (by omega), if_neg (by omega), if_pos hol, w64 (x * c) (by omega) (by omega), a.2.2.2]
    | false =>
      have hx' : ¬ (1 ≤ x ∧ x ≤ 100) := by simpa [okN] using hx
      refine Ev.done fun k => ?_
      simp only [flux_Pulses.l0, pulL, hx]
      rw [if_pos a.2.1, if_pos a.1, if_pos a.2.1, a.2.2.1]
      by_cases h : x < 1
      · rw [if_pos h]; rfl
      · rw [if_neg h, if_pos (by omega)]; rfl
theorem pulses_ev (l : List Int) (c : Int) (hm : l.length ≤ 140737488355328) : Ev (fun k => flux_Pulses.f k l c) (pulsesOf l c) := by
  unfold flux_Pulses.f pulsesOf
  have hbad : Ev (fun k => flux_Pulses.j0 k l c true) ([], 1) := Ev.done fun k => by simp [flux_Pulses.j0]
  by_cases hc : 2 ≤ c ∧ c ≤ 1000
  · rw [if_pos hc]
    refine Ev.neg (by omega) ?_
    rw [decide_eq_false (by omega)]
    refine Ev.step (fun k => by simp only [flux_Pulses.j0]; rw [if_neg (by simp)]) ?_
    by_cases h : 40000 < l.length
    · rw [if_pos h]; exact Ev.pos (by omega) (Ev.all fun k => rfl)
    · rw [if_neg h]; exact Ev.neg (by omega) (pulses_loop c hc l (by omega) l [] [] rfl rfl)
  · rw [if_neg hc]
    by_cases h1 : c < 2
    · exact Ev.pos h1 hbad
    · refine Ev.neg h1 ?_
      rw [decide_eq_true (by omega)]
      exact hbad
theorem placed_loop (c : Int) (hc : 2 ≤ c ∧ c ≤ 1000) (l : List Bool) (hm : l.length ≤ 1000000000) : ∀ (suf pre : List Bool) (out : List Int) (last : Int), l = pre ++ suf → out.length ≤ pre.length → 0 ≤ last → last ≤ pre.length →
    Ev (fun k => bakeref2_Placed.l0 k c out last l (l.length : Int) (pre.length : Int)) (if 40000 < (out ++ (dist ((pre.length : Int) + 1 - last) suf).map (· * c)).length then ([], 2) else (out ++ (dist ((pre.length : Int) + 1 - last) suf).map (· * c), 0))
  | [], pre, out, last, hl, ho, h0, h1 => by
    simp only [dist, List.map_nil, List.append_nil]
    by_cases h : 40000 < out.length
    · rw [if_pos h]; refine Ev.done fun k => ?_; simp only [bakeref2_Placed.l0]; rw [if_neg (at_end hl), if_pos (by omega)]
    · rw [if_neg h]; refine Ev.done fun k => ?_; simp only [bakeref2_Placed.l0]; rw [if_neg (at_end hl), if_neg (by omega)]
  | b :: suf, pre, out, last, hl, ho, h0, h1 => by
    have a := at_midB false hl (by omega)
    have hlen := len_mid' hl
    have hol : out.length < 17592186044416 := by omega
    have hw : wrap64 ((pre.length : Int) + 1) = (pre.length : Int) + 1 := w64 _ (by omega) (by omega)
    have hpl : ((pre ++ [b]).length : Int) = (pre.length : Int) + 1 := by simp
    cases b with
    | true =>
      have hg0 : 0 ≤ ((pre.length : Int) + 1 - last) * c := Int.mul_nonneg (by omega) (by omega)
      have hg1 : ((pre.length : Int) + 1 - last) * c ≤ 1000000001 * 1000 := Int.mul_le_mul (by omega) hc.2 (by omega) (by omega)
      have ih := placed_loop c hc l hm suf (pre ++ [true]) (out ++ [((pre.length : Int) + 1 - last) * c]) ((pre.length : Int) + 1) (next_mid hl) (by simp; exact ho) (by omega) (by rw [hpl]; omega)
      rw [hpl] at ih
      rw [show (pre.length : Int) + 1 + 1 - ((pre.length : Int) + 1) = 1 by omega] at ih
      have e : out ++ (dist ((pre.length : Int) + 1 - last) (true :: suf)).map (· * c) = (out ++ [((pre.length : Int) + 1 - last) * c]) ++ (dist 1 suf).map (· * c) := by simp [dist]
      rw [e]
      refine Ev.step (fun k => ?_) ih
      simp only [bakeref2_Placed.l0]
      rw [if_pos a.2.1, if_pos a.1, if_pos a.2.1, a.2.2.1, if_pos rfl, if_pos hol, hw, w64 ((pre.length : Int) + 1 - last) (by omega) (by omega), w64 _ (by omega) (by omega)]
    | false =>
      have ih := placed_loop c hc l hm suf (pre ++ [false]) out last (next_mid hl) (by simp; omega) h0 (by rw [hpl]; omega)
      rw [hpl] at ih
      rw [show (pre.length : Int) + 1 + 1 - last = (pre.length : Int) + 1 - last + 1 by omega] at ih
      have e : dist ((pre.length : Int) + 1 - last) (false :: suf) = dist ((pre.length : Int) + 1 - last + 1) suf := rfl
      rw [e]
      refine Ev.step (fun k => ?_) ih
      simp only [bakeref2_Placed.l0]
      rw [if_pos a.2.1, if_pos a.1, if_pos a.2.1, a.2.2.1, if_neg (by simp), hw]
theorem placed_ev (l : List Bool) (c : Int) (hm : l.length ≤ 1000000000) : Ev (fun k => bakeref2_Placed.f k l c) (placedOf l c) := by
  unfold bakeref2_Placed.f placedOf
  have hbad : Ev (fun k => bakeref2_Placed.j0 k l c true) ([], 1) := Ev.done fun k => by simp [bakeref2_Placed.j0]
  by_cases hc : 2 ≤ c ∧ c ≤ 1000
  · rw [if_pos hc]
    refine Ev.neg (by omega) ?_
    rw [decide_eq_false (by omega)]
    refine Ev.step (fun k => by simp only [bakeref2_Placed.j0]; rw [if_neg (by simp)]) ?_
    have := placed_loop c hc l hm l [] [] 0 rfl (by simp) (by omega) (by simp)
    simpa using this
  · rw [if_neg hc]
    by_cases h1 : c < 2
    · exact Ev.pos h1 hbad
    · refine Ev.neg h1 ?_
      rw [decide_eq_true (by omega)]
      exact hbad
theorem gW_in (x1 : Int) (x6 l : List Int) (G m i : Int) (r : List Int × Int) : ∀ (n : Nat) (k : Int) (out : List Int) (g : Int), k = (n : Int) - 1 → n ≤ 10 → out.length + n ≤ 100000 → 1 ≤ g → g + n ≤ 1000000 →
    Ev (fun q => gcr_Write.l0 q x1 x6 l m (wrap64 (i + 1)) (out ++ (stp g (lowB G n)).1) ((stp g (lowB G n)).2 - 1)) r → Ev (fun q => gcr_Write.l1 q x1 x6 G k l m i out (g - 1)) r
  | 0, k, out, g, hk, _, _, _, _, h => by
    simp only [lowB, stp, List.append_nil] at h
    refine Ev.step (fun q => ?_) h
    simp only [gcr_Write.l1]
    rw [if_neg (by omega)]
  | n + 1, k, out, g, hk, hn, ho, hg, hg2, h => by
    have hkn : k = (n : Int) := by omega
    subst hkn
    have hw : wrap64 ((n : Int) - 1) = (n : Int) - 1 := w64 _ (by omega) (by omega)
    have hg1 : wrap64 (g - 1 + 1) = g := by rw [w64 _ (by omega) (by omega)]; omega
    by_cases hq : Go.bits .and .i64 (shr .i64 G (n : Int)) 1 = 1
    · have e : lowB G (n + 1) = true :: lowB G n := by simp only [lowB, hq]; rfl
      rw [e] at h
      simp only [stp] at h
      rw [← List.singleton_append, ← List.append_assoc] at h
      have ih := gW_in x1 x6 l G m i r n ((n : Int) - 1) (out ++ [g]) 1 rfl (by omega) (by rw [List.length_append, List.length_singleton]; omega) (by omega) (by omega) h
      refine Ev.step (fun q => ?_) ih
      simp only [gcr_Write.l1]
      rw [if_pos (by omega), if_pos (by omega), hw, if_pos hq, if_pos (by omega), hg1]
      rfl
    · have e : lowB G (n + 1) = false :: lowB G n := by simp only [lowB, hq]; rfl
      rw [e] at h
      simp only [stp] at h
      have ih := gW_in x1 x6 l G m i r n ((n : Int) - 1) out (g + 1) rfl (by omega) (by omega) (by omega) (by omega) h
      rw [Int.add_sub_cancel] at ih
      refine Ev.step (fun q => ?_) ih
      simp only [gcr_Write.l1]
      rw [if_pos (by omega), if_pos (by omega), hw, if_neg hq, hg1]
theorem gW_loop (x1 : Int) (l : List Int) (hb : ∀ c ∈ l, 0 ≤ c ∧ c < 256) (hm : l.length ≤ 2000) : ∀ (suf pre out : List Int) (g : Int), l = pre ++ suf → out.length ≤ 10 * pre.length → 1 ≤ g → g ≤ 10 * pre.length + 1 →
    Ev (fun k => gcr_Write.l0 k x1 codes l (l.length : Int) (pre.length : Int) out (g - 1)) (pulsesOf (out ++ dist g (suf.flatMap gB ++ [true])) x1)
  | [], pre, out, g, hl, ho, hg, hg2 => by
    have hp : l = pre := by simpa using hl
    subst hp
    have hg1 : wrap64 (g - 1 + 1) = g := by rw [w64 _ (by omega) (by omega)]; omega
    have e : dist g (([] : List Int).flatMap gB ++ [true]) = [g] := rfl
    rw [e]
    refine Ev.step (f := fun k => (flux_Pulses.f k (out ++ [g]) x1).bind fun bt => some (bt.1, bt.2)) (fun k => ?_) (Ev.bind (pulses_ev _ x1 (by rw [List.length_append, List.length_singleton]; omega)) (Ev.all fun k => rfl))
    simp only [gcr_Write.l0]
    rw [if_neg (by omega), if_pos (by omega), hg1]
  | c :: suf, pre, out, g, hl, ho, hg, hg2 => by
    have a := at_mid hl (by omega)
    have hlen := len_mid' hl
    have hc := hb c (by rw [hl]; simp)
    have hG := gB_of hc
    have hs := stp_len (gB c) g hg
    rw [gB_length] at hs
    have hpl : (pre ++ [c]).length = pre.length + 1 := by simp
    have ih := gW_loop x1 l hb hm suf (pre ++ [c]) (out ++ (stp g (gB c)).1) (stp g (gB c)).2 (next_mid hl) (by rw [List.length_append, hpl]; omega) hs.2.1 (by rw [hpl]; omega)
    rw [List.append_assoc, ← dist_stp, ← List.append_assoc (gB c), ← List.flatMap_cons] at ih
    have hin := gW_in x1 codes l (grp c) (l.length : Int) (pre.length : Int) _ 10 9 out g rfl (by omega) (by omega) hg (by omega) (by rw [hG.1, a.2.2.2]; exact ih)
    refine Ev.step (fun k => ?_) hin
    have hcl : (codes.length : Int) = 16 := rfl
    simp only [gcr_Write.l0]
    rw [if_pos a.2.1, if_pos a.1, if_pos a.2.1, a.2.2.1, if_pos (by omega), if_pos (by rw [hcl]; omega), if_pos hG.2.1, if_pos (by rw [hcl]; exact hG.2.2)]
    rfl
theorem gcrWrite_ev (l : List Int) (x1 : Int) (hb : ∀ c ∈ l, 0 ≤ c ∧ c < 256) : Ev (fun k => gcr_Write.f k l x1) (gcrOf l x1) := by
  unfold gcr_Write.f gcrOf
  by_cases h : 2000 < l.length
  · rw [if_pos h]; exact Ev.pos (by omega) (Ev.all fun k => rfl)
  · rw [if_neg h]
    refine Ev.neg (by omega) (Ev.bind (a := codes) (Ev.all fun k => rfl) ?_)
    exact gW_loop x1 l hb (by omega) l [] [] 1 rfl (by simp) (by omega) (by simp)
theorem groups_ev : Ev (fun k => bakeref2_groups.f k) codes := Ev.of (fun k => bakeref2_groups.mono k) (k := 40) (by decide +kernel)
theorem g5_ev (x1 : Int) (l y : List Int) (G m i p q : Int) (out : List Bool) (r : List Int × Int) (ho : out.length ≤ 100000) (h : Ev (fun k => bakeref2_Gcr.l1 k x1 (out ++ b5 G) l m i y p (wrap64 (q + 1))) r) : Ev (fun k => bakeref2_Gcr.l2 k x1 out G 16 l m i y p q) r := by
  have w1 : wrap64 (Int.tdiv 16 2) = 8 := by decide +kernel
  have w2 : wrap64 (Int.tdiv 8 2) = 4 := by decide +kernel
  have w3 : wrap64 (Int.tdiv 4 2) = 2 := by decide +kernel
  have w4 : wrap64 (Int.tdiv 2 2) = 1 := by decide +kernel
  have w5 : wrap64 (Int.tdiv 1 2) = 0 := by decide +kernel
  have st : ∀ (o : List Bool) (v : Int) (k : Nat), o.length < 140737488355328 → 0 < v → bakeref2_Gcr.l2 (k + 1) x1 o G v l m i y p q = bakeref2_Gcr.l2 k x1 (o ++ [Go.bits .and .i64 G v != 0]) G (wrap64 (Int.tdiv v 2)) l m i y p q := by
    intro o v k h1 h2
    simp only [bakeref2_Gcr.l2]
    rw [if_pos (by omega), if_pos h1]
  refine Ev.step (fun k => st out 16 k (by omega) (by decide)) ?_
  rw [w1]
  refine Ev.step (fun k => st _ 8 k (by simp; omega) (by decide)) ?_
  rw [w2]
  refine Ev.step (fun k => st _ 4 k (by simp; omega) (by decide)) ?_
  rw [w3]
  refine Ev.step (fun k => st _ 2 k (by simp; omega) (by decide)) ?_
  rw [w4]
  refine Ev.step (fun k => st _ 1 k (by simp; omega) (by decide)) ?_
  rw [w5]
  refine Ev.step (fun k => ?_) h
  simp only [bakeref2_Gcr.l2]
  rw [if_neg (by decide)]
  simp only [b5, List.append_assoc, List.cons_append, List.nil_append]
theorem gcr_loop (x1 : Int) (l : List Int) (hb : ∀ c ∈ l, 0 ≤ c ∧ c < 256) (hm : l.length ≤ 2000) : ∀ (suf pre : List Int), l = pre ++ suf →
    Ev (fun k => bakeref2_Gcr.l0 k x1 (pre.flatMap gB) l (l.length : Int) (pre.length : Int)) (placedOf (l.flatMap gB ++ [true]) x1)
  | [], pre, hl => by
    have hp : l = pre := by simpa using hl
    subst hp
    have hlen := gl_length l
    refine Ev.step (f := fun k => (bakeref2_Placed.f k (l.flatMap gB ++ [true]) x1).bind fun bt => some (bt.1, bt.2)) (fun k => ?_) (Ev.bind (placed_ev _ x1 (by rw [List.length_append, List.length_singleton]; omega)) (Ev.all fun k => rfl))
    simp only [bakeref2_Gcr.l0]
    rw [if_neg (by omega), if_pos (by omega)]
  | c :: suf, pre, hl => by
    have a := at_mid hl (by omega)
    have hlen := len_mid' hl
    have hgl := gl_length pre
    have hc := hb c (by rw [hl]; simp)
    have ih := gcr_loop x1 l hb hm suf (pre ++ [c]) (next_mid hl)
    rw [List.flatMap_append, List.flatMap_singleton, gB, ← List.append_assoc] at ih
    have e1 : (Int.tdiv c 16) % 256 = c / 16 := by rw [Int.tdiv_eq_ediv_of_nonneg hc.1]; omega
    have e2 : Int.tmod c 16 = c % 16 := Int.tmod_eq_emod_of_nonneg hc.1
    have q1 : wrap64 ((0 : Int) + 1) = 1 := w64 _ (by omega) (by omega)
    have q2 : wrap64 ((1 : Int) + 1) = 2 := w64 _ (by omega) (by omega)
    have hcl : (codes.length : Int) = 16 := rfl
    refine Ev.step (f := fun k => bakeref2_Gcr.l1 k x1 (pre.flatMap gB) l (l.length : Int) (pre.length : Int) [c / 16, c % 16] 2 0) (fun k => ?_) ?_
    · simp only [bakeref2_Gcr.l0]
      rw [if_pos a.2.1, if_pos a.1, if_pos a.2.1, a.2.2.1, e1, e2]
      rfl
    refine Ev.step (f := fun k => (bakeref2_groups.f k).bind fun t178 => if 0 ≤ c / 16 then (if c / 16 < (t178.length : Int) then bakeref2_Gcr.l2 k x1 (pre.flatMap gB) (rd t178 (c / 16)) 16 l (l.length : Int) (pre.length : Int) [c / 16, c % 16] 2 0 else none) else none) (fun k => ?_) ?_
    · simp only [bakeref2_Gcr.l1]
      rw [if_pos (by omega), if_pos (by omega), if_pos (by simp)]
      rfl
    refine Ev.bind groups_ev (Ev.pos (by omega) (Ev.pos (by rw [hcl]; omega) ?_))
    refine g5_ev x1 l _ _ _ _ _ _ _ _ (by omega) ?_
    rw [q1]
    refine Ev.step (f := fun k => (bakeref2_groups.f k).bind fun t178 => if 0 ≤ c % 16 then (if c % 16 < (t178.length : Int) then bakeref2_Gcr.l2 k x1 (pre.flatMap gB ++ b5 (rd codes (c / 16))) (rd t178 (c % 16)) 16 l (l.length : Int) (pre.length : Int) [c / 16, c % 16] 2 1 else none) else none) (fun k => ?_) ?_
    · simp only [bakeref2_Gcr.l1]
      rw [if_pos (by omega), if_pos (by omega), if_pos (by simp)]
      rfl
    refine Ev.bind groups_ev (Ev.pos (by omega) (Ev.pos (by rw [hcl]; omega) ?_))
    refine g5_ev x1 l _ _ _ _ _ _ _ _ (by rw [List.length_append]; simp only [b5, List.length_cons, List.length_nil]; omega) ?_
    rw [q2]
    rw [← a.2.2.2] at ih
    refine Ev.step (fun k => ?_) ih
    simp only [bakeref2_Gcr.l1]
    rw [if_neg (by omega)]
theorem gcrRef_ev (l : List Int) (x1 : Int) (hb : ∀ c ∈ l, 0 ≤ c ∧ c < 256) : Ev (fun k => bakeref2_Gcr.f k l x1) (gcrOf l x1) := by
  unfold bakeref2_Gcr.f gcrOf
  by_cases h : 2000 < l.length
  · rw [if_pos h]; exact Ev.pos (by omega) (Ev.all fun k => rfl)
  · rw [if_neg h, ← gcr_same l x1 hb (by omega)]
    exact Ev.neg (by omega) (gcr_loop x1 l hb (by omega) l [] rfl)
end Go.Proofs.Ytmedmifkeliepaa.BkGcrWrites
