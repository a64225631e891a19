/-
  What the functions that FmWrites uses come to, in plain words (models of ZFm). Conditions stand in each lemma.
-/
import Derived.Test.YtgiodeiibmbhhaaZFm
import Derived.Test.YtgiodeiibmbhhaaPFmWritesx0
import Derived.Test.YtgiodeiibmbhhaaPFmWritesx1
import Derived.Test.YtgiodeiibmbhhaaPFmWritesx2
import Derived.Test.YtgiodeiibmbhhaaPFmWritesx3
import Derived.Test.YtgiodeiibmbhhaaPFmWritesx4
import Derived.Test.YtgiodeiibmbhhaaPFmWritesx5
import Derived.Test.YtgiodeiibmbhhaaPFmWritesx6
set_option linter.unusedVariables false
set_option linter.unusedSimpArgs false
namespace Go.Proofs.Ytgiodeiibmbhhaa.BkFmWrites
open Go Go.RowKit Go.Proofs.YtgiodeiibmbhhaaW.PrintWords Go.Proofs.YtgiodeiibmbhhaaW.PrintLast Go.Proofs.YtgiodeiibmbhhaaW.PrintMore Go.Proofs.Ytgiodeiibmbhhaa.PFmWrites Go.Proofs.Ytgiodeiibmbhhaa.Bk
theorem slices_Equal_api_Track_int_loop (l r : List Int) (hm : l.length ≤ 140737488355328) : ∀ (suf suf' pre : List Int), l = pre ++ suf → r = pre ++ suf' → suf.length = suf'.length →
    Ev (fun k => slices_Equal_api_Track_int.l0 k l r (l.length : Int) (pre.length : Int)) (decide (suf = suf'))
  | [], [], pre, hl, hr, _ => Ev.done fun k => by simp only [slices_Equal_api_Track_int.l0]; rw [if_neg (at_end hl)]; rfl
  | [], _ :: _, _, _, _, h => by simp at h
  | _ :: _, [], _, _, _, h => by simp at h
  | x :: suf, y :: suf', pre, hl, hr, h => by
    have a := at_mid hl hm
    have hlen : l.length = r.length := by rw [hl, hr]; simp at h ⊢; exact h
    have b := at_mid hr (by omega)
    by_cases e : x = y
    · subst e
      have ih := slices_Equal_api_Track_int_loop l r hm suf suf' (pre ++ [x]) (next_mid hl) (next_mid hr) (by simpa using h)
      have e2 : decide (x :: suf = x :: suf') = decide (suf = suf') := by simp
      rw [e2]
      refine Ev.step (fun k => ?_) ih
      simp only [slices_Equal_api_Track_int.l0]
      rw [if_pos a.2.1, if_pos a.1, if_pos a.2.1, if_pos b.2.1, a.2.2.1, b.2.2.1, if_pos rfl, a.2.2.2]
    · refine Ev.done fun k => ?_
      simp only [slices_Equal_api_Track_int.l0]
      rw [if_pos a.2.1, if_pos a.1, if_pos a.2.1, if_pos b.2.1, a.2.2.1, b.2.2.1, if_neg e]
      simp [e]
theorem slices_Equal_api_Track_int_ev (l r : List Int) (hm : l.length ≤ 140737488355328) : Ev (fun k => slices_Equal_api_Track_int.f k l r) (decide (l = r)) := by
  by_cases h : l.length = r.length
  · refine Ev.congr (fun k => ?_) (slices_Equal_api_Track_int_loop l r hm l r [] rfl rfl h)
    unfold slices_Equal_api_Track_int.f
    rw [if_pos (by omega)]; rfl
  · refine Ev.all fun k => ?_
    unfold slices_Equal_api_Track_int.f
    rw [if_neg (by omega)]
    have : ¬ l = r := fun e => h (by rw [e])
    simp [this]
theorem slices_Equal_byte_byte_loop (l r : List Int) (hm : l.length ≤ 140737488355328) : ∀ (suf suf' pre : List Int), l = pre ++ suf → r = pre ++ suf' → suf.length = suf'.length →
    Ev (fun k => slices_Equal_byte_byte.l0 k l r (l.length : Int) (pre.length : Int)) (decide (suf = suf'))
  | [], [], pre, hl, hr, _ => Ev.done fun k => by simp only [slices_Equal_byte_byte.l0]; rw [if_neg (at_end hl)]; rfl
  | [], _ :: _, _, _, _, h => by simp at h
  | _ :: _, [], _, _, _, h => by simp at h
  | x :: suf, y :: suf', pre, hl, hr, h => by
    have a := at_mid hl hm
    have hlen : l.length = r.length := by rw [hl, hr]; simp at h ⊢; exact h
    have b := at_mid hr (by omega)
    by_cases e : x = y
    · subst e
      have ih := slices_Equal_byte_byte_loop l r hm suf suf' (pre ++ [x]) (next_mid hl) (next_mid hr) (by simpa using h)
      have e2 : decide (x :: suf = x :: suf') = decide (suf = suf') := by simp
      rw [e2]
      refine Ev.step (fun k => ?_) ih
      simp only [slices_Equal_byte_byte.l0]
      rw [if_pos a.2.1, if_pos a.1, if_pos a.2.1, if_pos b.2.1, a.2.2.1, b.2.2.1, if_pos rfl, a.2.2.2]
    · refine Ev.done fun k => ?_
      simp only [slices_Equal_byte_byte.l0]
      rw [if_pos a.2.1, if_pos a.1, if_pos a.2.1, if_pos b.2.1, a.2.2.1, b.2.2.1, if_neg e]
      simp [e]
theorem slices_Equal_byte_byte_ev (l r : List Int) (hm : l.length ≤ 140737488355328) : Ev (fun k => slices_Equal_byte_byte.f k l r) (decide (l = r)) := by
  by_cases h : l.length = r.length
  · refine Ev.congr (fun k => ?_) (slices_Equal_byte_byte_loop l r hm l r [] rfl rfl h)
    unfold slices_Equal_byte_byte.f
    rw [if_pos (by omega)]; rfl
  · refine Ev.all fun k => ?_
    unfold slices_Equal_byte_byte.f
    rw [if_neg (by omega)]
    have : ¬ l = r := fun e => h (by rw [e])
    simp [this]
theorem fluxCheck_loop (l : List Int) (hm : l.length ≤ 140737488355328) : ∀ (suf pre : List Int), l = pre ++ suf → Ev (fun k => flux_Check.l0 k l (l.length : Int) (pre.length : Int)) (if suf.all okP then 0 else 1)
  | [], pre, hl => Ev.done fun k => by simp only [flux_Check.l0]; rw [if_neg (at_end hl)]; rfl
  | x :: suf, pre, hl => by
    have a := at_mid hl hm
    by_cases hx : 1 ≤ x ∧ x ≤ 100000
    · have ih := fluxCheck_loop l hm suf (pre ++ [x]) (next_mid hl)
      have e : (x :: suf).all okP = suf.all okP := by simp [okP, hx]
      rw [e]
      refine Ev.step (fun k => ?_) ih
      simp only [flux_Check.l0]
      rw [if_pos a.2.1, if_pos a.1, if_pos a.2.1, a.2.2.1, if_neg (by omega), if_neg (by omega), a.2.2.2]
    · have e : (x :: suf).all okP = false := by simp [okP, hx]
      rw [e]
      refine Ev.done fun k => ?_
      simp only [flux_Check.l0]
      rw [if_pos a.2.1, if_pos a.1, if_pos a.2.1, a.2.2.1]
      by_cases h1 : x < 1
      · rw [if_pos h1]; rfl
      · rw [if_neg h1, if_pos (by omega)]; rfl
theorem fluxCheck_ev (l : List Int) (hm : l.length ≤ 140737488355328) : Ev (fun k => flux_Check.f k l) (ck l) := by
  unfold ck
  by_cases h : 40000 < l.length
  · rw [if_pos h]; exact Ev.all fun k => by unfold flux_Check.f; rw [if_pos (by omega)]
  · rw [if_neg h]
    refine Ev.congr (fun k => ?_) (fluxCheck_loop l hm l [] rfl)
    unfold flux_Check.f; rw [if_neg (by omega)]; rfl
theorem trackErr1 (a : Int) : bakeref2_TrackErr_1.f a = some (!okP a) := by
  unfold bakeref2_TrackErr_1.f okP
  by_cases h : a ≤ 0
  · rw [if_pos h, decide_eq_false (by omega)]; rfl
  · rw [if_neg h]
    by_cases h2 : a > 100000
    · rw [decide_eq_true h2, decide_eq_false (by omega)]; rfl
    · rw [decide_eq_false h2, decide_eq_true (by omega)]; rfl
theorem trackErr_loop (l : List Int) (hm : l.length ≤ 140737488355328) : ∀ (suf pre : List Int), l = pre ++ suf →
    ∃ r : Int, (0 ≤ r ↔ suf.all okP = false) ∧ Ev (fun k => slices_IndexFunc_bakeref2_TrackErr_1.l0 k l (l.length : Int) (pre.length : Int)) r
  | [], pre, hl => ⟨-1, by simp, Ev.done fun k => by simp only [slices_IndexFunc_bakeref2_TrackErr_1.l0]; rw [if_neg (at_end hl)]⟩
  | x :: suf, pre, hl => by
    have a := at_mid hl hm
    cases hx : okP x with
    | true =>
      obtain ⟨r, h1, h2⟩ := trackErr_loop l hm suf (pre ++ [x]) (next_mid hl)
      refine ⟨r, by simpa [hx] using h1, Ev.step (fun k => ?_) h2⟩
      simp only [slices_IndexFunc_bakeref2_TrackErr_1.l0]
      rw [if_pos a.2.1, if_pos a.1, if_pos a.2.1, a.2.2.1, trackErr1, hx, a.2.2.2]
      rfl
    | false =>
      refine ⟨(pre.length : Int), by simp [hx], Ev.done fun k => ?_⟩
      simp only [slices_IndexFunc_bakeref2_TrackErr_1.l0]
      rw [if_pos a.2.1, if_pos a.1, if_pos a.2.1, a.2.2.1, trackErr1, hx]
      rfl
theorem trackErr_ev (l : List Int) (hm : l.length ≤ 140737488355328) : Ev (fun k => bakeref2_TrackErr.f k l) (ck l) := by
  unfold ck
  by_cases h : 40000 < l.length
  · rw [if_pos h]; exact Ev.all fun k => by unfold bakeref2_TrackErr.f; rw [if_pos (by omega)]
  · rw [if_neg h]
    obtain ⟨r, h1, h2⟩ := trackErr_loop l hm l [] rfl
    have hc : Ev (fun k => slices_ContainsFunc_bakeref2_TrackErr_1.f k l) (!l.all okP) := by
      unfold slices_ContainsFunc_bakeref2_TrackErr_1.f slices_IndexFunc_bakeref2_TrackErr_1.f
      refine Ev.bind h2 (Ev.all fun k => ?_)
      cases hq : l.all okP with
      | true => rw [decide_eq_false (fun h => by have := h1.1 h; rw [hq] at this; cases this)]; rfl
      | false => rw [decide_eq_true (show r ≥ 0 from h1.2 hq)]; rfl
    refine Ev.congr (f := fun k => (slices_ContainsFunc_bakeref2_TrackErr_1.f k l).bind fun t => if t = true then some 1 else some 0) (fun k => ?_) (Ev.bind hc (Ev.all fun k => ?_))
    · unfold bakeref2_TrackErr.f
      rw [if_neg (by omega)]
    · cases l.all okP <;> rfl
theorem cells_loop (c m : Int) (hc : 2 ≤ c ∧ c ≤ 1000) (l : List Int) (hv : Valid l) : ∀ (suf pre out : List Int), l = pre ++ suf → out.length = pre.length →
    Ev (fun k => flux_Cells.l0 k c m out l (l.length : Int) (pre.length : Int)) (cellsL c m out suf)
  | [], pre, out, hl, ho => Ev.done fun k => by simp only [flux_Cells.l0]; rw [if_neg (at_end hl)]; rfl
  | x :: suf, pre, out, hl, ho => by
    have h1 := hv.1
    have a := at_mid hl (by omega)
    have hlen := len_mid' hl
    have hx := hv.2 x (by rw [hl]; simp)
    have hw2 : ¬ wrap64 (2 * c) = 0 := by rw [w64 _ (by omega) (by omega)]; omega
    have hol : out.length < 17592186044416 := by omega
    have g := cellN_go c x hc hx
    by_cases h : cellN c x < 1 ∨ cellN c x > m
    · refine Ev.done fun k => ?_
      simp only [flux_Cells.l0, cellsL]
      rw [if_pos a.2.1, if_pos a.1, if_pos a.2.1, a.2.2.1, if_neg hw2, g, if_pos h]
      by_cases h2 : cellN c x < 1
      · rw [if_pos h2]
      · rw [if_neg h2, if_pos (by omega)]
    · have ih := cells_loop c m hc l hv suf (pre ++ [x]) (out ++ [cellN c x]) (next_mid hl) (by simp [ho])
      have e : cellsL c m out (x :: suf) = cellsL c m (out ++ [cellN c x]) suf := by rw [cellsL, if_neg h]
      rw [e]
      refine Ev.step (fun k => ?_) ih
      simp only [flux_Cells.l0]
      rw [if_pos a.2.1, if_pos a.1, if_pos a.2.1, a.2.2.1, if_neg hw2, g, if_neg (by omega), if_neg (by omega), if_pos hol, a.2.2.2]
theorem cells_ev (l : List Int) (c m : Int) (hm : l.length ≤ 140737488355328) : Ev (fun k => flux_Cells.f k l c m) (cellsOf l c m) := by
  unfold flux_Cells.f cellsOf
  refine Ev.bind (fluxCheck_ev l hm) ?_
  have hbad : Ev (fun k => flux_Cells.j0 k l c m true) ([], 1) := Ev.done fun k => by simp [flux_Cells.j0]
  by_cases h : ck l = 0
  · simp only [h, if_true]
    by_cases hc : 2 ≤ c ∧ c ≤ 1000
    · rw [if_pos hc]
      refine Ev.neg (by omega) ?_
      rw [decide_eq_false (by omega)]
      refine Ev.step (fun k => by simp only [flux_Cells.j0]; rw [if_neg (by simp)]) ?_
      exact cells_loop c m hc l (ck_zero.1 h) l [] [] rfl rfl
    · rw [if_neg hc]
      by_cases h1 : c < 2
      · exact Ev.pos h1 hbad
      · refine Ev.neg h1 ?_
        rw [decide_eq_true (by omega)]
        exact hbad
  · simp only [h, if_false]
    exact Ev.all fun k => rfl
theorem counts_loop (c m : Int) (hc : 2 ≤ c ∧ c ≤ 1000) (l : List Int) (hv : Valid l) : ∀ (suf pre out : List Int), l = pre ++ suf → out.length = pre.length →
    Ev (fun k => bakeref2_Counts.l0 k c m out l (l.length : Int) (pre.length : Int)) (cellsL c m out suf)
  | [], pre, out, hl, ho => Ev.done fun k => by simp only [bakeref2_Counts.l0]; rw [if_neg (at_end hl)]; rfl
  | x :: suf, pre, out, hl, ho => by
    have h1 := hv.1
    have a := at_mid hl (by omega)
    have hlen := len_mid' hl
    have hx := hv.2 x (by rw [hl]; simp)
    have hol : out.length < 17592186044416 := by omega
    have hb := cellN_bound c x hc hx
    have hr := cellN_ref c x hc hx
    have q0 : 0 ≤ x / c := Int.ediv_nonneg (by omega) (by omega)
    have q1 : x / c ≤ x := Int.ediv_le_self _ (by omega)
    have r0 := Int.emod_nonneg x (show c ≠ 0 by omega)
    have r1 := Int.emod_lt_of_pos x (show 0 < c by omega)
    have t1 : Int.tdiv x c = x / c := Int.tdiv_eq_ediv_of_nonneg (by omega)
    have t2 : Int.tmod x c = x % c := Int.tmod_eq_emod_of_nonneg (by omega)
    have ih := fun h => counts_loop c m hc l hv suf (pre ++ [x]) (out ++ [cellN c x]) (next_mid hl) h
    replace ih := ih (by simp [ho])
    have wm : wrap64 (2 * (x % c)) = 2 * (x % c) := w64 _ (by omega) (by omega)
    have wq : wrap64 (x / c) = x / c := w64 _ (by omega) (by omega)
    have wq1 : wrap64 (x / c + 1) = x / c + 1 := w64 _ (by omega) (by omega)
    have hpick : (if 2 * (x % c) ≥ c then x / c + 1 else x / c) = cellN c x := by rw [hr]; split <;> omega
    have hne : ¬ c = 0 := by omega
    have key : ∀ k, bakeref2_Counts.l0 (k + 1) c m out l (l.length : Int) (pre.length : Int) = if cellN c x = 0 then some ([], 18) else if cellN c x > m then some ([], 18) else bakeref2_Counts.l0 k c m (out ++ [cellN c x]) l (l.length : Int) ((pre ++ [x]).length : Int) := by
      intro k
      simp only [bakeref2_Counts.l0]
      rw [if_pos a.2.1, if_pos a.1, if_pos a.2.1, a.2.2.1, if_neg hne, t1, t2, wm, wq, wq1, a.2.2.2]
      simp only [if_pos hol]
      rw [← hpick]
      split <;> rfl
    by_cases h : cellN c x < 1 ∨ cellN c x > m
    · refine Ev.done fun k => ?_
      rw [key, cellsL, if_pos h]
      by_cases h2 : cellN c x = 0
      · rw [if_pos h2]
      · rw [if_neg h2, if_pos (by omega)]
    · have e : cellsL c m out (x :: suf) = cellsL c m (out ++ [cellN c x]) suf := by rw [cellsL, if_neg h]
      rw [e]
      refine Ev.step (fun k => ?_) ih
      rw [key, if_neg (by omega), if_neg (by omega)]
theorem counts_ev (l : List Int) (c m : Int) (hm : l.length ≤ 140737488355328) : Ev (fun k => bakeref2_Counts.f k l c m) (cellsOf l c m) := by
  unfold bakeref2_Counts.f cellsOf
  refine Ev.bind (trackErr_ev l hm) ?_
  have hbad : Ev (fun k => bakeref2_Counts.j0 k l c m true) ([], 1) := Ev.done fun k => by simp [bakeref2_Counts.j0]
  by_cases h : ck l = 0
  · simp only [h, if_true]
    by_cases hc : 2 ≤ c ∧ c ≤ 1000
    · rw [if_pos hc]
      refine Ev.neg (by omega) ?_
      rw [decide_eq_false (by omega)]
      refine Ev.step (fun k => by simp only [bakeref2_Counts.j0]; rw [if_neg (by simp)]) ?_
      exact counts_loop c m hc l (ck_zero.1 h) l [] [] rfl rfl
    · rw [if_neg hc]
      by_cases h1 : c < 2
      · exact Ev.pos h1 hbad
      · refine Ev.neg h1 ?_
        rw [decide_eq_true (by omega)]
        exact hbad
  · simp only [h, if_false]
    exact Ev.all fun k => rfl
theorem mul_small (x c : Int) (hx : 1 ≤ x ∧ x ≤ 100) (hc : 2 ≤ c ∧ c ≤ 1000) : 0 ≤ x * c ∧ x * c ≤ 100000 :=
  ⟨Int.mul_nonneg (by omega) (by omega), Int.mul_le_mul hx.2 hc.2 (by omega) (by omega)⟩
theorem pulses_loop (c : Int) (hc : 2 ≤ c ∧ c ≤ 1000) (l : List Int) (hm : l.length ≤ 40000) : ∀ (suf pre out : List Int), l = pre ++ suf → out.length = pre.length →
    Ev (fun k => flux_Pulses.l0 k c out l (l.length : Int) (pre.length : Int)) (pulL c out suf)
  | [], pre, out, hl, ho => Ev.done fun k => by simp only [flux_Pulses.l0]; rw [if_neg (at_end hl)]; rfl
  | x :: suf, pre, out, hl, ho => by
    have a := at_mid hl (by omega)
    have hlen := len_mid' hl
    have hol : out.length < 17592186044416 := by omega
    cases hx : okN x with
    | true =>
      have hx' : 1 ≤ x ∧ x ≤ 100 := by simpa [okN] using hx
      have hms := mul_small x c hx' hc
      have ih := pulses_loop c hc l hm suf (pre ++ [x]) (out ++ [x * c]) (next_mid hl) (by simp [ho])
      have e : pulL c out (x :: suf) = pulL c (out ++ [x * c]) suf := by rw [pulL, hx, if_pos rfl]
      rw [e]
      refine Ev.step (fun k => ?_) ih
      simp only [flux_Pulses.l0]
      rw [if_pos a.2.1, if_pos a.1, if_pos a.2.1, a.2.2.1, if_neg (by omega), if_neg (by omega), if_pos hol, w64 (x * c) (by omega) (by omega), a.2.2.2]
    | false =>
      have hx' : ¬ (1 ≤ x ∧ x ≤ 100) := by simpa [okN] using hx
      refine Ev.done fun k => ?_
      simp only [flux_Pulses.l0, pulL, hx]
      rw [if_pos a.2.1, if_pos a.1, if_pos a.2.1, a.2.2.1]
      by_cases h : x < 1
      · rw [if_pos h]; rfl
      · rw [if_neg h, if_pos (by omega)]; rfl
theorem pulses_ev (l : List Int) (c : Int) (hm : l.length ≤ 140737488355328) : Ev (fun k => flux_Pulses.f k l c) (pulsesOf l c) := by
  unfold flux_Pulses.f pulsesOf
  have hbad : Ev (fun k => flux_Pulses.j0 k l c true) ([], 1) := Ev.done fun k => by simp [flux_Pulses.j0]
  by_cases hc : 2 ≤ c ∧ c ≤ 1000
  · rw [if_pos hc]
    refine Ev.neg (by omega) ?_
    rw [decide_eq_false (by omega)]
    refine Ev.step (fun k => by simp only [flux_Pulses.j0]; rw [if_neg (by simp)]) ?_
    by_cases h : 40000 < l.length
    · rw [if_pos h]; exact Ev.pos (by omega) (Ev.all fun k => rfl)
    · rw [if_neg h]; exact Ev.neg (by omega) (pulses_loop c hc l (by omega) l [] [] rfl rfl)
  · rw [if_neg hc]
    by_cases h1 : c < 2
    · exact Ev.pos h1 hbad
    · refine Ev.neg h1 ?_
      rw [decide_eq_true (by omega)]
      exact hbad
theorem bits_in (l : List Int) (c : Int) (hc : 0 ≤ c ∧ c < 256) (m i : Int) (r : List Bool) : ∀ (n k : Nat) (out : List Bool), n + k = 8 → out.length + n ≤ 140737488355327 → Ev (fun q => bakeref2_Bits.l0 q (out ++ (bits8 c).drop k) l m (wrap64 (i + 1))) r →
    Ev (fun q => bakeref2_Bits.l1 q out c l m i (k : Int)) r
  | 0, k, out, hn, hm, h => by
    have hk : k = 8 := by omega
    subst hk
    refine Ev.step (fun q => ?_) h
    simp only [bakeref2_Bits.l1]
    rw [if_neg (by omega)]
    simp [bits8]
  | n + 1, k, out, hn, hm, h => by
    have hk : k < 8 := by omega
    have hd : (bits8 c).drop k = bt7 c k :: (bits8 c).drop (k + 1) := by
      obtain rfl | rfl | rfl | rfl | rfl | rfl | rfl | rfl : k = 0 ∨ k = 1 ∨ k = 2 ∨ k = 3 ∨ k = 4 ∨ k = 5 ∨ k = 6 ∨ k = 7 := by omega
      all_goals rfl
    rw [hd, show out ++ bt7 c k :: (bits8 c).drop (k + 1) = (out ++ [bt7 c k]) ++ (bits8 c).drop (k + 1) by simp] at h
    have ih := bits_in l c hc m i r n (k + 1) (out ++ [bt7 c k]) (by omega) (by simp; omega) h
    refine Ev.step (fun q => ?_) ih
    simp only [bakeref2_Bits.l1]
    rw [if_pos (by omega), if_pos (by omega), if_pos (by omega), bit_ref c k hc hk, w64 _ (by omega) (by omega)]
    rfl
theorem bits_loop (l : List Int) (hb : ∀ c ∈ l, 0 ≤ c ∧ c < 256) (hm : l.length ≤ 17592186044415) : ∀ (suf pre : List Int), l = pre ++ suf →
    Ev (fun k => bakeref2_Bits.l0 k (bitsL pre) l (l.length : Int) (pre.length : Int)) (bitsL l)
  | [], pre, hl => Ev.done fun k => by simp only [bakeref2_Bits.l0]; rw [if_neg (at_end hl)]; rw [hl]; simp
  | c :: suf, pre, hl => by
    have a := at_mid hl (by omega)
    have hlen := len_mid' hl
    have hc := hb c (by rw [hl]; simp)
    have ih := bits_loop l hb hm suf (pre ++ [c]) (next_mid hl)
    have e : bitsL (pre ++ [c]) = bitsL pre ++ (bits8 c).drop 0 := by simp [bitsL]
    rw [e] at ih
    refine Ev.step (fun k => ?_) (bits_in l c hc (l.length : Int) (pre.length : Int) (bitsL l) 8 0 (bitsL pre) rfl (by rw [bitsL_length]; omega) (by rw [a.2.2.2]; exact ih))
    simp only [bakeref2_Bits.l0]
    rw [if_pos a.2.1, if_pos a.1, if_pos a.2.1, a.2.2.1]
    rfl
theorem bits_ev (l : List Int) (hb : ∀ c ∈ l, 0 ≤ c ∧ c < 256) (hm : l.length ≤ 17592186044415) : Ev (fun k => bakeref2_Bits.f k l) (bitsL l) :=
  bits_loop l hb hm l [] rfl
theorem placed_loop (c : Int) (hc : 2 ≤ c ∧ c ≤ 1000) (l : List Bool) (hm : l.length ≤ 1000000000) : ∀ (suf pre : List Bool) (out : List Int) (last : Int), l = pre ++ suf → out.length ≤ pre.length → 0 ≤ last → last ≤ pre.length →
    Ev (fun k => bakeref2_Placed.l0 k c out last l (l.length : Int) (pre.length : Int)) (if 40000 < (out ++ (dist ((pre.length : Int) + 1 - last) suf).map (· * c)).length then ([], 2) else (out ++ (dist ((pre.length : Int) + 1 - last) suf).map (· * c), 0))
  | [], pre, out, last, hl, ho, h0, h1 => by
    simp only [dist, List.map_nil, List.append_nil]
    by_cases h : 40000 < out.length
    · rw [if_pos h]; refine Ev.done fun k => ?_; simp only [bakeref2_Placed.l0]; rw [if_neg (at_end hl), if_pos (by omega)]
    · rw [if_neg h]; refine Ev.done fun k => ?_; simp only [bakeref2_Placed.l0]; rw [if_neg (at_end hl), if_neg (by omega)]
  | b :: suf, pre, out, last, hl, ho, h0, h1 => by
    have a := at_midB false hl (by omega)
    have hlen := len_mid' hl
    have hol : out.length < 17592186044416 := by omega
    have hw : wrap64 ((pre.length : Int) + 1) = (pre.length : Int) + 1 := w64 _ (by omega) (by omega)
    have hpl : ((pre ++ [b]).length : Int) = (pre.length : Int) + 1 := by simp
    cases b with
    | true =>
      have hg0 : 0 ≤ ((pre.length : Int) + 1 - last) * c := Int.mul_nonneg (by omega) (by omega)
      have hg1 : ((pre.length : Int) + 1 - last) * c ≤ 1000000001 * 1000 := Int.mul_le_mul (by omega) hc.2 (by omega) (by omega)
      have ih := placed_loop c hc l hm suf (pre ++ [true]) (out ++ [((pre.length : Int) + 1 - last) * c]) ((pre.length : Int) + 1) (next_mid hl) (by simp; exact ho) (by omega) (by rw [hpl]; omega)
      rw [hpl] at ih
      rw [show (pre.length : Int) + 1 + 1 - ((pre.length : Int) + 1) = 1 by omega] at ih
      have e : out ++ (dist ((pre.length : Int) + 1 - last) (true :: suf)).map (· * c) = (out ++ [((pre.length : Int) + 1 - last) * c]) ++ (dist 1 suf).map (· * c) := by simp [dist]
      rw [e]
      refine Ev.step (fun k => ?_) ih
      simp only [bakeref2_Placed.l0]
      rw [if_pos a.2.1, if_pos a.1, if_pos a.2.1, a.2.2.1, if_pos rfl, if_pos hol, hw, w64 ((pre.length : Int) + 1 - last) (by omega) (by omega), w64 _ (by omega) (by omega)]
    | false =>
      have ih := placed_loop c hc l hm suf (pre ++ [false]) out last (next_mid hl) (by simp; omega) h0 (by rw [hpl]; omega)
      rw [hpl] at ih
      rw [show (pre.length : Int) + 1 + 1 - last = (pre.length : Int) + 1 - last + 1 by omega] at ih
      have e : dist ((pre.length : Int) + 1 - last) (false :: suf) = dist ((pre.length : Int) + 1 - last + 1) suf := rfl
      rw [e]
      refine Ev.step (fun k => ?_) ih
      simp only [bakeref2_Placed.l0]
      rw [if_pos a.2.1, if_pos a.1, if_pos a.2.1, a.2.2.1, if_neg (by simp), hw]
theorem placed_ev (l : List Bool) (c : Int) (hm : l.length ≤ 1000000000) : Ev (fun k => bakeref2_Placed.f k l c) (placedOf l c) := by
  unfold bakeref2_Placed.f placedOf
  have hbad : Ev (fun k => bakeref2_Placed.j0 k l c true) ([], 1) := Ev.done fun k => by simp [bakeref2_Placed.j0]
  by_cases hc : 2 ≤ c ∧ c ≤ 1000
  · rw [if_pos hc]
    refine Ev.neg (by omega) ?_
    rw [decide_eq_false (by omega)]
    refine Ev.step (fun k => by simp only [bakeref2_Placed.j0]; rw [if_neg (by simp)]) ?_
    have := placed_loop c hc l hm l [] [] 0 rfl (by simp) (by omega) (by simp)
    simpa using this
  · rw [if_neg hc]
    by_cases h1 : c < 2
    · exact Ev.pos h1 hbad
    · refine Ev.neg h1 ?_
      rw [decide_eq_true (by omega)]
      exact hbad
theorem fmW_in (x1 : Int) (l : List Int) (c : Int) (hc : 0 ≤ c ∧ c < 256) (m i : Int) (r : List Int × Int) : ∀ (n : Nat) (k : Int) (out : List Int), k = (n : Int) - 1 → n ≤ 8 → out.length + 2 * n ≤ 100000 →
    Ev (fun q => fm_Write.l0 q x1 (out ++ ((bits8 c).drop (8 - n)).flatMap pr) l m (wrap64 (i + 1))) r → Ev (fun q => fm_Write.l1 q x1 out c k l m i) r
  | 0, k, out, hk, _, _, h => by
    refine Ev.step (fun q => ?_) h
    simp only [fm_Write.l1]
    rw [if_neg (by omega)]
    simp [bits8]
  | n + 1, k, out, hk, hn, ho, h => by
    have hkn : k = (n : Int) := by omega
    subst hkn
    have hd : (bits8 c).drop (8 - (n + 1)) = bt7 c (7 - n) :: (bits8 c).drop (8 - n) := by
      obtain rfl | rfl | rfl | rfl | rfl | rfl | rfl | rfl : n = 0 ∨ n = 1 ∨ n = 2 ∨ n = 3 ∨ n = 4 ∨ n = 5 ∨ n = 6 ∨ n = 7 := by omega
      all_goals rfl
    have hb := bits8_one c n hc (by omega)
    have hol : out.length < 17592186044416 := by omega
    have hol2 : out.length + 2 < 17592186044416 := by omega
    have hw : wrap64 ((n : Int) - 1) = (n : Int) - 1 := w64 _ (by omega) (by omega)
    have hpl : (pr (bt7 c (7 - n))).length ≤ 2 := by cases bt7 c (7 - n) <;> decide
    rw [hd, List.flatMap_cons, ← List.append_assoc] at h
    have ih := fmW_in x1 l c hc m i r n ((n : Int) - 1) (out ++ pr (bt7 c (7 - n))) rfl (by omega) (by rw [List.length_append]; omega) h
    refine Ev.step (fun q => ?_) ih
    simp only [fm_Write.l1]
    rw [if_pos (by omega), if_pos (by omega), hw]
    cases hq : bt7 c (7 - n) with
    | true =>
      rw [if_pos (hb.2 hq)]
      simp only [Option.bind_some, List.length_cons, List.length_nil]
      rw [if_pos hol2]; rfl
    | false =>
      rw [if_neg (fun h => by rw [hb.1 h] at hq; cases hq), if_pos hol]; rfl
theorem fmW_loop (x1 : Int) (l : List Int) (hb : ∀ c ∈ l, 0 ≤ c ∧ c < 256) (hm : l.length ≤ 2000) : ∀ (suf pre : List Int), l = pre ++ suf →
    Ev (fun k => fm_Write.l0 k x1 (pls (bitsL pre)) l (l.length : Int) (pre.length : Int)) (pulsesOf (pls (bitsL l)) x1)
  | [], pre, hl => by
    have hp : l = pre := by simpa using hl
    subst hp
    have hl1 : (pls (bitsL l)).length ≤ 140737488355328 := by
      have := pr_length (bitsL l); rw [bitsL_length] at this; simp only [pls, List.length_cons]; omega
    refine Ev.step (f := fun k => (flux_Pulses.f k (pls (bitsL l)) x1).bind fun bt => some (bt.1, bt.2)) (fun k => ?_) (Ev.bind (pulses_ev _ x1 hl1) (Ev.all fun k => rfl))
    simp only [fm_Write.l0]; rw [if_neg (by omega)]
  | c :: suf, pre, hl => by
    have a := at_mid hl (by omega)
    have hlen := len_mid' hl
    have hc := hb c (by rw [hl]; simp)
    have ih := fmW_loop x1 l hb hm suf (pre ++ [c]) (next_mid hl)
    have e : pls (bitsL (pre ++ [c])) = pls (bitsL pre) ++ ((bits8 c).drop (8 - 8)).flatMap pr := by simp [bitsL, pls]
    rw [e] at ih
    have hl1 : (pls (bitsL pre)).length + 2 * 8 ≤ 100000 := by
      have := pr_length (bitsL pre); rw [bitsL_length] at this; simp only [pls, List.length_cons]; omega
    refine Ev.step (fun k => ?_) (fmW_in x1 l c hc (l.length : Int) (pre.length : Int) _ 8 7 (pls (bitsL pre)) rfl (by omega) hl1 (by rw [a.2.2.2]; exact ih))
    simp only [fm_Write.l0]
    rw [if_pos a.2.1, if_pos a.1, if_pos a.2.1, a.2.2.1]
theorem fmWrite_ev (l : List Int) (x1 : Int) (hb : ∀ c ∈ l, 0 ≤ c ∧ c < 256) : Ev (fun k => fm_Write.f k l x1) (fmOf l x1) := by
  unfold fm_Write.f fmOf
  by_cases h : 2000 < l.length
  · rw [if_pos h]; exact Ev.pos (by omega) (Ev.all fun k => rfl)
  · rw [if_neg h]; exact Ev.neg (by omega) (fmW_loop x1 l hb (by omega) l [] rfl)
theorem fm_loop (x1 : Int) (l : List Bool) (hm : l.length ≤ 16000) : ∀ (suf pre : List Bool), l = pre ++ suf →
    Ev (fun k => bakeref2_Fm.l0 k x1 (true :: pairs pre) l (l.length : Int) (pre.length : Int)) (placedOf (true :: pairs l) x1)
  | [], pre, hl => by
    have hp : l = pre := by simpa using hl
    subst hp
    refine Ev.step (f := fun k => (bakeref2_Placed.f k (true :: pairs l) x1).bind fun bt => some (bt.1, bt.2)) (fun k => ?_) (Ev.bind (placed_ev _ x1 (by rw [List.length_cons, pairs_length]; omega)) (Ev.all fun k => rfl))
    simp only [bakeref2_Fm.l0]; rw [if_neg (by omega)]
  | b :: suf, pre, hl => by
    have a := at_midB false hl (by omega)
    have hlen := len_mid' hl
    have ih := fm_loop x1 l hm suf (pre ++ [b]) (next_mid hl)
    have e : true :: pairs (pre ++ [b]) = (true :: pairs pre) ++ [b, true] := by simp [pairs]
    rw [e] at ih
    have hol : (true :: pairs pre).length + 2 < 140737488355328 := by rw [List.length_cons, pairs_length]; omega
    refine Ev.step (fun k => ?_) ih
    simp only [bakeref2_Fm.l0]
    rw [if_pos a.2.1, if_pos a.1, if_pos a.2.1, a.2.2.1, a.2.2.2]
    simp only [Option.bind_some]
    rw [if_pos (by simpa using hol)]
theorem fm_ev (l : List Int) (x1 : Int) (hb : ∀ c ∈ l, 0 ≤ c ∧ c < 256) : Ev (fun k => bakeref2_Fm.f k l x1) (fmOf l x1) := by
  unfold bakeref2_Fm.f fmOf
  by_cases h : 2000 < l.length
  · rw [if_pos h]; exact Ev.pos (by omega) (Ev.all fun k => rfl)
  · rw [if_neg h, ← fm_same l x1 (by omega)]
    exact Ev.neg (by omega) (Ev.bind (bits_ev l hb (by omega)) (fm_loop x1 (bitsL l) (by rw [bitsL_length]; omega) (bitsL l) [] rfl))
theorem fmR_fin (out : List Int) (n : Nat) (k : Nat) (l : List Int) (c : Int) (h : ¬ (l.length : Int) < (l.length : Int)) : fm_Read.l0 (k + 1) l out c (n : Int) (l.length : Int) = if (n : Int) > 0 then some ([], 13) else if (out.length : Int) > 2000 then some ([], 2) else some (out, 0) := by
  simp only [fm_Read.l0]
  rw [if_neg h]
/-- what is left of a reading, from some bits on -/
def endR (out : List Int) (c : Int) (n : Nat) (B : List Bool) : List Int × Int := if (pkA out c n B).2.2 > 0 then ([], 13) else if (pkA out c n B).1.length > 2000 then ([], 2) else ((pkA out c n B).1, 0)
def goR (out : List Int) (c : Int) (n : Nat) (o : Option (List Bool)) : List Int × Int := match o with
  | none => ([], 3)
  | some B => endR out c n B
theorem goR_nil (out : List Int) (c : Int) (n : Nat) : goR out c n (rdB []) = if n > 0 then ([], 13) else if out.length > 2000 then ([], 2) else (out, 0) := by
  rw [show rdB [] = some [] by simp [rdB]]
  rfl
theorem goR_none (out : List Int) (c : Int) (n : Nat) : goR out c n none = ([], 3) := rfl
theorem goR_step8 (out : List Int) (c : Int) (b : Bool) (o : Option (List Bool)) : goR out c 7 (o.map (b :: ·)) = goR (out ++ [2 * c + (if b then 1 else 0)]) 0 0 o := by
  cases o <;> simp [goR, endR, pkA]
theorem goR_step (out : List Int) (c : Int) (n : Nat) (hn : ¬ n + 1 = 8) (b : Bool) (o : Option (List Bool)) : goR out c n (o.map (b :: ·)) = goR out (2 * c + (if b then 1 else 0)) (n + 1) o := by
  cases o <;> simp [goR, endR, pkA, hn]
def inP (c : Int) (n : Nat) : Prop := 0 ≤ c ∧ c < 2 ^ n
theorem c_next (c : Int) (n : Nat) (b : Bool) (hc : inP c n) : inP (2 * c + (if b then 1 else 0)) (n + 1) := by
  unfold inP at hc ⊢
  have : (2 : Int) ^ (n + 1) = 2 * 2 ^ n := by rw [Int.pow_succ, Int.mul_comm]
  rw [this]
  generalize (2 : Int) ^ n = P at *
  cases b <;> simp <;> omega
theorem inP_lt (c : Int) (n : Nat) (hn : n < 8) (hc : inP c n) : 0 ≤ c ∧ c < 128 := by
  have h1 : (2 : Nat) ^ n ≤ 2 ^ 7 := Nat.pow_le_pow_right (by decide) (by omega)
  have h2 : (2 : Int) ^ n ≤ 128 := by exact_mod_cast h1
  unfold inP at hc
  generalize (2 : Int) ^ n = P at *
  exact ⟨hc.1, Int.lt_of_lt_of_le hc.2 h2⟩
theorem rdAr (c : Int) (n : Nat) (hn : n < 8) (hc : inP c n) : wrap64 ((n : Int) + 1) = ((n + 1 : Nat) : Int) ∧ wrap64 (c * 2) = 2 * c ∧ wrap64 (2 * c + 1) = 2 * c + 1 ∧ (2 * c) % 256 = 2 * c ∧ (2 * c + 1) % 256 = 2 * c + 1 := by
  have h := inP_lt c n hn hc
  refine ⟨?_, ?_, ?_, ?_, ?_⟩
  · rw [w64 _ (by omega) (by omega)]; omega
  · rw [w64 _ (by omega) (by omega)]; omega
  · rw [w64 _ (by omega) (by omega)]
  · omega
  · omega
theorem rdC (n : Nat) (h : n + 1 = 8) : ((n + 1 : Nat) : Int) = 8 := by omega
theorem rdC' (n : Nat) (h : ¬ n + 1 = 8) : ¬ ((n + 1 : Nat) : Int) = 8 := by omega
theorem fmR_zero (k : Nat) (l out : List Int) (c c' n n' i i' : Int) (h1 : i < l.length) (h0 : 0 ≤ i) (hx : ¬ rd l i = 1) (hi : wrap64 (i + 1) = i') (hn : wrap64 (n + 1) = n') (hc : wrap64 (c * 2) = c') :
    fm_Read.l0 (k + 1) l out c n i = if n' = 8 then (if out.length < 140737488355328 then fm_Read.l0 k l (out ++ [c' % 256]) 0 0 i' else none) else fm_Read.l0 k l out c' n' i' := by
  simp only [fm_Read.l0]
  rw [if_pos h1, if_pos h0, if_neg hx, hi, hn, hc]
theorem fmR_last (k : Nat) (l out : List Int) (c n i i' : Int) (h1 : i < l.length) (h0 : 0 ≤ i) (hx : rd l i = 1) (hi : wrap64 (i + 1) = i') (he : i' = l.length) :
    fm_Read.l0 (k + 2) l out c n i = some ([], 3) := by
  simp only [fm_Read.l0]
  rw [if_pos h1, if_pos h0, if_pos hx, hi, if_pos he]
  simp [fm_Read.j2]
theorem fmR_bad (k : Nat) (l out : List Int) (c n i i' : Int) (h1 : i < l.length) (h0 : 0 ≤ i) (hx : rd l i = 1) (hi : wrap64 (i + 1) = i') (he : ¬ i' = l.length) (h1' : i' < l.length) (h0' : 0 ≤ i') (hy : ¬ rd l i' = 1) :
    fm_Read.l0 (k + 2) l out c n i = some ([], 3) := by
  simp only [fm_Read.l0]
  rw [if_pos h1, if_pos h0, if_pos hx, hi, if_neg he, if_pos h0', if_pos h1', show (rd l i' != 1) = true by simpa using hy]
  simp [fm_Read.j2]
theorem fmR_one (k : Nat) (l out : List Int) (c c' c'' n n' i i' i'' : Int) (h1 : i < l.length) (h0 : 0 ≤ i) (hx : rd l i = 1) (hi : wrap64 (i + 1) = i') (he : ¬ i' = l.length) (h1' : i' < l.length) (h0' : 0 ≤ i') (hy : rd l i' = 1)
    (hi' : wrap64 (i' + 1) = i'') (hn : wrap64 (n + 1) = n') (hc : wrap64 (c * 2) = c') (hc' : wrap64 (c' + 1) = c'') :
    fm_Read.l0 (k + 2) l out c n i = if n' = 8 then (if out.length < 140737488355328 then fm_Read.l0 k l (out ++ [c'' % 256]) 0 0 i'' else none) else fm_Read.l0 k l out c'' n' i'' := by
  simp only [fm_Read.l0]
  rw [if_pos h1, if_pos h0, if_pos hx, hi, if_neg he, if_pos h0', if_pos h1', hy, hc]
  simp only [fm_Read.j2]
  rw [if_neg (by simp), hn, hi', hc']
theorem rdLen1 {d s : Nat} (h : s + 1 ≤ d + 1) : s ≤ d := by omega
theorem rdLen2 {d s : Nat} (h : s + 1 + 1 ≤ d + 1) : s ≤ d := by omega
theorem rdO {o s : Nat} (h : o + (s + 1) ≤ 40000) : o < 140737488355328 ∧ o + 1 + s ≤ 40000 ∧ o + s ≤ 40000 := by omega
theorem rdO2 {o s : Nat} (h : o + (s + 1 + 1) ≤ 40000) : o < 140737488355328 ∧ o + 1 + s ≤ 40000 ∧ o + s ≤ 40000 := by omega
theorem Ev.step2 {α : Type} {f g : Nat → Option α} {r : α} (h : ∀ k, g (k + 2) = f k) (hf : Ev f r) : Ev g r :=
  Ev.step (f := fun k => g (k + 1)) (fun _ => rfl) (Ev.step (fun k => h k) hf)
theorem Ev.done2 {α : Type} {g : Nat → Option α} {r : α} (h : ∀ k, g (k + 2) = some r) : Ev g r :=
  Ev.step (f := fun k => g (k + 1)) (fun _ => rfl) (Ev.done fun k => h k)
theorem mid_ne {l pre : List Int} {x y : Int} {suf : List Int} (hl : l = pre ++ x :: y :: suf) : ¬ ((pre ++ [x]).length : Int) = (l.length : Int) := by
  rw [hl]; simp only [List.length_append, List.length_cons, List.length_nil]; omega
theorem mid_eq {l pre : List Int} {x : Int} (hl : l = pre ++ [x]) : ((pre ++ [x]).length : Int) = (l.length : Int) := by rw [hl]
theorem big_of {m : Nat} (h : m ≤ 40000) : m ≤ 140737488355328 := by omega
theorem fmR_nil (l out : List Int) (c : Int) (n : Nat) : Ev (fun k => fm_Read.l0 k l out c (n : Int) (l.length : Int)) (goR out c n (rdB [])) := by
  refine Ev.done fun k => ?_
  rw [fmR_fin out n k l c (by omega), goR_nil]
  by_cases h1 : n > 0
  · rw [if_pos (by omega), if_pos h1]
  · rw [if_neg (by omega), if_neg h1]
    by_cases h2 : out.length > 2000
    · rw [if_pos (by omega), if_pos h2]
    · rw [if_neg (by omega), if_neg h2]
theorem fmR_loop (l : List Int) (hm : l.length ≤ 40000) (hv : ∀ x ∈ l, 1 ≤ x ∧ x ≤ 2) : ∀ (d : Nat) (suf pre out : List Int) (c : Int) (n : Nat), suf.length ≤ d → l = pre ++ suf → n < 8 → inP c n → out.length + suf.length ≤ 40000 →
    Ev (fun k => fm_Read.l0 k l out c (n : Int) (pre.length : Int)) (goR out c n (rdB suf)) := by
  intro d
  induction d with
  | zero =>
    intro suf pre out c n hd hl hn hc ho
    have hs : suf = [] := List.eq_nil_of_length_eq_zero (Nat.le_zero.1 hd)
    subst hs
    have hp : l = pre := by simpa using hl
    rw [← hp]
    exact fmR_nil l out c n
  | succ d ih =>
    intro suf pre out c n hd hl hn hc ho
    have hB := big_of hm
    match suf, hd, hl, ho with
    | [], hd, hl, ho =>
      have hp : l = pre := by simpa using hl
      rw [← hp]
      exact fmR_nil l out c n
    | x :: suf, hd, hl, ho =>
      have ar := rdAr c n hn hc
      by_cases h1 : x = 1
      · subst h1
        match suf, hd, hl, ho with
        | [], hd, hl, ho =>
          have e : rdB [1] = none := by simp [rdB]
          rw [e, goR_none]
          exact Ev.done2 fun k => fmR_last k l out c n _ _ (at_mid hl hB).2.1 (at_mid hl hB).1 (at_mid hl hB).2.2.1 (at_mid hl hB).2.2.2 (mid_eq hl)
        | y :: suf', hd, hl, ho =>
          have hl2 := next_mid hl
          have hol := rdO2 ho
          by_cases h2 : y = 1
          · subst h2
            have e : rdB (1 :: 1 :: suf') = (rdB suf').map (true :: ·) := by rw [rdB.eq_def]; simp
            rw [e]
            have st := fun k => fmR_one k l out c _ _ n _ _ _ _ (at_mid hl hB).2.1 (at_mid hl hB).1 (at_mid hl hB).2.2.1 (at_mid hl hB).2.2.2 (mid_ne hl) (at_mid hl2 hB).2.1 (at_mid hl2 hB).1 (at_mid hl2 hB).2.2.1 (at_mid hl2 hB).2.2.2 ar.1 ar.2.1 ar.2.2.1
            have hc2 := c_next c n true hc
            simp only [if_true] at hc2
            by_cases h8 : n + 1 = 8
            · have hn7 : n = 7 := by omega
              rw [hn7, goR_step8]
              simp only [if_true]
              refine Ev.step2 (fun k => ?_) (ih suf' ((pre ++ [1]) ++ [1]) (out ++ [2 * c + 1]) 0 0 (rdLen2 hd) (next_mid hl2) (by decide) ⟨by decide, by decide⟩ (by rw [List.length_append]; exact hol.2.1))
              have := st k
              rw [if_pos (rdC n h8), if_pos hol.1, ar.2.2.2.2, hn7] at this
              exact this
            · rw [goR_step out c n h8]
              simp only [if_true]
              refine Ev.step2 (fun k => ?_) (ih suf' ((pre ++ [1]) ++ [1]) out (2 * c + 1) (n + 1) (rdLen2 hd) (next_mid hl2) (by omega) hc2 hol.2.2)
              have := st k
              rw [if_neg (rdC' n h8)] at this
              exact this
          · have e : rdB (1 :: y :: suf') = none := by rw [rdB.eq_def]; simp [h2]
            rw [e, goR_none]
            refine Ev.done2 fun k => fmR_bad k l out c n _ _ (at_mid hl hB).2.1 (at_mid hl hB).1 (at_mid hl hB).2.2.1 (at_mid hl hB).2.2.2 (mid_ne hl) (at_mid hl2 hB).2.1 (at_mid hl2 hB).1 ?_
            rw [(at_mid hl2 hB).2.2.1]; exact h2
      · have e : rdB (x :: suf) = (rdB suf).map (false :: ·) := by
          rw [rdB.eq_def]; simp [h1]
        rw [e]
        have hol := rdO ho
        have hx : ¬ rd l (pre.length : Int) = 1 := by rw [(at_mid hl hB).2.2.1]; exact h1
        have st := fun k => fmR_zero k l out c _ n _ _ _ (at_mid hl hB).2.1 (at_mid hl hB).1 hx (at_mid hl hB).2.2.2 ar.1 ar.2.1
        have hc2 := c_next c n false hc
        simp only [Bool.false_eq_true, if_false, Int.add_zero] at hc2
        by_cases h8 : n + 1 = 8
        · have hn7 : n = 7 := by omega
          rw [hn7, goR_step8]
          simp only [Bool.false_eq_true, if_false, Int.add_zero]
          refine Ev.step (fun k => ?_) (ih suf (pre ++ [x]) (out ++ [2 * c]) 0 0 (rdLen1 hd) (next_mid hl) (by decide) ⟨by decide, by decide⟩ (by rw [List.length_append]; exact hol.2.1))
          have := st k
          rw [if_pos (rdC n h8), if_pos hol.1, ar.2.2.2.1, hn7] at this
          exact this
        · rw [goR_step out c n h8]
          simp only [Bool.false_eq_true, if_false, Int.add_zero]
          refine Ev.step (fun k => ?_) (ih suf (pre ++ [x]) out (2 * c) (n + 1) (rdLen1 hd) (next_mid hl) (by omega) hc2 hol.2.2)
          have := st k
          rw [if_neg (rdC' n h8)] at this
          exact this
theorem endR_fin (B : List Bool) : endR [] 0 0 B = finL B := by
  unfold endR finL bytesL
  have h := pkA_count B [] 0 0 (by omega)
  simp only [Nat.zero_add, List.length_nil] at h
  rw [h.1, h.2]
  by_cases h1 : B.length % 8 = 0
  · rw [if_neg (by omega), if_pos h1]
    by_cases h2 : 16000 < B.length
    · rw [if_pos (by omega), if_pos h2]
    · rw [if_neg (by omega), if_neg h2]
  · rw [if_pos (by omega), if_neg h1]
theorem fmRead_ev (t : List Int) (c : Int) (ht : t.length ≤ 140737488355328) : Ev (fun k => fm_Read.f k t c) (fmBytesOf t c) := by
  unfold fm_Read.f fmBytesOf
  refine Ev.bind (cells_ev t c 2 ht) ?_
  by_cases h : (cellsOf t c 2).2 = 0
  · rw [if_pos h]
    refine Ev.pos h ?_
    have hv := cellsOf_vals t c 2 h
    have hck : (cellsOf t c 2).1.length ≤ 40000 := by
      have h1 := cellsOf_length t c 2
      unfold cellsOf at h
      by_cases h2 : ck t = 0
      · have := (ck_zero.1 h2).1; omega
      · rw [if_neg h2] at h; exact absurd h h2
    generalize (cellsOf t c 2).1 = l at *
    match l with
    | [] => exact Ev.pos (by simp) (Ev.done fun k => by simp [fm_Read.j0, fmRead])
    | x :: r =>
      refine Ev.neg (by simp; omega) (Ev.pos (by simp) ?_)
      have hr : rd (x :: r) 0 = x := by simp [rd]
      rw [hr]
      by_cases hx : x = 1
      · subst hx
        refine Ev.step (f := fun k => fm_Read.l0 k (1 :: r) [] 0 ((0 : Nat) : Int) (([1] : List Int).length : Int)) (fun k => by simp only [fm_Read.j0]; rw [if_neg (by simp)]; rfl) ?_
        have := fmR_loop (1 :: r) hck hv r.length r [1] [] 0 0 (Nat.le_refl _) rfl (by decide) ⟨by decide, by decide⟩ (by simp at hck ⊢; omega)
        have e : fmRead (1 :: r) = goR [] 0 0 (rdB r) := by
          unfold fmRead goR
          simp only [if_true]
          cases rdB r <;> simp [endR_fin]
        rw [e]; exact this
      · have e : (x != 1) = true := by simpa using hx
        rw [e]
        exact Ev.done fun k => by simp [fm_Read.j0, fmRead, hx]
  · rw [if_neg h]
    exact Ev.neg h (Ev.all fun k => rfl)
theorem unp_two (x : Int) (h : 1 ≤ x ∧ x ≤ 2) (h1 : ¬ x = 1) : x = 2 := by omega
theorem unpB {m : Nat} (h : m ≤ 40000) : m ≤ 140737488355328 := by omega
theorem unpO {o p m : Nat} (ho : o ≤ 2 * p) (hl : p + 1 + m ≤ 40000) : o < 140737488355328 ∧ o + 1 < 140737488355328 := by omega
theorem unplaced_loop (l : List Int) (hm : l.length ≤ 40000) (hv : ∀ x ∈ l, 1 ≤ x ∧ x ≤ 2) : ∀ (suf pre : List Int) (out : List Bool), l = pre ++ suf → out.length ≤ 2 * pre.length →
    Ev (fun k => bakeref2_Unplaced.l0 k out l (l.length : Int) (pre.length : Int)) (out ++ suf.flatMap unp)
  | [], pre, out, hl, ho => by
    refine Ev.done fun k => ?_
    simp only [bakeref2_Unplaced.l0]; rw [if_neg (at_end hl)]; simp
  | x :: suf, pre, out, hl, ho => by
    have hB := unpB hm
    have hx := hv x (by rw [hl]; simp)
    have hlen := len_mid' hl
    have hol := unpO (m := suf.length) ho (by omega)
    have hpl : (pre ++ [x]).length = pre.length + 1 := by simp
    have ho2 : (out ++ unp x).length ≤ 2 * (pre ++ [x]).length := by
      rw [hpl, List.length_append]
      have : (unp x).length ≤ 2 := by unfold unp; split <;> decide
      omega
    have ih := unplaced_loop l hm hv suf (pre ++ [x]) (out ++ unp x) (next_mid hl) ho2
    rw [List.flatMap_cons, ← List.append_assoc]
    refine Ev.step (f := fun k => bakeref2_Unplaced.l1 k out l (l.length : Int) (pre.length : Int) (wrap64 (x - 1)) 0) (fun k => ?_) ?_
    · simp only [bakeref2_Unplaced.l0]
      rw [if_pos (at_mid hl hB).2.1, if_pos (at_mid hl hB).1, if_pos (at_mid hl hB).2.1, (at_mid hl hB).2.2.1]
    by_cases h1 : x = 1
    · subst h1
      refine Ev.step (fun k => ?_) ih
      simp only [bakeref2_Unplaced.l1]
      rw [if_neg (by decide +kernel), if_pos hol.1, (at_mid hl hB).2.2.2]
      rfl
    · have h2 := unp_two x hx h1
      subst h2
      refine Ev.step (f := fun k => bakeref2_Unplaced.l1 k (out ++ [false]) l (l.length : Int) (pre.length : Int) (wrap64 (2 - 1)) (wrap64 (0 + 1))) (fun k => ?_) ?_
      · simp only [bakeref2_Unplaced.l1]
        rw [if_pos (by decide +kernel), if_pos hol.1]
      refine Ev.step (fun k => ?_) ih
      simp only [bakeref2_Unplaced.l1]
      rw [if_neg (by decide +kernel), List.length_append, List.length_singleton, if_pos hol.2, (at_mid hl hB).2.2.2]
      simp [unp]
theorem unplaced_ev (l : List Int) (hm : l.length ≤ 40000) (hv : ∀ x ∈ l, 1 ≤ x ∧ x ≤ 2) : Ev (fun k => bakeref2_Unplaced.f k l) (l.flatMap unp) := by
  exact unplaced_loop l hm hv l [] [] rfl (by simp)
def rowP (out : List Int) (c : Nat) (n r : Nat) : List Int := if r = 0 then out else out ++ ((c * 2 ^ (8 - n) : Nat) : Int) :: List.replicate (r - 1) 0
theorem or_next : ∀ n : Fin 8, ∀ c : Fin 128, c.val < 2 ^ n.val → bits .or .u8 ((c.val * 2 ^ (8 - n.val) : Nat) : Int) (shr .u8 128 (n.val : Int)) = (((2 * c.val + 1) * 2 ^ (8 - (n.val + 1)) : Nat) : Int) := by decide +kernel
theorem or_next' (c n : Nat) (hn : n < 8) (hc : c < 2 ^ n) : bits .or .u8 ((c * 2 ^ (8 - n) : Nat) : Int) (shr .u8 128 (n : Int)) = (((2 * c + 1) * 2 ^ (8 - (n + 1)) : Nat) : Int) := by
  have h1 : (2 : Nat) ^ n ≤ 2 ^ 7 := Nat.pow_le_pow_right (by decide) (by omega)
  exact or_next ⟨n, hn⟩ ⟨c, Nat.lt_of_lt_of_le hc h1⟩ hc
theorem zero_next (c n : Nat) (hn : n < 8) : c * 2 ^ (8 - n) = 2 * c * 2 ^ (8 - (n + 1)) := by
  rw [show 8 - n = (8 - (n + 1)) + 1 by omega, Nat.pow_succ, Nat.mul_comm 2 c, Nat.mul_assoc, Nat.mul_comm 2]
theorem rowP_next (out : List Int) (c' n r : Nat) (hr : ¬ r = 0) (h8 : ¬ n + 1 = 8) : out ++ ((c' * 2 ^ (8 - (n + 1)) : Nat) : Int) :: List.replicate (r - 1) 0 = rowP out c' (n + 1) r := by
  unfold rowP; rw [if_neg hr]
theorem rowP_next8 (out : List Int) (c' n r : Nat) (hr : ¬ r = 0) (h8 : n + 1 = 8) : out ++ ((c' * 2 ^ (8 - (n + 1)) : Nat) : Int) :: List.replicate (r - 1) 0 = rowP (out ++ [(c' : Int)]) 0 0 (r - 1) := by
  unfold rowP
  rw [h8]
  by_cases h : r - 1 = 0
  · rw [if_pos h, h]; simp
  · rw [if_neg h]
    obtain ⟨m, hm⟩ := Nat.exists_eq_succ_of_ne_zero h
    rw [hm]
    simp [List.replicate_succ]
theorem set_mid (out : List Int) (x y : Int) (r : List Int) : (out ++ x :: r).set out.length y = out ++ y :: r := by
  rw [List.set_append_right _ _ (Nat.le_refl _)]; simp
theorem rd_mid (out : List Int) (x : Int) (r : List Int) : rd (out ++ x :: r) (out.length : Int) = x := by
  rw [rd_getD]; simp [List.getD_eq_getElem?_getD]
theorem pkDiv (p o n : Nat) (h : p = 8 * o + n) (hn : n < 8) (hp : p ≤ 16000) : wrap64 (Int.tdiv (p : Int) 8) = (o : Int) := by
  rw [Int.tdiv_eq_ediv_of_nonneg (by omega), w64 _ (by omega) (by omega)]; omega
theorem pkMod (p o n : Nat) (h : p = 8 * o + n) (hn : n < 8) : Int.tmod (p : Int) 8 = (n : Int) := by
  rw [Int.tmod_eq_emod_of_nonneg (by omega)]; omega
theorem pk_step (B : List Bool) (row : List Int) (m : Int) (i i' q n : Int) (k : Nat) (h1 : i < m) (h0 : 0 ≤ i) (h2 : i < B.length) (b : Bool) (hb : rdOf false B i = b) (hq : wrap64 (Int.tdiv i 8) = q) (hn : Int.tmod i 8 = n) (q0 : 0 ≤ q) (q1 : q < row.length) (n0 : 0 ≤ n) (hi : wrap64 (i + 1) = i') :
    bakeref2_Packed.l0 (k + 1) B row m i = bakeref2_Packed.l0 k B (if b = true then row.set q.toNat (bits .or .u8 (rd row q) (shr .u8 128 n)) else row) m i' := by
  simp only [bakeref2_Packed.l0]
  rw [if_pos h1, if_pos h0, if_pos h2, hb, hq, hn, hi]
  cases b with
  | true => rw [if_pos rfl, if_pos q0, if_pos q1, if_pos n0, if_pos rfl]
  | false => rw [if_neg (by simp), if_neg (by simp)]
theorem packed_loop (B : List Bool) (hm : B.length ≤ 16000) : ∀ (suf pre : List Bool) (out : List Int) (c n r : Nat), B = pre ++ suf → n < 8 → c < 2 ^ n → pre.length = 8 * out.length + n → suf.length + n = 8 * r →
    Ev (fun k => bakeref2_Packed.l0 k B (rowP out c n r) (B.length : Int) (pre.length : Int)) (pkA out (c : Int) n suf).1
  | [], pre, out, c, n, r, hl, hn, hc, hp, hs => by
    have hr : r = 0 := by simp only [List.length_nil] at hs; omega
    subst hr
    refine Ev.done fun k => ?_
    simp only [bakeref2_Packed.l0]; rw [if_neg (at_end hl)]; simp [rowP, pkA]
  | b :: suf, pre, out, c, n, r, hl, hn, hc, hp, hs => by
    have hlen := len_mid' hl
    have hr : ¬ r = 0 := by simp only [List.length_cons] at hs; omega
    have hB : B.length ≤ 140737488355328 := by omega
    have hdv := pkDiv pre.length out.length n hp hn (by omega)
    have hmd := pkMod pre.length out.length n hp hn
    have hrow : rowP out c n r = out ++ ((c * 2 ^ (8 - n) : Nat) : Int) :: List.replicate (r - 1) 0 := by unfold rowP; rw [if_neg hr]
    have a := at_midB false hl hB
    have st := fun k => pk_step B (rowP out c n r) (B.length : Int) _ _ _ _ k a.2.1 a.1 a.2.1 b a.2.2.1 hdv hmd (by omega) (by rw [hrow]; simp; omega) (by omega) a.2.2.2
    have hset : (if b = true then (rowP out c n r).set (out.length : Int).toNat (bits .or .u8 (rd (rowP out c n r) (out.length : Int)) (shr .u8 128 (n : Int))) else rowP out c n r)
        = out ++ (((2 * c + (if b then 1 else 0)) * 2 ^ (8 - (n + 1)) : Nat) : Int) :: List.replicate (r - 1) 0 := by
      rw [hrow]
      cases b with
      | true => rw [if_pos rfl, rd_mid, or_next' c n hn hc, Int.toNat_natCast, set_mid]; rfl
      | false => rw [if_neg (by simp), zero_next c n hn]; rfl
    rw [hset] at st
    have hc2 : 2 * c + (if b then 1 else 0) < 2 ^ (n + 1) := by rw [Nat.pow_succ]; cases b <;> simp <;> omega
    have hce : (((2 * c + (if b then 1 else 0)) : Nat) : Int) = 2 * (c : Int) + (if b then 1 else 0) := by cases b <;> simp
    have hpl : (pre ++ [b]).length = pre.length + 1 := by simp
    simp only [List.length_cons] at hs
    by_cases h8 : n + 1 = 8
    · have e : pkA out (c : Int) n (b :: suf) = pkA (out ++ [(((2 * c + (if b then 1 else 0)) : Nat) : Int)]) ((0 : Nat) : Int) 0 suf := by
        rw [hce]; simp [pkA, h8]
      rw [e]
      have ih := packed_loop B hm suf (pre ++ [b]) (out ++ [(((2 * c + (if b then 1 else 0)) : Nat) : Int)]) 0 0 (r - 1) (next_mid hl) (by omega) (by decide) (by rw [hpl, List.length_append, List.length_singleton]; omega) (by omega)
      refine Ev.step (fun k => ?_) ih
      rw [st k, rowP_next8 out _ n r hr h8]
    · have e : pkA out (c : Int) n (b :: suf) = pkA out ((((2 * c + (if b then 1 else 0)) : Nat) : Int)) (n + 1) suf := by
        rw [hce]; simp [pkA, h8]
      rw [e]
      have ih := packed_loop B hm suf (pre ++ [b]) out (2 * c + (if b then 1 else 0)) (n + 1) r (next_mid hl) (by omega) hc2 (by rw [hpl]; omega) (by omega)
      refine Ev.step (fun k => ?_) ih
      rw [st k, rowP_next out _ n r hr h8]
theorem packed_ev (B : List Bool) (h8 : B.length % 8 = 0) (hm : B.length ≤ 16000) : Ev (fun k => bakeref2_Packed.f k B) (bytesL B) := by
  unfold bakeref2_Packed.f
  have e : wrap64 ((B.length : Int) / 8) = ((B.length / 8 : Nat) : Int) := by rw [w64 _ (by omega) (by omega)]; omega
  rw [e, Int.toNat_natCast]
  refine Ev.pos (by omega) (Ev.pos (by omega) ?_)
  simp only [Option.bind_some, List.length_replicate]
  have e2 : wrap64 (8 * ((B.length / 8 : Nat) : Int)) = (B.length : Int) := by rw [w64 _ (by omega) (by omega)]; omega
  rw [e2]
  have := packed_loop B hm B [] [] 0 0 (B.length / 8) rfl (by omega) (by decide) (by simp) (by omega)
  have er : rowP [] 0 0 (B.length / 8) = List.replicate (B.length / 8) 0 := by
    unfold rowP
    by_cases h : B.length / 8 = 0
    · rw [if_pos h, h]; rfl
    · rw [if_neg h]
      obtain ⟨m, hm⟩ := Nat.exists_eq_succ_of_ne_zero h
      rw [hm]; simp [List.replicate_succ]
  rw [er] at this
  exact this
def rdP : List Bool → Option (List Bool)
  | [] => some []
  | [_] => none
  | x :: y :: r => if y = true then (rdP r).map (x :: ·) else none
theorem rdP_rdB : ∀ (n : List Int), (∀ x ∈ n, 1 ≤ x ∧ x ≤ 2) → rdP (n.flatMap unp) = rdB n
  | [], _ => by simp [rdP, rdB]
  | x :: r, h => by
    have hx := h x (by simp)
    rw [List.flatMap_cons]
    by_cases h1 : x = 1
    · subst h1
      rw [show unp 1 = [true] from rfl]
      match r, h with
      | [], _ => simp [rdP, rdB]
      | y :: r', h =>
        have hy := h y (by simp)
        have ih := rdP_rdB r' (fun z hz => h z (by simp [hz]))
        by_cases h2 : y = 1
        · subst h2
          rw [rdB.eq_def]
          simp [unp, rdP]
          exact congrArg _ ih
        · rw [rdB.eq_def]
          simp [unp, rdP, h2]
    · have ih := rdP_rdB r (fun z hz => h z (by simp [hz]))
      rw [rdB.eq_def]
      simp [unp, rdP, h1]
      exact congrArg _ ih
theorem unp_length (n : List Int) : (n.flatMap unp).length ≤ 2 * n.length := by
  induction n with
  | nil => simp
  | cons b B ih =>
    rw [List.flatMap_cons, List.length_append, List.length_cons]
    have : (unp b).length ≤ 2 := by unfold unp; split <;> decide
    omega
def goP (out : List Bool) (o : Option (List Bool)) : List Int × Int := match o with
  | none => ([], 3)
  | some B => finL (out ++ B)
theorem goP_step (out : List Bool) (x : Bool) (o : Option (List Bool)) : goP out (o.map (x :: ·)) = goP (out ++ [x]) o := by
  cases o <;> simp [goP]
theorem fb_fin (l out : List Bool) (ho : out.length ≤ 100000) : Ev (fun k => bakeref2_FmBytes.l0 k l out (l.length : Int)) (finL out) := by
  have hi : ¬ (l.length : Int) < (l.length : Int) := Int.lt_irrefl _
  unfold finL
  by_cases h8 : out.length % 8 = 0
  · rw [if_pos h8]
    by_cases h2 : 16000 < out.length
    · rw [if_pos h2]
      refine Ev.done fun k => ?_
      simp only [bakeref2_FmBytes.l0]; rw [if_neg hi, if_pos (by omega), if_pos (by omega)]
    · rw [if_neg h2]
      refine Ev.step (f := fun k => (bakeref2_Packed.f k out).bind fun t => some (t, 0)) (fun k => ?_) (Ev.bind (packed_ev out h8 (by omega)) (Ev.all fun k => rfl))
      simp only [bakeref2_FmBytes.l0]; rw [if_neg hi, if_pos (by omega), if_neg (by omega)]
  · rw [if_neg h8]
    refine Ev.done fun k => ?_
    simp only [bakeref2_FmBytes.l0]; rw [if_neg hi, if_neg (by omega)]
theorem mid_neB {l pre : List Bool} {x y : Bool} {suf : List Bool} (hl : l = pre ++ x :: y :: suf) : ¬ ((pre ++ [x]).length : Int) = (l.length : Int) := by
  rw [hl]; simp only [List.length_append, List.length_cons, List.length_nil]; omega
theorem mid_two {l pre : List Bool} {x y : Bool} {suf : List Bool} (hl : l = pre ++ x :: y :: suf) (hm : l.length ≤ 100000) : wrap64 ((pre.length : Int) + 2) = ((pre ++ [x] ++ [y]).length : Int) := by
  have : l.length = pre.length + (suf.length + 1 + 1) := by rw [hl]; simp
  rw [w64 _ (by omega) (by omega)]; simp only [List.length_append, List.length_cons, List.length_nil]; omega
theorem fb_step (l out : List Bool) (i i' i2 : Int) (k : Nat) (x y : Bool) (h1 : i < l.length) (h0 : 0 ≤ i) (hi : wrap64 (i + 1) = i') (he : ¬ i' = l.length) (h0' : 0 ≤ i') (h1' : i' < l.length) (hy : rdOf false l i' = y) (hx : rdOf false l i = x) (ho : out.length < 140737488355328) (h2 : wrap64 (i + 2) = i2) :
    bakeref2_FmBytes.l0 (k + 1) l out i = if y = true then bakeref2_FmBytes.l0 k l (out ++ [x]) i2 else some ([], 3) := by
  simp only [bakeref2_FmBytes.l0]
  rw [if_pos h1, hi, if_neg he, if_pos h0', if_pos h1', hy, if_pos h0, if_pos ho, hx, h2]
theorem fb_loop (l : List Bool) (hm : l.length ≤ 100000) : ∀ (d : Nat) (suf pre out : List Bool), suf.length ≤ d → l = pre ++ suf → out.length ≤ pre.length →
    Ev (fun k => bakeref2_FmBytes.l0 k l out (pre.length : Int)) (goP out (rdP suf)) := by
  intro d
  induction d with
  | zero =>
    intro suf pre out hd hl ho
    have hs : suf = [] := List.eq_nil_of_length_eq_zero (Nat.le_zero.1 hd)
    subst hs
    have hp : l = pre := by simpa using hl
    subst hp
    have := fb_fin l out (by omega)
    simpa [rdP, goP] using this
  | succ d ih =>
    intro suf pre out hd hl ho
    have hB : l.length ≤ 140737488355328 := by omega
    match suf, hd, hl with
    | [], hd, hl =>
      have hp : l = pre := by simpa using hl
      subst hp
      have := fb_fin l out (by omega)
      simpa [rdP, goP] using this
    | [x], hd, hl =>
      have a := at_midB false hl hB
      refine Ev.done fun k => ?_
      simp only [bakeref2_FmBytes.l0]
      rw [if_pos a.2.1, a.2.2.2, if_pos (by rw [hl])]
      rfl
    | x :: y :: suf, hd, hl =>
      have hlen := len_mid' hl
      have hl2 := next_mid hl
      have hol : out.length < 140737488355328 := by omega
      have hpl : out.length + 1 ≤ (pre ++ [x] ++ [y]).length := by simp only [List.length_append, List.length_cons, List.length_nil]; omega
      have hd' : suf.length ≤ d := by simp only [List.length_cons] at hd; omega
      have a := at_midB false hl hB
      have b := at_midB false hl2 hB
      have st := fun k => fb_step l out _ _ _ k x y a.2.1 a.1 a.2.2.2 (mid_neB hl) b.1 b.2.1 b.2.2.1 a.2.2.1 hol (mid_two hl hm)
      cases y with
      | true =>
        have e : rdP (x :: true :: suf) = (rdP suf).map (x :: ·) := by simp [rdP]
        rw [e, goP_step]
        refine Ev.step (fun k => ?_) (ih suf (pre ++ [x] ++ [true]) (out ++ [x]) hd' (next_mid hl2) (by rw [List.length_append]; exact hpl))
        rw [st k, if_pos rfl]
      | false =>
        have e : rdP (x :: false :: suf) = none := by simp [rdP]
        rw [e]
        refine Ev.done fun k => ?_
        rw [st k, if_neg (by simp)]
        rfl
theorem fmBytes_ev (t : List Int) (c : Int) (ht : t.length ≤ 140737488355328) : Ev (fun k => bakeref2_FmBytes.f k t c) (fmBytesOf t c) := by
  unfold bakeref2_FmBytes.f fmBytesOf
  refine Ev.bind (counts_ev t c 2 ht) ?_
  by_cases h : (cellsOf t c 2).2 = 0
  · rw [if_pos h]
    refine Ev.pos h ?_
    have hv := cellsOf_vals t c 2 h
    have hck : (cellsOf t c 2).1.length ≤ 40000 := by
      have h1 := cellsOf_length t c 2
      unfold cellsOf at h
      by_cases h2 : ck t = 0
      · have := (ck_zero.1 h2).1; omega
      · rw [if_neg h2] at h; exact absurd h h2
    generalize (cellsOf t c 2).1 = l at *
    refine Ev.bind (unplaced_ev l hck hv) ?_
    match l with
    | [] => exact Ev.pos (by simp) (Ev.done fun k => by simp [bakeref2_FmBytes.j0, fmRead])
    | x :: r =>
      have hx := hv x (by simp)
      have hL := unp_length (x :: r)
      have hul : ¬ ((x :: r).flatMap unp).length = 0 := by
        rw [List.flatMap_cons, List.length_append]
        have : 0 < (unp x).length := by unfold unp; split <;> decide
        omega
      refine Ev.neg (by omega) (Ev.pos (by omega) ?_)
      by_cases h1 : x = 1
      · subst h1
        have e0 : (1 :: r).flatMap unp = true :: r.flatMap unp := by rw [List.flatMap_cons]; rfl
        have hr : rdOf false ((1 :: r).flatMap unp) 0 = true := by rw [e0]; rfl
        rw [hr]
        refine Ev.step (f := fun k => bakeref2_FmBytes.l0 k ((1 :: r).flatMap unp) [] (([true] : List Bool).length : Int)) (fun k => by simp only [bakeref2_FmBytes.j0]; rw [if_neg (by simp)]; rfl) ?_
        have := fb_loop ((1 :: r).flatMap unp) (by omega) (r.flatMap unp).length (r.flatMap unp) [true] [] (Nat.le_refl _) e0 (by simp)
        rw [rdP_rdB r (fun z hz => hv z (by simp [hz]))] at this
        have e : fmRead (1 :: r) = goP [] (rdB r) := by
          unfold fmRead goP
          simp only [if_true]
          cases rdB r <;> simp
        rw [e]; exact this
      · have e0 : (x :: r).flatMap unp = false :: true :: r.flatMap unp := by rw [List.flatMap_cons]; simp [unp, h1]
        have hr : rdOf false ((x :: r).flatMap unp) 0 = false := by rw [e0]; rfl
        rw [hr]
        exact Ev.done fun k => by simp [bakeref2_FmBytes.j0, fmRead, h1]
  · rw [if_neg h]
    exact Ev.neg h (Ev.all fun k => rfl)
end Go.Proofs.Ytgiodeiibmbhhaa.BkFmWrites
