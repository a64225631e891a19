/-
  What the functions that FluxCells uses come to, in plain words (models of ZFlux, ZFlux2, ZFlux3). Conditions stand in each lemma.
-/
import Derived.Test.YtgiodeiibmbhhaaZFlux3
import Derived.Test.YtgiodeiibmbhhaaPFluxCellsx0
import Derived.Test.YtgiodeiibmbhhaaPFluxCellsx1
import Derived.Test.YtgiodeiibmbhhaaPFluxCellsx2
import Derived.Test.YtgiodeiibmbhhaaPFluxCellsx3
import Derived.Test.YtgiodeiibmbhhaaPFluxCellsx4
import Derived.Test.YtgiodeiibmbhhaaPFluxCellsx5
import Derived.Test.YtgiodeiibmbhhaaPFluxCellsx6
set_option linter.unusedVariables false
set_option linter.unusedSimpArgs false
namespace Go.Proofs.Ytgiodeiibmbhhaa.BkFluxCells
open Go Go.RowKit Go.Proofs.YtgiodeiibmbhhaaW.PrintWords Go.Proofs.YtgiodeiibmbhhaaW.PrintLast Go.Proofs.YtgiodeiibmbhhaaW.PrintMore Go.Proofs.Ytgiodeiibmbhhaa.PFluxCells Go.Proofs.Ytgiodeiibmbhhaa.Bk
theorem slices_Equal_api_Track_int_loop (l r : List Int) (hm : l.length ≤ 140737488355328) : ∀ (suf suf' pre : List Int), l = pre ++ suf → r = pre ++ suf' → suf.length = suf'.length →
    Ev (fun k => slices_Equal_api_Track_int.l0 k l r (l.length : Int) (pre.length : Int)) (decide (suf = suf'))
  | [], [], pre, hl, hr, _ => Ev.done fun k => by simp only [slices_Equal_api_Track_int.l0]; rw [if_neg (at_end hl)]; rfl
  | [], _ :: _, _, _, _, h => by simp at h
  | _ :: _, [], _, _, _, h => by simp at h
  | x :: suf, y :: suf', pre, hl, hr, h => by
    have a := at_mid hl hm
    have hlen : l.length = r.length := by rw [hl, hr]; simp at h ⊢; exact h
    have b := at_mid hr (by omega)
    by_cases e : x = y
    · subst e
      have ih := slices_Equal_api_Track_int_loop l r hm suf suf' (pre ++ [x]) (next_mid hl) (next_mid hr) (by simpa using h)
      have e2 : decide (x :: suf = x :: suf') = decide (suf = suf') := by simp
      rw [e2]
      refine Ev.step (fun k => ?_) ih
      simp only [slices_Equal_api_Track_int.l0]
      rw [if_pos a.2.1, if_pos a.1, if_pos a.2.1, if_pos b.2.1, a.2.2.1, b.2.2.1, if_pos rfl, a.2.2.2]
    · refine Ev.done fun k => ?_
      simp only [slices_Equal_api_Track_int.l0]
      rw [if_pos a.2.1, if_pos a.1, if_pos a.2.1, if_pos b.2.1, a.2.2.1, b.2.2.1, if_neg e]
      simp [e]
theorem slices_Equal_api_Track_int_ev (l r : List Int) (hm : l.length ≤ 140737488355328) : Ev (fun k => slices_Equal_api_Track_int.f k l r) (decide (l = r)) := by
  by_cases h : l.length = r.length
  · refine Ev.congr (fun k => ?_) (slices_Equal_api_Track_int_loop l r hm l r [] rfl rfl h)
    unfold slices_Equal_api_Track_int.f
    rw [if_pos (by omega)]; rfl
  · refine Ev.all fun k => ?_
    unfold slices_Equal_api_Track_int.f
    rw [if_neg (by omega)]
    have : ¬ l = r := fun e => h (by rw [e])
    simp [this]
theorem slices_Equal_int_int_loop (l r : List Int) (hm : l.length ≤ 140737488355328) : ∀ (suf suf' pre : List Int), l = pre ++ suf → r = pre ++ suf' → suf.length = suf'.length →
    Ev (fun k => slices_Equal_int_int.l0 k l r (l.length : Int) (pre.length : Int)) (decide (suf = suf'))
  | [], [], pre, hl, hr, _ => Ev.done fun k => by simp only [slices_Equal_int_int.l0]; rw [if_neg (at_end hl)]; rfl
  | [], _ :: _, _, _, _, h => by simp at h
  | _ :: _, [], _, _, _, h => by simp at h
  | x :: suf, y :: suf', pre, hl, hr, h => by
    have a := at_mid hl hm
    have hlen : l.length = r.length := by rw [hl, hr]; simp at h ⊢; exact h
    have b := at_mid hr (by omega)
    by_cases e : x = y
    · subst e
      have ih := slices_Equal_int_int_loop l r hm suf suf' (pre ++ [x]) (next_mid hl) (next_mid hr) (by simpa using h)
      have e2 : decide (x :: suf = x :: suf') = decide (suf = suf') := by simp
      rw [e2]
      refine Ev.step (fun k => ?_) ih
      simp only [slices_Equal_int_int.l0]
      rw [if_pos a.2.1, if_pos a.1, if_pos a.2.1, if_pos b.2.1, a.2.2.1, b.2.2.1, if_pos rfl, a.2.2.2]
    · refine Ev.done fun k => ?_
      simp only [slices_Equal_int_int.l0]
      rw [if_pos a.2.1, if_pos a.1, if_pos a.2.1, if_pos b.2.1, a.2.2.1, b.2.2.1, if_neg e]
      simp [e]
theorem slices_Equal_int_int_ev (l r : List Int) (hm : l.length ≤ 140737488355328) : Ev (fun k => slices_Equal_int_int.f k l r) (decide (l = r)) := by
  by_cases h : l.length = r.length
  · refine Ev.congr (fun k => ?_) (slices_Equal_int_int_loop l r hm l r [] rfl rfl h)
    unfold slices_Equal_int_int.f
    rw [if_pos (by omega)]; rfl
  · refine Ev.all fun k => ?_
    unfold slices_Equal_int_int.f
    rw [if_neg (by omega)]
    have : ¬ l = r := fun e => h (by rw [e])
    simp [this]
theorem fluxCheck_loop (l : List Int) (hm : l.length ≤ 140737488355328) : ∀ (suf pre : List Int), l = pre ++ suf → Ev (fun k => flux_Check.l0 k l (l.length : Int) (pre.length : Int)) (if suf.all okP then 0 else 1)
  | [], pre, hl => Ev.done fun k => by simp only [flux_Check.l0]; rw [if_neg (at_end hl)]; rfl
  | x :: suf, pre, hl => by
    have a := at_mid hl hm
    by_cases hx : 1 ≤ x ∧ x ≤ 100000
    · have ih := fluxCheck_loop l hm suf (pre ++ [x]) (next_mid hl)
      have e : (x :: suf).all okP = suf.all okP := by simp [okP, hx]
      rw [e]
      refine Ev.step (fun k => ?_) ih
      simp only [flux_Check.l0]
      rw [if_pos a.2.1, if_pos a.1, if_pos a.2.1, a.2.2.1, if_neg (by omega), if_neg (by omega), a.2.2.2]
    · have e : (x :: suf).all okP = false := by simp [okP, hx]
      rw [e]
      refine Ev.done fun k => ?_
      simp only [flux_Check.l0]
      rw [if_pos a.2.1, if_pos a.1, if_pos a.2.1, a.2.2.1]
      by_cases h1 : x < 1
      · rw [if_pos h1]; rfl
      · rw [if_neg h1, if_pos (by omega)]; rfl
theorem fluxCheck_ev (l : List Int) (hm : l.length ≤ 140737488355328) : Ev (fun k => flux_Check.f k l) (ck l) := by
  unfold ck
  by_cases h : 40000 < l.length
  · rw [if_pos h]; exact Ev.all fun k => by unfold flux_Check.f; rw [if_pos (by omega)]
  · rw [if_neg h]
    refine Ev.congr (fun k => ?_) (fluxCheck_loop l hm l [] rfl)
    unfold flux_Check.f; rw [if_neg (by omega)]; rfl
theorem trackErr1 (a : Int) : bakeref2_TrackErr_1.f a = some (!okP a) := by
  unfold bakeref2_TrackErr_1.f okP
  by_cases h : a ≤ 0
  · rw [if_pos h, decide_eq_false (by omega)]; rfl
  · rw [if_neg h]
    by_cases h2 : a > 100000
    · rw [decide_eq_true h2, decide_eq_false (by omega)]; rfl
    · rw [decide_eq_false h2, decide_eq_true (by omega)]; rfl
theorem trackErr_loop (l : List Int) (hm : l.length ≤ 140737488355328) : ∀ (suf pre : List Int), l = pre ++ suf →
    ∃ r : Int, (0 ≤ r ↔ suf.all okP = false) ∧ Ev (fun k => slices_IndexFunc_bakeref2_TrackErr_1.l0 k l (l.length : Int) (pre.length : Int)) r
  | [], pre, hl => ⟨-1, by simp, Ev.done fun k => by simp only [slices_IndexFunc_bakeref2_TrackErr_1.l0]; rw [if_neg (at_end hl)]⟩
  | x :: suf, pre, hl => by
    have a := at_mid hl hm
    cases hx : okP x with
    | true =>
      obtain ⟨r, h1, h2⟩ := trackErr_loop l hm suf (pre ++ [x]) (next_mid hl)
      refine ⟨r, by simpa [hx] using h1, Ev.step (fun k => ?_) h2⟩
      simp only [slices_IndexFunc_bakeref2_TrackErr_1.l0]
      rw [if_pos a.2.1, if_pos a.1, if_pos a.2.1, a.2.2.1, trackErr1, hx, a.2.2.2]
      rfl
    | false =>
      refine ⟨(pre.length : Int), by simp [hx], Ev.done fun k => ?_⟩
      simp only [slices_IndexFunc_bakeref2_TrackErr_1.l0]
      rw [if_pos a.2.1, if_pos a.1, if_pos a.2.1, a.2.2.1, trackErr1, hx]
      rfl
theorem trackErr_ev (l : List Int) (hm : l.length ≤ 140737488355328) : Ev (fun k => bakeref2_TrackErr.f k l) (ck l) := by
  unfold ck
  by_cases h : 40000 < l.length
  · rw [if_pos h]; exact Ev.all fun k => by unfold bakeref2_TrackErr.f; rw [if_pos (by omega)]
  · rw [if_neg h]
    obtain ⟨r, h1, h2⟩ := trackErr_loop l hm l [] rfl
    have hc : Ev (fun k => slices_ContainsFunc_bakeref2_TrackErr_1.f k l) (!l.all okP) := by
      unfold slices_ContainsFunc_bakeref2_TrackErr_1.f slices_IndexFunc_bakeref2_TrackErr_1.f
      refine Ev.bind h2 (Ev.all fun k => ?_)
      cases hq : l.all okP with
      | true => rw [decide_eq_false (fun h => by have := h1.1 h; rw [hq] at this; cases this)]; rfl
      | false => rw [decide_eq_true (show r ≥ 0 from h1.2 hq)]; rfl
    refine Ev.congr (f := fun k => (slices_ContainsFunc_bakeref2_TrackErr_1.f k l).bind fun t => if t = true then some 1 else some 0) (fun k => ?_) (Ev.bind hc (Ev.all fun k => ?_))
    · unfold bakeref2_TrackErr.f
      rw [if_neg (by omega)]
    · cases l.all okP <;> rfl
theorem marks_loop (l : List Int) (hv : Valid l) : ∀ (suf pre : List Int), l = pre ++ suf → Ev (fun k => flux_Marks.l0 k (cum 0 pre) pre.sum l (l.length : Int) (pre.length : Int)) (cum 0 l, 0)
  | [], pre, hl => Ev.done fun k => by simp only [flux_Marks.l0]; rw [if_neg (at_end hl)]; rw [hl]; simp
  | x :: suf, pre, hl => by
    have a := at_mid hl (by have := hv.1; omega)
    have hlen := len_mid' hl
    have hp := sum_bound (l := pre) (fun p hp => hv.2 p (by rw [hl]; simp [hp]))
    have hx := hv.2 x (by rw [hl]; simp)
    have h1 := hv.1
    have ih := marks_loop l hv suf (pre ++ [x]) (next_mid hl)
    rw [cum_snoc, List.sum_append, List.sum_singleton] at ih
    refine Ev.step (fun k => ?_) ih
    simp only [flux_Marks.l0]
    rw [if_pos a.2.1, if_pos a.1, if_pos a.2.1, a.2.2.1, if_pos (by rw [cum_length]; omega), a.2.2.2, w64 (pre.sum + x) (by omega) (by omega)]
    simp
theorem marks_ev (l : List Int) (hm : l.length ≤ 140737488355328) : Ev (fun k => flux_Marks.f k l) (if ck l = 0 then (cum 0 l, 0) else ([], ck l)) := by
  unfold flux_Marks.f
  refine Ev.bind (fluxCheck_ev l hm) ?_
  by_cases h : ck l = 0
  · simp only [h, if_true]
    exact marks_loop l (ck_zero.1 h) l [] rfl
  · simp only [h, if_false]
    exact Ev.all fun k => rfl
theorem total_loop (l : List Int) (hv : Valid l) : ∀ (suf pre : List Int), l = pre ++ suf → Ev (fun k => flux_Total.l0 k pre.sum l (l.length : Int) (pre.length : Int)) l.sum
  | [], pre, hl => Ev.done fun k => by simp only [flux_Total.l0]; rw [if_neg (at_end hl)]; rw [hl]; simp
  | x :: suf, pre, hl => by
    have a := at_mid hl (by have := hv.1; omega)
    have hlen := len_mid' hl
    have hp := sum_bound (l := pre) (fun p hp => hv.2 p (by rw [hl]; simp [hp]))
    have hx := hv.2 x (by rw [hl]; simp)
    have h1 := hv.1
    have ih := total_loop l hv suf (pre ++ [x]) (next_mid hl)
    rw [List.sum_append, List.sum_singleton] at ih
    refine Ev.step (fun k => ?_) ih
    simp only [flux_Total.l0]
    rw [if_pos a.2.1, if_pos a.1, if_pos a.2.1, a.2.2.1, a.2.2.2, w64 (pre.sum + x) (by omega) (by omega)]
theorem total_ev (l : List Int) (hm : l.length ≤ 140737488355328) : Ev (fun k => flux_Total.f k l) (if ck l = 0 then l.sum else 0) := by
  unfold flux_Total.f
  refine Ev.bind (fluxCheck_ev l hm) ?_
  by_cases h : ck l = 0
  · simp only [h, if_true]
    exact total_loop l (ck_zero.1 h) l [] rfl
  · simp only [h, if_false]
    exact Ev.all fun k => rfl
theorem fluxOf_loop (l : List Int) (hm : l.length ≤ 40000) (hi : ∀ x ∈ l, -9223372036854775808 ≤ x ∧ x ≤ 9223372036854775807) : ∀ (suf pre out : List Int) (at_ : Int), l = pre ++ suf → out.length = pre.length → 0 ≤ at_ →
    Ev (fun k => flux_Of.l0 k out at_ l (l.length : Int) (pre.length : Int)) (difA out at_ suf)
  | [], pre, out, at_, hl, ho, h0 => Ev.done fun k => by simp only [flux_Of.l0]; rw [if_neg (at_end hl)]; rfl
  | x :: suf, pre, out, at_, hl, ho, h0 => by
    have a := at_mid hl (by omega)
    have hlen := len_mid' hl
    have hx := hi x (by rw [hl]; simp)
    by_cases c1 : x ≤ at_
    · refine Ev.done fun k => ?_
      simp only [flux_Of.l0, difA]
      rw [if_pos a.2.1, if_pos a.1, if_pos a.2.1, a.2.2.1, if_pos c1, if_pos c1]
    · have w : wrap64 (x - at_) = x - at_ := w64 _ (by omega) (by omega)
      by_cases c2 : x - at_ > 100000
      · refine Ev.done fun k => ?_
        simp only [flux_Of.l0, difA]
        rw [if_pos a.2.1, if_pos a.1, if_pos a.2.1, a.2.2.1, if_neg c1, w, if_pos c2, if_neg c1, if_pos c2]
      · have ih := fluxOf_loop l hm hi suf (pre ++ [x]) (out ++ [x - at_]) x (next_mid hl) (by simp [ho]) (by omega)
        have e : difA out at_ (x :: suf) = difA (out ++ [x - at_]) x suf := by simp only [difA]; rw [if_neg c1, if_neg c2]
        rw [e]
        refine Ev.step (fun k => ?_) ih
        simp only [flux_Of.l0]
        rw [if_pos a.2.1, if_pos a.1, if_pos a.2.1, a.2.2.1, if_neg c1, w, if_neg c2, if_pos (by omega), a.2.2.2]
theorem fluxOf_ev (l : List Int) (hi : ∀ x ∈ l, -9223372036854775808 ≤ x ∧ x ≤ 9223372036854775807) : Ev (fun k => flux_Of.f k l) (ofL l) := by
  unfold ofL
  by_cases h : 40000 < l.length
  · rw [if_pos h]; exact Ev.all fun k => by unfold flux_Of.f; rw [if_pos (by omega)]
  · rw [if_neg h]
    refine Ev.congr (fun k => ?_) (fluxOf_loop l (by omega) hi l [] [] 0 rfl rfl (by omega))
    unfold flux_Of.f; rw [if_neg (by omega)]; rfl
theorem between_loop (l : List Int) (hm : l.length ≤ 40000) (hi : ∀ x ∈ l, -9223372036854775808 ≤ x ∧ x ≤ 9223372036854775807) : ∀ (suf pre out : List Int) (at_ : Int), l = pre ++ suf → out.length = pre.length → 0 ≤ at_ → at_ ≤ 100000 * (pre.length : Int) →
    (pre = [] ∧ at_ = 0 ∨ ∃ p', pre = p' ++ [at_]) → Ev (fun k => bakeref2_Between.l0 k l out (l.length : Int) (pre.length : Int)) (difA out at_ suf)
  | [], pre, out, at_, hl, ho, h0, hb, hp => Ev.done fun k => by simp only [bakeref2_Between.l0]; rw [if_neg (at_end hl)]; rfl
  | x :: suf, pre, out, at_, hl, ho, h0, hb, hp => by
    have a := at_mid hl (by omega)
    have hlen := len_mid' hl
    have hx := hi x (by rw [hl]; simp)
    have hw : wrap64 (at_ + 100000) = at_ + 100000 := w64 _ (by omega) (by omega)
    have hj : Ev (fun k => bakeref2_Between.j1 k l out (pre.length : Int) at_ (l.length : Int) (pre.length : Int)) (difA out at_ (x :: suf)) := by
      by_cases c1 : x ≤ at_
      · refine Ev.done fun k => ?_
        simp only [bakeref2_Between.j1, difA]
        rw [if_pos a.1, if_pos a.2.1, a.2.2.1, if_pos c1, if_pos c1]
      · have w : wrap64 (x - at_) = x - at_ := w64 _ (by omega) (by omega)
        by_cases c2 : x - at_ > 100000
        · refine Ev.done fun k => ?_
          simp only [bakeref2_Between.j1, difA]
          rw [if_pos a.1, if_pos a.2.1, a.2.2.1, if_neg c1, hw, if_pos (by omega), if_neg c1, if_pos c2]
        · have ih := between_loop l hm hi suf (pre ++ [x]) (out ++ [x - at_]) x (next_mid hl) (by simp [ho]) (by omega) (by simp only [List.length_append, List.length_cons, List.length_nil]; omega) (.inr ⟨pre, rfl⟩)
          have e : difA out at_ (x :: suf) = difA (out ++ [x - at_]) x suf := by simp only [difA]; rw [if_neg c1, if_neg c2]
          rw [e]
          refine Ev.step (fun k => ?_) ih
          simp only [bakeref2_Between.j1]
          rw [if_pos a.1, if_pos a.2.1, a.2.2.1, if_neg c1, hw, if_neg (by omega), w, if_pos (by omega), a.2.2.2]
    refine Ev.step (fun k => ?_) hj
    simp only [bakeref2_Between.l0]
    rw [if_pos a.2.1]
    rcases hp with ⟨rfl, rfl⟩ | ⟨p', rfl⟩
    · simp
    · have hq : ((p' ++ [at_]).length : Int) = (p'.length : Int) + 1 := by simp
      have hw2 : wrap64 (((p' ++ [at_]).length : Int) - 1) = (p'.length : Int) := by rw [hq, w64 _ (by omega) (by omega)]; omega
      rw [if_pos (by omega), hw2, if_pos (by omega), if_pos (by omega)]
      rw [show rd l (p'.length : Int) = at_ by rw [hl, List.append_assoc]; exact rd_mid _ _ _ _ rfl]
theorem between_ev (l : List Int) (hi : ∀ x ∈ l, -9223372036854775808 ≤ x ∧ x ≤ 9223372036854775807) : Ev (fun k => bakeref2_Between.f k l) (ofL l) := by
  unfold ofL
  by_cases h : 40000 < l.length
  · rw [if_pos h]; exact Ev.all fun k => by unfold bakeref2_Between.f; rw [if_pos (by omega)]
  · rw [if_neg h]
    refine Ev.congr (fun k => ?_) (between_loop l (by omega) hi l [] [] 0 rfl rfl (by omega) (by simp) (.inl ⟨rfl, rfl⟩))
    unfold bakeref2_Between.f; rw [if_neg (by omega)]; rfl
theorem times_loop (l : List Int) (hv : Valid l) : ∀ (suf pre : List Int), l = pre ++ suf → Ev (fun k => bakeref2_Times.l0 k (cum 0 pre ++ List.replicate suf.length 0) l (l.length : Int) (pre.length : Int)) (cum 0 l)
  | [], pre, hl => Ev.done fun k => by simp only [bakeref2_Times.l0]; rw [if_neg (at_end hl)]; rw [hl]; simp
  | x :: suf, pre, hl => by
    have a := at_mid hl (by have := hv.1; omega)
    have hlen := len_mid' hl
    have hp := sum_bound (l := pre) (fun p hp => hv.2 p (by rw [hl]; simp [hp]))
    have hx := hv.2 x (by rw [hl]; simp)
    have h1 := hv.1
    have ih := times_loop l hv suf (pre ++ [x]) (next_mid hl)
    rw [cum_snoc, List.append_assoc, List.singleton_append] at ih
    have hr : List.replicate (x :: suf).length (0 : Int) = 0 :: List.replicate suf.length 0 := rfl
    have hcl : (cum 0 pre).length = pre.length := cum_length _ _
    have hs : ∀ v w : Int, (cum 0 pre ++ v :: List.replicate suf.length 0).set (pre.length : Int).toNat w = cum 0 pre ++ w :: List.replicate suf.length 0 := by
      intro v w
      rw [Int.toNat_natCast, ← hcl]; exact set_mid _ _ _ _
    have hl2 : ((cum 0 pre ++ 0 :: List.replicate suf.length (0 : Int)).length : Int) = (l.length : Int) := by
      simp only [List.length_append, List.length_cons, List.length_replicate, hcl]; omega
    refine Ev.step (fun k => ?_) ih
    simp only [bakeref2_Times.l0]
    rw [hr, if_pos a.2.1, if_pos a.1, if_pos a.2.1, hl2, if_pos a.2.1, a.2.2.1, a.2.2.2, hs, Option.bind_some]
    rcases nil_or_snoc pre with rfl | ⟨p', y, rfl⟩
    · simp [cum]
    · have e1 : cum 0 (p' ++ [y]) = cum 0 p' ++ [p'.sum + y] := by rw [cum_snoc]; simp
      have hq : ((p' ++ [y]).length : Int) = (p'.length : Int) + 1 := by simp
      have hw2 : wrap64 (((p' ++ [y]).length : Int) - 1) = (p'.length : Int) := by rw [hq, w64 _ (by omega) (by omega)]; omega
      have hrd1 : rd (cum 0 (p' ++ [y]) ++ x :: List.replicate suf.length 0) ((p' ++ [y]).length : Int) = x := rd_mid _ _ _ _ (by rw [cum_length])
      have hrd2 : rd (cum 0 (p' ++ [y]) ++ x :: List.replicate suf.length 0) (p'.length : Int) = (p' ++ [y]).sum := by
        rw [e1, List.append_assoc, List.singleton_append, rd_mid _ _ _ _ (by rw [cum_length])]
        simp
      rw [if_pos (by omega), hw2, if_pos (by omega), if_pos (by omega), hrd1, hrd2, hs, w64 _ (by omega) (by omega)]
      rw [show x + (p' ++ [y]).sum = 0 + (p' ++ [y]).sum + x by omega]
theorem times_ev (l : List Int) (hv : Valid l) : Ev (fun k => bakeref2_Times.f k l) (cum 0 l) := by
  have h1 := hv.1
  refine Ev.congr (fun k => ?_) (times_loop l hv l [] rfl)
  unfold bakeref2_Times.f
  rw [if_pos (by omega), if_pos (by omega)]
  simp [cum]
theorem end_ev (l : List Int) (hv : Valid l) : Ev (fun k => bakeref2_End.f k l) l.sum := by
  have h1 := hv.1
  rcases nil_or_snoc l with rfl | ⟨p, x, rfl⟩
  · exact Ev.all fun k => by simp [bakeref2_End.f]
  · unfold bakeref2_End.f
    have hq : ((p ++ [x]).length : Int) = (p.length : Int) + 1 := by simp
    have hw : wrap64 (((p ++ [x]).length : Int) - 1) = (p.length : Int) := by rw [hq, w64 _ (by omega) (by omega)]; omega
    refine Ev.neg (by omega) ?_
    refine Ev.bind (times_ev (p ++ [x]) hv) (Ev.all fun k => ?_)
    rw [hw, if_pos (by omega), if_pos (by rw [cum_length]; omega), cum_snoc]
    rw [show rd (cum 0 p ++ [0 + p.sum + x]) (p.length : Int) = 0 + p.sum + x from rd_mid _ _ _ _ (by rw [cum_length])]
    simp
theorem cells_loop (c m : Int) (hc : 2 ≤ c ∧ c ≤ 1000) (l : List Int) (hv : Valid l) : ∀ (suf pre out : List Int), l = pre ++ suf → out.length = pre.length →
    Ev (fun k => flux_Cells.l0 k c m out l (l.length : Int) (pre.length : Int)) (cellsL c m out suf)
  | [], pre, out, hl, ho => Ev.done fun k => by simp only [flux_Cells.l0]; rw [if_neg (at_end hl)]; rfl
  | x :: suf, pre, out, hl, ho => by
    have h1 := hv.1
    have a := at_mid hl (by omega)
    have hlen := len_mid' hl
    have hx := hv.2 x (by rw [hl]; simp)
    have hw2 : ¬ wrap64 (2 * c) = 0 := by rw [w64 _ (by omega) (by omega)]; omega
    have hol : out.length < 17592186044416 := by omega
    have g := cellN_go c x hc hx
    by_cases h : cellN c x < 1 ∨ cellN c x > m
    · refine Ev.done fun k => ?_
      simp only [flux_Cells.l0, cellsL]
      rw [if_pos a.2.1, if_pos a.1, if_pos a.2.1, a.2.2.1, if_neg hw2, g, if_pos h]
      by_cases h2 : cellN c x < 1
      · rw [if_pos h2]
      · rw [if_neg h2, if_pos (by omega)]
    · have ih := cells_loop c m hc l hv suf (pre ++ [x]) (out ++ [cellN c x]) (next_mid hl) (by simp [ho])
      have e : cellsL c m out (x :: suf) = cellsL c m (out ++ [cellN c x]) suf := by rw [cellsL, if_neg h]
      rw [e]
      refine Ev.step (fun k => ?_) ih
      simp only [flux_Cells.l0]
      rw [if_pos a.2.1, if_pos a.1, if_pos a.2.1, a.2.2.1, if_neg hw2, g, if_neg (by omega), if_neg (by omega), if_pos hol, a.2.2.2]
theorem cells_ev (l : List Int) (c m : Int) (hm : l.length ≤ 140737488355328) : Ev (fun k => flux_Cells.f k l c m) (cellsOf l c m) := by
  unfold flux_Cells.f cellsOf
  refine Ev.bind (fluxCheck_ev l hm) ?_
  have hbad : Ev (fun k => flux_Cells.j0 k l c m true) ([], 1) := Ev.done fun k => by simp [flux_Cells.j0]
  by_cases h : ck l = 0
  · simp only [h, if_true]
    by_cases hc : 2 ≤ c ∧ c ≤ 1000
    · rw [if_pos hc]
      refine Ev.neg (by omega) ?_
      rw [decide_eq_false (by omega)]
      refine Ev.step (fun k => by simp only [flux_Cells.j0]; rw [if_neg (by simp)]) ?_
      exact cells_loop c m hc l (ck_zero.1 h) l [] [] rfl rfl
    · rw [if_neg hc]
      by_cases h1 : c < 2
      · exact Ev.pos h1 hbad
      · refine Ev.neg h1 ?_
        rw [decide_eq_true (by omega)]
        exact hbad
  · simp only [h, if_false]
    exact Ev.all fun k => rfl
theorem counts_loop (c m : Int) (hc : 2 ≤ c ∧ c ≤ 1000) (l : List Int) (hv : Valid l) : ∀ (suf pre out : List Int), l = pre ++ suf → out.length = pre.length →
    Ev (fun k => bakeref2_Counts.l0 k c m out l (l.length : Int) (pre.length : Int)) (cellsL c m out suf)
  | [], pre, out, hl, ho => Ev.done fun k => by simp only [bakeref2_Counts.l0]; rw [if_neg (at_end hl)]; rfl
  | x :: suf, pre, out, hl, ho => by
    have h1 := hv.1
    have a := at_mid hl (by omega)
    have hlen := len_mid' hl
    have hx := hv.2 x (by rw [hl]; simp)
    have hol : out.length < 17592186044416 := by omega
    have hb := cellN_bound c x hc hx
    have hr := cellN_ref c x hc hx
    have q0 : 0 ≤ x / c := Int.ediv_nonneg (by omega) (by omega)
    have q1 : x / c ≤ x := Int.ediv_le_self _ (by omega)
    have r0 := Int.emod_nonneg x (show c ≠ 0 by omega)
    have r1 := Int.emod_lt_of_pos x (show 0 < c by omega)
    have t1 : Int.tdiv x c = x / c := Int.tdiv_eq_ediv_of_nonneg (by omega)
    have t2 : Int.tmod x c = x % c := Int.tmod_eq_emod_of_nonneg (by omega)
    have ih := fun h => counts_loop c m hc l hv suf (pre ++ [x]) (out ++ [cellN c x]) (next_mid hl) h
    replace ih := ih (by simp [ho])
    have wm : wrap64 (2 * (x % c)) = 2 * (x % c) := w64 _ (by omega) (by omega)
    have wq : wrap64 (x / c) = x / c := w64 _ (by omega) (by omega)
    have wq1 : wrap64 (x / c + 1) = x / c + 1 := w64 _ (by omega) (by omega)
    have hpick : (if 2 * (x % c) ≥ c then x / c + 1 else x / c) = cellN c x := by rw [hr]; split <;> omega
    have hne : ¬ c = 0 := by omega
    have key : ∀ k, bakeref2_Counts.l0 (k + 1) c m out l (l.length : Int) (pre.length : Int) = if cellN c x = 0 then some ([], 18) else if cellN c x > m then some ([], 18) else bakeref2_Counts.l0 k c m (out ++ [cellN c x]) l (l.length : Int) ((pre ++ [x]).length : Int) := by
      intro k
      simp only [bakeref2_Counts.l0]
      rw [if_pos a.2.1, if_pos a.1, if_pos a.2.1, a.2.2.1, if_neg hne, t1, t2, wm, wq, wq1, a.2.2.2]
      simp only [if_pos hol]
      rw [← hpick]
      split <;> rfl
    by_cases h : cellN c x < 1 ∨ cellN c x > m
    · refine Ev.done fun k => ?_
      rw [key, cellsL, if_pos h]
      by_cases h2 : cellN c x = 0
      · rw [if_pos h2]
      · rw [if_neg h2, if_pos (by omega)]
    · have e : cellsL c m out (x :: suf) = cellsL c m (out ++ [cellN c x]) suf := by rw [cellsL, if_neg h]
      rw [e]
      refine Ev.step (fun k => ?_) ih
      rw [key, if_neg (by omega), if_neg (by omega)]
theorem counts_ev (l : List Int) (c m : Int) (hm : l.length ≤ 140737488355328) : Ev (fun k => bakeref2_Counts.f k l c m) (cellsOf l c m) := by
  unfold bakeref2_Counts.f cellsOf
  refine Ev.bind (trackErr_ev l hm) ?_
  have hbad : Ev (fun k => bakeref2_Counts.j0 k l c m true) ([], 1) := Ev.done fun k => by simp [bakeref2_Counts.j0]
  by_cases h : ck l = 0
  · simp only [h, if_true]
    by_cases hc : 2 ≤ c ∧ c ≤ 1000
    · rw [if_pos hc]
      refine Ev.neg (by omega) ?_
      rw [decide_eq_false (by omega)]
      refine Ev.step (fun k => by simp only [bakeref2_Counts.j0]; rw [if_neg (by simp)]) ?_
      exact counts_loop c m hc l (ck_zero.1 h) l [] [] rfl rfl
    · rw [if_neg hc]
      by_cases h1 : c < 2
      · exact Ev.pos h1 hbad
      · refine Ev.neg h1 ?_
        rw [decide_eq_true (by omega)]
        exact hbad
  · simp only [h, if_false]
    exact Ev.all fun k => rfl
theorem mul_small (x c : Int) (hx : 1 ≤ x ∧ x ≤ 100) (hc : 2 ≤ c ∧ c ≤ 1000) : 0 ≤ x * c ∧ x * c ≤ 100000 :=
  ⟨Int.mul_nonneg (by omega) (by omega), Int.mul_le_mul hx.2 hc.2 (by omega) (by omega)⟩
theorem pulses_loop (c : Int) (hc : 2 ≤ c ∧ c ≤ 1000) (l : List Int) (hm : l.length ≤ 40000) : ∀ (suf pre out : List Int), l = pre ++ suf → out.length = pre.length →
    Ev (fun k => flux_Pulses.l0 k c out l (l.length : Int) (pre.length : Int)) (pulL c out suf)
  | [], pre, out, hl, ho => Ev.done fun k => by simp only [flux_Pulses.l0]; rw [if_neg (at_end hl)]; rfl
  | x :: suf, pre, out, hl, ho => by
    have a := at_mid hl (by omega)
    have hlen := len_mid' hl
    have hol : out.length < 17592186044416 := by omega
    cases hx : okN x with
    | true =>
      have hx' : 1 ≤ x ∧ x ≤ 100 := by simpa [okN] using hx
      have hms := mul_small x c hx' hc
      have ih := pulses_loop c hc l hm suf (pre ++ [x]) (out ++ [x * c]) (next_mid hl) (by simp [ho])
      have e : pulL c out (x :: suf) = pulL c (out ++ [x * c]) suf := by rw [pulL, hx, if_pos rfl]
      rw [e]
      refine Ev.step (fun k => ?_) ih
      simp only [flux_Pulses.l0]
      rw [if_pos a.2.1, if_pos a.1, if_pos a.2.1, a.2.2.1, if_neg (by omega), if_neg (by omega), if_pos hol, w64 (x * c) (by omega) (by omega), a.2.2.2]
    | false =>
      have hx' : ¬ (1 ≤ x ∧ x ≤ 100) := by simpa [okN] using hx
      refine Ev.done fun k => ?_
      simp only [flux_Pulses.l0, pulL, hx]
      rw [if_pos a.2.1, if_pos a.1, if_pos a.2.1, a.2.2.1]
      by_cases h : x < 1
      · rw [if_pos h]; rfl
      · rw [if_neg h, if_pos (by omega)]; rfl
theorem pulses_ev (l : List Int) (c : Int) (hm : l.length ≤ 140737488355328) : Ev (fun k => flux_Pulses.f k l c) (pulsesOf l c) := by
  unfold flux_Pulses.f pulsesOf
  have hbad : Ev (fun k => flux_Pulses.j0 k l c true) ([], 1) := Ev.done fun k => by simp [flux_Pulses.j0]
  by_cases hc : 2 ≤ c ∧ c ≤ 1000
  · rw [if_pos hc]
    refine Ev.neg (by omega) ?_
    rw [decide_eq_false (by omega)]
    refine Ev.step (fun k => by simp only [flux_Pulses.j0]; rw [if_neg (by simp)]) ?_
    by_cases h : 40000 < l.length
    · rw [if_pos h]; exact Ev.pos (by omega) (Ev.all fun k => rfl)
    · rw [if_neg h]; exact Ev.neg (by omega) (pulses_loop c hc l (by omega) l [] [] rfl rfl)
  · rw [if_neg hc]
    by_cases h1 : c < 2
    · exact Ev.pos h1 hbad
    · refine Ev.neg h1 ?_
      rw [decide_eq_true (by omega)]
      exact hbad
theorem splice2 (en : Int) (l : List Int) (hm : l.length ≤ 40000) : ∀ (suf pre out : List Int), l = pre ++ suf → out.length + suf.length ≤ 200000 →
    (∀ x ∈ out ++ suf.filter (fun x => decide (x > en)), -9223372036854775808 ≤ x ∧ x ≤ 9223372036854775807) →
    Ev (fun k => flux_Splice.l2 k en out l (l.length : Int) (pre.length : Int)) (ofL (out ++ suf.filter (fun x => decide (x > en))))
  | [], pre, out, hl, ho, hi => by
    simp only [List.filter_nil, List.append_nil] at hi ⊢
    refine Ev.step (f := fun k => (flux_Of.f k out).bind fun bt => some (bt.1, bt.2)) (fun k => ?_) (Ev.bind (fluxOf_ev out hi) (Ev.all fun k => rfl))
    simp only [flux_Splice.l2]; rw [if_neg (at_end hl)]
  | x :: suf, pre, out, hl, ho, hi => by
    have a := at_mid hl (by omega)
    have hol : out.length < 17592186044416 := by omega
    by_cases h : x > en
    · have e : out ++ (x :: suf).filter (fun x => decide (x > en)) = (out ++ [x]) ++ suf.filter (fun x => decide (x > en)) := by simp [h]
      rw [e] at hi ⊢
      have ih := splice2 en l hm suf (pre ++ [x]) (out ++ [x]) (next_mid hl) (by simp at ho ⊢; omega) hi
      refine Ev.step (fun k => ?_) ih
      simp only [flux_Splice.l2]
      rw [if_pos a.2.1, if_pos a.1, if_pos a.2.1, a.2.2.1, if_pos h, if_pos hol, a.2.2.2]
    · have e : out ++ (x :: suf).filter (fun x => decide (x > en)) = out ++ suf.filter (fun x => decide (x > en)) := by simp [h]
      rw [e] at hi ⊢
      have ih := splice2 en l hm suf (pre ++ [x]) out (next_mid hl) (by simp at ho ⊢; omega) hi
      refine Ev.step (fun k => ?_) ih
      simp only [flux_Splice.l2]
      rw [if_pos a.2.1, if_pos a.1, if_pos a.2.1, a.2.2.1, if_neg h, a.2.2.2]
theorem splice1 (at_ en : Int) (A l : List Int) (hat : 0 ≤ at_ ∧ at_ ≤ 4000000000) (hm : l.length ≤ 40000) (hs : ∀ x ∈ l, 0 ≤ x ∧ x ≤ 4000000000) (r : List Int × Int) : ∀ (suf pre out : List Int), l = pre ++ suf → out.length + suf.length ≤ 200000 →
    Ev (fun k => flux_Splice.l2 k en (out ++ suf.map (fun x => at_ + x)) A (A.length : Int) 0) r → Ev (fun k => flux_Splice.l1 k at_ A en out l (l.length : Int) (pre.length : Int)) r
  | [], pre, out, hl, ho, hn => by
    refine Ev.step (fun k => ?_) (by simpa using hn)
    simp only [flux_Splice.l1]; rw [if_neg (at_end hl)]
  | x :: suf, pre, out, hl, ho, hn => by
    have a := at_mid hl (by omega)
    have hol : out.length < 17592186044416 := by omega
    have hx := hs x (by rw [hl]; simp)
    have e : out ++ (x :: suf).map (fun x => at_ + x) = (out ++ [at_ + x]) ++ suf.map (fun x => at_ + x) := by simp
    rw [e] at hn
    have ih := splice1 at_ en A l hat hm hs r suf (pre ++ [x]) (out ++ [at_ + x]) (next_mid hl) (by simp at ho ⊢; omega) hn
    refine Ev.step (fun k => ?_) ih
    simp only [flux_Splice.l1]
    rw [if_pos a.2.1, if_pos a.1, if_pos a.2.1, a.2.2.1, if_pos hol, w64 (at_ + x) (by omega) (by omega), a.2.2.2]
theorem splice0 (at_ en : Int) (B l A : List Int) (hm : l.length ≤ 40000) (r : List Int × Int) : ∀ (suf pre out : List Int), l = pre ++ suf → out.length + suf.length ≤ 200000 →
    Ev (fun k => flux_Splice.l1 k at_ A en (out ++ suf.filter (fun x => decide (x ≤ at_))) B (B.length : Int) 0) r → Ev (fun k => flux_Splice.l0 k at_ A B en out l (l.length : Int) (pre.length : Int)) r
  | [], pre, out, hl, ho, hn => by
    refine Ev.step (fun k => ?_) (by simpa using hn)
    simp only [flux_Splice.l0]; rw [if_neg (at_end hl)]
  | x :: suf, pre, out, hl, ho, hn => by
    have a := at_mid hl (by omega)
    have hol : out.length < 17592186044416 := by omega
    by_cases h : x ≤ at_
    · have e : out ++ (x :: suf).filter (fun x => decide (x ≤ at_)) = (out ++ [x]) ++ suf.filter (fun x => decide (x ≤ at_)) := by simp [h]
      rw [e] at hn
      have ih := splice0 at_ en B l A hm r suf (pre ++ [x]) (out ++ [x]) (next_mid hl) (by simp at ho ⊢; omega) hn
      refine Ev.step (fun k => ?_) ih
      simp only [flux_Splice.l0]
      rw [if_pos a.2.1, if_pos a.1, if_pos a.2.1, a.2.2.1, if_pos h, if_pos hol, a.2.2.2]
    · have e : out ++ (x :: suf).filter (fun x => decide (x ≤ at_)) = out ++ suf.filter (fun x => decide (x ≤ at_)) := by simp [h]
      rw [e] at hn
      have ih := splice0 at_ en B l A hm r suf (pre ++ [x]) out (next_mid hl) (by simp at ho ⊢; omega) hn
      refine Ev.step (fun k => ?_) ih
      simp only [flux_Splice.l0]
      rw [if_pos a.2.1, if_pos a.1, if_pos a.2.1, a.2.2.1, if_neg h, a.2.2.2]
theorem splice_ev (t b : List Int) (a : Int) (hi : -9223372036854775808 ≤ a ∧ a ≤ 9223372036854775807) (ht : t.length ≤ 140737488355328) (hb : b.length ≤ 140737488355328) : Ev (fun k => flux_Splice.f k t b a) (spliceOf t b a) := by
  unfold flux_Splice.f spliceOf
  have hbad : ∀ A B, Ev (fun k => flux_Splice.j0 k b a A B true) ([], 1) := fun A B => Ev.done fun k => by simp [flux_Splice.j0]
  refine Ev.bind (marks_ev t ht) ?_
  by_cases c : ck t = 0
  · have v := ck_zero.1 c
    simp only [c, if_true]
    refine Ev.bind (marks_ev b hb) ?_
    by_cases c2 : ck b = 0
    · have v2 := ck_zero.1 c2
      simp only [c2, if_true]
      by_cases h1 : a < 0
      · rw [if_neg (by omega)]; exact Ev.pos h1 (hbad _ _)
      · refine Ev.neg h1 (Ev.bind (total_ev t ht) ?_)
        simp only [c, if_true]
        by_cases h2 : a > t.sum
        · rw [if_neg (by omega), decide_eq_true h2]; exact hbad _ _
        · rw [if_pos (by omega), decide_eq_false h2]
          refine Ev.step (fun k => by simp only [flux_Splice.j0]; rw [if_neg (by simp)]) (Ev.bind (total_ev b hb) ?_)
          simp only [c2, if_true]
          have s1 := sum_bound v.2
          have s2 := sum_bound v2.2
          have l1 := v.1
          have l2 := v2.1
          rw [w64 (a + b.sum) (by omega) (by omega)]
          have hcl : (cum 0 t).length ≤ 40000 := by rw [cum_length]; exact l1
          have hcl2 : (cum 0 b).length ≤ 40000 := by rw [cum_length]; exact l2
          have hbd := splL_bound t b a v v2 (by omega)
          unfold splL at hbd ⊢
          have f1 := List.length_filter_le (fun x => decide (x ≤ a)) (cum 0 t)
          refine splice0 a (a + b.sum) (cum 0 b) (cum 0 t) (cum 0 t) hcl _ (cum 0 t) [] [] rfl (by simp; omega) ?_
          refine splice1 a (a + b.sum) (cum 0 t) (cum 0 b) (by omega) hcl2 (cum_small v2) _ (cum 0 b) [] _ rfl (by simp; omega) ?_
          simp only [List.nil_append]
          rw [← List.append_assoc] at hbd ⊢
          refine splice2 (a + b.sum) (cum 0 t) hcl (cum 0 t) [] _ rfl (by simp; omega) hbd
    · simp only [c2, if_false]
      exact Ev.all fun k => rfl
  · simp only [c, if_false]
    exact Ev.all fun k => rfl
end Go.Proofs.Ytgiodeiibmbhhaa.BkFluxCells
