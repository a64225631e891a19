/-
  What the functions that FluxMoves uses come to, in plain words (models of ZFlux, ZFlux2). Conditions stand in each lemma.
-/
import Derived.Test.YtgiodeiibmbhhaaZFlux2
import Derived.Test.YtgiodeiibmbhhaaPFluxMovesx0
import Derived.Test.YtgiodeiibmbhhaaPFluxMovesx1
import Derived.Test.YtgiodeiibmbhhaaPFluxMovesx2
import Derived.Test.YtgiodeiibmbhhaaPFluxMovesx3
import Derived.Test.YtgiodeiibmbhhaaPFluxMovesx4
set_option linter.unusedVariables false
set_option linter.unusedSimpArgs false
namespace Go.Proofs.Ytgiodeiibmbhhaa.BkFluxMoves
open Go Go.RowKit Go.Proofs.YtgiodeiibmbhhaaW.PrintWords Go.Proofs.YtgiodeiibmbhhaaW.PrintLast Go.Proofs.YtgiodeiibmbhhaaW.PrintMore Go.Proofs.Ytgiodeiibmbhhaa.PFluxMoves Go.Proofs.Ytgiodeiibmbhhaa.Bk
theorem slices_Equal_api_Track_int_loop (l r : List Int) (hm : l.length ≤ 140737488355328) : ∀ (suf suf' pre : List Int), l = pre ++ suf → r = pre ++ suf' → suf.length = suf'.length →
    Ev (fun k => slices_Equal_api_Track_int.l0 k l r (l.length : Int) (pre.length : Int)) (decide (suf = suf'))
  | [], [], pre, hl, hr, _ => Ev.done fun k => by simp only [slices_Equal_api_Track_int.l0]; rw [if_neg (at_end hl)]; rfl
  | [], _ :: _, _, _, _, h => by simp at h
  | _ :: _, [], _, _, _, h => by simp at h
  | x :: suf, y :: suf', pre, hl, hr, h => by
    have a := at_mid hl hm
    have hlen : l.length = r.length := by rw [hl, hr]; simp at h ⊢; exact h
    have b := at_mid hr (by omega)
    by_cases e : x = y
    · subst e
      have ih := slices_Equal_api_Track_int_loop l r hm suf suf' (pre ++ [x]) (next_mid hl) (next_mid hr) (by simpa using h)
      have e2 : decide (x :: suf = x :: suf') = decide (suf = suf') := by simp
      rw [e2]
      refine Ev.step (fun k => ?_) ih
      simp only [slices_Equal_api_Track_int.l0]
      rw [if_pos a.2.1, if_pos a.1, if_pos a.2.1, if_pos b.2.1, a.2.2.1, b.2.2.1, if_pos rfl, a.2.2.2]
    · refine Ev.done fun k => ?_
      simp only [slices_Equal_api_Track_int.l0]
      rw [if_pos a.2.1, if_pos a.1, if_pos a.2.1, if_pos b.2.1, a.2.2.1, b.2.2.1, if_neg e]
      simp [e]
theorem slices_Equal_api_Track_int_ev (l r : List Int) (hm : l.length ≤ 140737488355328) : Ev (fun k => slices_Equal_api_Track_int.f k l r) (decide (l = r)) := by
  by_cases h : l.length = r.length
  · refine Ev.congr (fun k => ?_) (slices_Equal_api_Track_int_loop l r hm l r [] rfl rfl h)
    unfold slices_Equal_api_Track_int.f
    rw [if_pos (by omega)]; rfl
  · refine Ev.all fun k => ?_
    unfold slices_Equal_api_Track_int.f
    rw [if_neg (by omega)]
    have : ¬ l = r := fun e => h (by rw [e])
    simp [this]
theorem fluxCheck_loop (l : List Int) (hm : l.length ≤ 140737488355328) : ∀ (suf pre : List Int), l = pre ++ suf → Ev (fun k => flux_Check.l0 k l (l.length : Int) (pre.length : Int)) (if suf.all okP then 0 else 1)
  | [], pre, hl => Ev.done fun k => by simp only [flux_Check.l0]; rw [if_neg (at_end hl)]; rfl
  | x :: suf, pre, hl => by
    have a := at_mid hl hm
    by_cases hx : 1 ≤ x ∧ x ≤ 100000
    · have ih := fluxCheck_loop l hm suf (pre ++ [x]) (next_mid hl)
      have e : (x :: suf).all okP = suf.all okP := by simp [okP, hx]
      rw [e]
      refine Ev.step (fun k => ?_) ih
      simp only [flux_Check.l0]
      rw [if_pos a.2.1, if_pos a.1, if_pos a.2.1, a.2.2.1, if_neg (by omega), if_neg (by omega), a.2.2.2]
    · have e : (x :: suf).all okP = false := by simp [okP, hx]
      rw [e]
      refine Ev.done fun k => ?_
      simp only [flux_Check.l0]
      rw [if_pos a.2.1, if_pos a.1, if_pos a.2.1, a.2.2.1]
      by_cases h1 : x < 1
      · rw [if_pos h1]; rfl
      · rw [if_neg h1, if_pos (by omega)]; rfl
theorem fluxCheck_ev (l : List Int) (hm : l.length ≤ 140737488355328) : Ev (fun k => flux_Check.f k l) (ck l) := by
  unfold ck
  by_cases h : 40000 < l.length
  · rw [if_pos h]; exact Ev.all fun k => by unfold flux_Check.f; rw [if_pos (by omega)]
  · rw [if_neg h]
    refine Ev.congr (fun k => ?_) (fluxCheck_loop l hm l [] rfl)
    unfold flux_Check.f; rw [if_neg (by omega)]; rfl
theorem trackErr1 (a : Int) : bakeref2_TrackErr_1.f a = some (!okP a) := by
  unfold bakeref2_TrackErr_1.f okP
  by_cases h : a ≤ 0
  · rw [if_pos h, decide_eq_false (by omega)]; rfl
  · rw [if_neg h]
    by_cases h2 : a > 100000
    · rw [decide_eq_true h2, decide_eq_false (by omega)]; rfl
    · rw [decide_eq_false h2, decide_eq_true (by omega)]; rfl
theorem trackErr_loop (l : List Int) (hm : l.length ≤ 140737488355328) : ∀ (suf pre : List Int), l = pre ++ suf →
    ∃ r : Int, (0 ≤ r ↔ suf.all okP = false) ∧ Ev (fun k => slices_IndexFunc_bakeref2_TrackErr_1.l0 k l (l.length : Int) (pre.length : Int)) r
  | [], pre, hl => ⟨-1, by simp, Ev.done fun k => by simp only [slices_IndexFunc_bakeref2_TrackErr_1.l0]; rw [if_neg (at_end hl)]⟩
  | x :: suf, pre, hl => by
    have a := at_mid hl hm
    cases hx : okP x with
    | true =>
      obtain ⟨r, h1, h2⟩ := trackErr_loop l hm suf (pre ++ [x]) (next_mid hl)
      refine ⟨r, by simpa [hx] using h1, Ev.step (fun k => ?_) h2⟩
      simp only [slices_IndexFunc_bakeref2_TrackErr_1.l0]
      rw [if_pos a.2.1, if_pos a.1, if_pos a.2.1, a.2.2.1, trackErr1, hx, a.2.2.2]
      rfl
    | false =>
      refine ⟨(pre.length : Int), by simp [hx], Ev.done fun k => ?_⟩
      simp only [slices_IndexFunc_bakeref2_TrackErr_1.l0]
      rw [if_pos a.2.1, if_pos a.1, if_pos a.2.1, a.2.2.1, trackErr1, hx]
      rfl
theorem trackErr_ev (l : List Int) (hm : l.length ≤ 140737488355328) : Ev (fun k => bakeref2_TrackErr.f k l) (ck l) := by
  unfold ck
  by_cases h : 40000 < l.length
  · rw [if_pos h]; exact Ev.all fun k => by unfold bakeref2_TrackErr.f; rw [if_pos (by omega)]
  · rw [if_neg h]
    obtain ⟨r, h1, h2⟩ := trackErr_loop l hm l [] rfl
    have hc : Ev (fun k => slices_ContainsFunc_bakeref2_TrackErr_1.f k l) (!l.all okP) := by
      unfold slices_ContainsFunc_bakeref2_TrackErr_1.f slices_IndexFunc_bakeref2_TrackErr_1.f
      refine Ev.bind h2 (Ev.all fun k => ?_)
      cases hq : l.all okP with
      | true => rw [decide_eq_false (fun h => by have := h1.1 h; rw [hq] at this; cases this)]; rfl
      | false => rw [decide_eq_true (show r ≥ 0 from h1.2 hq)]; rfl
    refine Ev.congr (f := fun k => (slices_ContainsFunc_bakeref2_TrackErr_1.f k l).bind fun t => if t = true then some 1 else some 0) (fun k => ?_) (Ev.bind hc (Ev.all fun k => ?_))
    · unfold bakeref2_TrackErr.f
      rw [if_neg (by omega)]
    · cases l.all okP <;> rfl
theorem marks_loop (l : List Int) (hv : Valid l) : ∀ (suf pre : List Int), l = pre ++ suf → Ev (fun k => flux_Marks.l0 k (cum 0 pre) pre.sum l (l.length : Int) (pre.length : Int)) (cum 0 l, 0)
  | [], pre, hl => Ev.done fun k => by simp only [flux_Marks.l0]; rw [if_neg (at_end hl)]; rw [hl]; simp
  | x :: suf, pre, hl => by
    have a := at_mid hl (by have := hv.1; omega)
    have hlen := len_mid' hl
    have hp := sum_bound (l := pre) (fun p hp => hv.2 p (by rw [hl]; simp [hp]))
    have hx := hv.2 x (by rw [hl]; simp)
    have h1 := hv.1
    have ih := marks_loop l hv suf (pre ++ [x]) (next_mid hl)
    rw [cum_snoc, List.sum_append, List.sum_singleton] at ih
    refine Ev.step (fun k => ?_) ih
    simp only [flux_Marks.l0]
    rw [if_pos a.2.1, if_pos a.1, if_pos a.2.1, a.2.2.1, if_pos (by rw [cum_length]; omega), a.2.2.2, w64 (pre.sum + x) (by omega) (by omega)]
    simp
theorem marks_ev (l : List Int) (hm : l.length ≤ 140737488355328) : Ev (fun k => flux_Marks.f k l) (if ck l = 0 then (cum 0 l, 0) else ([], ck l)) := by
  unfold flux_Marks.f
  refine Ev.bind (fluxCheck_ev l hm) ?_
  by_cases h : ck l = 0
  · simp only [h, if_true]
    exact marks_loop l (ck_zero.1 h) l [] rfl
  · simp only [h, if_false]
    exact Ev.all fun k => rfl
theorem fluxOf_loop (l : List Int) (hm : l.length ≤ 40000) (hi : ∀ x ∈ l, -9223372036854775808 ≤ x ∧ x ≤ 9223372036854775807) : ∀ (suf pre out : List Int) (at_ : Int), l = pre ++ suf → out.length = pre.length → 0 ≤ at_ →
    Ev (fun k => flux_Of.l0 k out at_ l (l.length : Int) (pre.length : Int)) (difA out at_ suf)
  | [], pre, out, at_, hl, ho, h0 => Ev.done fun k => by simp only [flux_Of.l0]; rw [if_neg (at_end hl)]; rfl
  | x :: suf, pre, out, at_, hl, ho, h0 => by
    have a := at_mid hl (by omega)
    have hlen := len_mid' hl
    have hx := hi x (by rw [hl]; simp)
    by_cases c1 : x ≤ at_
    · refine Ev.done fun k => ?_
      simp only [flux_Of.l0, difA]
      rw [if_pos a.2.1, if_pos a.1, if_pos a.2.1, a.2.2.1, if_pos c1, if_pos c1]
    · have w : wrap64 (x - at_) = x - at_ := w64 _ (by omega) (by omega)
      by_cases c2 : x - at_ > 100000
      · refine Ev.done fun k => ?_
        simp only [flux_Of.l0, difA]
        rw [if_pos a.2.1, if_pos a.1, if_pos a.2.1, a.2.2.1, if_neg c1, w, if_pos c2, if_neg c1, if_pos c2]
      · have ih := fluxOf_loop l hm hi suf (pre ++ [x]) (out ++ [x - at_]) x (next_mid hl) (by simp [ho]) (by omega)
        have e : difA out at_ (x :: suf) = difA (out ++ [x - at_]) x suf := by simp only [difA]; rw [if_neg c1, if_neg c2]
        rw [e]
        refine Ev.step (fun k => ?_) ih
        simp only [flux_Of.l0]
        rw [if_pos a.2.1, if_pos a.1, if_pos a.2.1, a.2.2.1, if_neg c1, w, if_neg c2, if_pos (by omega), a.2.2.2]
theorem fluxOf_ev (l : List Int) (hi : ∀ x ∈ l, -9223372036854775808 ≤ x ∧ x ≤ 9223372036854775807) : Ev (fun k => flux_Of.f k l) (ofL l) := by
  unfold ofL
  by_cases h : 40000 < l.length
  · rw [if_pos h]; exact Ev.all fun k => by unfold flux_Of.f; rw [if_pos (by omega)]
  · rw [if_neg h]
    refine Ev.congr (fun k => ?_) (fluxOf_loop l (by omega) hi l [] [] 0 rfl rfl (by omega))
    unfold flux_Of.f; rw [if_neg (by omega)]; rfl
theorem between_loop (l : List Int) (hm : l.length ≤ 40000) (hi : ∀ x ∈ l, -9223372036854775808 ≤ x ∧ x ≤ 9223372036854775807) : ∀ (suf pre out : List Int) (at_ : Int), l = pre ++ suf → out.length = pre.length → 0 ≤ at_ → at_ ≤ 100000 * (pre.length : Int) →
    (pre = [] ∧ at_ = 0 ∨ ∃ p', pre = p' ++ [at_]) → Ev (fun k => bakeref2_Between.l0 k l out (l.length : Int) (pre.length : Int)) (difA out at_ suf)
  | [], pre, out, at_, hl, ho, h0, hb, hp => Ev.done fun k => by simp only [bakeref2_Between.l0]; rw [if_neg (at_end hl)]; rfl
  | x :: suf, pre, out, at_, hl, ho, h0, hb, hp => by
    have a := at_mid hl (by omega)
    have hlen := len_mid' hl
    have hx := hi x (by rw [hl]; simp)
    have hw : wrap64 (at_ + 100000) = at_ + 100000 := w64 _ (by omega) (by omega)
    have hj : Ev (fun k => bakeref2_Between.j1 k l out (pre.length : Int) at_ (l.length : Int) (pre.length : Int)) (difA out at_ (x :: suf)) := by
      by_cases c1 : x ≤ at_
      · refine Ev.done fun k => ?_
        simp only [bakeref2_Between.j1, difA]
        rw [if_pos a.1, if_pos a.2.1, a.2.2.1, if_pos c1, if_pos c1]
      · have w : wrap64 (x - at_) = x - at_ := w64 _ (by omega) (by omega)
        by_cases c2 : x - at_ > 100000
        · refine Ev.done fun k => ?_
          simp only [bakeref2_Between.j1, difA]
          rw [if_pos a.1, if_pos a.2.1, a.2.2.1, if_neg c1, hw, if_pos (by omega), if_neg c1, if_pos c2]
        · have ih := between_loop l hm hi suf (pre ++ [x]) (out ++ [x - at_]) x (next_mid hl) (by simp [ho]) (by omega) (by simp only [List.length_append, List.length_cons, List.length_nil]; omega) (.inr ⟨pre, rfl⟩)
          have e : difA out at_ (x :: suf) = difA (out ++ [x - at_]) x suf := by simp only [difA]; rw [if_neg c1, if_neg c2]
          rw [e]
          refine Ev.step (fun k => ?_) ih
          simp only [bakeref2_Between.j1]
          rw [if_pos a.1, if_pos a.2.1, a.2.2.1, if_neg c1, hw, if_neg (by omega), w, if_pos (by omega), a.2.2.2]
    refine Ev.step (fun k => ?_) hj
    simp only [bakeref2_Between.l0]
    rw [if_pos a.2.1]
    rcases hp with ⟨rfl, rfl⟩ | ⟨p', rfl⟩
    · simp
    · have hq : ((p' ++ [at_]).length : Int) = (p'.length : Int) + 1 := by simp
      have hw2 : wrap64 (((p' ++ [at_]).length : Int) - 1) = (p'.length : Int) := by rw [hq, w64 _ (by omega) (by omega)]; omega
      rw [if_pos (by omega), hw2, if_pos (by omega), if_pos (by omega)]
      rw [show rd l (p'.length : Int) = at_ by rw [hl, List.append_assoc]; exact rd_mid _ _ _ _ rfl]
theorem between_ev (l : List Int) (hi : ∀ x ∈ l, -9223372036854775808 ≤ x ∧ x ≤ 9223372036854775807) : Ev (fun k => bakeref2_Between.f k l) (ofL l) := by
  unfold ofL
  by_cases h : 40000 < l.length
  · rw [if_pos h]; exact Ev.all fun k => by unfold bakeref2_Between.f; rw [if_pos (by omega)]
  · rw [if_neg h]
    refine Ev.congr (fun k => ?_) (between_loop l (by omega) hi l [] [] 0 rfl rfl (by omega) (by simp) (.inl ⟨rfl, rfl⟩))
    unfold bakeref2_Between.f; rw [if_neg (by omega)]; rfl
theorem times_loop (l : List Int) (hv : Valid l) : ∀ (suf pre : List Int), l = pre ++ suf → Ev (fun k => bakeref2_Times.l0 k (cum 0 pre ++ List.replicate suf.length 0) l (l.length : Int) (pre.length : Int)) (cum 0 l)
  | [], pre, hl => Ev.done fun k => by simp only [bakeref2_Times.l0]; rw [if_neg (at_end hl)]; rw [hl]; simp
  | x :: suf, pre, hl => by
    have a := at_mid hl (by have := hv.1; omega)
    have hlen := len_mid' hl
    have hp := sum_bound (l := pre) (fun p hp => hv.2 p (by rw [hl]; simp [hp]))
    have hx := hv.2 x (by rw [hl]; simp)
    have h1 := hv.1
    have ih := times_loop l hv suf (pre ++ [x]) (next_mid hl)
    rw [cum_snoc, List.append_assoc, List.singleton_append] at ih
    have hr : List.replicate (x :: suf).length (0 : Int) = 0 :: List.replicate suf.length 0 := rfl
    have hcl : (cum 0 pre).length = pre.length := cum_length _ _
    have hs : ∀ v w : Int, (cum 0 pre ++ v :: List.replicate suf.length 0).set (pre.length : Int).toNat w = cum 0 pre ++ w :: List.replicate suf.length 0 := by
      intro v w
      rw [Int.toNat_natCast, ← hcl]; exact set_mid _ _ _ _
    have hl2 : ((cum 0 pre ++ 0 :: List.replicate suf.length (0 : Int)).length : Int) = (l.length : Int) := by
      simp only [List.length_append, List.length_cons, List.length_replicate, hcl]; omega
    refine Ev.step (fun k => ?_) ih
    simp only [bakeref2_Times.l0]
    rw [hr, if_pos a.2.1, if_pos a.1, if_pos a.2.1, hl2, if_pos a.2.1, a.2.2.1, a.2.2.2, hs, Option.bind_some]
    rcases nil_or_snoc pre with rfl | ⟨p', y, rfl⟩
    · simp [cum]
    · have e1 : cum 0 (p' ++ [y]) = cum 0 p' ++ [p'.sum + y] := by rw [cum_snoc]; simp
      have hq : ((p' ++ [y]).length : Int) = (p'.length : Int) + 1 := by simp
      have hw2 : wrap64 (((p' ++ [y]).length : Int) - 1) = (p'.length : Int) := by rw [hq, w64 _ (by omega) (by omega)]; omega
      have hrd1 : rd (cum 0 (p' ++ [y]) ++ x :: List.replicate suf.length 0) ((p' ++ [y]).length : Int) = x := rd_mid _ _ _ _ (by rw [cum_length])
      have hrd2 : rd (cum 0 (p' ++ [y]) ++ x :: List.replicate suf.length 0) (p'.length : Int) = (p' ++ [y]).sum := by
        rw [e1, List.append_assoc, List.singleton_append, rd_mid _ _ _ _ (by rw [cum_length])]
        simp
      rw [if_pos (by omega), hw2, if_pos (by omega), if_pos (by omega), hrd1, hrd2, hs, w64 _ (by omega) (by omega)]
      rw [show x + (p' ++ [y]).sum = 0 + (p' ++ [y]).sum + x by omega]
theorem times_ev (l : List Int) (hv : Valid l) : Ev (fun k => bakeref2_Times.f k l) (cum 0 l) := by
  have h1 := hv.1
  refine Ev.congr (fun k => ?_) (times_loop l hv l [] rfl)
  unfold bakeref2_Times.f
  rw [if_pos (by omega), if_pos (by omega)]
  simp [cum]
theorem speed_loop (a b : Int) (ha : 1 ≤ a ∧ a ≤ 1000) (hb : 1 ≤ b ∧ b ≤ 1000) (n : Nat) (hn : n ≤ 40000) : ∀ (suf done : List Int), done.length + suf.length = n → (∀ x ∈ suf, 0 ≤ x ∧ x ≤ 4000000000) → (∀ x ∈ done, -9223372036854775808 ≤ x ∧ x ≤ 9223372036854775807) →
    Ev (fun k => flux_Speed.l0 k a b (done ++ suf) (n : Int) (done.length : Int)) (ofL (done ++ suf.map (spd a b)))
  | [], done, h, _, hd => by
    refine Ev.step (f := fun k => (flux_Of.f k (done ++ [])).bind fun bt => some (bt.1, bt.2)) (fun k => ?_) ?_
    · simp only [flux_Speed.l0]
      rw [if_neg (by simp at h; omega)]
    · simp only [List.append_nil, List.map_nil]
      exact Ev.bind (fluxOf_ev done hd) (Ev.all fun k => rfl)
  | x :: suf, done, h, hx, hd => by
    have g := at_gap done suf x n h (by omega)
    have hx0 := hx x (List.mem_cons_self ..)
    have hb1 := spd_bound a b x ha hb hx0
    have ih := speed_loop a b ha hb n hn suf (done ++ [spd a b x]) (by simp at h ⊢; omega) (fun y hy => hx y (List.mem_cons_of_mem _ hy)) (fun y hy => by
      rcases List.mem_append.1 hy with hy | hy
      · exact hd y hy
      · simp only [List.mem_singleton] at hy; subst hy; omega)
    have e : done ++ (x :: suf).map (spd a b) = (done ++ [spd a b x]) ++ suf.map (spd a b) := by simp
    rw [e]
    refine Ev.step (fun k => ?_) ih
    simp only [flux_Speed.l0]
    rw [if_pos g.2.1, if_pos g.1, if_pos g.2.2.1, if_neg (by omega), g.2.2.2.1, spd_go a b x ha hb hx0, g.2.2.2.2.1, g.2.2.2.2.2 (spd a b x)]
theorem speed_ev (t : List Int) (a b : Int) (hm : t.length ≤ 140737488355328) : Ev (fun k => flux_Speed.f k t a b) (speedL t a b) := by
  unfold flux_Speed.f speedL
  refine Ev.bind (marks_ev t hm) ?_
  have hbad : ∀ M, Ev (fun k => flux_Speed.j0 k a b M true) ([], 1) := fun M => Ev.done fun k => by simp [flux_Speed.j0]
  by_cases c : ck t = 0
  · have v := ck_zero.1 c
    simp only [c, if_true]
    by_cases ha : 1 ≤ a ∧ a ≤ 1000
    · by_cases hb : 1 ≤ b ∧ b ≤ 1000
      · simp only [ha, hb, and_self, if_true]
        refine Ev.neg (by omega) (Ev.neg (by omega) (Ev.neg (by omega) ?_))
        rw [decide_eq_false (by omega)]
        refine Ev.step (fun k => by simp only [flux_Speed.j0]; rw [if_neg (by simp)]) ?_
        have := speed_loop a b ha hb (cum 0 t).length (by rw [cum_length]; exact v.1) (cum 0 t) [] (by simp) (cum_small v) (by simp)
        exact this
      · simp only [hb, and_false, if_false]
        refine Ev.neg (by omega) (Ev.neg (by omega) ?_)
        by_cases h1 : b < 1
        · exact Ev.pos h1 (hbad _)
        · refine Ev.neg h1 ?_
          rw [decide_eq_true (by omega)]
          exact hbad _
    · simp only [ha, false_and, if_false]
      by_cases h1 : a < 1
      · exact Ev.pos h1 (hbad _)
      · exact Ev.neg h1 (Ev.pos (by omega) (hbad _))
  · simp only [c, if_false]
    exact Ev.all fun k => rfl
theorem tmod_len (i n : Nat) (hn : 0 < n) : Int.tmod (i : Int) (n : Int) = ((i % n : Nat) : Int) := by
  rw [Int.tmod_eq_emod_of_nonneg (by omega)]; simp
theorem shake_loop (m : Int) (l : List Int) (hm : 0 ≤ m ∧ m ≤ 100000) (n : Nat) (hn : n ≤ 40000) : ∀ (suf done : List Int), done.length + suf.length = n → (∀ x ∈ suf, 0 ≤ x ∧ x ≤ 4000000000) → (∀ x ∈ done, -9223372036854775808 ≤ x ∧ x ≤ 9223372036854775807) →
    Ev (fun k => flux_Shake.l0 k l m (done ++ suf) (n : Int) (done.length : Int)) (ofL (done ++ shk m l done.length suf))
  | [], done, h, _, hd => by
    refine Ev.step (f := fun k => (flux_Of.f k (done ++ [])).bind fun bt => some (bt.1, bt.2)) (fun k => ?_) ?_
    · simp only [flux_Shake.l0]
      rw [if_neg (by simp at h; omega)]
    · simp only [List.append_nil, shk]
      exact Ev.bind (fluxOf_ev done hd) (Ev.all fun k => rfl)
  | x :: suf, done, h, hx, hd => by
    have g := at_gap done suf x n h (by omega)
    have hx0 := hx x (List.mem_cons_self ..)
    have hg := gap_bound m l done.length hm
    by_cases hl : l.length > 0
    · have ih := shake_loop m l hm n hn suf (done ++ [x + gap m l done.length]) (by simp at h ⊢; omega) (fun y hy => hx y (List.mem_cons_of_mem _ hy)) (fun y hy => by
        rcases List.mem_append.1 hy with hy | hy
        · exact hd y hy
        · simp only [List.mem_singleton] at hy; subst hy; omega)
      have e : done ++ shk m l done.length (x :: suf) = (done ++ [x + gap m l done.length]) ++ shk m l (done ++ [x + gap m l done.length]).length suf := by simp [shk, hl]
      rw [e]
      refine Ev.step (fun k => ?_) ih
      have hi : done.length % l.length < l.length := Nat.mod_lt _ hl
      simp only [flux_Shake.l0]
      rw [if_pos g.2.1, if_pos (by omega), if_pos g.1, if_pos g.2.2.1, if_neg (by omega), tmod_len _ _ hl, if_pos (by omega), if_pos (by omega), g.2.2.2.1, w64 (-m) (by omega) (by omega)]
      rw [show mx (-m) (mn m (rd l ((done.length % l.length : Nat) : Int))) = gap m l done.length from rfl, w64 (x + gap m l done.length) (by omega) (by omega), g.2.2.2.2.1, g.2.2.2.2.2 (x + gap m l done.length)]
    · have ih := shake_loop m l hm n hn suf (done ++ [x]) (by simp at h ⊢; omega) (fun y hy => hx y (List.mem_cons_of_mem _ hy)) (fun y hy => by
        rcases List.mem_append.1 hy with hy | hy
        · exact hd y hy
        · simp only [List.mem_singleton] at hy; subst hy; omega)
      have e : done ++ shk m l done.length (x :: suf) = (done ++ [x]) ++ shk m l (done ++ [x]).length suf := by simp [shk, hl]
      rw [e]
      refine Ev.step (fun k => ?_) ih
      simp only [flux_Shake.l0]
      rw [if_pos g.2.1, if_neg (by omega), g.2.2.2.2.2 x]
      simp
theorem shake_ev (t l : List Int) (m : Int) (hm : t.length ≤ 140737488355328) : Ev (fun k => flux_Shake.f k t l m) (shakeL t l m) := by
  unfold flux_Shake.f shakeL
  refine Ev.bind (marks_ev t hm) ?_
  have hbad : ∀ M, Ev (fun k => flux_Shake.j0 k l m M true) ([], 1) := fun M => Ev.done fun k => by simp [flux_Shake.j0]
  by_cases c : ck t = 0
  · have v := ck_zero.1 c
    simp only [c, if_true]
    by_cases ha : 0 ≤ m ∧ m ≤ 100000
    · simp only [ha, and_self, if_true]
      refine Ev.neg (by omega) ?_
      rw [decide_eq_false (by omega)]
      refine Ev.step (fun k => by simp only [flux_Shake.j0]; rw [if_neg (by simp)]) ?_
      have := shake_loop m l ha (cum 0 t).length (by rw [cum_length]; exact v.1) (cum 0 t) [] (by simp) (cum_small v) (by simp)
      exact this
    · simp only [ha, if_false]
      by_cases h1 : m < 0
      · exact Ev.pos h1 (hbad _)
      · refine Ev.neg h1 ?_
        rw [decide_eq_true (by omega)]
        exact hbad _
  · simp only [c, if_false]
    exact Ev.all fun k => rfl
end Go.Proofs.Ytgiodeiibmbhhaa.BkFluxMoves
