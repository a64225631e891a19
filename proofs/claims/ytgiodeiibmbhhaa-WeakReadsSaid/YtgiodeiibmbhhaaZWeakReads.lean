/-
  Weak surfaces: checks, readings and the reference's answer as functions of lists of whole numbers. Conditions stand in each lemma.
-/
import Derived.Test.YtgiodeiibmbhhaaZFlux
import Derived.Test.YtgiodeiibmbhhaaPWeakReadsx0
import Derived.Test.YtgiodeiibmbhhaaPWeakReadsx1
import Derived.Test.YtgiodeiibmbhhaaPWeakReadsx2
import Derived.Test.YtgiodeiibmbhhaaPWeakReadsx3
import Derived.Test.YtgiodeiibmbhhaaPWeakReadsx4
import Derived.Test.YtgiodeiibmbhhaaPWeakReadsx5
import Derived.Test.YtgiodeiibmbhhaaPWeakReadsx6
set_option linter.unusedVariables false
set_option linter.unusedSimpArgs false
namespace Go.Proofs.Ytgiodeiibmbhhaa.BkWeakReads
open Go Go.RowKit Go.Proofs.YtgiodeiibmbhhaaW.PrintWords Go.Proofs.YtgiodeiibmbhhaaW.PrintLast Go.Proofs.YtgiodeiibmbhhaaW.PrintMore Go.Proofs.Ytgiodeiibmbhhaa.PWeakReads Go.Proofs.Ytgiodeiibmbhhaa.Bk
theorem slices_Equal_api_Track_int_loop (l r : List Int) (hm : l.length ≤ 140737488355328) : ∀ (suf suf' pre : List Int), l = pre ++ suf → r = pre ++ suf' → suf.length = suf'.length →
    Ev (fun k => slices_Equal_api_Track_int.l0 k l r (l.length : Int) (pre.length : Int)) (decide (suf = suf'))
  | [], [], pre, hl, hr, _ => Ev.done fun k => by simp only [slices_Equal_api_Track_int.l0]; rw [if_neg (at_end hl)]; rfl
  | [], _ :: _, _, _, _, h => by simp at h
  | _ :: _, [], _, _, _, h => by simp at h
  | x :: suf, y :: suf', pre, hl, hr, h => by
    have a := at_mid hl hm
    have hlen : l.length = r.length := by rw [hl, hr]; simp at h ⊢; exact h
    have b := at_mid hr (by omega)
    by_cases e : x = y
    · subst e
      have ih := slices_Equal_api_Track_int_loop l r hm suf suf' (pre ++ [x]) (next_mid hl) (next_mid hr) (by simpa using h)
      have e2 : decide (x :: suf = x :: suf') = decide (suf = suf') := by simp
      rw [e2]
      refine Ev.step (fun k => ?_) ih
      simp only [slices_Equal_api_Track_int.l0]
      rw [if_pos a.2.1, if_pos a.1, if_pos a.2.1, if_pos b.2.1, a.2.2.1, b.2.2.1, if_pos rfl, a.2.2.2]
    · refine Ev.done fun k => ?_
      simp only [slices_Equal_api_Track_int.l0]
      rw [if_pos a.2.1, if_pos a.1, if_pos a.2.1, if_pos b.2.1, a.2.2.1, b.2.2.1, if_neg e]
      simp [e]
theorem slices_Equal_api_Track_int_ev (l r : List Int) (hm : l.length ≤ 140737488355328) : Ev (fun k => slices_Equal_api_Track_int.f k l r) (decide (l = r)) := by
  by_cases h : l.length = r.length
  · refine Ev.congr (fun k => ?_) (slices_Equal_api_Track_int_loop l r hm l r [] rfl rfl h)
    unfold slices_Equal_api_Track_int.f
    rw [if_pos (by omega)]; rfl
  · refine Ev.all fun k => ?_
    unfold slices_Equal_api_Track_int.f
    rw [if_neg (by omega)]
    have : ¬ l = r := fun e => h (by rw [e])
    simp [this]
theorem fluxCheck_loop (l : List Int) (hm : l.length ≤ 140737488355328) : ∀ (suf pre : List Int), l = pre ++ suf → Ev (fun k => flux_Check.l0 k l (l.length : Int) (pre.length : Int)) (if suf.all okP then 0 else 1)
  | [], pre, hl => Ev.done fun k => by simp only [flux_Check.l0]; rw [if_neg (at_end hl)]; rfl
  | x :: suf, pre, hl => by
    have a := at_mid hl hm
    by_cases hx : 1 ≤ x ∧ x ≤ 100000
    · have ih := fluxCheck_loop l hm suf (pre ++ [x]) (next_mid hl)
      have e : (x :: suf).all okP = suf.all okP := by simp [okP, hx]
      rw [e]
      refine Ev.step (fun k => ?_) ih
      simp only [flux_Check.l0]
      rw [if_pos a.2.1, if_pos a.1, if_pos a.2.1, a.2.2.1, if_neg (by omega), if_neg (by omega), a.2.2.2]
    · have e : (x :: suf).all okP = false := by simp [okP, hx]
      rw [e]
      refine Ev.done fun k => ?_
      simp only [flux_Check.l0]
      rw [if_pos a.2.1, if_pos a.1, if_pos a.2.1, a.2.2.1]
      by_cases h1 : x < 1
      · rw [if_pos h1]; rfl
      · rw [if_neg h1, if_pos (by omega)]; rfl
theorem fluxCheck_ev (l : List Int) (hm : l.length ≤ 140737488355328) : Ev (fun k => flux_Check.f k l) (ck l) := by
  unfold ck
  by_cases h : 40000 < l.length
  · rw [if_pos h]; exact Ev.all fun k => by unfold flux_Check.f; rw [if_pos (by omega)]
  · rw [if_neg h]
    refine Ev.congr (fun k => ?_) (fluxCheck_loop l hm l [] rfl)
    unfold flux_Check.f; rw [if_neg (by omega)]; rfl
theorem trackErr1 (a : Int) : bakeref2_TrackErr_1.f a = some (!okP a) := by
  unfold bakeref2_TrackErr_1.f okP
  by_cases h : a ≤ 0
  · rw [if_pos h, decide_eq_false (by omega)]; rfl
  · rw [if_neg h]
    by_cases h2 : a > 100000
    · rw [decide_eq_true h2, decide_eq_false (by omega)]; rfl
    · rw [decide_eq_false h2, decide_eq_true (by omega)]; rfl
theorem trackErr_loop (l : List Int) (hm : l.length ≤ 140737488355328) : ∀ (suf pre : List Int), l = pre ++ suf →
    ∃ r : Int, (0 ≤ r ↔ suf.all okP = false) ∧ Ev (fun k => slices_IndexFunc_bakeref2_TrackErr_1.l0 k l (l.length : Int) (pre.length : Int)) r
  | [], pre, hl => ⟨-1, by simp, Ev.done fun k => by simp only [slices_IndexFunc_bakeref2_TrackErr_1.l0]; rw [if_neg (at_end hl)]⟩
  | x :: suf, pre, hl => by
    have a := at_mid hl hm
    cases hx : okP x with
    | true =>
      obtain ⟨r, h1, h2⟩ := trackErr_loop l hm suf (pre ++ [x]) (next_mid hl)
      refine ⟨r, by simpa [hx] using h1, Ev.step (fun k => ?_) h2⟩
      simp only [slices_IndexFunc_bakeref2_TrackErr_1.l0]
      rw [if_pos a.2.1, if_pos a.1, if_pos a.2.1, a.2.2.1, trackErr1, hx, a.2.2.2]
      rfl
    | false =>
      refine ⟨(pre.length : Int), by simp [hx], Ev.done fun k => ?_⟩
      simp only [slices_IndexFunc_bakeref2_TrackErr_1.l0]
      rw [if_pos a.2.1, if_pos a.1, if_pos a.2.1, a.2.2.1, trackErr1, hx]
      rfl
theorem trackErr_ev (l : List Int) (hm : l.length ≤ 140737488355328) : Ev (fun k => bakeref2_TrackErr.f k l) (ck l) := by
  unfold ck
  by_cases h : 40000 < l.length
  · rw [if_pos h]; exact Ev.all fun k => by unfold bakeref2_TrackErr.f; rw [if_pos (by omega)]
  · rw [if_neg h]
    obtain ⟨r, h1, h2⟩ := trackErr_loop l hm l [] rfl
    have hc : Ev (fun k => slices_ContainsFunc_bakeref2_TrackErr_1.f k l) (!l.all okP) := by
      unfold slices_ContainsFunc_bakeref2_TrackErr_1.f slices_IndexFunc_bakeref2_TrackErr_1.f
      refine Ev.bind h2 (Ev.all fun k => ?_)
      cases hq : l.all okP with
      | true => rw [decide_eq_false (fun h => by have := h1.1 h; rw [hq] at this; cases this)]; rfl
      | false => rw [decide_eq_true (show r ≥ 0 from h1.2 hq)]; rfl
    refine Ev.congr (f := fun k => (slices_ContainsFunc_bakeref2_TrackErr_1.f k l).bind fun t => if t = true then some 1 else some 0) (fun k => ?_) (Ev.bind hc (Ev.all fun k => ?_))
    · unfold bakeref2_TrackErr.f
      rw [if_neg (by omega)]
    · cases l.all okP <;> rfl
theorem marks_loop (l : List Int) (hv : Valid l) : ∀ (suf pre : List Int), l = pre ++ suf → Ev (fun k => flux_Marks.l0 k (cum 0 pre) pre.sum l (l.length : Int) (pre.length : Int)) (cum 0 l, 0)
  | [], pre, hl => Ev.done fun k => by simp only [flux_Marks.l0]; rw [if_neg (at_end hl)]; rw [hl]; simp
  | x :: suf, pre, hl => by
    have a := at_mid hl (by have := hv.1; omega)
    have hlen := len_mid' hl
    have hp := sum_bound (l := pre) (fun p hp => hv.2 p (by rw [hl]; simp [hp]))
    have hx := hv.2 x (by rw [hl]; simp)
    have h1 := hv.1
    have ih := marks_loop l hv suf (pre ++ [x]) (next_mid hl)
    rw [cum_snoc, List.sum_append, List.sum_singleton] at ih
    refine Ev.step (fun k => ?_) ih
    simp only [flux_Marks.l0]
    rw [if_pos a.2.1, if_pos a.1, if_pos a.2.1, a.2.2.1, if_pos (by rw [cum_length]; omega), a.2.2.2, w64 (pre.sum + x) (by omega) (by omega)]
    simp
theorem marks_ev (l : List Int) (hm : l.length ≤ 140737488355328) : Ev (fun k => flux_Marks.f k l) (if ck l = 0 then (cum 0 l, 0) else ([], ck l)) := by
  unfold flux_Marks.f
  refine Ev.bind (fluxCheck_ev l hm) ?_
  by_cases h : ck l = 0
  · simp only [h, if_true]
    exact marks_loop l (ck_zero.1 h) l [] rfl
  · simp only [h, if_false]
    exact Ev.all fun k => rfl
theorem fluxOf_loop (l : List Int) (hm : l.length ≤ 40000) (hi : ∀ x ∈ l, -9223372036854775808 ≤ x ∧ x ≤ 9223372036854775807) : ∀ (suf pre out : List Int) (at_ : Int), l = pre ++ suf → out.length = pre.length → 0 ≤ at_ →
    Ev (fun k => flux_Of.l0 k out at_ l (l.length : Int) (pre.length : Int)) (difA out at_ suf)
  | [], pre, out, at_, hl, ho, h0 => Ev.done fun k => by simp only [flux_Of.l0]; rw [if_neg (at_end hl)]; rfl
  | x :: suf, pre, out, at_, hl, ho, h0 => by
    have a := at_mid hl (by omega)
    have hlen := len_mid' hl
    have hx := hi x (by rw [hl]; simp)
    by_cases c1 : x ≤ at_
    · refine Ev.done fun k => ?_
      simp only [flux_Of.l0, difA]
      rw [if_pos a.2.1, if_pos a.1, if_pos a.2.1, a.2.2.1, if_pos c1, if_pos c1]
    · have w : wrap64 (x - at_) = x - at_ := w64 _ (by omega) (by omega)
      by_cases c2 : x - at_ > 100000
      · refine Ev.done fun k => ?_
        simp only [flux_Of.l0, difA]
        rw [if_pos a.2.1, if_pos a.1, if_pos a.2.1, a.2.2.1, if_neg c1, w, if_pos c2, if_neg c1, if_pos c2]
      · have ih := fluxOf_loop l hm hi suf (pre ++ [x]) (out ++ [x - at_]) x (next_mid hl) (by simp [ho]) (by omega)
        have e : difA out at_ (x :: suf) = difA (out ++ [x - at_]) x suf := by simp only [difA]; rw [if_neg c1, if_neg c2]
        rw [e]
        refine Ev.step (fun k => ?_) ih
        simp only [flux_Of.l0]
        rw [if_pos a.2.1, if_pos a.1, if_pos a.2.1, a.2.2.1, if_neg c1, w, if_neg c2, if_pos (by omega), a.2.2.2]
theorem fluxOf_ev (l : List Int) (hi : ∀ x ∈ l, -9223372036854775808 ≤ x ∧ x ≤ 9223372036854775807) : Ev (fun k => flux_Of.f k l) (ofL l) := by
  unfold ofL
  by_cases h : 40000 < l.length
  · rw [if_pos h]; exact Ev.all fun k => by unfold flux_Of.f; rw [if_pos (by omega)]
  · rw [if_neg h]
    refine Ev.congr (fun k => ?_) (fluxOf_loop l (by omega) hi l [] [] 0 rfl rfl (by omega))
    unfold flux_Of.f; rw [if_neg (by omega)]; rfl
theorem times_loop (l : List Int) (hv : Valid l) : ∀ (suf pre : List Int), l = pre ++ suf → Ev (fun k => bakeref2_Times.l0 k (cum 0 pre ++ List.replicate suf.length 0) l (l.length : Int) (pre.length : Int)) (cum 0 l)
  | [], pre, hl => Ev.done fun k => by simp only [bakeref2_Times.l0]; rw [if_neg (at_end hl)]; rw [hl]; simp
  | x :: suf, pre, hl => by
    have a := at_mid hl (by have := hv.1; omega)
    have hlen := len_mid' hl
    have hp := sum_bound (l := pre) (fun p hp => hv.2 p (by rw [hl]; simp [hp]))
    have hx := hv.2 x (by rw [hl]; simp)
    have h1 := hv.1
    have ih := times_loop l hv suf (pre ++ [x]) (next_mid hl)
    rw [cum_snoc, List.append_assoc, List.singleton_append] at ih
    have hr : List.replicate (x :: suf).length (0 : Int) = 0 :: List.replicate suf.length 0 := rfl
    have hcl : (cum 0 pre).length = pre.length := cum_length _ _
    have hs : ∀ v w : Int, (cum 0 pre ++ v :: List.replicate suf.length 0).set (pre.length : Int).toNat w = cum 0 pre ++ w :: List.replicate suf.length 0 := by
      intro v w
      rw [Int.toNat_natCast, ← hcl]; exact set_mid _ _ _ _
    have hl2 : ((cum 0 pre ++ 0 :: List.replicate suf.length (0 : Int)).length : Int) = (l.length : Int) := by
      simp only [List.length_append, List.length_cons, List.length_replicate, hcl]; omega
    refine Ev.step (fun k => ?_) ih
    simp only [bakeref2_Times.l0]
    rw [hr, if_pos a.2.1, if_pos a.1, if_pos a.2.1, hl2, if_pos a.2.1, a.2.2.1, a.2.2.2, hs, Option.bind_some]
    rcases nil_or_snoc pre with rfl | ⟨p', y, rfl⟩
    · simp [cum]
    · have e1 : cum 0 (p' ++ [y]) = cum 0 p' ++ [p'.sum + y] := by rw [cum_snoc]; simp
      have hq : ((p' ++ [y]).length : Int) = (p'.length : Int) + 1 := by simp
      have hw2 : wrap64 (((p' ++ [y]).length : Int) - 1) = (p'.length : Int) := by rw [hq, w64 _ (by omega) (by omega)]; omega
      have hrd1 : rd (cum 0 (p' ++ [y]) ++ x :: List.replicate suf.length 0) ((p' ++ [y]).length : Int) = x := rd_mid _ _ _ _ (by rw [cum_length])
      have hrd2 : rd (cum 0 (p' ++ [y]) ++ x :: List.replicate suf.length 0) (p'.length : Int) = (p' ++ [y]).sum := by
        rw [e1, List.append_assoc, List.singleton_append, rd_mid _ _ _ _ (by rw [cum_length])]
        simp
      rw [if_pos (by omega), hw2, if_pos (by omega), if_pos (by omega), hrd1, hrd2, hs, w64 _ (by omega) (by omega)]
      rw [show x + (p' ++ [y]).sum = 0 + (p' ++ [y]).sum + x by omega]
theorem times_ev (l : List Int) (hv : Valid l) : Ev (fun k => bakeref2_Times.f k l) (cum 0 l) := by
  have h1 := hv.1
  refine Ev.congr (fun k => ?_) (times_loop l hv l [] rfl)
  unfold bakeref2_Times.f
  rw [if_pos (by omega), if_pos (by omega)]
  simp [cum]
theorem between_loop (l : List Int) (hm : l.length ≤ 40000) (hi : ∀ x ∈ l, -9223372036854775808 ≤ x ∧ x ≤ 9223372036854775807) : ∀ (suf pre out : List Int) (at_ : Int), l = pre ++ suf → out.length = pre.length → 0 ≤ at_ → at_ ≤ 100000 * (pre.length : Int) →
    (pre = [] ∧ at_ = 0 ∨ ∃ p', pre = p' ++ [at_]) → Ev (fun k => bakeref2_Between.l0 k l out (l.length : Int) (pre.length : Int)) (difA out at_ suf)
  | [], pre, out, at_, hl, ho, h0, hb, hp => Ev.done fun k => by simp only [bakeref2_Between.l0]; rw [if_neg (at_end hl)]; rfl
  | x :: suf, pre, out, at_, hl, ho, h0, hb, hp => by
    have a := at_mid hl (by omega)
    have hlen := len_mid' hl
    have hx := hi x (by rw [hl]; simp)
    have hw : wrap64 (at_ + 100000) = at_ + 100000 := w64 _ (by omega) (by omega)
    have hj : Ev (fun k => bakeref2_Between.j1 k l out (pre.length : Int) at_ (l.length : Int) (pre.length : Int)) (difA out at_ (x :: suf)) := by
      by_cases c1 : x ≤ at_
      · refine Ev.done fun k => ?_
        simp only [bakeref2_Between.j1, difA]
        rw [if_pos a.1, if_pos a.2.1, a.2.2.1, if_pos c1, if_pos c1]
      · have w : wrap64 (x - at_) = x - at_ := w64 _ (by omega) (by omega)
        by_cases c2 : x - at_ > 100000
        · refine Ev.done fun k => ?_
          simp only [bakeref2_Between.j1, difA]
          rw [if_pos a.1, if_pos a.2.1, a.2.2.1, if_neg c1, hw, if_pos (by omega), if_neg c1, if_pos c2]
        · have ih := between_loop l hm hi suf (pre ++ [x]) (out ++ [x - at_]) x (next_mid hl) (by simp [ho]) (by omega) (by simp only [List.length_append, List.length_cons, List.length_nil]; omega) (.inr ⟨pre, rfl⟩)
          have e : difA out at_ (x :: suf) = difA (out ++ [x - at_]) x suf := by simp only [difA]; rw [if_neg c1, if_neg c2]
          rw [e]
          refine Ev.step (fun k => ?_) ih
          simp only [bakeref2_Between.j1]
          rw [if_pos a.1, if_pos a.2.1, a.2.2.1, if_neg c1, hw, if_neg (by omega), w, if_pos (by omega), a.2.2.2]
    refine Ev.step (fun k => ?_) hj
    simp only [bakeref2_Between.l0]
    rw [if_pos a.2.1]
    rcases hp with ⟨rfl, rfl⟩ | ⟨p', rfl⟩
    · simp
    · have hq : ((p' ++ [at_]).length : Int) = (p'.length : Int) + 1 := by simp
      have hw2 : wrap64 (((p' ++ [at_]).length : Int) - 1) = (p'.length : Int) := by rw [hq, w64 _ (by omega) (by omega)]; omega
      rw [if_pos (by omega), hw2, if_pos (by omega), if_pos (by omega)]
      rw [show rd l (p'.length : Int) = at_ by rw [hl, List.append_assoc]; exact rd_mid _ _ _ _ rfl]
theorem between_ev (l : List Int) (hi : ∀ x ∈ l, -9223372036854775808 ≤ x ∧ x ≤ 9223372036854775807) : Ev (fun k => bakeref2_Between.f k l) (ofL l) := by
  unfold ofL
  by_cases h : 40000 < l.length
  · rw [if_pos h]; exact Ev.all fun k => by unfold bakeref2_Between.f; rw [if_pos (by omega)]
  · rw [if_neg h]
    refine Ev.congr (fun k => ?_) (between_loop l (by omega) hi l [] [] 0 rfl rfl (by omega) (by simp) (.inl ⟨rfl, rfl⟩))
    unfold bakeref2_Between.f; rw [if_neg (by omega)]; rfl
/-! what a weak surface reads as, in plain words -/
theorem at_midS {l pre suf : List S122} {x : S122} (hl : l = pre ++ x :: suf) (hm : l.length ≤ 140737488355328) :
    (0 : Int) ≤ (pre.length : Int) ∧ (pre.length : Int) < (l.length : Int) ∧ rd_T122 l (pre.length : Int) = x ∧ wrap64 ((pre.length : Int) + 1) = ((pre ++ [x]).length : Int) := by
  have h1 : l.length = pre.length + 1 + suf.length := by rw [hl]; simp; omega
  refine ⟨by omega, by omega, by rw [hl]; simp [rd_T122], ?_⟩
  rw [w64 _ (by omega) (by omega)]
  simp
def spOk (n : Nat) : Int → List S122 → Int
  | _, [] => 0
  | c, s :: r => if s.f0 < c ∨ s.f1 < s.f0 ∨ (n : Int) < s.f1 then 9 else if s.f2 < 0 ∨ 100000 < s.f2 then 1 else spOk n s.f1 r
def surfOf (t : List Int) (l : List S122) : Int := if ck t = 0 then (if 32 < l.length then 2 else spOk t.length 0 l) else ck t
def isIn (i : Int) (z : S122) : Bool := decide (z.f0 ≤ i ∧ i < z.f1)
def fnd (l : List S122) (i : Int) : Option Int := (l.find? (isIn i)).map (·.f2)
def nxs (s : Int) : Int := IntKind.u64.wrap (IntKind.u64.wrap (s * 6364136223846793005) + 1442695040888963407)
def jit (b s : Int) : Int := s / 8589934592 % (2 * b + 1)
def nv (p x d : Int) (suf : List Int) : Int := mx (p + 1) (mn (match suf with | [] => x + 100000 | y :: _ => y - 1) (x + d))
def wk (l : List S122) : Nat → Int → Int → List Int → List Int
  | _, _, _, [] => []
  | i, p, s, x :: suf => match fnd l (i : Int) with
    | none => x :: wk l (i + 1) x s suf
    | some b => nv p x (jit b (nxs s) - b) suf :: wk l (i + 1) (nv p x (jit b (nxs s) - b) suf) (nxs s) suf
theorem u64_rng (x : Int) : 0 ≤ IntKind.u64.wrap x ∧ IntKind.u64.wrap x < 18446744073709551616 := by
  rw [IntKind.wrap_u64]
  omega
theorem u64_id (x : Int) (h0 : 0 ≤ x) (h1 : x < 18446744073709551616) : IntKind.u64.wrap x = x := by
  rw [IntKind.wrap_u64]
  omega
theorem nxs_rng (s : Int) : 0 ≤ nxs s ∧ nxs s < 18446744073709551616 := u64_rng _
theorem jit_rng (b s : Int) (hb : 0 ≤ b ∧ b ≤ 100000) (hs : 0 ≤ s) : 0 ≤ jit b s ∧ jit b s ≤ 2 * b := by
  unfold jit
  have h1 := Int.emod_nonneg (s / 8589934592) (show 2 * b + 1 ≠ 0 by omega)
  have h2 := Int.emod_lt_of_pos (s / 8589934592) (show 0 < 2 * b + 1 by omega)
  omega
theorem jitR (b s : Int) (hb : 0 ≤ b ∧ b ≤ 100000) (hs : 0 ≤ s) : wrap64 (wrap64 (Int.tmod (s / 8589934592) (IntKind.u64.wrap (wrap64 (wrap64 (2 * b) + 1)))) - b) = jit b s - b := by
  have h := jit_rng b s hb hs
  have hq : 0 ≤ s / 8589934592 := Int.ediv_nonneg hs (by decide)
  rw [w64 (2 * b) (by omega) (by omega), w64 (2 * b + 1) (by omega) (by omega), u64_id _ (by omega) (by omega), Int.tmod_eq_emod_of_nonneg hq]
  show wrap64 (wrap64 (jit b s) - b) = _
  generalize jit b s = j at *
  rw [w64 j (by omega) (by omega), w64 _ (by omega) (by omega)]
theorem jitW (x b s : Int) (hb : 0 ≤ b ∧ b ≤ 100000) (hs : 0 ≤ s ∧ s < 18446744073709551616) (hx : -1000000000000 ≤ x ∧ x ≤ 1000000000000) :
    wrap64 (wrap64 (x + wrap64 (Int.tmod (IntKind.u64.wrap (Int.tdiv s 8589934592)) (IntKind.u64.wrap (IntKind.u64.wrap (2 * IntKind.u64.wrap b) + 1)))) - b) = x + (jit b s - b) := by
  have h := jit_rng b s hb hs.1
  have hq : 0 ≤ s / 8589934592 := Int.ediv_nonneg hs.1 (by decide)
  have hq2 : s / 8589934592 < 18446744073709551616 := by omega
  rw [u64_id b (by omega) (by omega), u64_id (2 * b) (by omega) (by omega), u64_id (2 * b + 1) (by omega) (by omega), Int.tdiv_eq_ediv_of_nonneg hs.1, u64_id _ hq hq2, Int.tmod_eq_emod_of_nonneg hq]
  show wrap64 (wrap64 (x + wrap64 (jit b s)) - b) = _
  generalize jit b s = j at *
  rw [w64 j (by omega) (by omega), w64 (x + j) (by omega) (by omega), w64 _ (by omega) (by omega)]
  omega
theorem jitN (b : Int) (hb : 0 ≤ b ∧ b ≤ 100000) : ¬ IntKind.u64.wrap (wrap64 (wrap64 (2 * b) + 1)) = 0 := by
  rw [w64 (2 * b) (by omega) (by omega), w64 (2 * b + 1) (by omega) (by omega), u64_id _ (by omega) (by omega)]; omega
theorem jitN' (b : Int) (hb : 0 ≤ b ∧ b ≤ 100000) : ¬ IntKind.u64.wrap (IntKind.u64.wrap (2 * IntKind.u64.wrap b) + 1) = 0 := by
  rw [u64_id b (by omega) (by omega), u64_id (2 * b) (by omega) (by omega), u64_id (2 * b + 1) (by omega) (by omega)]; omega
theorem mx_sym (a b : Int) : mx a b = mx b a := by unfold mx; split <;> split <;> omega
theorem mn_sym (a b : Int) : mn a b = mn b a := by unfold mn; split <;> split <;> omega
theorem mx_ge (a b : Int) : a ≤ mx a b ∧ b ≤ mx a b := by unfold mx; split <;> omega
theorem mx_le (a b c : Int) (h1 : a ≤ c) (h2 : b ≤ c) : mx a b ≤ c := by unfold mx; split <;> omega
theorem mn_le (a b : Int) : mn a b ≤ a ∧ mn a b ≤ b := by unfold mn; split <;> omega
/-- a state of the reading: what is done, what is to come, the last time, the seed -/
def Gs (pre suf : List Int) (p s : Int) : Prop := (∀ x ∈ pre, 0 ≤ x ∧ x ≤ 4000200000) ∧ (∀ x ∈ suf, 0 ≤ x ∧ x ≤ 4000000000) ∧ (pre = [] ∧ p = 0 ∨ ∃ q, pre = q ++ [p]) ∧ (0 ≤ p ∧ p ≤ 4000100000 + pre.length) ∧ (0 ≤ s ∧ s < 18446744073709551616) ∧ pre.length + suf.length ≤ 40000
theorem Gs.skip {pre suf : List Int} {x p s : Int} (h : Gs pre (x :: suf) p s) : Gs (pre ++ [x]) suf x s := by
  obtain ⟨h1, h2, h3, h4, h5, h6⟩ := h
  have hx := h2 x (by simp)
  simp only [List.length_cons] at h6
  refine ⟨fun y hy => ?_, fun y hy => h2 y (by simp [hy]), .inr ⟨pre, rfl⟩, ?_, h5, ?_⟩
  · rcases List.mem_append.1 hy with hy | hy
    · exact h1 y hy
    · simp only [List.mem_singleton] at hy; omega
  · simp only [List.length_append, List.length_singleton]; omega
  · simp only [List.length_append, List.length_singleton]; omega
theorem nv_rng {p x d : Int} {suf : List Int} {m : Nat} (hp : 0 ≤ p ∧ p ≤ 4000100000 + (m : Int)) (hx : 0 ≤ x ∧ x ≤ 4000000000) (hd : d ≤ 100000) : 0 ≤ nv p x d suf ∧ nv p x d suf ≤ 4000100000 + ((m + 1 : Nat) : Int) := by
  unfold nv
  generalize (match suf with | [] => x + 100000 | y :: _ => y - 1) = hi
  have h1 := mx_ge (p + 1) (mn hi (x + d))
  have h2 := mn_le hi (x + d)
  have h3 := mx_le (p + 1) (mn hi (x + d)) (4000100000 + ((m + 1 : Nat) : Int)) (by omega) (by omega)
  omega
theorem Gs.take {pre suf : List Int} {x p s b : Int} (h : Gs pre (x :: suf) p s) (hb : 0 ≤ b ∧ b ≤ 100000) : Gs (pre ++ [nv p x (jit b (nxs s) - b) suf]) suf (nv p x (jit b (nxs s) - b) suf) (nxs s) := by
  obtain ⟨h1, h2, h3, h4, h5, h6⟩ := h
  have hx := h2 x (by simp)
  have hj := jit_rng b (nxs s) hb (nxs_rng s).1
  have hv := nv_rng (suf := suf) (d := jit b (nxs s) - b) h4 hx (by omega)
  simp only [List.length_cons] at h6
  generalize nv p x (jit b (nxs s) - b) suf = v at *
  refine ⟨fun y hy => ?_, fun y hy => h2 y (by simp [hy]), .inr ⟨pre, rfl⟩, ?_, nxs_rng s, ?_⟩
  · rcases List.mem_append.1 hy with hy | hy
    · exact h1 y hy
    · simp only [List.mem_singleton] at hy; omega
  · simp only [List.length_append, List.length_singleton]; exact hv
  · simp only [List.length_append, List.length_singleton]; omega
theorem Gs.rng {pre suf : List Int} {p s : Int} (h : Gs pre suf p s) : ∀ x ∈ pre ++ suf, -9223372036854775808 ≤ x ∧ x ≤ 9223372036854775807 := by
  intro x hx
  rcases List.mem_append.1 hx with hx | hx
  · have := h.1 x hx; omega
  · have := h.2.1 x hx; omega
theorem wk_nil (i : Nat) (p s : Int) : ∀ suf : List Int, wk [] i p s suf = suf
  | [] => rfl
  | x :: suf => by
    have := wk_nil (i + 1) x s suf
    simp [wk, fnd, this]
theorem wk_congr (l l' : List S122) : ∀ (suf : List Int) (i : Nat) (p s : Int), (∀ j : Nat, i ≤ j → fnd l (j : Int) = fnd l' (j : Int)) → wk l i p s suf = wk l' i p s suf
  | [], i, p, s, h => rfl
  | x :: suf, i, p, s, h => by
    have hi := h i (Nat.le_refl _)
    have ih := fun p s => wk_congr l l' suf (i + 1) p s (fun j hj => h j (by omega))
    simp only [wk]
    rw [hi]
    cases fnd l' (i : Int) with
    | none => simp only [ih]
    | some b => simp only [ih]
theorem wk_none (l : List S122) (i : Nat) (p s x : Int) (suf : List Int) (h : fnd l (i : Int) = none) : wk l i p s (x :: suf) = x :: wk l (i + 1) x s suf := by simp only [wk, h]
theorem wk_some (l : List S122) (i : Nat) (p s x b : Int) (suf : List Int) (h : fnd l (i : Int) = some b) : wk l i p s (x :: suf) = nv p x (jit b (nxs s) - b) suf :: wk l (i + 1) (nv p x (jit b (nxs s) - b) suf) (nxs s) suf := by simp only [wk, h]
theorem fnd_lt (n : Nat) : ∀ (l : List S122) (c i : Int), spOk n c l = 0 → i < c → fnd l i = none
  | [], _, _, _, _ => rfl
  | z :: r, c, i, h, hi => by
    unfold spOk at h
    split at h
    · omega
    · split at h
      · omega
      · have ih := fnd_lt n r z.f1 i h (by omega)
        have hz : isIn i z = false := by unfold isIn; rw [decide_eq_false_iff_not]; omega
        unfold fnd at ih ⊢
        rw [List.find?_cons_of_neg (by rw [hz]; simp)]
        exact ih
theorem fnd_in (z : S122) (r : List S122) (i : Int) (h : z.f0 ≤ i ∧ i < z.f1) : fnd (z :: r) i = some z.f2 := by
  have hz : isIn i z = true := by unfold isIn; rw [decide_eq_true_eq]; exact h
  unfold fnd; rw [List.find?_cons_of_pos hz]; rfl
theorem fnd_out (z : S122) (r : List S122) (i : Int) (h : ¬ (z.f0 ≤ i ∧ i < z.f1)) : fnd (z :: r) i = fnd r i := by
  have hz : isIn i z = false := by unfold isIn; rw [decide_eq_false_iff_not]; exact h
  unfold fnd; rw [List.find?_cons_of_neg (by rw [hz]; simp)]
theorem wk_skip (l : List S122) (s : Int) : ∀ (a b pre : List Int) (p : Int), (∀ j : Nat, pre.length ≤ j → j < pre.length + a.length → fnd l (j : Int) = none) → Gs pre (a ++ b) p s →
    ∃ p', Gs (pre ++ a) b p' s ∧ pre ++ wk l pre.length p s (a ++ b) = (pre ++ a) ++ wk l (pre ++ a).length p' s b
  | [], b, pre, p, h, g => ⟨p, by simpa using g, by simp⟩
  | x :: a, b, pre, p, h, g => by
    have hl : (pre ++ [x]).length = pre.length + 1 := by simp
    obtain ⟨p', g', e⟩ := wk_skip l s a b (pre ++ [x]) x (fun j h1 h2 => h j (by omega) (by simp only [List.length_cons]; omega)) g.skip
    have e1 : pre ++ x :: a = (pre ++ [x]) ++ a := by simp
    refine ⟨p', by rw [e1]; exact g', ?_⟩
    rw [e1, ← e, List.cons_append, wk_none _ _ _ _ _ _ (h pre.length (Nat.le_refl _) (by simp)), hl]
    simp
theorem wcheck_loop (t : List Int) (l : List S122) (hm : l.length ≤ 32) : ∀ (suf pre : List S122) (c : Int), l = pre ++ suf → Ev (fun k => weak_Check.l0 k c l (l.length : Int) (pre.length : Int) t l) (spOk t.length c suf)
  | [], pre, c, hl => Ev.done fun k => by simp only [weak_Check.l0]; rw [if_neg (at_end hl)]; rfl
  | z :: suf, pre, c, hl => by
    have a := at_midS hl (by omega)
    have ih := wcheck_loop t l hm suf (pre ++ [z]) z.f1 (next_mid hl)
    have hj : Ev (fun k => weak_Check.j1 k l (l.length : Int) (pre.length : Int) (decide (z.f0 < c ∨ z.f1 < z.f0 ∨ (t.length : Int) < z.f1)) t l z.f0 z.f1 z.f2) (spOk t.length c (z :: suf)) := by
      by_cases h1 : z.f0 < c ∨ z.f1 < z.f0 ∨ (t.length : Int) < z.f1
      · refine Ev.done fun k => ?_
        rw [decide_eq_true h1]; simp only [weak_Check.j1, spOk]; rw [if_pos trivial, if_pos h1]
      · rw [decide_eq_false h1]
        by_cases h2 : z.f2 < 0
        · refine Ev.done fun k => ?_
          simp only [weak_Check.j1, spOk]; rw [if_neg (by simp), if_pos h2, if_neg h1, if_pos (.inl h2)]
        · by_cases h3 : z.f2 > 100000
          · refine Ev.done fun k => ?_
            simp only [weak_Check.j1, spOk]; rw [if_neg (by simp), if_neg h2, if_pos h3, if_neg h1, if_pos (.inr h3)]
          · have e : spOk t.length c (z :: suf) = spOk t.length z.f1 suf := by simp only [spOk]; rw [if_neg h1, if_neg (by omega)]
            rw [e]
            refine Ev.step (fun k => ?_) ih
            simp only [weak_Check.j1]; rw [if_neg (by simp), if_neg h2, if_neg h3, a.2.2.2]
    refine Ev.step (fun k => ?_) hj
    simp only [weak_Check.l0]
    rw [if_pos a.2.1, if_pos a.1, if_pos a.2.1, a.2.2.1]
    by_cases h1 : z.f0 < c
    · rw [if_pos h1, decide_eq_true (Or.inl h1)]
    · rw [if_neg h1]
      by_cases h2 : z.f0 > z.f1
      · rw [if_pos h2, decide_eq_true (Or.inr (Or.inl h2))]
      · rw [if_neg h2]
        congr 1
        rw [decide_eq_decide]
        omega
theorem wcheck_ev (t : List Int) (l : List S122) (ht : t.length ≤ 140737488355328) : Ev (fun k => weak_Check.f k t l) (surfOf t l) := by
  unfold weak_Check.f surfOf
  refine Ev.bind (fluxCheck_ev t ht) ?_
  by_cases h : ck t = 0
  · rw [if_pos h]
    refine Ev.pos h ?_
    by_cases h2 : 32 < l.length
    · rw [if_pos h2]; exact Ev.pos (by omega) (Ev.all fun k => rfl)
    · rw [if_neg h2]; exact Ev.neg (by omega) (wcheck_loop t l (by omega) l [] 0 rfl)
  · rw [if_neg h]; exact Ev.neg h (Ev.all fun k => rfl)
theorem serr_loop (t : List Int) (l : List S122) (hm : l.length ≤ 32) : ∀ (suf pre : List S122) (c : Int), l = pre ++ suf → (pre = [] ∧ c = 0 ∨ ∃ q y, pre = q ++ [y] ∧ c = y.f1) → Ev (fun k => bakeref2_SurfaceErr.l0 k l (l.length : Int) (pre.length : Int) t l) (spOk t.length c suf)
  | [], pre, c, hl, _ => Ev.done fun k => by simp only [bakeref2_SurfaceErr.l0]; rw [if_neg (at_end hl)]; rfl
  | z :: suf, pre, c, hl, hc => by
    have a := at_midS hl (by omega)
    have ih := serr_loop t l hm suf (pre ++ [z]) z.f1 (next_mid hl) (.inr ⟨pre, z, rfl, rfl⟩)
    have hj2 : Ev (fun k => bakeref2_SurfaceErr.j2 k l (l.length : Int) (pre.length : Int) (decide (z.f0 < c ∨ z.f1 < z.f0 ∨ (t.length : Int) < z.f1)) t l z.f0 z.f1 z.f2) (spOk t.length c (z :: suf)) := by
      by_cases h1 : z.f0 < c ∨ z.f1 < z.f0 ∨ (t.length : Int) < z.f1
      · refine Ev.done fun k => ?_
        rw [decide_eq_true h1]; simp only [bakeref2_SurfaceErr.j2, spOk]; rw [if_pos trivial, if_pos h1]
      · rw [decide_eq_false h1]
        by_cases h2 : z.f2 < 0
        · refine Ev.done fun k => ?_
          simp only [bakeref2_SurfaceErr.j2, spOk]; rw [if_neg (by simp), if_pos h2, if_neg h1, if_pos (.inl h2)]
        · by_cases h3 : z.f2 > 100000
          · refine Ev.done fun k => ?_
            simp only [bakeref2_SurfaceErr.j2, spOk]; rw [if_neg (by simp), if_neg h2, if_pos h3, if_neg h1, if_pos (.inr h3)]
          · have e : spOk t.length c (z :: suf) = spOk t.length z.f1 suf := by simp only [spOk]; rw [if_neg h1, if_neg (by omega)]
            rw [e]
            refine Ev.step (fun k => ?_) ih
            simp only [bakeref2_SurfaceErr.j2]; rw [if_neg (by simp), if_neg h2, if_neg h3, a.2.2.2]
    have hj : Ev (fun k => bakeref2_SurfaceErr.j1 k c l (l.length : Int) (pre.length : Int) t l z.f0 z.f1 z.f2) (spOk t.length c (z :: suf)) := by
      refine Ev.step (fun k => ?_) hj2
      simp only [bakeref2_SurfaceErr.j1]
      by_cases h1 : z.f0 < c
      · rw [if_pos h1, decide_eq_true (Or.inl h1)]
      · rw [if_neg h1]
        by_cases h2 : z.f1 < z.f0
        · rw [if_pos h2, decide_eq_true (Or.inr (Or.inl h2))]
        · rw [if_neg h2]
          congr 1
          rw [decide_eq_decide]
          omega
    refine Ev.step (fun k => ?_) hj
    simp only [bakeref2_SurfaceErr.l0]
    rw [if_pos a.2.1, if_pos a.1, if_pos a.2.1, a.2.2.1]
    rcases hc with ⟨rfl, rfl⟩ | ⟨q, y, rfl, rfl⟩
    · rw [if_neg (by simp)]
    · have hq : ((q ++ [y]).length : Int) = (q.length : Int) + 1 := by simp
      have hw : wrap64 (((q ++ [y]).length : Int) - 1) = (q.length : Int) := by rw [hq, w64 _ (by omega) (by omega)]; omega
      have b : rd_T122 l (q.length : Int) = y := by rw [hl]; simp [rd_T122]
      rw [if_pos (by omega), hw, if_pos (by omega), if_pos (by omega), b]
theorem serr_ev (t : List Int) (l : List S122) (ht : t.length ≤ 140737488355328) : Ev (fun k => bakeref2_SurfaceErr.f k t l) (surfOf t l) := by
  unfold bakeref2_SurfaceErr.f surfOf
  refine Ev.bind (trackErr_ev t ht) ?_
  by_cases h : ck t = 0
  · rw [if_pos h]
    refine Ev.pos h ?_
    by_cases h2 : 32 < l.length
    · rw [if_pos h2]; exact Ev.pos (by omega) (Ev.all fun k => rfl)
    · rw [if_neg h2]; exact Ev.neg (by omega) (serr_loop t l (by omega) l [] 0 rfl (.inl ⟨rfl, rfl⟩))
  · rw [if_neg h]; exact Ev.neg h (Ev.all fun k => rfl)
theorem cat_len {pre suf : List Int} {x : Int} : ((pre ++ x :: suf).length : Int) = (pre.length : Int) + 1 + (suf.length : Int) := by simp only [List.length_append, List.length_cons]; omega
theorem set_at (pre suf : List Int) (x y : Int) : (pre ++ x :: suf).set (pre.length : Int).toNat y = pre ++ y :: suf := by rw [Int.toNat_natCast]; exact set_mid _ _ _ _
theorem rd_at (pre suf : List Int) (x : Int) : rd (pre ++ x :: suf) (pre.length : Int) = x := rd_mid _ _ _ _ rfl
theorem rd_at1 (pre suf : List Int) (x y : Int) : rd (pre ++ x :: y :: suf) ((pre.length : Int) + 1) = y := by
  have := rd_mid (pre ++ [x]) suf y ((pre.length : Int) + 1) (by simp)
  simpa using this
theorem rd_atp (q suf : List Int) (p x : Int) : rd ((q ++ [p]) ++ x :: suf) ((((q ++ [p]).length : Nat) : Int) - 1) = p := by
  have := rd_mid q (x :: suf) p ((((q ++ [p]).length : Nat) : Int) - 1) (by simp)
  simpa using this
theorem rdw_one (m : Nat) (h : m ≤ 40000) : wrap64 ((m : Int) + 1) = (m : Int) + 1 ∧ wrap64 ((m : Int) - 1) = (m : Int) - 1 := ⟨w64 _ (by omega) (by omega), w64 _ (by omega) (by omega)⟩
theorem vw (x d : Int) (hx : 0 ≤ x ∧ x ≤ 4000000000) (hd : -100000 ≤ d ∧ d ≤ 100000) : wrap64 (x + d) = x + d ∧ wrap64 (x - 1) = x - 1 ∧ wrap64 (x + 100000) = x + 100000 := ⟨w64 _ (by omega) (by omega), w64 _ (by omega) (by omega), w64 _ (by omega) (by omega)⟩
theorem pw (p : Int) (m : Nat) (hm : m ≤ 40000) (hp : 0 ≤ p ∧ p ≤ 4000100000 + (m : Int)) : wrap64 (p + 1) = p + 1 := w64 _ (by omega) (by omega)
theorem qpos (q : List Int) (p : Int) : 0 < (((q ++ [p]).length : Nat) : Int) := by simp only [List.length_append, List.length_singleton]; omega
theorem lenf (m : Nat) (L : Int) (h0 : 0 < (m : Int)) (h : (m : Int) < L) : 0 ≤ (m : Int) - 1 ∧ (m : Int) - 1 < L := by omega
theorem cat_one (pre : List Int) (x : Int) : ¬ (pre.length : Int) + 1 < (((pre ++ [x]).length : Nat) : Int) := by simp
theorem cat_two (pre suf : List Int) (x y : Int) : (pre.length : Int) + 1 < (((pre ++ x :: y :: suf).length : Nat) : Int) := by simp only [List.length_append, List.length_cons]; omega
theorem cat_lt (pre suf : List Int) (x : Int) : (pre.length : Int) < (((pre ++ x :: suf).length : Nat) : Int) := by simp only [List.length_append, List.length_cons]; omega
/-- one place of a span -/
theorem read_step (k : Nat) (pre suf : List Int) (x p s b : Int) (f t : Int) (l : List S122) (n q : Int) (g : Gs pre (x :: suf) p s) (hb : 0 ≤ b ∧ b ≤ 100000) (hi : (pre.length : Int) < t) :
    weak_Read.l1 (k + 1) (pre ++ x :: suf) s (pre.length : Int) l n q f t b = weak_Read.l1 k (pre ++ nv p x (jit b (nxs s) - b) suf :: suf) (nxs s) ((pre.length : Int) + 1) l n q f t b := by
  obtain ⟨h1, h2, h3, h4, h5, h6⟩ := g
  simp only [List.length_cons] at h6
  have hx := h2 x (by simp)
  have hj := jit_rng b (nxs s) hb (nxs_rng s).1
  have hd : -100000 ≤ jit b (nxs s) - b ∧ jit b (nxs s) - b ≤ 100000 := by omega
  have hm4 : pre.length ≤ 40000 := by omega
  have hR := jitR b (nxs s) hb (nxs_rng s).1
  have hN := jitN b hb
  have w1 := rdw_one pre.length hm4
  have c0 : (0 : Int) ≤ (pre.length : Int) := Int.natCast_nonneg _
  have c1 := cat_lt pre suf x
  have hv := vw x (jit b (nxs s) - b) hx hd
  have hn : (weak_next.f s) = some (nxs s) := rfl
  have c2 : (0 : Int) ≤ (pre.length : Int) + 1 := Int.add_nonneg c0 (by decide)
  have hp1 := pw p pre.length hm4 h4
  clear hj hd h4 h6 h5 h1
  generalize hjd : jit b (nxs s) - b = d at *
  clear hjd
  simp only [weak_Read.l1]
  rw [if_pos hi, hn, Option.bind_some, if_neg hN, if_pos c0, if_pos c1, w1.1, w1.2, hR, rd_at, hv.1]
  have e2 : ∀ v, (pre ++ x :: suf).set (pre.length : Int).toNat v = pre ++ v :: suf := fun v => set_at pre suf x v
  simp only [e2]
  rcases h3 with ⟨rfl, rfl⟩ | ⟨q', rfl⟩
  · rw [if_neg (by simp)]
    cases suf with
    | nil =>
      rw [if_neg (cat_one _ _), hv.2.2]
      rfl
    | cons y suf =>
      have hy := vw y 0 (h2 y (by simp)) (by decide)
      rw [if_pos (cat_two _ _ _ _), if_pos c2, rd_at1, hy.2.1]
      rfl
  · have hq := qpos q' p
    have hf := lenf _ _ hq c1
    rw [if_pos hq, if_pos hf.1, if_pos hf.2, rd_atp, hp1]
    cases suf with
    | nil =>
      rw [if_neg (cat_one _ _), hv.2.2]
      rfl
    | cons y suf =>
      have hy := vw y 0 (h2 y (by simp)) (by decide)
      rw [if_pos (cat_two _ _ _ _), if_pos c2, rd_at1, hy.2.1]
      rfl
theorem read_in (n : Nat) (z : S122) (rest l : List S122) (q : Int) (h2 : 0 ≤ z.f2 ∧ z.f2 ≤ 100000)
    (next : ∀ (pre suf : List Int) (p s : Int), (pre.length : Int) = z.f1 → pre.length + suf.length = n → Gs pre suf p s → Ev (fun k => weak_Read.l0 k (pre ++ suf) s l (l.length : Int) (wrap64 (q + 1))) (ofL (pre ++ wk rest pre.length p s suf))) :
    ∀ (m : Nat) (suf pre : List Int) (p s : Int), (pre.length : Int) + m = z.f1 → z.f0 ≤ pre.length → m ≤ suf.length → pre.length + suf.length = n → Gs pre suf p s →
    Ev (fun k => weak_Read.l1 k (pre ++ suf) s (pre.length : Int) l (l.length : Int) q z.f0 z.f1 z.f2) (ofL (pre ++ wk (z :: rest) pre.length p s suf)) := by
  intro m
  induction m with
  | zero =>
    intro suf pre p s hm hf hs hn g
    have e : wk (z :: rest) pre.length p s suf = wk rest pre.length p s suf := wk_congr _ _ suf _ p s (fun j hj => fnd_out z rest j (by omega))
    rw [e]
    refine Ev.step (fun k => ?_) (next pre suf p s (by omega) hn g)
    simp only [weak_Read.l1]
    rw [if_neg (by omega)]
  | succ m ih =>
    intro suf pre p s hm hf hs hn g
    match suf, hs, hn, g with
    | x :: suf, hs, hn, g =>
      have hl : (pre ++ [nv p x (jit z.f2 (nxs s) - z.f2) suf]).length = pre.length + 1 := by simp
      have i1 := ih suf (pre ++ [nv p x (jit z.f2 (nxs s) - z.f2) suf]) (nv p x (jit z.f2 (nxs s) - z.f2) suf) (nxs s) (by rw [hl]; omega) (by rw [hl]; omega) (by simp only [List.length_cons] at hs; omega) (by rw [hl]; simp only [List.length_cons] at hn; omega) (g.take h2)
      rw [wk_some _ _ _ _ _ _ _ (fnd_in z rest (pre.length : Int) (by omega))]
      have e : pre ++ nv p x (jit z.f2 (nxs s) - z.f2) suf :: wk (z :: rest) (pre.length + 1) (nv p x (jit z.f2 (nxs s) - z.f2) suf) (nxs s) suf = (pre ++ [nv p x (jit z.f2 (nxs s) - z.f2) suf]) ++ wk (z :: rest) (pre ++ [nv p x (jit z.f2 (nxs s) - z.f2) suf]).length (nv p x (jit z.f2 (nxs s) - z.f2) suf) (nxs s) suf := by rw [hl]; simp
      rw [e]
      refine Ev.step (fun k => ?_) i1
      rw [read_step k pre suf x p s z.f2 z.f0 z.f1 l _ q g h2 (by omega), hl]
      simp
theorem spOk_cons {n : Nat} {c : Int} {z : S122} {r : List S122} (h : spOk n c (z :: r) = 0) : c ≤ z.f0 ∧ z.f0 ≤ z.f1 ∧ z.f1 ≤ (n : Int) ∧ (0 ≤ z.f2 ∧ z.f2 ≤ 100000) ∧ spOk n z.f1 r = 0 := by
  unfold spOk at h
  split at h
  · omega
  · split at h
    · omega
    · refine ⟨by omega, by omega, by omega, by omega, h⟩
theorem split_at (suf : List Int) (m : Nat) (h : m ≤ suf.length) : ∃ a b, suf = a ++ b ∧ a.length = m := ⟨suf.take m, suf.drop m, (List.take_append_drop m suf).symm, by simp; omega⟩
theorem read_out (n : Nat) (l : List S122) (hm : l.length ≤ 32) : ∀ (todo done : List S122) (pre suf : List Int) (p s : Int), l = done ++ todo → spOk n (pre.length : Int) todo = 0 → pre.length + suf.length = n → Gs pre suf p s →
    Ev (fun k => weak_Read.l0 k (pre ++ suf) s l (l.length : Int) (done.length : Int)) (ofL (pre ++ wk todo pre.length p s suf))
  | [], done, pre, suf, p, s, hl, hk, hn, g => by
    rw [wk_nil]
    refine Ev.step (f := fun k => (flux_Of.f k (pre ++ suf)).bind fun bt => some (bt.1, bt.2)) (fun k => ?_) (Ev.bind (fluxOf_ev _ g.rng) (Ev.all fun k => rfl))
    simp only [weak_Read.l0]; rw [if_neg (at_end hl)]
  | z :: todo, done, pre, suf, p, s, hl, hk, hn, g => by
    have a := at_midS hl (by omega)
    obtain ⟨k1, k2, k3, k4, k5⟩ := spOk_cons hk
    obtain ⟨j, hj⟩ : ∃ j : Nat, (pre.length : Int) + j = z.f0 := ⟨(z.f0 - pre.length).toNat, by omega⟩
    obtain ⟨m, hm2⟩ : ∃ m : Nat, z.f0 + m = z.f1 := ⟨(z.f1 - z.f0).toNat, by omega⟩
    obtain ⟨u, v, rfl, hu⟩ := split_at suf j (by omega)
    rw [List.length_append] at hn
    obtain ⟨p', g', e⟩ := wk_skip (z :: todo) s u v pre p (fun i h1 h2 => by
      rw [fnd_out z todo i (by omega)]
      exact fnd_lt n todo z.f1 i k5 (by omega)) g
    rw [e, ← List.append_assoc]
    have hpl : ((pre ++ u).length : Int) = z.f0 := by rw [List.length_append]; omega
    have nx := read_in n z todo l (done.length : Int) k4 (fun pre2 suf2 p2 s2 e2 hn2 g2 => by
      have := read_out n l hm todo (done ++ [z]) pre2 suf2 p2 s2 (next_mid hl) (by rw [e2]; exact k5) hn2 g2
      rw [a.2.2.2]; exact this) m v (pre ++ u) p' s (by omega) (by omega) (by rw [List.length_append] at hpl; omega) (by rw [List.length_append]; omega) g'
    refine Ev.step (fun k => ?_) nx
    simp only [weak_Read.l0]
    rw [if_pos a.2.1, if_pos a.1, if_pos a.2.1, a.2.2.1, hpl]
theorem wread_ev (t : List Int) (l : List S122) (s : Int) (ht : t.length ≤ 140737488355328) (hok : surfOf t l = 0) : Ev (fun k => weak_Read.f k t l s) (ofL (wk l 0 0 (IntKind.u64.wrap s) (cum 0 t))) := by
  have hck : ck t = 0 := by unfold surfOf at hok; by_cases h : ck t = 0; exact h; rw [if_neg h] at hok; exact hok
  have hl32 : l.length ≤ 32 := by unfold surfOf at hok; rw [if_pos hck] at hok; split at hok <;> omega
  have hsp : spOk t.length 0 l = 0 := by unfold surfOf at hok; rw [if_pos hck, if_neg (by omega)] at hok; exact hok
  have hv := ck_zero.1 hck
  unfold weak_Read.f
  refine Ev.bind (wcheck_ev t l ht) (Ev.pos hok (Ev.bind (marks_ev t ht) ?_))
  rw [if_pos hck]
  have hs := u64_rng s
  have g : Gs [] (cum 0 t) 0 (IntKind.u64.wrap s) := ⟨by simp, cum_small hv, .inl ⟨rfl, rfl⟩, by simp, hs, by rw [cum_length]; simp; exact hv.1⟩
  have := read_out t.length l hl32 l [] [] (cum 0 t) 0 (IntKind.u64.wrap s) rfl (by simpa using hsp) (by rw [cum_length]; simp) g
  simpa using this
def ixS (q : Int) : List S122 → Int → Int
  | [], _ => -1
  | z :: r, i => if isIn i z = true then q else ixS (q + 1) r i
theorem ixS_none : ∀ (r : List S122) (q i : Int), fnd r i = none → ixS q r i = -1
  | [], _, _, _ => rfl
  | z :: r, q, i, h => by
    unfold fnd at h
    by_cases hz : isIn i z = true
    · rw [List.find?_cons_of_pos hz] at h; cases h
    · rw [List.find?_cons_of_neg hz] at h
      simp only [ixS]; rw [if_neg hz]
      exact ixS_none r (q + 1) i h
theorem ixS_some (l : List S122) : ∀ (r pre : List S122) (i b : Int), l = pre ++ r → fnd r i = some b → ∃ m : Nat, ixS (pre.length : Int) r i = (m : Int) ∧ m < l.length ∧ (rd_T122 l (m : Int)).f2 = b
  | [], _, _, _, _, h => by simp [fnd] at h
  | z :: r, pre, i, b, hl, h => by
    unfold fnd at h
    by_cases hz : isIn i z = true
    · rw [List.find?_cons_of_pos hz] at h
      refine ⟨pre.length, by simp only [ixS]; rw [if_pos hz], by rw [hl]; simp, ?_⟩
      have : rd_T122 l (pre.length : Int) = z := by rw [hl]; simp [rd_T122]
      rw [this]; simpa using h
    · rw [List.find?_cons_of_neg hz] at h
      obtain ⟨m, e, h1, h2⟩ := ixS_some l r (pre ++ [z]) i b (next_mid hl) h
      refine ⟨m, ?_, h1, h2⟩
      simp only [ixS]; rw [if_neg hz, ← e]; simp
theorem index_loop (l : List S122) (i : Int) (hm : l.length ≤ 32) : ∀ (suf pre : List S122), l = pre ++ suf → Ev (fun k => slices_IndexFunc_bakeref2_Weakly_1.l0 k l [i] (l.length : Int) (pre.length : Int)) (ixS (pre.length : Int) suf i)
  | [], pre, hl => Ev.done fun k => by simp only [slices_IndexFunc_bakeref2_Weakly_1.l0]; rw [if_neg (at_end hl)]; rfl
  | z :: suf, pre, hl => by
    have a := at_midS hl (by omega)
    have ih := index_loop l i hm suf (pre ++ [z]) (next_mid hl)
    have hr : rd [i] 0 = i := by simp [rd]
    have e : bakeref2_Weakly_1.f z.f0 z.f1 z.f2 [i] = some (isIn i z) := by
      unfold bakeref2_Weakly_1.f isIn
      rw [if_pos (by simp), hr]
      by_cases h : z.f0 ≤ i
      · rw [if_pos h]; congr 1; rw [decide_eq_decide]; omega
      · rw [if_neg h, decide_eq_false (fun h' => h h'.1)]
    by_cases hz : isIn i z = true
    · refine Ev.done fun k => ?_
      simp only [slices_IndexFunc_bakeref2_Weakly_1.l0, ixS]
      rw [if_pos a.2.1, if_pos a.1, if_pos a.2.1, a.2.2.1, e, Option.bind_some, if_pos hz, if_pos hz]
    · have e2 : ixS (pre.length : Int) (z :: suf) i = ixS ((pre ++ [z]).length : Int) suf i := by simp only [ixS]; rw [if_neg hz]; simp
      rw [e2]
      refine Ev.step (fun k => ?_) ih
      simp only [slices_IndexFunc_bakeref2_Weakly_1.l0]
      rw [if_pos a.2.1, if_pos a.1, if_pos a.2.1, a.2.2.1, e, Option.bind_some, if_neg hz, a.2.2.2]
theorem index_ev (l : List S122) (i : Int) (hm : l.length ≤ 32) : Ev (fun k => slices_IndexFunc_bakeref2_Weakly_1.f k l [i]) (ixS 0 l i) := index_loop l i hm l [] rfl
theorem weakly_low (m0 pre suf : List Int) (v p S n W L : Int) (t : List Int) (l : List S122) (R : List Int × Int) (hp : pre = [] ∧ p = 0 ∨ ∃ q, pre = q ++ [p]) (hb : 0 ≤ p ∧ p ≤ 4000100000 + (pre.length : Int)) (hm : pre.length ≤ 40000) (hL : (pre.length : Int) < L)
    (h : Ev (fun k => bakeref2_Weakly.l0 k m0 (pre ++ mx v (p + 1) :: suf) S n W t l) R) :
    Ev (fun k => if (pre.length : Int) > 0 then (if 0 ≤ wrap64 ((pre.length : Int) - 1) then (if wrap64 ((pre.length : Int) - 1) < L then (bakeref2_Weakly.l0 k m0 ((pre ++ v :: suf).set (pre.length : Int).toNat (mx (rd (pre ++ v :: suf) (pre.length : Int)) (wrap64 ((rd (pre ++ v :: suf) (wrap64 ((pre.length : Int) - 1))) + 1)))) S n W t l) else (none)) else (none)) else (bakeref2_Weakly.l0 k m0 ((pre ++ v :: suf).set (pre.length : Int).toNat (mx (rd (pre ++ v :: suf) (pre.length : Int)) 1)) S n W t l)) R := by
  have w1 := rdw_one pre.length hm
  have hp1 := pw p pre.length hm hb
  rw [w1.2, rd_at]
  rcases hp with ⟨rfl, rfl⟩ | ⟨q, rfl⟩
  · refine Ev.neg (by simp) ?_
    rw [set_at]; exact h
  · have hq := qpos q p
    have hf := lenf _ _ hq hL
    refine Ev.pos hq (Ev.pos hf.1 (Ev.pos hf.2 ?_))
    rw [rd_atp, hp1, set_at]; exact h
theorem nv_last (p x d : Int) (hd : d ≤ 100000) : mx (x + d) (p + 1) = nv p x d [] := by
  show mx (x + d) (p + 1) = mx (p + 1) (mn (x + 100000) (x + d))
  rw [mx_sym, mn_sym]
  congr 1
  unfold mn; split <;> omega
theorem nv_more (p x d y : Int) (suf : List Int) : mx (mn (x + d) (y - 1)) (p + 1) = nv p x d (y :: suf) := by
  unfold nv
  rw [mx_sym, mn_sym]
theorem weakly_loop (t m0 : List Int) (l : List S122) (hm : l.length ≤ 32) (hb : ∀ i b, fnd l i = some b → 0 ≤ b ∧ b ≤ 100000) : ∀ (suf pre0 pre : List Int) (p s : Int), m0 = pre0 ++ suf → pre.length = pre0.length → Gs pre suf p s →
    Ev (fun k => bakeref2_Weakly.l0 k m0 (pre ++ suf) s (m0.length : Int) (pre.length : Int) t l) (ofL (pre ++ wk l pre.length p s suf))
  | [], pre0, pre, p, s, hl, hpl, g => by
    have hn : ¬ (pre.length : Int) < (m0.length : Int) := by rw [hl, List.append_nil]; omega
    refine Ev.step (f := fun k => (bakeref2_Between.f k (pre ++ [])).bind fun bt => some (bt.1, bt.2)) (fun k => ?_) (Ev.bind (between_ev _ g.rng) (Ev.all fun k => rfl))
    simp only [bakeref2_Weakly.l0]; rw [if_neg hn]
  | x :: suf, pre0, pre, p, s, hl, hpl, g => by
    have hlen : m0.length = pre0.length + 1 + suf.length := len_mid' hl
    have hg6 := g.2.2.2.2.2
    have hs := g.2.2.2.2.1
    have hx := g.2.1 x (by simp)
    simp only [List.length_cons] at hg6
    have w1 := rdw_one pre.length (by omega)
    have hn : (pre.length : Int) < (m0.length : Int) := by omega
    have hl1 : (pre ++ [x]).length = (pre0 ++ [x]).length := by simp [hpl]
    have hc : (pre.length : Int) + 1 = (((pre ++ [x]).length : Nat) : Int) := by simp
    apply Ev.step
    case h =>
      intro k
      simp only [bakeref2_Weakly.l0]
      rw [if_pos hn]
    refine Ev.bind (index_ev l (pre.length : Int) hm) ?_
    cases hf : fnd l (pre.length : Int) with
    | none =>
      rw [ixS_none l 0 _ hf, wk_none _ _ _ _ _ _ hf, w1.1]
      refine Ev.pos (by decide) ?_
      have ih := weakly_loop t m0 l hm hb suf (pre0 ++ [x]) (pre ++ [x]) x s (next_mid hl) hl1 g.skip
      have e : pre ++ x :: wk l (pre.length + 1) x s suf = (pre ++ [x]) ++ wk l (pre ++ [x]).length x s suf := by simp
      rw [e, hc]
      have e2 : pre ++ x :: suf = (pre ++ [x]) ++ suf := by simp
      rw [e2]; exact ih
    | some b =>
      obtain ⟨m, e1, e2, e3⟩ := ixS_some l l [] (pre.length : Int) b rfl hf
      have e1' : ixS 0 l (pre.length : Int) = (m : Int) := e1
      have hbb := hb _ _ hf
      have hj := jit_rng b (nxs s) hbb (nxs_rng s).1
      have hW := jitW x b (nxs s) hbb (nxs_rng s) (by omega)
      have hx0 : rd m0 (pre.length : Int) = x := by rw [hpl, hl]; exact rd_at _ _ _
      have hcl : ((pre ++ x :: suf).length : Int) = (pre.length : Int) + 1 + (suf.length : Int) := cat_len
      rw [e1', wk_some _ _ _ _ _ _ _ hf, w1.1, e3]
      refine Ev.neg (by omega) (Ev.pos (by omega) (Ev.pos (by omega) (Ev.pos (by omega) (Ev.pos hn (Ev.neg (jitN' b hbb) (Ev.pos (by omega) ?_))))))
      refine Ev.bind (Ev.all fun k => rfl) ?_
      show Ev _ _
      have hW' : wrap64 (wrap64 (x + wrap64 (Int.tmod (IntKind.u64.wrap (Int.tdiv (IntKind.u64.wrap (IntKind.u64.wrap (s * 6364136223846793005) + 1442695040888963407)) 8589934592)) (IntKind.u64.wrap (IntKind.u64.wrap (2 * IntKind.u64.wrap b) + 1)))) - b) = x + (jit b (nxs s) - b) := hW
      rw [hx0, hW', set_at]
      have fin : ∀ v, v = nv p x (jit b (nxs s) - b) suf → Ev (fun k => bakeref2_Weakly.l0 k m0 (pre ++ v :: suf) (nxs s) (m0.length : Int) ((pre.length : Int) + 1) t l) (ofL (pre ++ nv p x (jit b (nxs s) - b) suf :: wk l (pre.length + 1) (nv p x (jit b (nxs s) - b) suf) (nxs s) suf)) := by
        intro v hv
        rw [hv]
        have ih := weakly_loop t m0 l hm hb suf (pre0 ++ [x]) (pre ++ [nv p x (jit b (nxs s) - b) suf]) (nv p x (jit b (nxs s) - b) suf) (nxs s) (next_mid hl) (by simp [hpl]) (g.take hbb)
        generalize nv p x (jit b (nxs s) - b) suf = v at *
        have q1 : pre ++ v :: wk l (pre.length + 1) v (nxs s) suf = (pre ++ [v]) ++ wk l (pre ++ [v]).length v (nxs s) suf := by simp
        have q2 : pre ++ v :: suf = (pre ++ [v]) ++ suf := by simp
        have q3 : (pre.length : Int) + 1 = (((pre ++ [v]).length : Nat) : Int) := by simp
        rw [q1, q2, q3]; exact ih
      match suf, hl, hlen, g, hcl, hg6, fin with
      | [], hl, hlen, g, hcl, hg6, fin =>
        refine Ev.neg (cat_one _ _) ?_
        exact weakly_low m0 pre [] (x + (jit b (nxs s) - b)) p _ _ _ _ t l _ g.2.2.1 g.2.2.2.1 (by omega) (cat_lt _ _ _) (fin _ (nv_last p x _ (by omega)))
      | y :: suf, hl, hlen, g, hcl, hg6, fin =>
        have hy := g.2.1 y (by simp)
        have hy0 : rd m0 ((pre.length : Int) + 1) = y := by rw [hpl, hl]; exact rd_at1 _ _ _ _
        refine Ev.pos (cat_two _ _ _ _) (Ev.pos (by omega) (Ev.pos (by simp only [List.length_cons] at hlen; omega) (Ev.bind (Ev.all fun k => rfl) ?_)))
        show Ev _ _
        rw [hy0, rd_at, (vw y 0 hy (by omega)).2.1, set_at]
        exact weakly_low m0 pre (y :: suf) (mn (x + (jit b (nxs s) - b)) (y - 1)) p _ _ _ _ t l _ g.2.2.1 g.2.2.2.1 (by omega) (cat_lt _ _ _) (fin _ (nv_more p x _ y suf))
theorem fnd_rng (n : Nat) : ∀ (l : List S122) (c i b : Int), spOk n c l = 0 → fnd l i = some b → 0 ≤ b ∧ b ≤ 100000
  | [], _, _, _, _, h => by simp [fnd] at h
  | z :: r, c, i, b, h, hf => by
    obtain ⟨k1, k2, k3, k4, k5⟩ := spOk_cons h
    by_cases hz : z.f0 ≤ i ∧ i < z.f1
    · rw [fnd_in z r i hz] at hf
      cases hf; exact k4
    · rw [fnd_out z r i hz] at hf
      exact fnd_rng n r z.f1 i b k5 hf
theorem weakly_ev (t : List Int) (l : List S122) (s : Int) (hok : surfOf t l = 0) : Ev (fun k => bakeref2_Weakly.f k t l s) (ofL (wk l 0 0 (IntKind.u64.wrap s) (cum 0 t))) := by
  have hck : ck t = 0 := by unfold surfOf at hok; by_cases h : ck t = 0; exact h; rw [if_neg h] at hok; exact hok
  have hl32 : l.length ≤ 32 := by unfold surfOf at hok; rw [if_pos hck] at hok; split at hok <;> omega
  have hsp : spOk t.length 0 l = 0 := by unfold surfOf at hok; rw [if_pos hck, if_neg (by omega)] at hok; exact hok
  have hv := ck_zero.1 hck
  have hs := u64_rng s
  have hcl : (cum 0 t).length = t.length := cum_length _ _
  have h40 := hv.1
  unfold bakeref2_Weakly.f
  refine Ev.bind (times_ev t hv) ?_
  have hc : slices_Clone_int_int.f (cum 0 t) = some (cum 0 t) := by
    unfold slices_Clone_int_int.f
    rw [Option.bind_some, if_pos (by simp; omega)]; simp
  rw [hc]
  refine Ev.bind (Ev.all fun k => rfl) ?_
  have g : Gs [] (cum 0 t) 0 (IntKind.u64.wrap s) := ⟨by simp, cum_small hv, .inl ⟨rfl, rfl⟩, by simp, hs, by rw [hcl]; simp; exact hv.1⟩
  have := weakly_loop t (cum 0 t) l hl32 (fun i b => fnd_rng t.length l 0 i b hsp) (cum 0 t) [] [] 0 (IntKind.u64.wrap s) rfl rfl g
  simpa using this
end Go.Proofs.Ytgiodeiibmbhhaa.BkWeakReads
