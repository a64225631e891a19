/-
  FluxMoves: for all tracks, speeds and shakes: Speed and Shake of package flux return what the law's own times, by the reference's functions, come to. No condition beyond the row's own.
-/
import Derived.Test.YtgiodeiibmbhhaaZFluxMoves
set_option linter.unusedVariables false
set_option linter.unusedSimpArgs false
namespace Go.Proofs.Ytgiodeiibmbhhaa.Pure
open Go Go.RowKit Go.Proofs.YtgiodeiibmbhhaaW.PrintWords Go.Proofs.YtgiodeiibmbhhaaW.PrintLast Go.Proofs.YtgiodeiibmbhhaaW.PrintMore Go.Proofs.Ytgiodeiibmbhhaa.PFluxMoves Go.Proofs.Ytgiodeiibmbhhaa.Bk Go.Proofs.Ytgiodeiibmbhhaa.BkFluxMoves
theorem fluxBegun_ev : Ev (fun k => bakelaw2_fluxBegun.f k) true := Ev.of bakelaw2_fluxBegun.mono (k := 40) (by decide +kernel)
theorem fin_ev (A B : List Int) (e f : Int) (hA : A.length ≤ 140737488355328) (hB : B.length ≤ 140737488355328) :
    Ev (fun k => (slices_Equal_api_Track_int.f k A A).bind fun t199 => (if t199 = true then ((slices_Equal_api_Track_int.f k B B).bind fun t200 => (some t200)) else (some false))) true := by
  refine Ev.bind (slices_Equal_api_Track_int_ev A A hA) ?_
  simp only [decide_true, if_true]
  refine Ev.bind (slices_Equal_api_Track_int_ev B B hB) (Ev.all fun k => ?_)
  simp
theorem loop1 (x3 : List Int) (m : Int) (hm : 0 ≤ m ∧ m ≤ 100000) (A : List Int) (e : Int) (B : List Int) (f : Int) (hA : A.length ≤ 140737488355328) (hB : B.length ≤ 140737488355328) (n : Nat) (hn : n ≤ 40000) : ∀ (suf done : List Int), done.length + suf.length = n → (∀ x ∈ suf, 0 ≤ x ∧ x ≤ 4000000000) → (∀ x ∈ done, -9223372036854775808 ≤ x ∧ x ≤ 9223372036854775807) →
    (B, f) = ofL (done ++ shk m x3 done.length suf) → Ev (fun k => bakelaw2_FluxMoves.l1 k x3 m A e B f A e (done ++ suf) (n : Int) (done.length : Int)) true
  | [], done, h, _, hd, hof => by
    refine Ev.step (fun k => by simp only [bakelaw2_FluxMoves.l1]; rw [if_neg (by simp at h; omega)]) ?_
    simp only [List.append_nil, shk] at hof ⊢
    refine Ev.bind (between_ev done hd) ?_
    rw [← hof]
    exact Ev.pos trivial (Ev.pos rfl (fin_ev A B e f hA hB))
  | x :: suf, done, h, hx, hd, hof => by
    have g := at_gap done suf x n h (by omega)
    have hx0 := hx x (List.mem_cons_self ..)
    have hg := gap_bound m x3 done.length hm
    by_cases hl : x3.length > 0
    · have e1 : done ++ shk m x3 done.length (x :: suf) = (done ++ [x + gap m x3 done.length]) ++ shk m x3 (done ++ [x + gap m x3 done.length]).length suf := by simp [shk, hl]
      rw [e1] at hof
      have ih := loop1 x3 m hm A e B f hA hB n hn suf (done ++ [x + gap m x3 done.length]) (by simp at h ⊢; omega) (fun y hy => hx y (List.mem_cons_of_mem _ hy)) (fun y hy => by
        rcases List.mem_append.1 hy with hy | hy
        · exact hd y hy
        · simp only [List.mem_singleton] at hy; subst hy; omega) hof
      refine Ev.step (fun k => ?_) ih
      have hi : done.length % x3.length < x3.length := Nat.mod_lt _ hl
      simp only [bakelaw2_FluxMoves.l1]
      rw [if_pos g.2.1, if_pos (by omega), if_pos g.1, if_pos g.2.2.1, if_neg (by omega), tmod_len _ _ hl, if_pos (by omega), if_pos (by omega), g.2.2.2.1, w64 (-m) (by omega) (by omega)]
      rw [gap_ref m x3 done.length hm, w64 (x + gap m x3 done.length) (by omega) (by omega), g.2.2.2.2.1, g.2.2.2.2.2 (x + gap m x3 done.length)]
    · have e1 : done ++ shk m x3 done.length (x :: suf) = (done ++ [x]) ++ shk m x3 (done ++ [x]).length suf := by simp [shk, hl]
      rw [e1] at hof
      have ih := loop1 x3 m hm A e B f hA hB n hn suf (done ++ [x]) (by simp at h ⊢; omega) (fun y hy => hx y (List.mem_cons_of_mem _ hy)) (fun y hy => by
        rcases List.mem_append.1 hy with hy | hy
        · exact hd y hy
        · simp only [List.mem_singleton] at hy; subst hy; omega) hof
      refine Ev.step (fun k => ?_) ih
      simp only [bakelaw2_FluxMoves.l1]
      rw [if_pos g.2.1, if_neg (by omega), g.2.2.2.2.2 x]
      simp
theorem loop0 (x0 : List Int) (a b : Int) (ha : 1 ≤ a ∧ a ≤ 1000) (hb : 1 ≤ b ∧ b ≤ 1000) (x3 : List Int) (m : Int) (A : List Int) (e : Int) (B : List Int) (f : Int) (n : Nat) (hn : n ≤ 40000)
    (hnext : Ev (fun k => bakelaw2_FluxMoves.j2 k x0 x3 m A e B f A [] e 1) true) : ∀ (suf done : List Int), done.length + suf.length = n → (∀ x ∈ suf, 0 ≤ x ∧ x ≤ 4000000000) → (∀ x ∈ done, -9223372036854775808 ≤ x ∧ x ≤ 9223372036854775807) →
    (A, e) = ofL (done ++ suf.map (spd a b)) → Ev (fun k => bakelaw2_FluxMoves.l0 k x0 a b x3 m A e B f [] 1 (done ++ suf) (n : Int) (done.length : Int)) true
  | [], done, h, _, hd, hof => by
    refine Ev.step (fun k => by simp only [bakelaw2_FluxMoves.l0]; rw [if_neg (by simp at h; omega)]) ?_
    simp only [List.append_nil, List.map_nil] at hof ⊢
    refine Ev.bind (between_ev done hd) ?_
    rw [← hof]
    exact hnext
  | x :: suf, done, h, hx, hd, hof => by
    have g := at_gap done suf x n h (by omega)
    have hx0 := hx x (List.mem_cons_self ..)
    have hb1 := spd_bound a b x ha hb hx0
    have e1 : done ++ (x :: suf).map (spd a b) = (done ++ [spd a b x]) ++ suf.map (spd a b) := by simp
    rw [e1] at hof
    have ih := loop0 x0 a b ha hb x3 m A e B f n hn hnext suf (done ++ [spd a b x]) (by simp at h ⊢; omega) (fun y hy => hx y (List.mem_cons_of_mem _ hy)) (fun y hy => by
      rcases List.mem_append.1 hy with hy | hy
      · exact hd y hy
      · simp only [List.mem_singleton] at hy; subst hy; omega) hof
    refine Ev.step (fun k => ?_) ih
    simp only [bakelaw2_FluxMoves.l0]
    rw [if_pos g.2.1, if_pos g.1, if_pos g.2.2.1, if_neg (by omega), g.2.2.2.1, spd_ref a b x ha hb hx0, g.2.2.2.2.1, g.2.2.2.2.2 (spd a b x)]
theorem FluxMoves : bakelaw2_FluxMoves.Pure := by
  intro x0 a b x3 m w0 s0 wa wb w3 s3 wm
  have h0 : x0.length ≤ 140737488355328 := by have := s0.1; omega
  have ia := i64_one wa
  have ib := i64_one wb
  have main : Ev (fun k => bakelaw2_FluxMoves.f k x0 a b x3 m) true := by
    unfold bakelaw2_FluxMoves.f
    refine Ev.bind fluxBegun_ev ?_
    simp only [if_true]
    refine Ev.bind (speed_ev x0 a b h0) (Ev.bind (shake_ev x0 x3 m h0) (Ev.bind (trackErr_ev x0 h0) ?_))
    by_cases c : ck x0 = 0
    · have v := ck_zero.1 c
      refine Ev.pos c ?_
      obtain ⟨A, e, hS⟩ : ∃ A e, speedL x0 a b = (A, e) := ⟨_, _, rfl⟩
      obtain ⟨B, f, hK⟩ : ∃ B f, shakeL x0 x3 m = (B, f) := ⟨_, _, rfl⟩
      rw [hS, hK]
      have hA : A.length ≤ 140737488355328 := by
        have : (speedL x0 a b).1.length ≤ 140737488355328 := by
          unfold speedL
          rw [if_pos c]
          split
          · refine Nat.le_trans (ofL_bound _) ?_; rw [List.length_map, cum_length]; exact h0
          · simp
        rw [hS] at this; exact this
      have hB : B.length ≤ 140737488355328 := by
        have : (shakeL x0 x3 m).1.length ≤ 140737488355328 := by
          unfold shakeL
          rw [if_pos c]
          split
          · refine Nat.le_trans (ofL_bound _) ?_; rw [shk_length, cum_length]; exact h0
          · simp
        rw [hK] at this; exact this
      have hcl : (cum 0 x0).length ≤ 40000 := by rw [cum_length]; exact v.1
      have j3t : 0 ≤ m ∧ m ≤ 100000 → Ev (fun k => bakelaw2_FluxMoves.j3 k x0 x3 m A e B f A [] e 1 true) true := by
        intro hm
        refine Ev.step (fun k => by simp only [bakelaw2_FluxMoves.j3]; rw [if_pos trivial]) ?_
        refine Ev.bind (times_ev x0 v) ?_
        refine loop1 x3 m hm A e B f hA hB (cum 0 x0).length hcl (cum 0 x0) [] (by simp) (cum_small v) (by simp) ?_
        rw [← hK]; unfold shakeL; rw [if_pos c, if_pos hm]; rfl
      have j3f : ¬ (0 ≤ m ∧ m ≤ 100000) → Ev (fun k => bakelaw2_FluxMoves.j3 k x0 x3 m A e B f A [] e 1 false) true := by
        intro hm
        have : (B, f) = ([], 1) := by rw [← hK]; unfold shakeL; rw [if_pos c, if_neg hm]
        obtain ⟨rfl, rfl⟩ := Prod.mk.inj this
        refine Ev.step (fun k => by simp only [bakelaw2_FluxMoves.j3]; rw [if_neg (by simp)]) ?_
        exact Ev.pos trivial (Ev.pos trivial (fin_ev A [] e 1 hA (by simp)))
      have j2 : Ev (fun k => bakelaw2_FluxMoves.j2 k x0 x3 m A e B f A [] e 1) true := by
        refine Ev.step (fun k => by rw [bakelaw2_FluxMoves.j2]) ?_
        by_cases h1 : m ≥ 0
        · refine Ev.pos h1 ?_
          by_cases h2 : m ≤ 100000
          · rw [decide_eq_true h2]; exact j3t ⟨h1, h2⟩
          · rw [decide_eq_false h2]; exact j3f (by omega)
        · exact Ev.neg h1 (j3f (by omega))
      have j0t : (1 ≤ a ∧ a ≤ 1000) ∧ (1 ≤ b ∧ b ≤ 1000) → Ev (fun k => bakelaw2_FluxMoves.j0 k x0 a b x3 m A e B f [] [] 1 1 true) true := by
        intro hab
        refine Ev.step (fun k => by simp only [bakelaw2_FluxMoves.j0]; rw [if_pos trivial]) ?_
        refine Ev.bind (times_ev x0 v) ?_
        refine loop0 x0 a b hab.1 hab.2 x3 m A e B f (cum 0 x0).length hcl j2 (cum 0 x0) [] (by simp) (cum_small v) (by simp) ?_
        rw [← hS]; unfold speedL; rw [if_pos c, if_pos hab]; rfl
      have j0f : ¬ ((1 ≤ a ∧ a ≤ 1000) ∧ (1 ≤ b ∧ b ≤ 1000)) → Ev (fun k => bakelaw2_FluxMoves.j0 k x0 a b x3 m A e B f [] [] 1 1 false) true := by
        intro hab
        have : (A, e) = ([], 1) := by rw [← hS]; unfold speedL; rw [if_pos c, if_neg hab]
        obtain ⟨rfl, rfl⟩ := Prod.mk.inj this
        refine Ev.step (fun k => by simp only [bakelaw2_FluxMoves.j0]; rw [if_neg (by simp)]) ?_
        exact j2
      by_cases h1 : mn a b > 0
      · refine Ev.pos h1 ?_
        by_cases h2 : mx a b ≤ 1000
        · rw [decide_eq_true h2]; refine j0t ?_; unfold mn at h1; unfold mx at h2; split at h1 <;> split at h2 <;> omega
        · rw [decide_eq_false h2]; refine j0f ?_; unfold mx at h2; split at h2 <;> omega
      · refine Ev.neg h1 (j0f ?_); unfold mn at h1; split at h1 <;> omega
    · refine Ev.neg c ?_
      have e1 : speedL x0 a b = ([], ck x0) := by unfold speedL; rw [if_neg c]
      have e2 : shakeL x0 x3 m = ([], ck x0) := by unfold shakeL; rw [if_neg c]
      rw [e1, e2]
      refine Ev.pos rfl (Ev.pos rfl (Ev.all fun k => ?_))
      rw [w64 _ (by simp) (by simp)]
      simp
  exact main.rounds
end Go.Proofs.Ytgiodeiibmbhhaa.Pure
