/- The pure statement of MfmPlain: bytes are written and read alike. -/
import Derived.Test.YtlgbhaigpecdoaaVPureMfmL
set_option linter.unusedVariables false
set_option linter.unusedSimpArgs false
namespace Go.Proofs.Ytlgbhaigpecdoaa.V
open Go

/-- Which error stands behind the parts: a mark is one. -/
def banE (l : List Part) (h : Int) : Int := if l.any (·.1) = true then 20 else h
theorem ban10 (a0 a1 : Int) (a2 : List Int) (a3 : Int) (a4 l : List Part) (a9 a10 : List Int) (h : Int) (hl : l.length ≤ 140737488355328) : f5_l10 a0 a1 a2 a3 a4 l ((List.length l : Nat) : Int) a9 a10 (h, (0 : Int)) = some (banE l h) := by
  unfold f5_l10
  have := loop_all (g := f5_l10_g a0 a1 a2 a3 a4 l ((List.length l : Nat) : Int) a9 a10) (false, (([] : List Int), ())) l (fun j (s : Int) => (s, (j : Int))) (fun j s => True) (fun s p => if p.1 = true then 20 else s) (y := banE l h)
    (fun j s hj hp => by
      refine ⟨?_, trivial⟩
      unfold f5_l10_g f5_l10_k
      simp only
      rw [dlt hj]
      simp only [cond_true]
      rw [if_pos (in_row hj), Int.toNat_natCast, wj (by omega)]
      cases (l.getD j (false, ([], ()))).1 <;> rfl)
    h trivial (x0 := (h, (0 : Int))) rfl (fun hp => by
      unfold f5_l10_g f5_l10_k
      simp only
      rw [dge]
      simp only [cond_false]
      have : ∀ (l : List Part) (s : Int), l.foldl (fun s (p : Part) => if p.1 = true then (20 : Int) else s) s = banE l s := by
        intro l
        induction l with
        | nil => intro s; rfl
        | cons p l ih =>
          intro s
          rw [List.foldl_cons, ih]
          unfold banE
          rw [List.any_cons]
          cases p.1 <;> cases l.any (·.1) <;> rfl
      rw [this])
  exact this.1
/-- Two parts: the second is a mark, as all parts behind the first are. -/
theorem marks_behind (K : List (List Cd)) : ∀ (last : Bool) (o r : List Part), (∀ p ∈ o.drop 1, p.1 = true) → foldE stepI (fun s => (.inr s.2 : Unit ⊕ List Part)) K (last, o) = .inr r → ∀ p ∈ r.drop 1, p.1 = true := by
  induction K with
  | nil => intro last o r ho hr; rw [foldE_nil] at hr; cases hr; exact ho
  | cons c K ih =>
    intro last o r ho hr
    rw [foldE_cons] at hr
    unfold stepI at hr
    by_cases c1 : pl last (bbC c) = c
    · rw [if_pos c1] at hr
      by_cases c2 : goodM c = true
      · rw [if_pos c2] at hr
        refine ih _ _ _ ?_ hr
        dsimp only
        generalize ((val8 c : Nat) : Int) = v
        unfold addPart
        by_cases hm : markOf c = true
        · rw [if_pos hm]
          cases o with
          | nil => intro p hp; simp at hp
          | cons q o =>
            intro p hp
            have ho : ∀ p ∈ o, p.1 = true := ho
            have hp : p ∈ o ++ [(true, ([], ()))] := hp
            rcases List.mem_append.1 hp with hp | hp
            · exact ho p hp
            · rw [List.mem_singleton.1 hp]
        · rw [if_neg hm]
          by_cases h0 : o.length = 0
          · rw [if_pos h0]; intro p hp; simp at hp
          · rw [if_neg h0]
            cases o with
            | nil => simp at h0
            | cons q o =>
              cases o with
              | nil => intro p hp; simp at hp
              | cons q2 o =>
                intro p hp
                have hlen : (q :: q2 :: o).length - 1 = o.length + 1 := by simp
                rw [hlen, List.set_cons_succ, List.drop_succ_cons, List.drop_zero] at hp
                obtain ⟨i, hi, e⟩ := List.getElem_of_mem hp
                rw [List.getElem_set] at e
                split at e
                · rw [← e]
                  have hm : (q :: q2 :: o).getD (o.length + 1) (false, ([], ())) ∈ (q2 :: o) := by
                    rw [List.getD_cons_succ]
                    exact getD_mem (by simp)
                  have ho : ∀ p ∈ q2 :: o, p.1 = true := ho
                  exact ho ((q :: q2 :: o).getD (o.length + 1) (false, ([], ()))) hm
                · rw [← e]
                  have ho : ∀ p ∈ q2 :: o, p.1 = true := ho
                  exact ho _ (List.getElem_mem _)
      · rw [if_neg c2] at hr; cases hr
    · rw [if_neg c1] at hr; cases hr
theorem readR_marks (t : List Int) (cell : Int) : ∀ p ∈ (readR t cell).1.drop 1, p.1 = true := by
  unfold readR
  have z : ∀ e : Int, ∀ p ∈ (([] : List Part), (e, ())).1.drop 1, p.1 = true := fun e p hp => by simp at hp
  by_cases c0 : (cellsR t cell 4).2.1 ≠ 0
  · rw [if_pos c0]; exact z _
  rw [if_neg c0]
  obtain ⟨L, hL, _, ht⟩ := cellsR_ok (Decidable.not_not.1 c0)
  rw [hL]
  simp only
  by_cases c1 : sumN L % 2 = 1 ∨ sumN L < 2
  · rw [if_pos c1]; exact z _
  rw [if_neg c1]
  by_cases c2 : (sumN L / 2 - 1) % 8 ≠ 0
  · rw [if_pos c2]; exact z _
  rw [if_neg c2]
  unfold closed
  cases hf : foldE stepI (fun s => (.inr s.2 : Unit ⊕ List Part)) (eights (unp L) ((sumN L / 2 - 1) / 8)) (true, []) with
  | inl u => exact z _
  | inr out =>
    simp only
    split
    · exact z _
    · rename_i o ho
      split at ho
      · cases ho
      · cases ho
        split
        · exact z _
        · exact marks_behind _ _ _ _ (by simp) hf
theorem readR_err (t : List Int) (cell : Int) (h : (readR t cell).2.1 ≠ 0) : (readR t cell).1 = [] := by
  unfold readR at h ⊢
  by_cases c0 : (cellsR t cell 4).2.1 ≠ 0
  · rw [if_pos c0]
  rw [if_neg c0] at h ⊢
  obtain ⟨L, hL, _, ht⟩ := cellsR_ok (Decidable.not_not.1 c0)
  rw [hL] at h ⊢
  simp only at h ⊢
  by_cases c1 : sumN L % 2 = 1 ∨ sumN L < 2
  · rw [if_pos c1]
  rw [if_neg c1] at h ⊢
  by_cases c2 : (sumN L / 2 - 1) % 8 ≠ 0
  · rw [if_pos c2]
  rw [if_neg c2] at h ⊢
  cases hc : closed (unp L) ((sumN L / 2 - 1) / 8) with
  | none => rfl
  | some out =>
    rw [hc] at h
    simp only at h ⊢
    split
    · rfl
    · rename_i h3
      rw [if_neg h3] at h
      exact absurd rfl h
/-- What is read of a track without marks. -/
def plainR (t : List Int) (cell : Int) : List Int × (Int × Unit) :=
  if banE (readR t cell).1 (readR t cell).2.1 ≠ 0 then ([], (banE (readR t cell).1 (readR t cell).2.1, ())) else (((readR t cell).1.getD 0 (false, ([], ()))).2.1, (0, ()))
theorem read35 (t : List Int) (cell : Int) : f35 t cell = some (plainR t cell, ()) := by
  unfold f35 f35_k plainR
  rw [read30]
  simp only [some_bind]
  have hm := readR_marks t cell
  have he := readR_err t cell
  generalize readR t cell = r at hm he
  obtain ⟨l, e, ⟨⟩⟩ := r
  dsimp only at hm he ⊢
  by_cases h0 : e ≠ 0
  · have hl := he h0
    subst hl
    rw [show (e != 0) = true from bne_iff_ne.2 h0]
    rw [if_pos (show banE [] e ≠ 0 from h0)]
    rfl
  have h0 : e = 0 := Decidable.not_not.1 h0
  subst h0
  simp only [bne_self_eq_false, cond_false]
  match l, hm with
  | [], _ => rfl
  | [p], _ =>
    obtain ⟨p1, p2, ⟨⟩⟩ := p
    cases p1 <;> rfl
  | p :: q :: l, hm =>
    have hq : q.1 = true := hm q (by simp)
    have e1 : ((((p :: q :: l).length : Nat) : Int) == 0) = false := beq_eq_false_iff_ne.2 (by simp only [List.length_cons]; omega)
    rw [e1, decide_eq_true (by simp only [List.length_cons]; omega : (((p :: q :: l).length : Nat) : Int) > 1)]
    have hb : banE (p :: q :: l) 0 = 20 := by
      unfold banE
      rw [List.any_cons, List.any_cons, hq]; simp
    rw [hb]; rfl
theorem Pure.MfmPlain (x0 : den (.slc (.int .u8))) (x1 : den (.slc (.int .i64))) (x2 : Int) (w0 : ∀ y0 ∈ x0, ((Lit.int .u8 y0).wf = true)) (s0 : List.length x0 * 1 ≤ 140737488351232 ∧ ∀ y0 ∈ x0, (True)) (w1 : ∀ y0 ∈ x1, ((Lit.int .i64 y0).wf = true)) (s1 : List.length x1 * 8 ≤ 140737488351232 ∧ ∀ y0 ∈ x1, (True)) (w2 : (Lit.int .i64 x2).wf = true) : f5 x0 x1 x2 = some ((true, ()), ()) := by
  have hb : byteL x0 := fun x hx => wf_u8 (w0 x hx)
  have hl := s0.1
  unfold f5 f5_k
  rw [begun28]
  simp only [some_bind, bne_self_eq_false, cond_false]
  rw [if_pos ⟨by decide, by simp⟩]
  rw [write28 x0 x2 hb (by omega), write31 [(false, (x0, ()))] x2 (by simp [tot, szP]; omega) (by simp), read35, read32]
  have hw := mfmW_len [(false, (x0, ()))] x2
  have hr := readR_ok x1 x2
  generalize mfmW [(false, (x0, ()))] x2 = W at hw
  simp only [some_bind, beq_self_eq_true, cond_true]
  rw [eq33 _ _ (by omega), ban10 _ _ _ _ _ _ _ _ _ (by omega)]
  simp only [some_bind, decide_true, cond_true]
  unfold plainR
  generalize readR x1 x2 = r at hr
  obtain ⟨l, e, ⟨⟩⟩ := r
  dsimp only at hr ⊢
  by_cases h0 : banE l e = 0
  · rw [h0]
    simp only [ne_eq, not_true_eq_false, if_false, beq_self_eq_true, cond_true]
    match l, hr with
    | [], _ =>
      simp only [List.length_nil]
      rw [show decide (((0 : Nat) : Int) > 0) = false from rfl]
      simp only [cond_false, List.getD_nil]
      rw [eq24 [] [] (by simp)]
      rfl
    | p :: l, hr =>
      rw [decide_eq_true (by simp only [List.length_cons]; omega : (((p :: l).length : Nat) : Int) > 0)]
      simp only [cond_true, List.getD_cons_zero]
      rw [if_pos ⟨by decide, by simp only [List.length_cons]; omega⟩, eq24 _ _ (by have := (hr.2 p (by simp)).1; omega)]
      simp
  · rw [if_pos h0, show (banE l e == 0) = false from beq_eq_false_iff_ne.2 h0]
    simp only [cond_false, beq_self_eq_true, cond_true]
    rw [eq24 [] [] (by simp)]
    rfl
end Go.Proofs.Ytlgbhaigpecdoaa.V
