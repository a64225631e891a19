/- Chains: the table, and the reference's directory. -/
import Derived.Test.YtmfjebpdkgbggaaVPureChainC
set_option linter.unusedVariables false
set_option linter.unusedSimpArgs false
namespace Go.Proofs.Ytmfjebpdkgbggaa.V
open Go
theorem flat_getD : ∀ {L : List (List Int)} (k : Nat), (∀ x ∈ L, x.length = 128) → k < L.length * 128 → L.flatten.getD k 0 = (L.getD (k / 128) []).getD (k % 128) 0
  | [], k, _, hk => by simp at hk
  | x :: L, k, h, hk => by
    have hx := h x (List.mem_cons_self ..)
    rw [List.flatten_cons]
    by_cases hlt : k < 128
    · rw [List.getD_eq_getElem?_getD, List.getElem?_append_left (by omega), ← List.getD_eq_getElem?_getD]
      have e1 : k / 128 = 0 := by omega
      have e2 : k % 128 = k := by omega
      rw [e1, e2]; rfl
    · rw [List.getD_eq_getElem?_getD, List.getElem?_append_right (by omega), ← List.getD_eq_getElem?_getD, hx]
      rw [flat_getD (L := L) (k - 128) (fun y hy => h y (List.mem_cons_of_mem _ hy)) (by rw [List.length_cons] at hk; omega)]
      have e1 : k / 128 = (k - 128) / 128 + 1 := by omega
      have e2 : k % 128 = (k - 128) % 128 := by omega
      rw [e1, e2]; rfl
theorem flat_len : ∀ {L : List (List Int)}, (∀ x ∈ L, x.length = 128) → L.flatten.length = L.length * 128
  | [], _ => rfl
  | x :: L, h => by
    rw [List.flatten_cons, List.length_append, h x (List.mem_cons_self ..), flat_len (L := L) (fun y hy => h y (List.mem_cons_of_mem _ hy)), List.length_cons]; omega
def tabL (d : Disk) : List Int := [d.2.2.1.getD 0 [], d.2.2.1.getD 1 []].flatten
theorem tab_rows {d : Disk} (h : GoodD d) : ∀ x ∈ [d.2.2.1.getD 0 [], d.2.2.1.getD 1 []], x.length = 128 := by
  intro x hx
  have hg := h.gt
  rcases List.mem_cons.1 hx with e | hx
  · rw [e]; exact h.len (by omega)
  · rw [List.mem_singleton.1 hx]; exact h.len (by omega)
theorem tabL_len {d : Disk} (h : GoodD d) : (tabL d).length = 256 := (flat_len (tab_rows h)).trans (by rw [List.length_cons, List.length_singleton])
theorem tabL_getD {d : Disk} (h : GoodD d) {i : Nat} (hi : i < 256) : (tabL d).getD i 0 = tb d i := by
  unfold tabL tb
  rw [flat_getD i (tab_rows h) (by simp; omega)]
  congr 1
  have : i / 128 = 0 ∨ i / 128 = 1 := by omega
  rcases this with e | e <;> rw [e] <;> rfl
def badT (d : Disk) (i : Nat) : Bool :=
  if i < 10 ∨ i ≥ d.2.2.1.length then decide (tb d i ≠ 253) else !decide (tb d i = 255 ∨ tb d i = 254 ∨ (10 ≤ tb d i ∧ tb d i < (d.2.2.1.length : Int)))
def tabM (d : Disk) : Bool := (List.range 256).any (badT d)
theorem tab_of {d : Disk} {Y : Type} {g : Int → Option (Int ⊕ (Unit ⊕ Unit))} (hin : ∀ j : Nat, j < 256 → g (j : Int) = some (if badT d j = true then .inr (.inl ()) else .inl ((j : Int) + 1))) (hout : g ((256 : Nat) : Int) = some (.inr (.inr ()))) :
    loopO g 0 = some (if tabM d = true then .inl () else .inr ()) := by
  rcases search (Y := Unit ⊕ Unit) (g := g) 256 (badT d) (fun m => .inl ()) (.inr ()) hin hout with ⟨m, m1, m2, m3, e⟩ | ⟨m1, e⟩
  · have : tabM d = true := List.any_eq_true.2 ⟨m, List.mem_range.2 m1, m2⟩
    rw [e, this]; rfl
  · have : tabM d = false := by
      unfold tabM
      rw [List.any_eq_false]
      intro x hx
      rw [m1 x (List.mem_range.1 hx)]; simp
    rw [e, this]; rfl
theorem badT_fix {d : Disk} {j : Nat} (hj : j < 10 ∨ j ≥ d.2.2.1.length) : badT d j = decide (tb d j ≠ 253) := by unfold badT; rw [if_pos hj]
theorem badT_no {d : Disk} {j : Nat} (hj : ¬ (j < 10 ∨ j ≥ d.2.2.1.length)) (h : tb d j = 255 ∨ tb d j = 254 ∨ (10 ≤ tb d j ∧ tb d j < (d.2.2.1.length : Int))) : badT d j = false := by
  unfold badT; rw [if_neg hj, decide_eq_true h]; rfl
theorem badT_yes {d : Disk} {j : Nat} (hj : ¬ (j < 10 ∨ j ≥ d.2.2.1.length)) (h : ¬ (tb d j = 255 ∨ tb d j = 254 ∨ (10 ≤ tb d j ∧ tb d j < (d.2.2.1.length : Int)))) : badT d j = true := by
  unfold badT; rw [if_neg hj, decide_eq_false h]; rfl
theorem tab118 {d : Disk} (h : GoodD d) : f68_l7 d 0 = some (if tabM d = true then .inl () else .inr ()) := by
  unfold f68_l7
  refine tab_of (Y := Unit) (fun j hj => ?_) ?_
  · have hb := tb_byte h hj
    have hg := h.gt
    have hle := h.le
    unfold f68_l7_g f68_l7_k
    rw [decide_eq_true (by omega)]
    simp only [cond_true]
    rw [table117 h hj, wj (by omega)]
    simp only [some_bind, Bool.true_beq]
    have e5 : (tb d j == 253) = decide (tb d j = 253) := by rw [Bool.eq_iff_iff]; simp
    rw [e5]
    by_cases a1 : j < 10
    · rw [decide_eq_true (p := (j : Int) < 10) (by omega), badT_fix (.inl a1)]
      by_cases a2 : tb d j = 253
      · simp [a2]
      · simp [a2]
    · rw [decide_eq_false (p := (j : Int) < 10) (by omega)]
      by_cases a3 : j ≥ d.2.2.1.length
      · rw [decide_eq_true (p := (j : Int) ≥ ((List.length d.2.2.1 : Nat) : Int)) (by omega), badT_fix (.inr a3)]
        by_cases a2 : tb d j = 253
        · simp [a2]
        · simp [a2]
      · rw [decide_eq_false (p := (j : Int) ≥ ((List.length d.2.2.1 : Nat) : Int)) (by omega)]
        by_cases a2 : tb d j = 253
        · rw [badT_yes (by omega) (by omega)]
          simp [a2]
        · by_cases a4 : tb d j < 253
          · by_cases a5 : tb d j < 10
            · rw [badT_yes (by omega) (by omega)]
              simp [a2, a4, a5]
            · by_cases a6 : (d.2.2.1.length : Int) ≤ tb d j
              · rw [badT_yes (by omega) (by omega)]
                simp [a2, a4, a5, a6]
              · rw [badT_no (by omega) (by omega)]
                simp [a2, a4, a5, a6]
          · rw [badT_no (by omega) (by omega)]
            simp [a2, a4]
  · unfold f68_l7_g f68_l7_k
    rfl
theorem tab116 {d : Disk} (h : GoodD d) (a0 : Disk) : f40_l9 ((List.length d.2.2.1 : Nat) : Int) ((List.length (tabL d) : Nat) : Int) a0 (tabL d) 0 = some (if tabM d = true then .inl () else .inr ()) := by
  unfold f40_l9
  refine tab_of (Y := Unit) (fun j hj => ?_) ?_
  · have hb := tb_byte h hj
    have hg := h.gt
    have hle := h.le
    have hl := tabL_len h
    unfold f40_l9_g f40_l9_k
    rw [hl, decide_eq_true (by omega)]
    simp only [cond_true]
    rw [if_pos ⟨by omega, by omega⟩, Int.toNat_natCast, tabL_getD h hj, wj (by omega)]
    rw [wi (n := tb d j) (by omega) (by omega)]
    have e3 : (tb d j == 253) = decide (tb d j = 253) := by rw [Bool.eq_iff_iff]; simp
    have e4 : (tb d j == 254) = decide (tb d j = 254) := by rw [Bool.eq_iff_iff]; simp
    have e5 : (tb d j == 255) = decide (tb d j = 255) := by rw [Bool.eq_iff_iff]; simp
    rw [e3, e4, e5]
    by_cases a1 : j < 10
    · rw [decide_eq_true (p := (j : Int) < 10) (by omega), badT_fix (.inl a1)]
      by_cases b1 : tb d j = 255 <;> by_cases b2 : tb d j = 254 <;> by_cases b3 : 10 ≤ tb d j <;> by_cases a2 : tb d j = 253 <;> simp [a2, b1, b2, b3]
    · rw [decide_eq_false (p := (j : Int) < 10) (by omega)]
      by_cases a3 : j ≥ d.2.2.1.length
      · rw [decide_eq_true (p := (j : Int) ≥ ((List.length d.2.2.1 : Nat) : Int)) (by omega), badT_fix (.inr a3)]
        by_cases b1 : tb d j = 255 <;> by_cases b2 : tb d j = 254 <;> by_cases b3 : 10 ≤ tb d j <;> by_cases a2 : tb d j = 253 <;> simp [a2, b1, b2, b3]
      · rw [decide_eq_false (p := (j : Int) ≥ ((List.length d.2.2.1 : Nat) : Int)) (by omega)]
        by_cases b1 : tb d j = 255
        · rw [badT_no (by omega) (by omega)]
          simp [b1]
        · by_cases b2 : tb d j = 254
          · rw [badT_no (by omega) (by omega)]
            simp [b1, b2]
          · by_cases b3 : 10 ≤ tb d j
            · by_cases b4 : tb d j < (d.2.2.1.length : Int)
              · rw [badT_no (by omega) (by omega)]
                simp [b1, b2, b3, b4]
              · rw [badT_yes (by omega) (by omega)]
                simp [b1, b2, b3, b4]
            · rw [badT_yes (by omega) (by omega)]
              simp [b1, b2, b3]
  · unfold f40_l9_g f40_l9_k
    rw [tabL_len h]
    rfl
end Go.Proofs.Ytmfjebpdkgbggaa.V
