/- Mfm: rows and parts are compared; the fact to begin with. -/
import Derived.Test.YtlgbhaigpecdoaaVPureMfmE
set_option linter.unusedVariables false
set_option linter.unusedSimpArgs false
namespace Go.Proofs.Ytlgbhaigpecdoaa.V
open Go

theorem eq24 (a b : List Int) (h : a.length ≤ 140737488355328) : f24 a b = some ((decide (a = b), ()), ()) := by
  unfold f24 f24_k
  by_cases hl : a.length = b.length
  · have h0 : (((List.length a : Nat) : Int) != ((List.length b : Nat) : Int)) = false := by simp [hl]
    rw [h0]
    simp only [cond_false, f24_l4]
    rcases eq_loop (g := f24_l4_g a b ((List.length a : Nat) : Int)) 0 a b (fun j => a.getD j 0 != b.getD j 0) hl (fun j hj => by simp) (fun j hj => by
      unfold f24_l4_g f24_l4_k
      rw [dlt hj]
      simp only [cond_true]
      rw [if_pos (in_row hj), if_pos (in_row (by omega)), wi (by omega) (by omega)]
      simp only [Int.toNat_natCast]
      cases (a.getD j 0 != b.getD j 0) <;> rfl) (by
      unfold f24_l4_g f24_l4_k
      rw [dge]; rfl) with ⟨e1, e2⟩ | ⟨e1, e2⟩
    · rw [e2, decide_eq_true e1]; rfl
    · rw [e2, decide_eq_false e1]; rfl
  · have h0 : (((List.length a : Nat) : Int) != ((List.length b : Nat) : Int)) = true := by simp; omega
    rw [h0, decide_eq_false (fun e => hl (by rw [e]))]
    rfl
theorem eq33 (a b : List Int) (h : a.length ≤ 140737488355328) : f33 a b = some ((decide (a = b), ()), ()) := by
  unfold f33 f33_k
  by_cases hl : a.length = b.length
  · have h0 : (((List.length a : Nat) : Int) != ((List.length b : Nat) : Int)) = false := by simp [hl]
    rw [h0]
    simp only [cond_false, f33_l4]
    rcases eq_loop (g := f33_l4_g a b ((List.length a : Nat) : Int)) 0 a b (fun j => a.getD j 0 != b.getD j 0) hl (fun j hj => by simp) (fun j hj => by
      unfold f33_l4_g f33_l4_k
      rw [dlt hj]
      simp only [cond_true]
      rw [if_pos (in_row hj), if_pos (in_row (by omega)), wi (by omega) (by omega)]
      simp only [Int.toNat_natCast]
      cases (a.getD j 0 != b.getD j 0) <;> rfl) (by
      unfold f33_l4_g f33_l4_k
      rw [dge]; rfl) with ⟨e1, e2⟩ | ⟨e1, e2⟩
    · rw [e2, decide_eq_true e1]; rfl
    · rw [e2, decide_eq_false e1]; rfl
  · have h0 : (((List.length a : Nat) : Int) != ((List.length b : Nat) : Int)) = true := by simp; omega
    rw [h0, decide_eq_false (fun e => hl (by rw [e]))]
    rfl
theorem part94 (p q : Part) (h : p.2.1.length ≤ 140737488355328) : f94 p q = some ((decide (p = q), ()), ()) := by
  unfold f94 f94_k
  obtain ⟨p1, p2, ⟨⟩⟩ := p
  obtain ⟨q1, q2, ⟨⟩⟩ := q
  by_cases h1 : p1 = q1
  · rw [show ((p1, p2, ()) : Part).1 == ((q1, q2, ()) : Part).1 from beq_iff_eq.2 h1]
    simp only [cond_true]
    rw [eq24 _ _ h]
    simp [h1]
  · rw [show (((p1, p2, ()) : Part).1 == ((q1, q2, ()) : Part).1) = false from beq_eq_false_iff_ne.2 h1]
    simp [h1]
theorem eq93 (a b : List Part) (h : a.length ≤ 140737488355328) (hp : ∀ p ∈ a, p.2.1.length ≤ 140737488355328) : f93 a b () = some ((decide (a = b), ()), ()) := by
  unfold f93 f93_k
  by_cases hl : a.length = b.length
  · have h0 : (((List.length a : Nat) : Int) != ((List.length b : Nat) : Int)) = false := by simp [hl]
    rw [h0]
    simp only [cond_false, f93_l4]
    rcases eq_loop (g := f93_l4_g b a ((List.length a : Nat) : Int)) (false, (([] : List Int), ())) a b (fun j => !decide (a.getD j (false, ([], ())) = b.getD j (false, ([], ())))) hl (fun j hj => by simp) (fun j hj => by
      unfold f93_l4_g f93_l4_k
      rw [dlt hj]
      simp only [cond_true]
      rw [if_pos (in_row hj), if_pos (in_row (by omega)), wi (by omega) (by omega)]
      simp only [Int.toNat_natCast]
      rw [part94 _ _ (hp _ (getD_mem hj))]
      simp only [some_bind]
      cases decide (a.getD j (false, ([], ())) = b.getD j (false, ([], ()))) <;> rfl) (by
      unfold f93_l4_g f93_l4_k
      rw [dge]; rfl) with ⟨e1, e2⟩ | ⟨e1, e2⟩
    · rw [e2, decide_eq_true e1]; rfl
    · rw [e2, decide_eq_false e1]; rfl
  · have h0 : (((List.length a : Nat) : Int) != ((List.length b : Nat) : Int)) = true := by simp; omega
    rw [h0, decide_eq_false (fun e => hl (by rw [e]))]
    rfl
theorem write28 (b : List Int) (cell : Int) (hb : byteL b) (h : b.length ≤ 140737488355328) : f28 b cell = some (mfmW [(false, (b, ()))] cell, ()) := by
  unfold f28 f28_k
  rw [write29 _ cell (by intro p hp; simp at hp; subst hp; exact hb) (by simp) (by intro p hp; simp at hp; subst hp; exact h)]
  simp only [some_bind]
theorem begun28 : f28 [255] 10 = some (([20, 20, 20, 20, 20, 20, 20, 20, 20], (0, ())), ()) := by
  rw [write28 [255] 10 (by intro x hx; simp at hx; subst hx; omega) (by simp)]
  have : mfmW [(false, ([255], ()))] 10 = ([20, 20, 20, 20, 20, 20, 20, 20, 20], (0, ())) := by decide +kernel
  rw [this]
theorem mfmW_len (l : List Part) (cell : Int) : (mfmW l cell).1.length ≤ 40000 := by
  unfold mfmW
  split
  · simp
  · split
    · simp
    · rename_i h _
      have := lens_len (plcs true (bbE l)) 0
      have := bbE_len l (by omega)
      simp only [List.length_map]
      omega
theorem readR_ok (t : List Int) (cell : Int) : (readR t cell).1.length ≤ 20001 ∧ ∀ p ∈ (readR t cell).1, p.2.1.length ≤ 20001 ∧ byteL p.2.1 := by
  unfold readR
  have z : ∀ e : Int, (([] : List Part), (e, ())).1.length ≤ 20001 ∧ ∀ p ∈ (([] : List Part), (e, ())).1, p.2.1.length ≤ 20001 ∧ byteL p.2.1 := fun e => ⟨by simp, by intro p hp; cases hp⟩
  by_cases c0 : (cellsR t cell 4).2.1 ≠ 0
  · rw [if_pos c0]; exact z _
  rw [if_neg c0]
  obtain ⟨L, hL, _, ht⟩ := cellsR_ok (Decidable.not_not.1 c0)
  rw [hL]
  simp only
  by_cases c1 : sumN L % 2 = 1 ∨ sumN L < 2
  · rw [if_pos c1]; exact z _
  rw [if_neg c1]
  by_cases c2 : (sumN L / 2 - 1) % 8 ≠ 0
  · rw [if_pos c2]; exact z _
  rw [if_neg c2]
  cases hc : closed (unp L) ((sumN L / 2 - 1) / 8) with
  | none => exact z _
  | some out =>
    simp only
    split
    · exact z _
    · have hs := small_sum (small_of hL ht)
      obtain ⟨h1, h2, h3⟩ := closed_ok hc
      refine ⟨by dsimp only; omega, fun p hp => ⟨?_, h1 p hp⟩⟩
      have : p.2.1.length ≤ tot out := part_len hp
      omega
end Go.Proofs.Ytlgbhaigpecdoaa.V
