/- Mfm: rows and parts are compared; the fact to begin with. -/
import Derived.Test.YtlgbhaigpecdoaaVPureMfmE
set_option linter.unusedVariables false
set_option linter.unusedSimpArgs false
namespace Go.Proofs.Ytlgbhaigpecdoaa.V
open Go
theorem eq24 (a b : List Int) (h : a.length ≤ 140737488355328) : f24 a b = some ((decide (a = b), ()), ()) := by
  unfold f24 f24_k
  by_cases hl : a.length = b.length
  · have h0 : (((List.length a : Nat) : Int) != ((List.length b : Nat) : Int)) = false := by simp [hl]
    rw [h0]
    simp only [cond_false, f24_l4]
    rcases eq_loop (g := f24_l4_g a b ((List.length a : Nat) : Int)) 0 a b (fun j => a.getD j 0 != b.getD j 0) hl (fun j hj => by simp) (fun j hj => by
      unfold f24_l4_g f24_l4_k
      rw [dlt hj]
      simp only [cond_true]
      rw [if_pos (in_row hj), if_pos (in_row (by omega)), wi (by omega) (by omega)]
      simp only [Int.toNat_natCast]
      cases (a.getD j 0 != b.getD j 0) <;> rfl) (by
      unfold f24_l4_g f24_l4_k
      rw [dge]; rfl) with ⟨e1, e2⟩ | ⟨e1, e2⟩
    · rw [e2, decide_eq_true e1]; rfl
    · rw [e2, decide_eq_false e1]; rfl
  · have h0 : (((List.length a : Nat) : Int) != ((List.length b : Nat) : Int)) = true := by simp; omega
    rw [h0, decide_eq_false (fun e => hl (by rw [e]))]
    rfl
theorem readR_ok (t : List Int) (cell : Int) : (readR t cell).1.length ≤ 20001 ∧ ∀ p ∈ (readR t cell).1, p.2.1.length ≤ 20001 ∧ byteL p.2.1 := by
  unfold readR
  have z : ∀ e : Int, (([] : List Part), (e, ())).1.length ≤ 20001 ∧ ∀ p ∈ (([] : List Part), (e, ())).1, p.2.1.length ≤ 20001 ∧ byteL p.2.1 := fun e => ⟨by simp, by intro p hp; cases hp⟩
  by_cases c0 : (cellsR t cell 4).2.1 ≠ 0
  · rw [if_pos c0]; exact z _
  rw [if_neg c0]
  obtain ⟨L, hL, _, ht⟩ := cellsR_ok (Decidable.not_not.1 c0)
  rw [hL]
  simp only
  by_cases c1 : sumN L % 2 = 1 ∨ sumN L < 2
  · rw [if_pos c1]; exact z _
  rw [if_neg c1]
  by_cases c2 : (sumN L / 2 - 1) % 8 ≠ 0
  · rw [if_pos c2]; exact z _
  rw [if_neg c2]
  cases hc : closed (unp L) ((sumN L / 2 - 1) / 8) with
  | none => exact z _
  | some out =>
    simp only
    split
    · exact z _
    · have hs := small_sum (small_of hL ht)
      obtain ⟨h1, h2, h3⟩ := closed_ok hc
      refine ⟨by dsimp only; omega, fun p hp => ⟨?_, h1 p hp⟩⟩
      have : p.2.1.length ≤ tot out := part_len hp
      omega
end Go.Proofs.Ytlgbhaigpecdoaa.V
