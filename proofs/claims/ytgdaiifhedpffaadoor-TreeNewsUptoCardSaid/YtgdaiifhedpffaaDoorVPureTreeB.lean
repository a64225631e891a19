/- Disks: empty ones; two that are the same. -/
import Derived.Test.YtgdaiifhedpffaaDoorVPureTreeA
set_option linter.unusedVariables false
set_option linter.unusedSimpArgs false
namespace Go.Proofs.YtgdaiifhedpffaaDoor.V
open Go
abbrev Disk := Int × (Int × (List (List Int) × Unit))
def bad (a b : Int) : Bool := decide (a < 1 ∨ a > 20 ∨ b < 1 ∨ b > 12)
theorem area {a b : Int} (h : bad a b = false) : 1 ≤ a ∧ a ≤ 20 ∧ 1 ≤ b ∧ b ≤ 12 ∧ 1 ≤ a * b ∧ a * b ≤ 240 := by
  have h : ¬ (a < 1 ∨ a > 20 ∨ b < 1 ∨ b > 12) := by simpa [bad] using h
  have a1 : 1 ≤ a := by omega
  have a2 : a ≤ 20 := by omega
  have b1 : 1 ≤ b := by omega
  have b2 : b ≤ 12 := by omega
  have := Int.mul_le_mul a1 b1 (by omega) (by omega)
  have := Int.mul_le_mul a2 b2 (by omega) (by omega)
  exact ⟨a1, a2, b1, b2, by omega, by omega⟩
def blankD (a b : Int) : Disk := (a, (b, (List.replicate (a * b).toNat (List.replicate 128 (0 : Int)), ())))
theorem new21 (a b : Int) : f10 a b = some (if bad a b = true then (((0, (0, ([], ()))), (1, ())), ()) else ((blankD a b, (0, ())), ())) := by
  unfold f10 f10_k
  by_cases c1 : a < 1
  · have hb : bad a b = true := by simp [bad, c1]
    rw [hb, decide_eq_true c1]; rfl
  by_cases c2 : a > 20
  · have hb : bad a b = true := by simp [bad, c2]
    rw [hb, decide_eq_false c1, decide_eq_true c2]; rfl
  by_cases c3 : b < 1
  · have hb : bad a b = true := by simp [bad, c3]
    rw [hb, decide_eq_false c1, decide_eq_false c2, decide_eq_true c3]; rfl
  by_cases c4 : b > 12
  · have hb : bad a b = true := by simp [bad, c4]
    rw [hb, decide_eq_false c1, decide_eq_false c2, decide_eq_false c3, decide_eq_true c4]; rfl
  have hb : bad a b = false := by simp [bad, c1, c2, c3, c4]
  obtain ⟨a1, a2, b1, b2, m1, m2⟩ := area hb
  rw [hb, decide_eq_false c1, decide_eq_false c2, decide_eq_false c3, decide_eq_false c4]
  simp only [cond_false, f10_l5]
  rw [wi (by omega) (by omega)]
  obtain ⟨n, hn⟩ : ∃ n : Nat, a * b = (n : Int) := ⟨(a * b).toNat, by omega⟩
  rw [hn]
  have e := loop_at (g := f10_l5_g (n : Int) ((0 : Int), ((0 : Int), (([] : List (List Int)), ())))) (fun j => ((j : Int), (a, (b, (List.replicate j (List.replicate 128 (0 : Int)), ()))))) n (y := (a, (b, (List.replicate n (List.replicate 128 (0 : Int)), ())))) (fun j hj => by
    have e1 : decide ((j : Int) < (n : Int)) = true := by simp; omega
    unfold f10_l5_g f10_l5_k
    simp only
    rw [e1]
    simp only [cond_true, List.length_replicate]
    rw [if_pos ⟨by rw [most_eq]; omega, by decide, by decide⟩, wi (by omega) (by omega)]
    rw [List.replicate_succ' (n := j)]
    rfl) (by
    unfold f10_l5_g f10_l5_k
    simp)
  have e' : loopO (f10_l5_g (n : Int) ((0 : Int), ((0 : Int), (([] : List (List Int)), ())))) ((0 : Int), (a, (b, ([], ())))) = some (a, (b, (List.replicate n (List.replicate 128 (0 : Int)), ()))) := e
  rw [e']
  simp [blankD, hn]
def bytesD (d : Disk) : Prop := ∀ x ∈ d.2.2.1, ∀ y ∈ x, 0 ≤ y ∧ y < 256
theorem same19 (d e : Disk) (h : d.2.2.1.length ≤ 140737488355328) (hd : bytesD d) (he : bytesD e) : f9 d e = some ((decide (d = e), ()), ()) := by
  obtain ⟨d1, d2, d3, ⟨⟩⟩ := d
  obtain ⟨e1, e2, e3, ⟨⟩⟩ := e
  unfold f9 f9_k
  simp only [bytesD] at h hd he ⊢
  by_cases c1 : d1 = e1
  · by_cases c2 : d2 = e2
    · subst c1; subst c2
      have h1 : (d1 != d1) = false := by simp
      have h2 : (d2 != d2) = false := by simp
      rw [h1, h2]
      simp only [cond_false]
      by_cases hl : d3.length = e3.length
      · have h0 : (((List.length d3 : Nat) : Int) != ((List.length e3 : Nat) : Int)) = false := by simp [hl]
        rw [h0]
        simp only [cond_false, f9_l4]
        rcases search (Y := Unit ⊕ Unit) (g := f9_l4_g ((List.length d3 : Nat) : Int) (d1, d2, d3, ()) (d1, d2, e3, ())) d3.length (fun j => !decide (d3.getD j [] = e3.getD j [])) (fun _ => .inl ()) (.inr ()) (fun j hj => by
          have e1 : decide ((j : Int) < (d3.length : Int)) = true := by simp; omega
          unfold f9_l4_g f9_l4_k
          rw [e1]
          simp only [cond_true]
          rw [if_pos ⟨by omega, by omega⟩, if_pos ⟨by omega, by omega⟩, wi (by omega) (by omega)]
          simp only [Int.toNat_natCast]
          rw [strEq_b2s (hd _ (getD_mem hj)) (he _ (getD_mem (by omega)))]
          cases hc : decide (d3.getD j [] = e3.getD j []) <;> simp [hc]) (by
          unfold f9_l4_g f9_l4_k
          simp) with ⟨m, h1, h2, h3, e⟩ | ⟨h1, e⟩
        · rw [e]
          simp only [some_bind, Sum.elim_inl]
          rw [decide_eq_false]
          intro hh; cases hh; simp at h2
        · rw [e]
          simp only [some_bind, Sum.elim_inr]
          have : d3 = e3 := getD_ext [] hl fun j hj => by simpa using h1 j hj
          simp [this]
      · have h0 : (((List.length d3 : Nat) : Int) != ((List.length e3 : Nat) : Int)) = true := by simp; omega
        rw [h0]
        simp only [cond_true]
        rw [decide_eq_false]
        intro hh; cases hh; exact hl rfl
    · have h1 : (d1 != e1) = false := by simp [c1]
      have h2 : (d2 != e2) = true := by simp [c2]
      rw [h1, h2]
      simp [c2]
  · have h1 : (d1 != e1) = true := by simp [c1]
    rw [h1]
    simp [c1]
end Go.Proofs.YtgdaiifhedpffaaDoor.V
