/- Two disks are the same: the reference's test. -/
import Derived.Test.YtmfjebpdkgbggaaVPureDiskC
set_option linter.unusedVariables false
set_option linter.unusedSimpArgs false
namespace Go.Proofs.Ytmfjebpdkgbggaa.V
open Go
def bytesD (d : Disk) : Prop := ∀ x ∈ d.2.2.1, ∀ y ∈ x, 0 ≤ y ∧ y < 256
theorem same19 (d e : Disk) (h : d.2.2.1.length ≤ 140737488355328) (hd : bytesD d) (he : bytesD e) : f13 d e = some ((decide (d = e), ()), ()) := by
  obtain ⟨d1, d2, d3, ⟨⟩⟩ := d
  obtain ⟨e1, e2, e3, ⟨⟩⟩ := e
  unfold f13 f13_k
  simp only [bytesD] at h hd he ⊢
  by_cases c1 : d1 = e1
  · by_cases c2 : d2 = e2
    · subst c1; subst c2
      have h1 : (d1 != d1) = false := by simp
      have h2 : (d2 != d2) = false := by simp
      rw [h1, h2]
      simp only [cond_false]
      by_cases hl : d3.length = e3.length
      · have h0 : (((List.length d3 : Nat) : Int) != ((List.length e3 : Nat) : Int)) = false := by simp [hl]
        rw [h0]
        simp only [cond_false, f13_l4]
        rcases search (Y := Unit ⊕ Unit) (g := f13_l4_g ((List.length d3 : Nat) : Int) (d1, d2, d3, ()) (d1, d2, e3, ())) d3.length (fun j => !decide (d3.getD j [] = e3.getD j [])) (fun _ => .inl ()) (.inr ()) (fun j hj => by
          have e1 : decide ((j : Int) < (d3.length : Int)) = true := by simp; omega
          unfold f13_l4_g f13_l4_k
          rw [e1]
          simp only [cond_true]
          rw [if_pos ⟨by omega, by omega⟩, if_pos ⟨by omega, by omega⟩, wi (by omega) (by omega)]
          simp only [Int.toNat_natCast]
          rw [strEq_b2s (hd _ (getD_mem hj)) (he _ (getD_mem (by omega)))]
          cases hc : decide (d3.getD j [] = e3.getD j []) <;> simp [hc]) (by
          unfold f13_l4_g f13_l4_k
          simp) with ⟨m, h1, h2, h3, e⟩ | ⟨h1, e⟩
        · rw [e]
          simp only [some_bind, Sum.elim_inl]
          rw [decide_eq_false]
          intro hh; cases hh; simp at h2
        · rw [e]
          simp only [some_bind, Sum.elim_inr]
          have : d3 = e3 := getD_ext [] hl fun j hj => by simpa using h1 j hj
          simp [this]
      · have h0 : (((List.length d3 : Nat) : Int) != ((List.length e3 : Nat) : Int)) = true := by simp; omega
        rw [h0]
        simp only [cond_true]
        rw [decide_eq_false]
        intro hh; cases hh; exact hl rfl
    · have h1 : (d1 != e1) = false := by simp [c1]
      have h2 : (d2 != e2) = true := by simp [c2]
      rw [h1, h2]
      simp [c2]
  · have h1 : (d1 != e1) = true := by simp [c1]
    rw [h1]
    simp [c1]
end Go.Proofs.Ytmfjebpdkgbggaa.V
