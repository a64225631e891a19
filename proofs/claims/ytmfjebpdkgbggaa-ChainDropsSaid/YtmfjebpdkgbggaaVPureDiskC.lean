/- Disks: their checks, empty ones. -/
import Derived.Test.YtmfjebpdkgbggaaVFnChain
import Derived.Test.YtmfjebpdkgbggaaVKit3
set_option linter.unusedVariables false
set_option linter.unusedSimpArgs false
namespace Go.Proofs.Ytmfjebpdkgbggaa.V
open Go
abbrev Disk := Int × (Int × (List (List Int) × Unit))
theorem anyLen (a : List (List Int)) (h : a.length ≤ 140737488355328) : f99 a () = some ((a.any (fun x => x.length != 128), ()), ()) := by
  unfold f99 f99_k f132 f132_k
  simp only [f132_l2]
  rcases search (Y := Int ⊕ Unit) (g := f132_l2_g a ((List.length a : Nat) : Int)) a.length (fun j => (a.getD j []).length != 128) (fun m => .inl (m : Int)) (.inr ()) (fun j hj => by
    have e1 : decide ((j : Int) < (a.length : Int)) = true := by simp; omega
    unfold f132_l2_g f132_l2_k
    rw [e1]
    simp only [cond_true]
    rw [if_pos ⟨by omega, by omega⟩, wi (by omega) (by omega)]
    simp only [Int.toNat_natCast, f100, f100_k, some_bind]
    have e2 : ((((a.getD j []).length : Nat) : Int) != 128) = ((a.getD j []).length != 128) := by
      rw [Bool.eq_iff_iff]; simp; omega
    rw [e2]
    cases hc : ((a.getD j []).length != 128) <;> simp [hc]) (by
    unfold f132_l2_g f132_l2_k
    simp) with ⟨m, h1, h2, h3, e⟩ | ⟨h1, e⟩
  · rw [e]
    simp only [some_bind, Sum.elim_inl]
    have : a.any (fun x => x.length != 128) = true := List.any_eq_true.2 ⟨_, getD_mem (d := []) h1, h2⟩
    rw [this]
    simp
  · rw [e]
    simp only [some_bind, Sum.elim_inr]
    have : a.any (fun x => x.length != 128) = false := by
      rw [List.any_eq_false]
      intro x hx
      obtain ⟨j, hj, rfl⟩ := mem_getD [] hx
      simpa using h1 j hj
    rw [this]
    simp
def chkD (d : Disk) : Int := if d.1 < 1 ∨ d.1 > 20 ∨ d.2.1 < 1 ∨ d.2.1 > 12 then 1 else if (d.2.2.1.length : Int) ≠ d.1 * d.2.1 then 3 else if d.2.2.1.any (fun x => x.length != 128) = true then 3 else 0
theorem check16 (d : Disk) (h : d.2.2.1.length ≤ 140737488355328) : f51 d = some ((chkD d, ()), ()) := by
  unfold f51 f51_k chkD
  by_cases c1 : d.1 < 1
  · simp [c1]
  by_cases c2 : d.1 > 20
  · simp [c1, c2]
  by_cases c3 : d.2.1 < 1
  · simp [c1, c2, c3]
  by_cases c4 : d.2.1 > 12
  · simp [c1, c2, c3, c4]
  have hm : 1 ≤ d.1 * d.2.1 ∧ d.1 * d.2.1 ≤ 240 := by
    have a1 : 1 ≤ d.1 := by omega
    have a2 : d.1 ≤ 20 := by omega
    have b1 : 1 ≤ d.2.1 := by omega
    have b2 : d.2.1 ≤ 12 := by omega
    constructor
    · have := Int.mul_le_mul a1 b1 (by omega) (by omega); omega
    · have := Int.mul_le_mul a2 b2 (by omega) (by omega); omega
  rw [if_neg (by omega)]
  rw [decide_eq_false c1, decide_eq_false c2, decide_eq_false c3, decide_eq_false c4]
  simp only [cond_false]
  rw [wi (by omega) (by omega)]
  by_cases c5 : (d.2.2.1.length : Int) = d.1 * d.2.1
  · have e0 : ((((List.length d.2.2.1 : Nat) : Int)) != d.1 * d.2.1) = false := by simp [c5]
    rw [e0, if_neg (by omega)]
    simp only [cond_false, f51_l6]
    rcases search (Y := Unit ⊕ Unit) (g := f51_l6_g d.2.2.1 ((List.length d.2.2.1 : Nat) : Int)) d.2.2.1.length (fun j => (d.2.2.1.getD j []).length != 128) (fun m => .inl ()) (.inr ()) (fun j hj => by
      have e1 : decide ((j : Int) < (d.2.2.1.length : Int)) = true := by simp; omega
      unfold f51_l6_g f51_l6_k
      rw [e1]
      simp only [cond_true]
      rw [if_pos ⟨by omega, by omega⟩, wi (by omega) (by omega)]
      simp only [Int.toNat_natCast]
      have e2 : ((((d.2.2.1.getD j []).length : Nat) : Int) != 128) = ((d.2.2.1.getD j []).length != 128) := by
        rw [Bool.eq_iff_iff]; simp; omega
      rw [e2]
      cases hc : ((d.2.2.1.getD j []).length != 128) <;> simp [hc]) (by
      unfold f51_l6_g f51_l6_k
      simp) with ⟨m, h1, h2, h3, e⟩ | ⟨h1, e⟩
    · rw [e]
      simp only [some_bind, Sum.elim_inl]
      have : d.2.2.1.any (fun x => x.length != 128) = true := List.any_eq_true.2 ⟨_, getD_mem (d := []) h1, h2⟩
      rw [if_pos this]
    · rw [e]
      simp only [some_bind, Sum.elim_inr]
      have : d.2.2.1.any (fun x => x.length != 128) = false := by
        rw [List.any_eq_false]
        intro x hx
        obtain ⟨j, hj, rfl⟩ := mem_getD [] hx
        simpa using h1 j hj
      rw [if_neg (by simp [this])]
  · have e0 : ((((List.length d.2.2.1 : Nat) : Int)) != d.1 * d.2.1) = true := by simp [c5]
    rw [e0, if_pos c5]
    rfl
theorem check17 (d : Disk) (h : d.2.2.1.length ≤ 140737488355328) (w1 : d.1 ≤ 9223372036854775807) : f72 d = some ((chkD d, ()), ()) := by
  unfold f72 f72_k chkD
  simp only
  by_cases c0 : d.1 < 1 ∨ d.2.1 < 1
  · have : (if d.2.1 < d.1 then d.2.1 else d.1) < 1 := by split <;> omega
    rw [decide_eq_true this, if_pos (by omega)]
    rfl
  have : ¬ (if d.2.1 < d.1 then d.2.1 else d.1) < 1 := by split <;> omega
  rw [decide_eq_false this]
  simp only [cond_false]
  by_cases c2 : d.1 > 20
  · rw [decide_eq_true c2, if_pos (by omega)]; rfl
  by_cases c4 : d.2.1 > 12
  · rw [decide_eq_false c2, decide_eq_true c4, if_pos (by omega)]; rfl
  have hm : 1 ≤ d.1 * d.2.1 ∧ d.1 * d.2.1 ≤ 240 := by
    have a1 : 1 ≤ d.1 := by omega
    have a2 : d.1 ≤ 20 := by omega
    have b1 : 1 ≤ d.2.1 := by omega
    have b2 : d.2.1 ≤ 12 := by omega
    constructor
    · have := Int.mul_le_mul a1 b1 (by omega) (by omega); omega
    · have := Int.mul_le_mul a2 b2 (by omega) (by omega); omega
  rw [if_neg (by omega), decide_eq_false c2, decide_eq_false c4]
  simp only [cond_false]
  rw [Int.mul_comm d.2.1 d.1, wi (by omega) (by omega)]
  by_cases c5 : (d.2.2.1.length : Int) = d.1 * d.2.1
  · have e0 : ((((List.length d.2.2.1 : Nat) : Int)) != d.1 * d.2.1) = false := by simp [c5]
    rw [e0, if_neg (by omega)]
    simp only [cond_false]
    rw [anyLen _ h]
    simp only [some_bind]
    cases hc : d.2.2.1.any (fun x => x.length != 128) <;> simp
  · have e0 : ((((List.length d.2.2.1 : Nat) : Int)) != d.1 * d.2.1) = true := by simp [c5]
    rw [e0, if_pos c5]
    rfl
def bad (a b : Int) : Bool := decide (a < 1 ∨ a > 20 ∨ b < 1 ∨ b > 12)
theorem area {a b : Int} (h : bad a b = false) : 1 ≤ a ∧ a ≤ 20 ∧ 1 ≤ b ∧ b ≤ 12 ∧ 1 ≤ a * b ∧ a * b ≤ 240 := by
  have h : ¬ (a < 1 ∨ a > 20 ∨ b < 1 ∨ b > 12) := by simpa [bad] using h
  have a1 : 1 ≤ a := by omega
  have a2 : a ≤ 20 := by omega
  have b1 : 1 ≤ b := by omega
  have b2 : b ≤ 12 := by omega
  have := Int.mul_le_mul a1 b1 (by omega) (by omega)
  have := Int.mul_le_mul a2 b2 (by omega) (by omega)
  exact ⟨a1, a2, b1, b2, by omega, by omega⟩
def blankD (a b : Int) : Disk := (a, (b, (List.replicate (a * b).toNat (List.replicate 128 (0 : Int)), ())))
theorem new21 (a b : Int) : f28 a b = some (if bad a b = true then (((0, (0, ([], ()))), (1, ())), ()) else ((blankD a b, (0, ())), ())) := by
  unfold f28 f28_k
  by_cases c1 : a < 1
  · have hb : bad a b = true := by simp [bad, c1]
    rw [hb, decide_eq_true c1]; rfl
  by_cases c2 : a > 20
  · have hb : bad a b = true := by simp [bad, c2]
    rw [hb, decide_eq_false c1, decide_eq_true c2]; rfl
  by_cases c3 : b < 1
  · have hb : bad a b = true := by simp [bad, c3]
    rw [hb, decide_eq_false c1, decide_eq_false c2, decide_eq_true c3]; rfl
  by_cases c4 : b > 12
  · have hb : bad a b = true := by simp [bad, c4]
    rw [hb, decide_eq_false c1, decide_eq_false c2, decide_eq_false c3, decide_eq_true c4]; rfl
  have hb : bad a b = false := by simp [bad, c1, c2, c3, c4]
  obtain ⟨a1, a2, b1, b2, m1, m2⟩ := area hb
  rw [hb, decide_eq_false c1, decide_eq_false c2, decide_eq_false c3, decide_eq_false c4]
  simp only [cond_false, f28_l5]
  rw [wi (by omega) (by omega)]
  obtain ⟨n, hn⟩ : ∃ n : Nat, a * b = (n : Int) := ⟨(a * b).toNat, by omega⟩
  rw [hn]
  have e := loop_at (g := f28_l5_g (n : Int) ((0 : Int), ((0 : Int), (([] : List (List Int)), ())))) (fun j => ((j : Int), (a, (b, (List.replicate j (List.replicate 128 (0 : Int)), ()))))) n (y := (a, (b, (List.replicate n (List.replicate 128 (0 : Int)), ())))) (fun j hj => by
    have e1 : decide ((j : Int) < (n : Int)) = true := by simp; omega
    unfold f28_l5_g f28_l5_k
    simp only
    rw [e1]
    simp only [cond_true, List.length_replicate]
    rw [if_pos ⟨by rw [most_eq]; omega, by decide, by decide⟩, wi (by omega) (by omega)]
    rw [List.replicate_succ' (n := j)]
    rfl) (by
    unfold f28_l5_g f28_l5_k
    simp)
  have e' : loopO (f28_l5_g (n : Int) ((0 : Int), ((0 : Int), (([] : List (List Int)), ())))) ((0 : Int), (a, (b, ([], ())))) = some (a, (b, (List.replicate n (List.replicate 128 (0 : Int)), ()))) := e
  rw [e']
  simp [blankD, hn]
theorem chk_zero {d : Disk} (h : chkD d = 0) : 1 ≤ d.1 ∧ d.1 ≤ 20 ∧ 1 ≤ d.2.1 ∧ d.2.1 ≤ 12 ∧ (d.2.2.1.length : Int) = d.1 * d.2.1 ∧ d.1 * d.2.1 ≤ 240 ∧ ∀ x ∈ d.2.2.1, x.length = 128 := by
  unfold chkD at h
  split at h
  · cases h
  · split at h
    · cases h
    · split at h
      · cases h
      · rename_i c1 c2 c3
        have a2 : d.1 ≤ 20 := by omega
        have b2 : d.2.1 ≤ 12 := by omega
        have := Int.mul_le_mul a2 b2 (by omega) (by omega)
        refine ⟨by omega, by omega, by omega, by omega, by omega, by omega, fun x hx => ?_⟩
        have c3 : d.2.2.1.any (fun x => x.length != 128) = false := by simpa using c3
        rw [List.any_eq_false] at c3
        simpa using c3 x hx
end Go.Proofs.Ytmfjebpdkgbggaa.V
