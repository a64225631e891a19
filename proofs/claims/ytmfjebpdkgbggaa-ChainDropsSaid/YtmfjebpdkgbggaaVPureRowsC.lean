/- Rows that are cloned and put together. -/
import Derived.Test.YtmfjebpdkgbggaaVFnChain
import Derived.Test.YtmfjebpdkgbggaaVKit3
set_option linter.unusedVariables false
set_option linter.unusedSimpArgs false
namespace Go.Proofs.Ytmfjebpdkgbggaa.V
open Go
theorem clone76 (a : List Int) (h : a.length ≤ 140737488355328) : f71 a = some ((a, ()), ()) := by
  unfold f71 f71_k
  rw [if_pos ⟨by rw [most_eq]; omega, by decide, by decide⟩]
  cases a with
  | nil => exact nilT_same _ _
  | cons x l => rfl
theorem concat102 (l : List (List Int)) (h : l.flatten.length ≤ 140737488355328) (hl : l.length ≤ 140737488355328) : f73 l = some ((l.flatten, ()), ()) := by
  unfold f73 f73_k
  have hsum : ∀ j, ((l.take j).flatten).length ≤ l.flatten.length := fun j => by
    have : l = l.take j ++ l.drop j := (List.take_append_drop j l).symm
    rw [congrArg List.flatten this, List.flatten_append, List.length_append]; omega
  have hstep : ∀ j, j < l.length → (l.take (j + 1)).flatten = (l.take j).flatten ++ l.getD j [] := fun j hj => by
    rw [take_succ_getD (d := []) hj]; simp
  have s1 : f73_l3 l l ((List.length l : Nat) : Int) ((0 : Int), (0 : Int)) = some ((l.flatten.length : Nat) : Int) := by
    unfold f73_l3
    refine loop_go (fun j => ((((l.take j).flatten.length : Nat) : Int), (j : Int))) l.length rfl (fun j hj => ?_) ?_
    · have h1 := hsum (j + 1)
      rw [hstep j hj, List.length_append] at h1
      unfold f73_l3_g f73_l3_k
      simp only
      rw [dlt hj]
      simp only [cond_true]
      rw [if_pos (in_row hj), Int.toNat_natCast, wj (by omega), wi (by omega) (by omega), decide_eq_false (by omega)]
      simp only [cond_false]
      rw [hstep j hj, List.length_append]
      rfl
    · unfold f73_l3_g f73_l3_k
      simp only
      rw [dge, List.take_length]; rfl
  rw [s1]
  simp only [some_bind]
  have s2 : f101 () ((l.flatten.length : Nat) : Int) = some (([], ()), ()) := by
    unfold f101 f101_k
    rw [decide_eq_false (by omega)]
    simp only [cond_false]
    rw [Int.sub_zero, wi (by omega) (by omega)]
    by_cases h0 : (l.flatten.length : Int) > 0
    · rw [decide_eq_true h0]
      simp only [cond_true]
      rw [if_pos ⟨by omega, by rw [most_eq]; omega, by decide, by decide⟩, if_pos ⟨by omega, by omega, by omega⟩]
      simp
    · rw [decide_eq_false h0]; rfl
  rw [s2]
  simp only [some_bind]
  have s3 : f73_l11 l ((List.length l : Nat) : Int) ((0 : Int), []) = some l.flatten := by
    unfold f73_l11
    refine loop_go (fun j => ((j : Int), (l.take j).flatten)) l.length rfl (fun j hj => ?_) ?_
    · have h1 := hsum (j + 1)
      rw [hstep j hj, List.length_append] at h1
      unfold f73_l11_g f73_l11_k
      simp only
      rw [dlt hj]
      simp only [cond_true]
      rw [if_pos (in_row hj), Int.toNat_natCast, if_pos (room1 (by omega) (by decide) (by decide)), wj (by omega), hstep j hj]
    · unfold f73_l11_g f73_l11_k
      simp only
      rw [dge, List.take_length]; rfl
  rw [s3]
  rfl
end Go.Proofs.Ytmfjebpdkgbggaa.V
