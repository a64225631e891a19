/-
  Plain models of chapter 22, second part: other speeds and shaken times. No program in sight.
-/
import Derived.Test.YtmedmifkeliepaaZFlux
set_option linter.unusedVariables false
set_option linter.unusedSimpArgs false
namespace Go.Proofs.Ytmedmifkeliepaa.Bk
open Go Go.RowKit Go.Proofs.YtmedmifkeliepaaW.PrintWords Go.Proofs.YtmedmifkeliepaaW.PrintLast Go.Proofs.YtmedmifkeliepaaW.PrintMore
def spd (a b x : Int) : Int := x * a / b
def gap (m : Int) (l : List Int) (i : Nat) : Int := mx (-m) (mn m (rd l ((i % l.length : Nat) : Int)))
def shk (m : Int) (l : List Int) : Nat → List Int → List Int
  | _, [] => []
  | i, x :: s => (if l.length > 0 then x + gap m l i else x) :: shk m l (i + 1) s
def speedL (t : List Int) (a b : Int) : List Int × Int := if ck t = 0 then (if (1 ≤ a ∧ a ≤ 1000) ∧ (1 ≤ b ∧ b ≤ 1000) then ofL ((cum 0 t).map (spd a b)) else ([], 1)) else ([], ck t)
def shakeL (t l : List Int) (m : Int) : List Int × Int := if ck t = 0 then (if 0 ≤ m ∧ m ≤ 100000 then ofL (shk m l 0 (cum 0 t)) else ([], 1)) else ([], ck t)
theorem spd_bound (a b x : Int) (ha : 1 ≤ a ∧ a ≤ 1000) (hb : 1 ≤ b ∧ b ≤ 1000) (hx : 0 ≤ x ∧ x ≤ 4000000000) : (0 ≤ x * a ∧ x * a ≤ 4000000000000) ∧ 0 ≤ spd a b x ∧ spd a b x ≤ 4000000000000 := by
  have h1 : 0 ≤ x * a := Int.mul_nonneg hx.1 (by omega)
  have h2 : x * a ≤ 4000000000 * 1000 := Int.mul_le_mul hx.2 ha.2 (by omega) (by omega)
  have h3 : 0 ≤ x * a / b := Int.ediv_nonneg h1 (by omega)
  have h4 : x * a / b ≤ x * a := Int.ediv_le_self _ h1
  exact ⟨⟨h1, by omega⟩, h3, by unfold spd; omega⟩
theorem spd_go (a b x : Int) (ha : 1 ≤ a ∧ a ≤ 1000) (hb : 1 ≤ b ∧ b ≤ 1000) (hx : 0 ≤ x ∧ x ≤ 4000000000) : wrap64 (Int.tdiv (wrap64 (x * a)) b) = spd a b x := by
  obtain ⟨⟨h1, h2⟩, h3, h4⟩ := spd_bound a b x ha hb hx
  rw [w64 (x * a) (by omega) (by omega), Int.tdiv_eq_ediv_of_nonneg h1]
  exact w64 _ (by unfold spd at h3; omega) (by unfold spd at h4; omega)
theorem spd_ref (a b x : Int) (ha : 1 ≤ a ∧ a ≤ 1000) (hb : 1 ≤ b ∧ b ≤ 1000) (hx : 0 ≤ x ∧ x ≤ 4000000000) : wrap64 (Int.tdiv (wrap64 ((wrap64 (x * a)) - (Int.tmod (wrap64 (x * a)) b))) b) = spd a b x := by
  obtain ⟨⟨h1, h2⟩, h3, h4⟩ := spd_bound a b x ha hb hx
  have h5 : 0 ≤ x * a % b := Int.emod_nonneg _ (by omega)
  have h6 : x * a % b < b := Int.emod_lt_of_pos _ (by omega)
  have h7 : x * a - x * a % b = b * (x * a / b) := by have := Int.mul_ediv_add_emod (x * a) b; omega
  have h8 : 0 ≤ b * (x * a / b) := Int.mul_nonneg (by omega) h3
  rw [w64 (x * a) (by omega) (by omega), Int.tmod_eq_emod_of_nonneg h1, w64 (x * a - x * a % b) (by omega) (by omega), h7, Int.tdiv_eq_ediv_of_nonneg h8, Int.mul_ediv_cancel_left _ (by omega)]
  exact w64 _ (by unfold spd at h3; omega) (by unfold spd at h4; omega)
theorem gap_bound (m : Int) (l : List Int) (i : Nat) (hm : 0 ≤ m ∧ m ≤ 100000) : -100000 ≤ gap m l i ∧ gap m l i ≤ 100000 := by
  unfold gap mx mn
  split <;> split at * <;> omega
theorem gap_ref (m : Int) (l : List Int) (i : Nat) (hm : 0 ≤ m ∧ m ≤ 100000) : mn m (mx (-m) (rd l ((i % l.length : Nat) : Int))) = gap m l i := by
  unfold gap mx mn
  generalize rd l ((i % l.length : Nat) : Int) = v
  by_cases h1 : v < m <;> by_cases h2 : -m < v <;> simp only [h1, h2, if_true, if_false] <;> (repeat' split) <;> omega
theorem shk_bound (m : Int) (l : List Int) (hm : 0 ≤ m ∧ m ≤ 100000) : ∀ (s : List Int) (i : Nat), (∀ x ∈ s, 0 ≤ x ∧ x ≤ 4000000000) → ∀ x ∈ shk m l i s, -100000 ≤ x ∧ x ≤ 4000100000
  | [], i, _, x, hx => by simp [shk] at hx
  | y :: s, i, h, x, hx => by
    have hy := h y (List.mem_cons_self ..)
    have hg := gap_bound m l i hm
    simp only [shk, List.mem_cons] at hx
    rcases hx with rfl | hx
    · split <;> omega
    · exact shk_bound m l hm s (i + 1) (fun z hz => h z (List.mem_cons_of_mem _ hz)) x hx
theorem shk_length (m : Int) (l : List Int) : ∀ (s : List Int) (i : Nat), (shk m l i s).length = s.length
  | [], i => rfl
  | y :: s, i => by simp [shk, shk_length m l s (i + 1)]
theorem ofL_bound (l : List Int) : (ofL l).1.length ≤ l.length := by
  unfold ofL
  split
  · simp
  · have := difA_bound l [] 0; simpa using this
/-- the place between what is done and what is to come -/
theorem at_gap (done suf : List Int) (x : Int) (n : Nat) (hn : done.length + (x :: suf).length = n) (hm : n ≤ 140737488355328) :
    (0 : Int) ≤ (done.length : Int) ∧ (done.length : Int) < (n : Int) ∧ (done.length : Int) < ((done ++ x :: suf).length : Int) ∧ rd (done ++ x :: suf) (done.length : Int) = x ∧ (∀ v, (done ++ x :: suf).set ((done.length : Int)).toNat v = (done ++ [v]) ++ suf) ∧ ∀ v : Int, wrap64 ((done.length : Int) + 1) = ((done ++ [v]).length : Int) := by
  simp only [List.length_cons] at hn
  refine ⟨by omega, by omega, by simp only [List.length_append, List.length_cons]; omega, rd_mid _ _ _ _ rfl, fun v => ?_, fun v => ?_⟩
  · rw [Int.toNat_natCast, set_mid]; simp
  · rw [w64 _ (by omega) (by omega)]; simp
end Go.Proofs.Ytmedmifkeliepaa.Bk
