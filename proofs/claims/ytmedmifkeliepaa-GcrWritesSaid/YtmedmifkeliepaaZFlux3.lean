/-
  Plain models of chapter 22, third part: numbers of cells, pulses of cells, and spliced tracks. No program in sight.
-/
import Derived.Test.YtmedmifkeliepaaZFlux2
set_option linter.unusedVariables false
set_option linter.unusedSimpArgs false
namespace Go.Proofs.Ytmedmifkeliepaa.Bk
open Go Go.RowKit Go.Proofs.YtmedmifkeliepaaW.PrintWords Go.Proofs.YtmedmifkeliepaaW.PrintLast Go.Proofs.YtmedmifkeliepaaW.PrintMore
/-- a pulse as a number of cells, halves up -/
def cellN (c p : Int) : Int := (2 * p + c) / (2 * c)
theorem cellN_bound (c p : Int) (hc : 2 ≤ c ∧ c ≤ 1000) (hp : 1 ≤ p ∧ p ≤ 100000) : 0 ≤ cellN c p ∧ cellN c p ≤ 201000 := by
  have h1 : 0 ≤ (2 * p + c) / (2 * c) := Int.ediv_nonneg (by omega) (by omega)
  have h2 : (2 * p + c) / (2 * c) ≤ 2 * p + c := Int.ediv_le_self _ (by omega)
  unfold cellN
  omega
theorem cellN_go (c p : Int) (hc : 2 ≤ c ∧ c ≤ 1000) (hp : 1 ≤ p ∧ p ≤ 100000) : wrap64 (Int.tdiv (wrap64 ((wrap64 (2 * p)) + c)) (wrap64 (2 * c))) = cellN c p := by
  have hb := cellN_bound c p hc hp
  rw [w64 (2 * p) (by omega) (by omega), w64 (2 * p + c) (by omega) (by omega), w64 (2 * c) (by omega) (by omega), Int.tdiv_eq_ediv_of_nonneg (by omega)]
  show wrap64 (cellN c p) = cellN c p
  exact w64 _ (by omega) (by omega)
theorem cellN_ref (c p : Int) (hc : 2 ≤ c ∧ c ≤ 1000) (hp : 1 ≤ p ∧ p ≤ 100000) : cellN c p = p / c + (if 2 * (p % c) ≥ c then 1 else 0) := by
  have h1 : p = c * (p / c) + p % c := by have := Int.mul_ediv_add_emod p c; omega
  have h2 := Int.emod_nonneg p (show c ≠ 0 by omega)
  have h3 := Int.emod_lt_of_pos p (show 0 < c by omega)
  unfold cellN
  generalize p / c = q at *
  generalize p % c = r at *
  subst h1
  have e : 2 * (c * q + r) + c = (2 * r + c) + q * (2 * c) := by
    have : q * (2 * c) = 2 * (c * q) := by rw [Int.mul_left_comm, Int.mul_comm q c]
    omega
  rw [e, Int.add_mul_ediv_right _ _ (by omega)]
  by_cases h : 2 * r ≥ c
  · rw [if_pos h]
    have : (2 * r + c) / (2 * c) = 1 := by
      have h5 : (2 * r + c) = (2 * r - c) + 1 * (2 * c) := by omega
      rw [h5, Int.add_mul_ediv_right _ _ (by omega), Int.ediv_eq_zero_of_lt (by omega) (by omega)]
      rfl
    omega
  · rw [if_neg h, Int.ediv_eq_zero_of_lt (by omega) (by omega)]
    omega
def cellsL (c m : Int) (out : List Int) : List Int → List Int × Int
  | [] => (out, 0)
  | x :: s => if cellN c x < 1 ∨ cellN c x > m then ([], 18) else cellsL c m (out ++ [cellN c x]) s
def cellsOf (t : List Int) (c m : Int) : List Int × Int := if ck t = 0 then (if 2 ≤ c ∧ c ≤ 1000 then cellsL c m [] t else ([], 1)) else ([], ck t)
theorem cellsL_length (c m : Int) : ∀ (s out : List Int), (cellsL c m out s).1.length ≤ out.length + s.length
  | [], out => by simp [cellsL]
  | x :: s, out => by
    unfold cellsL
    split
    · simp
    · have := cellsL_length c m s (out ++ [cellN c x]); simp only [List.length_append, List.length_cons, List.length_nil] at this ⊢; omega
theorem cellsOf_length (t : List Int) (c m : Int) : (cellsOf t c m).1.length ≤ t.length := by
  unfold cellsOf
  split
  · split
    · have := cellsL_length c m t []; simpa using this
    · simp
  · simp
def okN (x : Int) : Bool := decide (1 ≤ x ∧ x ≤ 100)
def pulL (c : Int) (out : List Int) : List Int → List Int × Int
  | [] => (out, 0)
  | x :: s => if okN x then pulL c (out ++ [x * c]) s else ([], 3)
def pulsesOf (l : List Int) (c : Int) : List Int × Int := if 2 ≤ c ∧ c ≤ 1000 then (if 40000 < l.length then ([], 2) else pulL c [] l) else ([], 1)
theorem pulL_all (c : Int) : ∀ (s out : List Int), pulL c out s = if s.all okN then (out ++ s.map (· * c), 0) else ([], 3)
  | [], out => by simp [pulL]
  | x :: s, out => by
    unfold pulL
    cases hx : okN x with
    | true => simp only [if_true, List.all_cons, hx, Bool.true_and]; rw [pulL_all c s]; simp
    | false => simp [hx]
def splL (t b : List Int) (a : Int) : List Int := (cum 0 t).filter (fun x => decide (x ≤ a)) ++ ((cum 0 b).map (fun x => a + x) ++ (cum 0 t).filter (fun x => decide (x > a + b.sum)))
def spliceOf (t b : List Int) (a : Int) : List Int × Int := if ck t = 0 then (if ck b = 0 then (if 0 ≤ a ∧ a ≤ t.sum then ofL (splL t b a) else ([], 1)) else ([], ck b)) else ([], ck t)
theorem splL_bound (t b : List Int) (a : Int) (vt : Valid t) (vb : Valid b) (ha : 0 ≤ a ∧ a ≤ t.sum) : ∀ x ∈ splL t b a, -9223372036854775808 ≤ x ∧ x ≤ 9223372036854775807 := by
  intro x hx
  have hs := sum_bound vt.2
  have := vt.1
  unfold splL at hx
  rcases List.mem_append.1 hx with hx | hx
  · have := cum_small vt x (List.mem_filter.1 hx).1; omega
  · rcases List.mem_append.1 hx with hx | hx
    · obtain ⟨y, hy, rfl⟩ := List.mem_map.1 hx
      have := cum_small vb y hy; omega
    · have := cum_small vt x (List.mem_filter.1 hx).1; omega
theorem splL_length (t b : List Int) (a : Int) : (splL t b a).length ≤ t.length + (b.length + t.length) := by
  unfold splL
  simp only [List.length_append, List.length_map, cum_length]
  have h1 := List.length_filter_le (fun x => decide (x ≤ a)) (cum 0 t)
  have h2 := List.length_filter_le (fun x => decide (x > a + b.sum)) (cum 0 t)
  rw [cum_length] at h1 h2
  omega
end Go.Proofs.Ytmedmifkeliepaa.Bk
