/-
  Natural numbers as lists of digits to the base 10000, the lowest one first: what the digits are, how long the list is, how it is cut. No program in sight; conditions stand in each lemma.
-/
import Derived.Test.YtmedmifkeliepaaZEv
set_option linter.unusedVariables false
set_option linter.unusedSimpArgs false
namespace Go.Proofs.Ytmedmifkeliepaa.Bk
open Go Go.RowKit Go.Proofs.YtmedmifkeliepaaW.PrintWords Go.Proofs.YtmedmifkeliepaaW.PrintLast Go.Proofs.YtmedmifkeliepaaW.PrintMore
/-- The digits of a number. -/
def dig (n : Nat) : List Int := if h : n = 0 then [] else ((n % 10000 : Nat) : Int) :: dig (n / 10000)
termination_by n
decreasing_by omega
theorem dig_zero : dig 0 = [] := by rw [dig]; simp
theorem dig_pos {n : Nat} (h : 0 < n) : dig n = ((n % 10000 : Nat) : Int) :: dig (n / 10000) := by rw [dig, dif_neg (by omega)]
theorem dig_ne {n : Nat} (h : 0 < n) : dig n ≠ [] := by rw [dig_pos h]; simp
/-- The first digits, zeros too. -/
def fix : Nat → Nat → List Int
  | 0, _ => []
  | k + 1, n => ((n % 10000 : Nat) : Int) :: fix k (n / 10000)
theorem fix_len : ∀ k n, (fix k n).length = k
  | 0, n => rfl
  | k + 1, n => by simp [fix, fix_len k]
theorem fix_snoc : ∀ k n, fix (k + 1) n = fix k n ++ [((n / 10000 ^ k % 10000 : Nat) : Int)]
  | 0, n => by simp [fix]
  | k + 1, n => by
    rw [fix, fix_snoc k (n / 10000), fix]
    simp only [List.cons_append]
    rw [Nat.div_div_eq_div_mul, Nat.pow_succ, Nat.mul_comm]
theorem dig_fix : ∀ k n, 10000 ^ k ≤ n → n < 10000 ^ (k + 1) → dig n = fix (k + 1) n
  | 0, n, h0, h1 => by
    rw [dig_pos (by simp at h0; omega), fix, fix]
    rw [show n / 10000 = 0 by simp at h1; omega, dig_zero]
  | k + 1, n, h0, h1 => by
    have hp : 0 < 10000 ^ (k + 1) := Nat.pow_pos (by decide)
    rw [dig_pos (by omega), fix]
    rw [dig_fix k (n / 10000) ?_ ?_]
    · rw [Nat.le_div_iff_mul_le (by decide)]; rw [Nat.pow_succ] at h0; exact h0
    · rw [Nat.div_lt_iff_lt_mul (by decide)]; rw [Nat.pow_succ 10000 (k + 1)] at h1; exact h1
theorem fix_small {k n : Nat} (h : n < 10000 ^ k) : fix (k + 1) n = fix k n ++ [0] := by
  rw [fix_snoc, Nat.div_eq_of_lt h]; simp
theorem fix_top {k n : Nat} (h : n < 10000 ^ (k + 1)) : n / 10000 ^ k % 10000 = n / 10000 ^ k := by
  refine Nat.mod_eq_of_lt ?_
  rw [Nat.div_lt_iff_lt_mul (Nat.pow_pos (by decide)), Nat.mul_comm]
  rw [Nat.pow_succ] at h; exact h
/-- how long the list is -/
theorem dig_len_le : ∀ (k n : Nat), n < 10000 ^ k → (dig n).length ≤ k
  | 0, n, h => by rw [show n = 0 by simp at h; omega, dig_zero]; simp
  | k + 1, n, h => by
    by_cases h0 : n = 0
    · rw [h0, dig_zero]; simp
    · rw [dig_pos (by omega)]
      have := dig_len_le k (n / 10000) (by rw [Nat.div_lt_iff_lt_mul (by decide)]; rw [Nat.pow_succ] at h; exact h)
      simp; omega
theorem dig_len_gt : ∀ (k n : Nat), 10000 ^ k ≤ n → k < (dig n).length
  | 0, n, h => by rw [dig_pos (by simp at h; omega)]; simp
  | k + 1, n, h => by
    have hp : 0 < 10000 ^ (k + 1) := Nat.pow_pos (by decide)
    rw [dig_pos (by omega)]
    have := dig_len_gt k (n / 10000) (by rw [Nat.le_div_iff_mul_le (by decide)]; rw [Nat.pow_succ] at h; exact h)
    simp; omega
theorem dig_len_mono {a b : Nat} (h : a ≤ b) : (dig a).length ≤ (dig b).length := by
  by_cases h0 : a = 0
  · rw [h0, dig_zero]; simp
  · rcases hl : (dig b).length with _ | k
    · have hb : 0 < b := by omega
      rw [dig_pos hb] at hl; simp at hl
    · apply dig_len_le
      rcases Nat.lt_or_ge b (10000 ^ (k + 1)) with h1 | h1
      · omega
      · have := dig_len_gt (k + 1) b h1; omega
theorem dig_lt_of_len {a b : Nat} (h : (dig a).length < (dig b).length) : a < b := by
  rcases Nat.lt_or_ge a b with h1 | h1
  · exact h1
  · have := dig_len_mono h1; omega
/-- the digits are digits, and what they say is the number -/
theorem dig_dig : ∀ (n : Nat), ∀ d ∈ dig n, 0 ≤ d ∧ d < 10000 := by
  intro n
  induction n using Nat.strongRecOn with
  | ind n ih =>
    by_cases h0 : n = 0
    · rw [h0, dig_zero]; simp
    · rw [dig_pos (by omega)]
      intro d hd
      rcases List.mem_cons.1 hd with rfl | hd
      · omega
      · exact ih (n / 10000) (by omega) d hd
def val : List Int → Int
  | [] => 0
  | d :: l => d + 10000 * val l
theorem val_append (p s : List Int) : val (p ++ s) = val p + 10000 ^ p.length * val s := by
  induction p with
  | nil => simp [val]
  | cons d p ih =>
    simp only [List.cons_append, val, ih, List.length_cons]
    rw [Int.pow_succ, Int.mul_add, Int.add_assoc]
    congr 2
    rw [← Int.mul_assoc, Int.mul_comm 10000]
theorem val_dig : ∀ (n : Nat), val (dig n) = n := by
  intro n
  induction n using Nat.strongRecOn with
  | ind n ih =>
    by_cases h0 : n = 0
    · rw [h0, dig_zero]; rfl
    · rw [dig_pos (by omega), val, ih (n / 10000) (by omega)]
      omega
theorem val_bound : ∀ (l : List Int), (∀ d ∈ l, 0 ≤ d ∧ d < 10000) → 0 ≤ val l ∧ val l < 10000 ^ l.length
  | [], h => by simp [val]
  | d :: l, h => by
    have h0 := h d (by simp)
    have ih := val_bound l (fun x hx => h x (by simp [hx]))
    simp only [val, List.length_cons, Int.pow_succ]
    omega
theorem dig_nil {n : Nat} (h : dig n = []) : n = 0 := by
  rcases Nat.eq_zero_or_pos n with h0 | h0
  · exact h0
  · rw [dig_pos h0] at h; simp at h
theorem dig_cut {n : Nat} {p s : List Int} {x : Int} (h : dig n = p ++ x :: s) : x = ((n / 10000 ^ p.length % 10000 : Nat) : Int) ∧ dig (n / 10000 ^ p.length) = x :: s := by
  induction p generalizing n with
  | nil =>
    have h0 : 0 < n := by rcases Nat.eq_zero_or_pos n with h0 | h0; · rw [h0, dig_zero] at h; simp at h
                          · exact h0
    simp only [List.nil_append] at h
    have h' := h
    rw [dig_pos h0] at h
    injection h with h1 h2
    simp only [List.length_nil, Nat.pow_zero, Nat.div_one]
    exact ⟨h1.symm, h'⟩
  | cons d p ih =>
    have h0 : 0 < n := by rcases Nat.eq_zero_or_pos n with h0 | h0; · rw [h0, dig_zero] at h; simp at h
                          · exact h0
    rw [dig_pos h0, List.cons_append] at h
    injection h with h1 h2
    have := ih h2
    rw [Nat.div_div_eq_div_mul, ← Nat.pow_succ'] at this
    exact this
theorem dig_drop (n : Nat) : ∀ i, (dig n).drop i = dig (n / 10000 ^ i)
  | 0 => by simp
  | i + 1 => by
    rw [← List.drop_drop, dig_drop n i]
    rcases Nat.eq_zero_or_pos (n / 10000 ^ i) with h | h
    · rw [h, dig_zero, Nat.pow_succ, ← Nat.div_div_eq_div_mul, h]; simp [dig_zero]
    · rw [dig_pos h, Nat.pow_succ, ← Nat.div_div_eq_div_mul]; simp
theorem dig_len_iff (n i : Nat) : i < (dig n).length ↔ 0 < n / 10000 ^ i := by
  have h := congrArg List.length (dig_drop n i)
  rw [List.length_drop] at h
  constructor
  · intro hi
    rcases Nat.eq_zero_or_pos (n / 10000 ^ i) with h0 | h0
    · rw [h0, dig_zero] at h; simp at h; omega
    · exact h0
  · intro h0
    rw [dig_pos h0] at h; simp at h; omega
theorem dig_rd (n i : Nat) (hi : i < (dig n).length) : rd (dig n) (i : Int) = ((n / 10000 ^ i % 10000 : Nat) : Int) := by
  have h0 := (dig_len_iff n i).1 hi
  have h := dig_drop n i
  rw [dig_pos h0] at h
  have h2 : ((dig n).drop i)[0]? = some ((n / 10000 ^ i % 10000 : Nat) : Int) := by rw [h]; rfl
  rw [List.getElem?_drop, Nat.add_zero] at h2
  simp [rd, h2]
end Go.Proofs.Ytmedmifkeliepaa.Bk
