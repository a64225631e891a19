/-
  Plain models of chapter 22: which tracks are valid, the times of changes, the track of times, nearness; what they do to lists. No program in sight.
-/
import Derived.Test.YtmedmifkeliepaaZEv
set_option linter.unusedVariables false
set_option linter.unusedSimpArgs false
namespace Go.Proofs.Ytmedmifkeliepaa.Bk
open Go Go.RowKit Go.Proofs.YtmedmifkeliepaaW.PrintWords Go.Proofs.YtmedmifkeliepaaW.PrintLast Go.Proofs.YtmedmifkeliepaaW.PrintMore
def okP (p : Int) : Bool := decide (1 ≤ p ∧ p ≤ 100000)
def ck (l : List Int) : Int := if 40000 < l.length then 2 else if l.all okP then 0 else 1
def Valid (l : List Int) : Prop := l.length ≤ 40000 ∧ ∀ p ∈ l, 1 ≤ p ∧ p ≤ 100000
theorem ck_zero {l : List Int} : ck l = 0 ↔ Valid l := by
  unfold ck Valid
  by_cases h : 40000 < l.length
  · rw [if_pos h]; constructor
    · intro h; cases h
    · intro h'; omega
  · rw [if_neg h]
    by_cases h2 : l.all okP = true
    · rw [if_pos h2]
      simp only [List.all_eq_true, okP, decide_eq_true_eq] at h2
      exact ⟨fun _ => ⟨by omega, h2⟩, fun _ => rfl⟩
    · rw [if_neg h2]
      simp only [List.all_eq_true, okP, decide_eq_true_eq] at h2
      exact ⟨fun h => by simp at h, fun h => absurd h.2 h2⟩
def cum : Int → List Int → List Int
  | _, [] => []
  | s, x :: l => (s + x) :: cum (s + x) l
theorem cum_length : ∀ (s : Int) (l : List Int), (cum s l).length = l.length
  | _, [] => rfl
  | s, x :: l => by simp [cum, cum_length]
theorem cum_snoc : ∀ (s : Int) (l : List Int) (x : Int), cum s (l ++ [x]) = cum s l ++ [s + l.sum + x]
  | s, [], x => by simp [cum]
  | s, y :: l, x => by simp [cum, cum_snoc (s + y) l x]; omega
theorem sum_bound : ∀ {l : List Int}, (∀ p ∈ l, 1 ≤ p ∧ p ≤ 100000) → 0 ≤ l.sum ∧ l.sum ≤ 100000 * (l.length : Int)
  | [], _ => by simp
  | x :: l, h => by
    have ih := sum_bound (l := l) (fun p hp => h p (List.mem_cons_of_mem _ hp))
    have hx := h x (List.mem_cons_self ..)
    simp only [List.sum_cons, List.length_cons]
    omega
theorem cum_bound : ∀ {l : List Int} (s : Int), (∀ p ∈ l, 1 ≤ p ∧ p ≤ 100000) → ∀ x ∈ cum s l, s ≤ x ∧ x ≤ s + 100000 * (l.length : Int)
  | [], _, _ => by simp [cum]
  | y :: l, s, h => by
    have hy := h y (List.mem_cons_self ..)
    intro x hx
    simp only [cum, List.mem_cons] at hx
    rcases hx with rfl | hx
    · simp only [List.length_cons]; omega
    · have ih := cum_bound (l := l) (s + y) (fun p hp => h p (List.mem_cons_of_mem _ hp)) x hx
      simp only [List.length_cons]; omega
theorem cum_small {l : List Int} (hv : Valid l) : ∀ x ∈ cum 0 l, 0 ≤ x ∧ x ≤ 4000000000 := by
  intro x hx
  have := cum_bound 0 hv.2 x hx
  have := hv.1
  omega
/-- the track of times -/
def difA (out : List Int) (at_ : Int) : List Int → List Int × Int
  | [] => (out, 0)
  | x :: l => if x ≤ at_ then ([], 9) else if x - at_ > 100000 then ([], 1) else difA (out ++ [x - at_]) x l
def ofL (l : List Int) : List Int × Int := if 40000 < l.length then ([], 2) else difA [] 0 l
theorem difA_bound : ∀ (l out : List Int) (at_ : Int), (difA out at_ l).1.length ≤ out.length + l.length
  | [], out, at_ => by simp [difA]
  | x :: l, out, at_ => by
    unfold difA
    split
    · simp
    · split
      · simp
      · have := difA_bound l (out ++ [x - at_]) x
        simp only [List.length_append, List.length_cons, List.length_nil] at this ⊢
        omega
def near2 (m : Int) : List Int → List Int → Bool
  | a :: l, b :: r => decide (a - b ≤ m ∧ b - a ≤ m) && near2 m l r
  | _, _ => true
theorem set_mid {α : Type} (A B : List α) (x v : α) : (A ++ x :: B).set A.length v = A ++ v :: B := by
  induction A with
  | nil => rfl
  | cons a A ih => simp [ih]
theorem rd_last (A B : List Int) (x : Int) (i : Int) (hi : i = A.length) : rd (A ++ x :: B) i = x := rd_mid A B x i hi
end Go.Proofs.Ytmedmifkeliepaa.Bk
