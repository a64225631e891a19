/-
  Plain lemmas on loops over a list by an index, with a number of rounds: what stands at the index, and how the index grows. No program in sight; conditions stand in each lemma.
-/
import Derived.Test.YtgiodeiibmbhhaaZBits
set_option linter.unusedVariables false
set_option linter.unusedSimpArgs false
namespace Go.Proofs.Ytgiodeiibmbhhaa.Bk
open Go Go.RowKit Go.Proofs.YtgiodeiibmbhhaaW.PrintWords Go.Proofs.YtgiodeiibmbhhaaW.PrintLast Go.Proofs.YtgiodeiibmbhhaaW.PrintMore
theorem Ev.done {α : Type} {g : Nat → Option α} {r : α} (h : ∀ k, g (k + 1) = some r) : Ev g r := ⟨1, fun k hk => by obtain ⟨m, rfl⟩ : ∃ m, k = m + 1 := ⟨k - 1, by omega⟩; exact h m⟩
theorem Ev.all {α : Type} {g : Nat → Option α} {r : α} (h : ∀ k, g k = some r) : Ev g r := ⟨0, fun k _ => h k⟩
theorem Ev.then {α β : Type} {g : Nat → Option α} {f : Nat → α → Option β} {a : α} {r : β} (h : Ev g a) (k : Ev (fun n => f n a) r) : Ev (fun n => (g n).bind fun t => f n t) r := Ev.bind h k
theorem Ev.ite {α : Type} {c : Prop} [Decidable c] {g f : Nat → Option α} {r : α} (h1 : c → Ev g r) (h2 : ¬ c → Ev f r) : Ev (fun n => if c then g n else f n) r := by
  by_cases hc : c
  · simp only [hc, if_true]; exact h1 hc
  · simp only [hc, if_false]; exact h2 hc
theorem Ev.pos {α : Type} {c : Prop} [Decidable c] {g f : Nat → Option α} {r : α} (hc : c) (h : Ev g r) : Ev (fun n => if c then g n else f n) r := by simp only [hc, if_true]; exact h
theorem Ev.neg {α : Type} {c : Prop} [Decidable c] {g f : Nat → Option α} {r : α} (hc : ¬ c) (h : Ev f r) : Ev (fun n => if c then g n else f n) r := by simp only [hc, if_false]; exact h
theorem at_mid {l pre suf : List Int} {x : Int} (hl : l = pre ++ x :: suf) (hm : l.length ≤ 140737488355328) :
    (0 : Int) ≤ (pre.length : Int) ∧ (pre.length : Int) < (l.length : Int) ∧ rd l (pre.length : Int) = x ∧ wrap64 ((pre.length : Int) + 1) = ((pre ++ [x]).length : Int) := by
  have h1 : l.length = pre.length + 1 + suf.length := by rw [hl]; simp; omega
  refine ⟨by omega, by omega, by rw [hl]; exact rd_mid _ _ _ _ rfl, ?_⟩
  rw [w64 _ (by omega) (by omega)]
  simp
theorem at_end {α : Type} {l pre : List α} (hl : l = pre ++ []) : ¬ ((pre.length : Int) < (l.length : Int)) := by rw [hl]; simp
theorem next_mid {α : Type} {l pre suf : List α} {x : α} (hl : l = pre ++ x :: suf) : l = (pre ++ [x]) ++ suf := by rw [hl]; simp
theorem len_mid' {α : Type} {l pre suf : List α} {x : α} (hl : l = pre ++ x :: suf) : l.length = pre.length + 1 + suf.length := by rw [hl]; simp; omega
theorem at_midB {l pre suf : List Bool} {x : Bool} (d : Bool) (hl : l = pre ++ x :: suf) (hm : l.length ≤ 140737488355328) :
    (0 : Int) ≤ (pre.length : Int) ∧ (pre.length : Int) < (l.length : Int) ∧ rdOf d l (pre.length : Int) = x ∧ wrap64 ((pre.length : Int) + 1) = ((pre ++ [x]).length : Int) := by
  have h1 : l.length = pre.length + 1 + suf.length := by rw [hl]; simp; omega
  refine ⟨by omega, by omega, by rw [hl]; simp [rdOf], ?_⟩
  rw [w64 _ (by omega) (by omega)]
  simp
theorem nil_or_snoc {α : Type} (l : List α) : l = [] ∨ ∃ p x, l = p ++ [x] := by
  rcases List.eq_nil_or_concat l with h | ⟨p, x, h⟩
  · exact .inl h
  · exact .inr ⟨p, x, by rw [h, List.concat_eq_append]⟩
/-- what stands at an index -/
theorem rd_get (l : List Int) (i : Nat) (h : i < l.length) : rd l (i : Int) = l[i] := by simp [rd, h]
theorem rd_getD (l : List Int) (i : Nat) : rd l (i : Int) = l.getD i 0 := by simp [rd]
end Go.Proofs.Ytgiodeiibmbhhaa.Bk
