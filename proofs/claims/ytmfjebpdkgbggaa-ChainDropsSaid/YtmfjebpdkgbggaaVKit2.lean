/- More words for what is printed: loops through told states, loops in step, bits. -/
import Derived.Test.YtmfjebpdkgbggaaVKit
set_option linter.unusedVariables false
set_option linter.unusedSimpArgs false
namespace Go.Proofs.Ytmfjebpdkgbggaa.V
open Go
theorem loop_go {X Y : Type} {g : X → Option (X ⊕ Y)} {x0 : X} {y : Y} (st : Nat → X) (m : Nat) (h0 : st 0 = x0) (h : ∀ j, j < m → g (st j) = some (.inl (st (j + 1)))) (he : g (st m) = some (.inr y)) : loopO g x0 = some y := by
  rw [← h0]; exact loop_at st m h he
theorem searchS {X Y : Type} {g : X → Option (X ⊕ Y)} (st : Nat → X) (n : Nat) (p : Nat → Bool) (y0 : Nat → Y) (y1 : Y) (hin : ∀ j, j < n → (∀ i, i < j → p i = false) → g (st j) = some (if p j = true then .inr (y0 j) else .inl (st (j + 1)))) (hout : (∀ i, i < n → p i = false) → g (st n) = some (.inr y1)) :
    (∃ m, m < n ∧ p m = true ∧ (∀ j, j < m → p j = false) ∧ loopO g (st 0) = some (y0 m)) ∨ ((∀ j, j < n → p j = false) ∧ loopO g (st 0) = some y1) := by
  have go : ∀ m, m ≤ n → (∀ j, j < m → p j = false) → ∀ j, j < m → g (st j) = some (.inl (st (j + 1))) := fun m hm hp j hj => by
    rw [hin j (by omega) (fun i hi => hp i (by omega)), if_neg (by rw [hp j hj]; simp)]
  rcases first_of p n with ⟨m, h1, h2, h3⟩ | h
  · exact .inl ⟨m, h1, h2, h3, loop_at st m (go m (by omega) h3) (by rw [hin m h1 h3, if_pos h2])⟩
  · exact .inr ⟨h, loop_at st n (go n (Nat.le_refl _) h) (hout h)⟩
theorem take_succ_getD {α : Type} {d : α} {l : List α} {j : Nat} (h : j < l.length) : l.take (j + 1) = l.take j ++ [l.getD j d] := by
  rw [List.take_succ_eq_append_getElem h]
  simp [List.getD_eq_getElem?_getD, List.getElem?_eq_getElem h]
end Go.Proofs.Ytmfjebpdkgbggaa.V
