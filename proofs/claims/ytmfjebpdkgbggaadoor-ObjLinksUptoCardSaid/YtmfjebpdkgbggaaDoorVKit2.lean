/- More words for what is printed: loops through told states, loops in step, bits. -/
import Derived.Test.YtmfjebpdkgbggaaDoorVKit
set_option linter.unusedVariables false
set_option linter.unusedSimpArgs false
namespace Go.Proofs.YtmfjebpdkgbggaaDoor.V
open Go
theorem loop_go {X Y : Type} {g : X → Option (X ⊕ Y)} {x0 : X} {y : Y} (st : Nat → X) (m : Nat) (h0 : st 0 = x0) (h : ∀ j, j < m → g (st j) = some (.inl (st (j + 1)))) (he : g (st m) = some (.inr y)) : loopO g x0 = some y := by
  rw [← h0]; exact loop_at st m h he
theorem take_succ_getD {α : Type} {d : α} {l : List α} {j : Nat} (h : j < l.length) : l.take (j + 1) = l.take j ++ [l.getD j d] := by
  rw [List.take_succ_eq_append_getElem h]
  simp [List.getD_eq_getElem?_getD, List.getElem?_eq_getElem h]
end Go.Proofs.YtmfjebpdkgbggaaDoor.V
