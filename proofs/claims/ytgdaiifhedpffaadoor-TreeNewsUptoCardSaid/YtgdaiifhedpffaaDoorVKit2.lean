/- More words for what is printed: loops through told states, loops in step, bits. -/
import Derived.Test.YtgdaiifhedpffaaDoorVKit
set_option linter.unusedVariables false
set_option linter.unusedSimpArgs false
namespace Go.Proofs.YtgdaiifhedpffaaDoor.V
open Go
theorem loop_go {X Y : Type} {g : X → Option (X ⊕ Y)} {x0 : X} {y : Y} (st : Nat → X) (m : Nat) (h0 : st 0 = x0) (h : ∀ j, j < m → g (st j) = some (.inl (st (j + 1)))) (he : g (st m) = some (.inr y)) : loopO g x0 = some y := by
  rw [← h0]; exact loop_at st m h he
end Go.Proofs.YtgdaiifhedpffaaDoor.V
