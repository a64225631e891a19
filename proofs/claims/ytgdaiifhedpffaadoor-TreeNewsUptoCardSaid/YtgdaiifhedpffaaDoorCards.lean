/-
  DERIVED. GIVEN WITH THE SEED: THE CARDS: each row of YtgdaiifhedpffaaDoorRows.lean that lists a variable, with what it lists TIED to the program's text (the seventh form; the later family's looks); each row that meets fmt, with fmt's text TOLD by the authors' own Lean function (tested against real Go, not proved from fmt's source: count such statements apart). THE CARD IS WHAT COUNTS. Prove the row's statement (the work); the ties are given (YtgdaiifhedpffaaDoorTie.lean); close each card by the builder's one call (the guide's Derived/Test/ToyasCard.lean, 'card_holds'). Laid BY PROGRAM, IN A SANDBOX (cutbox-door.mjs). By AI agents, Wed Nov 11 2026. No macro, syntax, notation, axiom, sorry.
-/
import Derived.Test.YtgdaiifhedpffaaDoorRows
import GoSem.ClaimSeven
namespace Go.Proofs.YtgdaiifhedpffaaDoor
namespace Rows

/-- THE TIED CARD OF 'bakelaw2.TreeNews'. -/
def treeNewsCard : Claim7 := { stood := { row := treeNewsRow, standIns := [], harness := (true, "d9eebeacbc6455f2f588f2672a633d359c272192217e09347a63b2a3a0cb0bb1"), looks := false }, kinds := [], alts := [], laidByText := true, laidKinds := [.data, .pinned], laidTests := true, laidLooks := .later }
def TreeNewsCardSaid : Prop := Claim7.holds Tryd.pinned (.plain (OpenSpec.ofChange treeNewsSpec)) treeNewsCard

/-- THE SECOND FORM's CARD OF 'bakelaw2.TreeNews'. -/
def treeNewsUptoCard : Claim7 := { stood := { row := treeNewsUptoRow, standIns := [], harness := (true, "d9eebeacbc6455f2f588f2672a633d359c272192217e09347a63b2a3a0cb0bb1"), looks := false }, kinds := [], alts := [], laidByText := true, laidKinds := [.data, .pinned], laidTests := true, laidLooks := .later }
def TreeNewsUptoCardSaid : Prop := Claim7.holds Tryd.pinned (.plain (OpenSpec.upto treeNewsSpec)) treeNewsUptoCard
end Rows
end Go.Proofs.YtgdaiifhedpffaaDoor
