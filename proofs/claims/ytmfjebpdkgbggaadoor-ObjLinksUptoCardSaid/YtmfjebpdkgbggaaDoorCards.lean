/-
  DERIVED. GIVEN WITH THE SEED: THE CARDS: each row of YtmfjebpdkgbggaaDoorRows.lean that lists a variable, with what it lists TIED to the program's text (the seventh form; the later family's looks); each row that meets fmt, with fmt's text TOLD by the authors' own Lean function (tested against real Go, not proved from fmt's source: count such statements apart). THE CARD IS WHAT COUNTS. Prove the row's statement (the work); the ties are given (YtmfjebpdkgbggaaDoorTie.lean); close each card by the builder's one call (the guide's Derived/Test/ToyasCard.lean, 'card_holds'). Laid BY PROGRAM, IN A SANDBOX (cutbox-door.mjs). By AI agents, Wed Nov 11 2026. No macro, syntax, notation, axiom, sorry.
-/
import Derived.Test.YtmfjebpdkgbggaaDoorRows
import GoSem.ClaimSeven
namespace Go.Proofs.YtmfjebpdkgbggaaDoor
namespace Rows

/-- THE TIED CARD OF 'bakelaw2.ObjLinks'. -/
def objLinksCard : Claim7 := { stood := { row := objLinksRow, standIns := [], harness := (true, "852e5b788af0ac579accfee2c71533198635fd1c5bec8457b168ce24f77dfb64"), looks := false }, kinds := [], alts := [], laidByText := true, laidKinds := [.data, .data, .data], laidTests := true, laidLooks := .later }
def ObjLinksCardSaid : Prop := Claim7.holds Tryd.pinned (.plain (OpenSpec.ofChange objLinksSpec)) objLinksCard

/-- THE SECOND FORM's CARD OF 'bakelaw2.ObjLinks'. -/
def objLinksUptoCard : Claim7 := { stood := { row := objLinksUptoRow, standIns := [], harness := (true, "852e5b788af0ac579accfee2c71533198635fd1c5bec8457b168ce24f77dfb64"), looks := false }, kinds := [], alts := [], laidByText := true, laidKinds := [.data, .data, .data], laidTests := true, laidLooks := .later }
def ObjLinksUptoCardSaid : Prop := Claim7.holds Tryd.pinned (.plain (OpenSpec.upto objLinksSpec)) objLinksUptoCard
end Rows
end Go.Proofs.YtmfjebpdkgbggaaDoor
