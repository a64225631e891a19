/-
  No cell of these rows narrows 'for every input' (looked for: loops, veiled, ifaces, maps, wideKeys, modest, calm, conditions, laid).
  DERIVED. THE GIVEN ROWS OF THIS SEAT. 11 by the template 'for every input the law returns true; each argument reads behind the call as it read before'; 0 by the template 'total and deterministic' (their statements: YtgiodeiibmbhhaaTotals.lean).
  GIVEN WITH THE SEED: the statements are not yours to turn. If you find one false, say at which input.
  Laid BY PROGRAM, IN A SANDBOX (cutbox-rows.mjs): the forced cells as the released guide's own fill.sh prints them over the translation c5aac41bf14b563e… (all of the seat's roots in one cut). By AI agents, Wed Nov 11 2026. No macro, syntax, notation, axiom, sorry.
-/
import Derived.Test.YtgiodeiibmbhhaaChecked
import GoSem.Claim
import GoSem.ClaimJoined
import GoSem.ClaimMapViews
import Derived.JoinedTies
import Derived.KernelRfl
namespace Go.Proofs.Ytgiodeiibmbhhaa
/- THE CELL 'sum', in the pinned program and in every row, IS THE sha256 OF THE DUMP (.gsa) THAT YtgiodeiibmbhhaaProg.lean LOADS. Nothing in Lean hashes anything: it is a label: what it is worth is what the hold of that sum in a sandbox is worth. -/
noncomputable def Try.pinned : Pinned := { name := "ytgiodeiibmbhhaa", sum := "c5aac41bf14b563ee55a5d929d2c2cf12db64dbf436e5d31a1b03cdc0b0d1b0b", checked := Try.checked }
namespace Rows
def none {H : Type} : Left H := { results := [], args := [] }

/-- 'bakelaw2.CrcSums': WHATEVER THE INPUT: true; the input reads as it did. -/
def crcSumsSpec : ChangeSpec := { name := "crcSums", fn := fun _ => fun
  | [d1, d2, d3] => { results := [.lit (.bool true)], args := [d1, d2, d3] }
  | _ => none }
def crcSumsRow : OpenClaim := { program := "ytgiodeiibmbhhaa", sum := "c5aac41bf14b563ee55a5d929d2c2cf12db64dbf436e5d31a1b03cdc0b0d1b0b", func := "bakelite/bakelaw2.CrcSums", spec := "crcSums", apart := false }
def CrcSumsSaid : Prop := crcSumsRow.holds Try.pinned (OpenSpec.ofChange crcSumsSpec)

/-- ITS FALSE NEIGHBOUR: 'it returns false'. Refute it at one input. -/
def crcSumsWrong : ChangeSpec := { name := "crcSums", fn := fun _ => fun
  | [d1, d2, d3] => { results := [.lit (.bool false)], args := [d1, d2, d3] }
  | _ => none }
def CrcSumsWrongFalsely : Prop := crcSumsRow.holds Try.pinned (OpenSpec.ofChange crcSumsWrong)

/-- 'bakelaw2.WeakShows': WHATEVER THE INPUT: true; the input reads as it did. -/
def weakShowsSpec : ChangeSpec := { name := "weakShows", fn := fun _ => fun
  | [d1, d2] => { results := [.lit (.bool true)], args := [d1, d2] }
  | _ => none }
def weakShowsRow : OpenClaim := { program := "ytgiodeiibmbhhaa", sum := "c5aac41bf14b563ee55a5d929d2c2cf12db64dbf436e5d31a1b03cdc0b0d1b0b", func := "bakelite/bakelaw2.WeakShows", spec := "weakShows", unfollowed := true, recurses := true, apart := false }
def WeakShowsSaid : Prop := weakShowsRow.holds Try.pinned (OpenSpec.ofChange weakShowsSpec)

/-- ITS FALSE NEIGHBOUR: 'it returns false'. Refute it at one input. -/
def weakShowsWrong : ChangeSpec := { name := "weakShows", fn := fun _ => fun
  | [d1, d2] => { results := [.lit (.bool false)], args := [d1, d2] }
  | _ => none }
def WeakShowsWrongFalsely : Prop := weakShowsRow.holds Try.pinned (OpenSpec.ofChange weakShowsWrong)

/-- 'bakelaw2.CrcSeals': WHATEVER THE INPUT: true; the input reads as it did. -/
def crcSealsSpec : ChangeSpec := { name := "crcSeals", fn := fun _ => fun
  | [d1, d2] => { results := [.lit (.bool true)], args := [d1, d2] }
  | _ => none }
def crcSealsRow : OpenClaim := { program := "ytgiodeiibmbhhaa", sum := "c5aac41bf14b563ee55a5d929d2c2cf12db64dbf436e5d31a1b03cdc0b0d1b0b", func := "bakelite/bakelaw2.CrcSeals", spec := "crcSeals", apart := false }
def CrcSealsSaid : Prop := crcSealsRow.holds Try.pinned (OpenSpec.ofChange crcSealsSpec)

/-- ITS FALSE NEIGHBOUR: 'it returns false'. Refute it at one input. -/
def crcSealsWrong : ChangeSpec := { name := "crcSeals", fn := fun _ => fun
  | [d1, d2] => { results := [.lit (.bool false)], args := [d1, d2] }
  | _ => none }
def CrcSealsWrongFalsely : Prop := crcSealsRow.holds Try.pinned (OpenSpec.ofChange crcSealsWrong)

/-- 'bakelaw2.FluxTimes': WHATEVER THE INPUT: true; the input reads as it did. -/
def fluxTimesSpec : ChangeSpec := { name := "fluxTimes", fn := fun _ => fun
  | [d1, d2, d3, d4] => { results := [.lit (.bool true)], args := [d1, d2, d3, d4] }
  | _ => none }
def fluxTimesRow : OpenClaim := { program := "ytgiodeiibmbhhaa", sum := "c5aac41bf14b563ee55a5d929d2c2cf12db64dbf436e5d31a1b03cdc0b0d1b0b", func := "bakelite/bakelaw2.FluxTimes", spec := "fluxTimes", unfollowed := true, recurses := true, apart := false }
def FluxTimesSaid : Prop := fluxTimesRow.holds Try.pinned (OpenSpec.ofChange fluxTimesSpec)

/-- ITS FALSE NEIGHBOUR: 'it returns false'. Refute it at one input. -/
def fluxTimesWrong : ChangeSpec := { name := "fluxTimes", fn := fun _ => fun
  | [d1, d2, d3, d4] => { results := [.lit (.bool false)], args := [d1, d2, d3, d4] }
  | _ => none }
def FluxTimesWrongFalsely : Prop := fluxTimesRow.holds Try.pinned (OpenSpec.ofChange fluxTimesWrong)

/-- 'bakelaw2.FiveWholes': WHATEVER THE INPUT: true; the input reads as it did. -/
def fiveWholesSpec : ChangeSpec := { name := "fiveWholes", fn := fun _ => fun
  | [d1, d2] => { results := [.lit (.bool true)], args := [d1, d2] }
  | _ => none }
def fiveWholesRow : OpenClaim := { program := "ytgiodeiibmbhhaa", sum := "c5aac41bf14b563ee55a5d929d2c2cf12db64dbf436e5d31a1b03cdc0b0d1b0b", func := "bakelite/bakelaw2.FiveWholes", spec := "fiveWholes", apart := false }
def FiveWholesSaid : Prop := fiveWholesRow.holds Try.pinned (OpenSpec.ofChange fiveWholesSpec)

/-- ITS FALSE NEIGHBOUR: 'it returns false'. Refute it at one input. -/
def fiveWholesWrong : ChangeSpec := { name := "fiveWholes", fn := fun _ => fun
  | [d1, d2] => { results := [.lit (.bool false)], args := [d1, d2] }
  | _ => none }
def FiveWholesWrongFalsely : Prop := fiveWholesRow.holds Try.pinned (OpenSpec.ofChange fiveWholesWrong)

/-- 'bakelaw2.FluxMoves': WHATEVER THE INPUT: true; the input reads as it did. -/
def fluxMovesSpec : ChangeSpec := { name := "fluxMoves", fn := fun _ => fun
  | [d1, d2, d3, d4, d5] => { results := [.lit (.bool true)], args := [d1, d2, d3, d4, d5] }
  | _ => none }
def fluxMovesRow : OpenClaim := { program := "ytgiodeiibmbhhaa", sum := "c5aac41bf14b563ee55a5d929d2c2cf12db64dbf436e5d31a1b03cdc0b0d1b0b", func := "bakelite/bakelaw2.FluxMoves", spec := "fluxMoves", unfollowed := true, recurses := true, apart := false }
def FluxMovesSaid : Prop := fluxMovesRow.holds Try.pinned (OpenSpec.ofChange fluxMovesSpec)

/-- ITS FALSE NEIGHBOUR: 'it returns false'. Refute it at one input. -/
def fluxMovesWrong : ChangeSpec := { name := "fluxMoves", fn := fun _ => fun
  | [d1, d2, d3, d4, d5] => { results := [.lit (.bool false)], args := [d1, d2, d3, d4, d5] }
  | _ => none }
def FluxMovesWrongFalsely : Prop := fluxMovesRow.holds Try.pinned (OpenSpec.ofChange fluxMovesWrong)

/-- 'bakelaw2.FmWrites': WHATEVER THE INPUT: true; the input reads as it did. -/
def fmWritesSpec : ChangeSpec := { name := "fmWrites", fn := fun _ => fun
  | [d1, d2, d3] => { results := [.lit (.bool true)], args := [d1, d2, d3] }
  | _ => none }
def fmWritesRow : OpenClaim := { program := "ytgiodeiibmbhhaa", sum := "c5aac41bf14b563ee55a5d929d2c2cf12db64dbf436e5d31a1b03cdc0b0d1b0b", func := "bakelite/bakelaw2.FmWrites", spec := "fmWrites", unfollowed := true, recurses := true, apart := false }
def FmWritesSaid : Prop := fmWritesRow.holds Try.pinned (OpenSpec.ofChange fmWritesSpec)

/-- ITS FALSE NEIGHBOUR: 'it returns false'. Refute it at one input. -/
def fmWritesWrong : ChangeSpec := { name := "fmWrites", fn := fun _ => fun
  | [d1, d2, d3] => { results := [.lit (.bool false)], args := [d1, d2, d3] }
  | _ => none }
def FmWritesWrongFalsely : Prop := fmWritesRow.holds Try.pinned (OpenSpec.ofChange fmWritesWrong)

/-- 'bakelaw2.WeakReads': WHATEVER THE INPUT: true; the input reads as it did. -/
def weakReadsSpec : ChangeSpec := { name := "weakReads", fn := fun _ => fun
  | [d1, d2] => { results := [.lit (.bool true)], args := [d1, d2] }
  | _ => none }
def weakReadsRow : OpenClaim := { program := "ytgiodeiibmbhhaa", sum := "c5aac41bf14b563ee55a5d929d2c2cf12db64dbf436e5d31a1b03cdc0b0d1b0b", func := "bakelite/bakelaw2.WeakReads", spec := "weakReads", unfollowed := true, recurses := true, apart := false }
def WeakReadsSaid : Prop := weakReadsRow.holds Try.pinned (OpenSpec.ofChange weakReadsSpec)

/-- ITS FALSE NEIGHBOUR: 'it returns false'. Refute it at one input. -/
def weakReadsWrong : ChangeSpec := { name := "weakReads", fn := fun _ => fun
  | [d1, d2] => { results := [.lit (.bool false)], args := [d1, d2] }
  | _ => none }
def WeakReadsWrongFalsely : Prop := weakReadsRow.holds Try.pinned (OpenSpec.ofChange weakReadsWrong)

/-- 'bakelaw2.FiveAdds': WHATEVER THE INPUT: true; the input reads as it did. -/
def fiveAddsSpec : ChangeSpec := { name := "fiveAdds", fn := fun _ => fun
  | [d1, d2] => { results := [.lit (.bool true)], args := [d1, d2] }
  | _ => none }
def fiveAddsRow : OpenClaim := { program := "ytgiodeiibmbhhaa", sum := "c5aac41bf14b563ee55a5d929d2c2cf12db64dbf436e5d31a1b03cdc0b0d1b0b", func := "bakelite/bakelaw2.FiveAdds", spec := "fiveAdds", apart := false }
def FiveAddsSaid : Prop := fiveAddsRow.holds Try.pinned (OpenSpec.ofChange fiveAddsSpec)

/-- ITS FALSE NEIGHBOUR: 'it returns false'. Refute it at one input. -/
def fiveAddsWrong : ChangeSpec := { name := "fiveAdds", fn := fun _ => fun
  | [d1, d2] => { results := [.lit (.bool false)], args := [d1, d2] }
  | _ => none }
def FiveAddsWrongFalsely : Prop := fiveAddsRow.holds Try.pinned (OpenSpec.ofChange fiveAddsWrong)

/-- 'bakelaw2.ImageSectors': WHATEVER THE INPUT: true; the input reads as it did. -/
def imageSectorsSpec : ChangeSpec := { name := "imageSectors", fn := fun _ => fun
  | [d1, d2, d3, d4, d5, d6, d7] => { results := [.lit (.bool true)], args := [d1, d2, d3, d4, d5, d6, d7] }
  | _ => none }
def imageSectorsRow : OpenClaim := { program := "ytgiodeiibmbhhaa", sum := "c5aac41bf14b563ee55a5d929d2c2cf12db64dbf436e5d31a1b03cdc0b0d1b0b", func := "bakelite/bakelaw2.ImageSectors", spec := "imageSectors", unfollowed := true, recurses := true, apart := false }
def ImageSectorsSaid : Prop := imageSectorsRow.holds Try.pinned (OpenSpec.ofChange imageSectorsSpec)

/-- ITS FALSE NEIGHBOUR: 'it returns false'. Refute it at one input. -/
def imageSectorsWrong : ChangeSpec := { name := "imageSectors", fn := fun _ => fun
  | [d1, d2, d3, d4, d5, d6, d7] => { results := [.lit (.bool false)], args := [d1, d2, d3, d4, d5, d6, d7] }
  | _ => none }
def ImageSectorsWrongFalsely : Prop := imageSectorsRow.holds Try.pinned (OpenSpec.ofChange imageSectorsWrong)

/-- 'bakelaw2.FluxCells': WHATEVER THE INPUT: true; the input reads as it did. -/
def fluxCellsSpec : ChangeSpec := { name := "fluxCells", fn := fun _ => fun
  | [d1, d2, d3, d4, d5, d6] => { results := [.lit (.bool true)], args := [d1, d2, d3, d4, d5, d6] }
  | _ => none }
def fluxCellsRow : OpenClaim := { program := "ytgiodeiibmbhhaa", sum := "c5aac41bf14b563ee55a5d929d2c2cf12db64dbf436e5d31a1b03cdc0b0d1b0b", func := "bakelite/bakelaw2.FluxCells", spec := "fluxCells", unfollowed := true, recurses := true, apart := false }
def FluxCellsSaid : Prop := fluxCellsRow.holds Try.pinned (OpenSpec.ofChange fluxCellsSpec)

/-- ITS FALSE NEIGHBOUR: 'it returns false'. Refute it at one input. -/
def fluxCellsWrong : ChangeSpec := { name := "fluxCells", fn := fun _ => fun
  | [d1, d2, d3, d4, d5, d6] => { results := [.lit (.bool false)], args := [d1, d2, d3, d4, d5, d6] }
  | _ => none }
def FluxCellsWrongFalsely : Prop := fluxCellsRow.holds Try.pinned (OpenSpec.ofChange fluxCellsWrong)

/- THE SECOND FORM. 'bulk': how many values and letters a reading holds, each counted each time it is reached (what is shared counts as often as it is met; a slice's spare places count too). A statement '..UptoSaid' is the law's where the arguments, and the package variables that the reading takes, are together of bulk at most 1048576: NARROWER than '..Said'. Prove '..Said' where nothing that the law and all that it calls make is longer than what came in: it says more and counts as full. Else prove '..UptoSaid'. A law counts once. -/
mutual
def uptoBulk {H : Type} : DataW H → Nat
  | .lit (.string bytes) => bytes.length + 1
  | .lit _ => 1
  | .nil => 1
  | .ptr d => uptoBulk d + 1
  | .slice elems spare => uptoBulkAll elems + uptoBulkAll spare + 1
  | .agg parts => uptoBulkAll parts + 1
  | .iface _ d => uptoBulk d + 1
  | .map entries => uptoBulkEntries entries + 1
  | .held _ => 1
def uptoBulkAll {H : Type} : List (DataW H) → Nat
  | [] => 0
  | d :: r => uptoBulk d + uptoBulkAll r
def uptoBulkEntries {H : Type} : List (Lit × DataW H) → Nat
  | [] => 0
  | x :: r => uptoBulkEntry x + uptoBulkEntries r
def uptoBulkEntry {H : Type} : Lit × DataW H → Nat
  | (.string bytes, d) => bytes.length + uptoBulk d + 1
  | (_, d) => uptoBulk d + 1
 end
def uptoSmall : (H : Type) → List (DataW H) → Bool := fun _ ds => decide (uptoBulkAll ds ≤ 1048576)
def OpenSpec.upto (s : _root_.Go.ChangeSpec) : _root_.Go.OpenSpec := { _root_.Go.OpenSpec.ofChange s with cond := some uptoSmall }

/-- 'bakelaw2.CrcSums', WHERE WHAT IT READS IS OF BULK AT MOST 1048576: true; the input reads as it did. -/
def crcSumsUptoRow : OpenClaim := { program := "ytgiodeiibmbhhaa", sum := "c5aac41bf14b563ee55a5d929d2c2cf12db64dbf436e5d31a1b03cdc0b0d1b0b", func := "bakelite/bakelaw2.CrcSums", spec := "crcSums", apart := false, narrowed := true }
def CrcSumsUptoSaid : Prop := crcSumsUptoRow.holds Try.pinned (OpenSpec.upto crcSumsSpec)

/-- 'bakelaw2.WeakShows', WHERE WHAT IT READS IS OF BULK AT MOST 1048576: true; the input reads as it did. -/
def weakShowsUptoRow : OpenClaim := { program := "ytgiodeiibmbhhaa", sum := "c5aac41bf14b563ee55a5d929d2c2cf12db64dbf436e5d31a1b03cdc0b0d1b0b", func := "bakelite/bakelaw2.WeakShows", spec := "weakShows", unfollowed := true, recurses := true, apart := false, narrowed := true }
def WeakShowsUptoSaid : Prop := weakShowsUptoRow.holds Try.pinned (OpenSpec.upto weakShowsSpec)

/-- 'bakelaw2.CrcSeals', WHERE WHAT IT READS IS OF BULK AT MOST 1048576: true; the input reads as it did. -/
def crcSealsUptoRow : OpenClaim := { program := "ytgiodeiibmbhhaa", sum := "c5aac41bf14b563ee55a5d929d2c2cf12db64dbf436e5d31a1b03cdc0b0d1b0b", func := "bakelite/bakelaw2.CrcSeals", spec := "crcSeals", apart := false, narrowed := true }
def CrcSealsUptoSaid : Prop := crcSealsUptoRow.holds Try.pinned (OpenSpec.upto crcSealsSpec)

/-- 'bakelaw2.FluxTimes', WHERE WHAT IT READS IS OF BULK AT MOST 1048576: true; the input reads as it did. -/
def fluxTimesUptoRow : OpenClaim := { program := "ytgiodeiibmbhhaa", sum := "c5aac41bf14b563ee55a5d929d2c2cf12db64dbf436e5d31a1b03cdc0b0d1b0b", func := "bakelite/bakelaw2.FluxTimes", spec := "fluxTimes", unfollowed := true, recurses := true, apart := false, narrowed := true }
def FluxTimesUptoSaid : Prop := fluxTimesUptoRow.holds Try.pinned (OpenSpec.upto fluxTimesSpec)

/-- 'bakelaw2.FiveWholes', WHERE WHAT IT READS IS OF BULK AT MOST 1048576: true; the input reads as it did. -/
def fiveWholesUptoRow : OpenClaim := { program := "ytgiodeiibmbhhaa", sum := "c5aac41bf14b563ee55a5d929d2c2cf12db64dbf436e5d31a1b03cdc0b0d1b0b", func := "bakelite/bakelaw2.FiveWholes", spec := "fiveWholes", apart := false, narrowed := true }
def FiveWholesUptoSaid : Prop := fiveWholesUptoRow.holds Try.pinned (OpenSpec.upto fiveWholesSpec)

/-- 'bakelaw2.FluxMoves', WHERE WHAT IT READS IS OF BULK AT MOST 1048576: true; the input reads as it did. -/
def fluxMovesUptoRow : OpenClaim := { program := "ytgiodeiibmbhhaa", sum := "c5aac41bf14b563ee55a5d929d2c2cf12db64dbf436e5d31a1b03cdc0b0d1b0b", func := "bakelite/bakelaw2.FluxMoves", spec := "fluxMoves", unfollowed := true, recurses := true, apart := false, narrowed := true }
def FluxMovesUptoSaid : Prop := fluxMovesUptoRow.holds Try.pinned (OpenSpec.upto fluxMovesSpec)

/-- 'bakelaw2.FmWrites', WHERE WHAT IT READS IS OF BULK AT MOST 1048576: true; the input reads as it did. -/
def fmWritesUptoRow : OpenClaim := { program := "ytgiodeiibmbhhaa", sum := "c5aac41bf14b563ee55a5d929d2c2cf12db64dbf436e5d31a1b03cdc0b0d1b0b", func := "bakelite/bakelaw2.FmWrites", spec := "fmWrites", unfollowed := true, recurses := true, apart := false, narrowed := true }
def FmWritesUptoSaid : Prop := fmWritesUptoRow.holds Try.pinned (OpenSpec.upto fmWritesSpec)

/-- 'bakelaw2.WeakReads', WHERE WHAT IT READS IS OF BULK AT MOST 1048576: true; the input reads as it did. -/
def weakReadsUptoRow : OpenClaim := { program := "ytgiodeiibmbhhaa", sum := "c5aac41bf14b563ee55a5d929d2c2cf12db64dbf436e5d31a1b03cdc0b0d1b0b", func := "bakelite/bakelaw2.WeakReads", spec := "weakReads", unfollowed := true, recurses := true, apart := false, narrowed := true }
def WeakReadsUptoSaid : Prop := weakReadsUptoRow.holds Try.pinned (OpenSpec.upto weakReadsSpec)

/-- 'bakelaw2.FiveAdds', WHERE WHAT IT READS IS OF BULK AT MOST 1048576: true; the input reads as it did. -/
def fiveAddsUptoRow : OpenClaim := { program := "ytgiodeiibmbhhaa", sum := "c5aac41bf14b563ee55a5d929d2c2cf12db64dbf436e5d31a1b03cdc0b0d1b0b", func := "bakelite/bakelaw2.FiveAdds", spec := "fiveAdds", apart := false, narrowed := true }
def FiveAddsUptoSaid : Prop := fiveAddsUptoRow.holds Try.pinned (OpenSpec.upto fiveAddsSpec)

/-- 'bakelaw2.ImageSectors', WHERE WHAT IT READS IS OF BULK AT MOST 1048576: true; the input reads as it did. -/
def imageSectorsUptoRow : OpenClaim := { program := "ytgiodeiibmbhhaa", sum := "c5aac41bf14b563ee55a5d929d2c2cf12db64dbf436e5d31a1b03cdc0b0d1b0b", func := "bakelite/bakelaw2.ImageSectors", spec := "imageSectors", unfollowed := true, recurses := true, apart := false, narrowed := true }
def ImageSectorsUptoSaid : Prop := imageSectorsUptoRow.holds Try.pinned (OpenSpec.upto imageSectorsSpec)

/-- 'bakelaw2.FluxCells', WHERE WHAT IT READS IS OF BULK AT MOST 1048576: true; the input reads as it did. -/
def fluxCellsUptoRow : OpenClaim := { program := "ytgiodeiibmbhhaa", sum := "c5aac41bf14b563ee55a5d929d2c2cf12db64dbf436e5d31a1b03cdc0b0d1b0b", func := "bakelite/bakelaw2.FluxCells", spec := "fluxCells", unfollowed := true, recurses := true, apart := false, narrowed := true }
def FluxCellsUptoSaid : Prop := fluxCellsUptoRow.holds Try.pinned (OpenSpec.upto fluxCellsSpec)

end Rows
end Go.Proofs.Ytgiodeiibmbhhaa
