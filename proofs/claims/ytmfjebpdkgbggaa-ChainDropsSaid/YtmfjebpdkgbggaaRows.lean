/-
  No cell of these rows narrows 'for every input' (looked for: loops, veiled, ifaces, maps, wideKeys, modest, calm, conditions, laid).
  DERIVED. THE GIVEN ROWS OF THIS SEAT. 5 by the template 'for every input the law returns true; each argument reads behind the call as it read before'; 0 by the template 'total and deterministic' (their statements: YtmfjebpdkgbggaaTotals.lean).
  GIVEN WITH THE SEED: the statements are not yours to turn. If you find one false, say at which input.
  Laid BY PROGRAM, IN A SANDBOX (cutbox-rows.mjs): the forced cells as the released guide's own fill.sh prints them over the translation 4e7dd3eca83cddf0… (all of the seat's roots in one cut). By AI agents, Wed Nov 11 2026. No macro, syntax, notation, axiom, sorry.
-/
import Derived.Test.YtmfjebpdkgbggaaChecked
import GoSem.Claim
import GoSem.ClaimJoined
import GoSem.ClaimMapViews
import Derived.JoinedTies
import Derived.KernelRfl
namespace Go.Proofs.Ytmfjebpdkgbggaa
/- THE CELL 'sum', in the pinned program and in every row, IS THE sha256 OF THE DUMP (.gsa) THAT YtmfjebpdkgbggaaProg.lean LOADS. Nothing in Lean hashes anything: it is a label: what it is worth is what the hold of that sum in a sandbox is worth. -/
noncomputable def Try.pinned : Pinned := { name := "ytmfjebpdkgbggaa", sum := "4e7dd3eca83cddf096b546154c618242f63e5ada5bcba9f0179df5ebd9c9da96", checked := Try.checked }
namespace Rows
def none {H : Type} : Left H := { results := [], args := [] }

/-- 'bakelaw2.ChainNews': WHATEVER THE INPUT: true; the input reads as it did. -/
def chainNewsSpec : ChangeSpec := { name := "chainNews", fn := fun _ => fun
  | [d1, d2, d3] => { results := [.lit (.bool true)], args := [d1, d2, d3] }
  | _ => none }
def chainNewsRow : OpenClaim := { program := "ytmfjebpdkgbggaa", sum := "4e7dd3eca83cddf096b546154c618242f63e5ada5bcba9f0179df5ebd9c9da96", func := "bakelite/bakelaw2.ChainNews", spec := "chainNews", inPlace := ["internal/bytealg.IndexByteString"], unfollowed := true, recurses := true, plainKeys := false, apart := false }
def ChainNewsSaid : Prop := chainNewsRow.holds Try.pinned (OpenSpec.ofChange chainNewsSpec)

/-- ITS FALSE NEIGHBOUR: 'it returns false'. Refute it at one input. -/
def chainNewsWrong : ChangeSpec := { name := "chainNews", fn := fun _ => fun
  | [d1, d2, d3] => { results := [.lit (.bool false)], args := [d1, d2, d3] }
  | _ => none }
def ChainNewsWrongFalsely : Prop := chainNewsRow.holds Try.pinned (OpenSpec.ofChange chainNewsWrong)

/-- 'bakelaw2.ChainDrops': WHATEVER THE INPUT: true; the input reads as it did. -/
def chainDropsSpec : ChangeSpec := { name := "chainDrops", fn := fun _ => fun
  | [d1, d2] => { results := [.lit (.bool true)], args := [d1, d2] }
  | _ => none }
def chainDropsRow : OpenClaim := { program := "ytmfjebpdkgbggaa", sum := "4e7dd3eca83cddf096b546154c618242f63e5ada5bcba9f0179df5ebd9c9da96", func := "bakelite/bakelaw2.ChainDrops", spec := "chainDrops", inPlace := ["internal/bytealg.Count", "internal/bytealg.IndexByte", "internal/bytealg.Index", "internal/bytealg.IndexByteString"], unfollowed := true, recurses := true, named := ["internal/bytealg.MaxLen"], plainKeys := false, apart := false }
def ChainDropsSaid : Prop := chainDropsRow.holds Try.pinned (OpenSpec.ofChange chainDropsSpec)

/-- ITS FALSE NEIGHBOUR: 'it returns false'. Refute it at one input. -/
def chainDropsWrong : ChangeSpec := { name := "chainDrops", fn := fun _ => fun
  | [d1, d2] => { results := [.lit (.bool false)], args := [d1, d2] }
  | _ => none }
def ChainDropsWrongFalsely : Prop := chainDropsRow.holds Try.pinned (OpenSpec.ofChange chainDropsWrong)

/-- 'bakelaw2.ChainPuts': WHATEVER THE INPUT: true; the input reads as it did. -/
def chainPutsSpec : ChangeSpec := { name := "chainPuts", fn := fun _ => fun
  | [d1, d2, d3] => { results := [.lit (.bool true)], args := [d1, d2, d3] }
  | _ => none }
def chainPutsRow : OpenClaim := { program := "ytmfjebpdkgbggaa", sum := "4e7dd3eca83cddf096b546154c618242f63e5ada5bcba9f0179df5ebd9c9da96", func := "bakelite/bakelaw2.ChainPuts", spec := "chainPuts", inPlace := ["internal/bytealg.Count", "internal/bytealg.IndexByte", "internal/bytealg.Index", "internal/bytealg.IndexByteString"], unfollowed := true, recurses := true, named := ["internal/bytealg.MaxLen"], plainKeys := false, apart := false }
def ChainPutsSaid : Prop := chainPutsRow.holds Try.pinned (OpenSpec.ofChange chainPutsSpec)

/-- ITS FALSE NEIGHBOUR: 'it returns false'. Refute it at one input. -/
def chainPutsWrong : ChangeSpec := { name := "chainPuts", fn := fun _ => fun
  | [d1, d2, d3] => { results := [.lit (.bool false)], args := [d1, d2, d3] }
  | _ => none }
def ChainPutsWrongFalsely : Prop := chainPutsRow.holds Try.pinned (OpenSpec.ofChange chainPutsWrong)

/-- 'bakelaw2.ImageBacks': WHATEVER THE INPUT: true; the input reads as it did. -/
def imageBacksSpec : ChangeSpec := { name := "imageBacks", fn := fun _ => fun
  | [d1, d2] => { results := [.lit (.bool true)], args := [d1, d2] }
  | _ => none }
def imageBacksRow : OpenClaim := { program := "ytmfjebpdkgbggaa", sum := "4e7dd3eca83cddf096b546154c618242f63e5ada5bcba9f0179df5ebd9c9da96", func := "bakelite/bakelaw2.ImageBacks", spec := "imageBacks", unfollowed := true, recurses := true, plainKeys := false, apart := false }
def ImageBacksSaid : Prop := imageBacksRow.holds Try.pinned (OpenSpec.ofChange imageBacksSpec)

/-- ITS FALSE NEIGHBOUR: 'it returns false'. Refute it at one input. -/
def imageBacksWrong : ChangeSpec := { name := "imageBacks", fn := fun _ => fun
  | [d1, d2] => { results := [.lit (.bool false)], args := [d1, d2] }
  | _ => none }
def ImageBacksWrongFalsely : Prop := imageBacksRow.holds Try.pinned (OpenSpec.ofChange imageBacksWrong)

/-- 'bakelaw2.MendJoins': WHATEVER THE INPUT: true; the input reads as it did. -/
def mendJoinsSpec : ChangeSpec := { name := "mendJoins", fn := fun _ => fun
  | [d] => { results := [.lit (.bool true)], args := [d] }
  | _ => none }
def mendJoinsRow : OpenClaim := { program := "ytmfjebpdkgbggaa", sum := "4e7dd3eca83cddf096b546154c618242f63e5ada5bcba9f0179df5ebd9c9da96", func := "bakelite/bakelaw2.MendJoins", spec := "mendJoins", unfollowed := true, recurses := true, plainKeys := false, apart := false }
def MendJoinsSaid : Prop := mendJoinsRow.holds Try.pinned (OpenSpec.ofChange mendJoinsSpec)

/-- ITS FALSE NEIGHBOUR: 'it returns false'. Refute it at one input. -/
def mendJoinsWrong : ChangeSpec := { name := "mendJoins", fn := fun _ => fun
  | [d] => { results := [.lit (.bool false)], args := [d] }
  | _ => none }
def MendJoinsWrongFalsely : Prop := mendJoinsRow.holds Try.pinned (OpenSpec.ofChange mendJoinsWrong)

/- THE SECOND FORM. 'bulk': how many values and letters a reading holds, each counted each time it is reached (what is shared counts as often as it is met; a slice's spare places count too). A statement '..UptoSaid' is the law's where the arguments, and the package variables that the reading takes, are together of bulk at most 1048576: NARROWER than '..Said'. Prove '..Said' where nothing that the law and all that it calls make is longer than what came in: it says more and counts as full. Else prove '..UptoSaid'. A law counts once. -/
mutual
def uptoBulk {H : Type} : DataW H → Nat
  | .lit (.string bytes) => bytes.length + 1
  | .lit _ => 1
  | .nil => 1
  | .ptr d => uptoBulk d + 1
  | .slice elems spare => uptoBulkAll elems + uptoBulkAll spare + 1
  | .agg parts => uptoBulkAll parts + 1
  | .iface _ d => uptoBulk d + 1
  | .map entries => uptoBulkEntries entries + 1
  | .held _ => 1
def uptoBulkAll {H : Type} : List (DataW H) → Nat
  | [] => 0
  | d :: r => uptoBulk d + uptoBulkAll r
def uptoBulkEntries {H : Type} : List (Lit × DataW H) → Nat
  | [] => 0
  | x :: r => uptoBulkEntry x + uptoBulkEntries r
def uptoBulkEntry {H : Type} : Lit × DataW H → Nat
  | (.string bytes, d) => bytes.length + uptoBulk d + 1
  | (_, d) => uptoBulk d + 1
 end
def uptoSmall : (H : Type) → List (DataW H) → Bool := fun _ ds => decide (uptoBulkAll ds ≤ 1048576)
def OpenSpec.upto (s : _root_.Go.ChangeSpec) : _root_.Go.OpenSpec := { _root_.Go.OpenSpec.ofChange s with cond := some uptoSmall }

/-- 'bakelaw2.ChainNews', WHERE WHAT IT READS IS OF BULK AT MOST 1048576: true; the input reads as it did. -/
def chainNewsUptoRow : OpenClaim := { program := "ytmfjebpdkgbggaa", sum := "4e7dd3eca83cddf096b546154c618242f63e5ada5bcba9f0179df5ebd9c9da96", func := "bakelite/bakelaw2.ChainNews", spec := "chainNews", inPlace := ["internal/bytealg.IndexByteString"], unfollowed := true, recurses := true, plainKeys := false, apart := false, narrowed := true }
def ChainNewsUptoSaid : Prop := chainNewsUptoRow.holds Try.pinned (OpenSpec.upto chainNewsSpec)

/-- 'bakelaw2.ChainDrops', WHERE WHAT IT READS IS OF BULK AT MOST 1048576: true; the input reads as it did. -/
def chainDropsUptoRow : OpenClaim := { program := "ytmfjebpdkgbggaa", sum := "4e7dd3eca83cddf096b546154c618242f63e5ada5bcba9f0179df5ebd9c9da96", func := "bakelite/bakelaw2.ChainDrops", spec := "chainDrops", inPlace := ["internal/bytealg.Count", "internal/bytealg.IndexByte", "internal/bytealg.Index", "internal/bytealg.IndexByteString"], unfollowed := true, recurses := true, named := ["internal/bytealg.MaxLen"], plainKeys := false, apart := false, narrowed := true }
def ChainDropsUptoSaid : Prop := chainDropsUptoRow.holds Try.pinned (OpenSpec.upto chainDropsSpec)

/-- 'bakelaw2.ChainPuts', WHERE WHAT IT READS IS OF BULK AT MOST 1048576: true; the input reads as it did. -/
def chainPutsUptoRow : OpenClaim := { program := "ytmfjebpdkgbggaa", sum := "4e7dd3eca83cddf096b546154c618242f63e5ada5bcba9f0179df5ebd9c9da96", func := "bakelite/bakelaw2.ChainPuts", spec := "chainPuts", inPlace := ["internal/bytealg.Count", "internal/bytealg.IndexByte", "internal/bytealg.Index", "internal/bytealg.IndexByteString"], unfollowed := true, recurses := true, named := ["internal/bytealg.MaxLen"], plainKeys := false, apart := false, narrowed := true }
def ChainPutsUptoSaid : Prop := chainPutsUptoRow.holds Try.pinned (OpenSpec.upto chainPutsSpec)

/-- 'bakelaw2.ImageBacks', WHERE WHAT IT READS IS OF BULK AT MOST 1048576: true; the input reads as it did. -/
def imageBacksUptoRow : OpenClaim := { program := "ytmfjebpdkgbggaa", sum := "4e7dd3eca83cddf096b546154c618242f63e5ada5bcba9f0179df5ebd9c9da96", func := "bakelite/bakelaw2.ImageBacks", spec := "imageBacks", unfollowed := true, recurses := true, plainKeys := false, apart := false, narrowed := true }
def ImageBacksUptoSaid : Prop := imageBacksUptoRow.holds Try.pinned (OpenSpec.upto imageBacksSpec)

/-- 'bakelaw2.MendJoins', WHERE WHAT IT READS IS OF BULK AT MOST 1048576: true; the input reads as it did. -/
def mendJoinsUptoRow : OpenClaim := { program := "ytmfjebpdkgbggaa", sum := "4e7dd3eca83cddf096b546154c618242f63e5ada5bcba9f0179df5ebd9c9da96", func := "bakelite/bakelaw2.MendJoins", spec := "mendJoins", unfollowed := true, recurses := true, plainKeys := false, apart := false, narrowed := true }
def MendJoinsUptoSaid : Prop := mendJoinsUptoRow.holds Try.pinned (OpenSpec.upto mendJoinsSpec)

end Rows
end Go.Proofs.Ytmfjebpdkgbggaa
