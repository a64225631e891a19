/-
  No cell of these rows narrows 'for every input' (looked for: loops, veiled, ifaces, maps, wideKeys, modest, calm, conditions, laid).
  DERIVED. THE GIVEN ROWS OF THIS SEAT. 12 by the template 'for every input the law returns true; each argument reads behind the call as it read before'; 0 by the template 'total and deterministic' (their statements: YtlgbhaigpecdoaaTotals.lean).
  GIVEN WITH THE SEED: the statements are not yours to turn. If you find one false, say at which input.
  Laid BY PROGRAM, IN A SANDBOX (cutbox-rows.mjs): the forced cells as the released guide's own fill.sh prints them over the translation 82e9c3820ab555b3… (all of the seat's roots in one cut). By AI agents, Wed Nov 11 2026. No macro, syntax, notation, axiom, sorry.
-/
import Derived.Test.YtlgbhaigpecdoaaChecked
import GoSem.Claim
import GoSem.ClaimJoined
import GoSem.ClaimMapViews
import Derived.JoinedTies
import Derived.KernelRfl
namespace Go.Proofs.Ytlgbhaigpecdoaa
/- THE CELL 'sum', in the pinned program and in every row, IS THE sha256 OF THE DUMP (.gsa) THAT YtlgbhaigpecdoaaProg.lean LOADS. Nothing in Lean hashes anything: it is a label: what it is worth is what the hold of that sum in a sandbox is worth. -/
noncomputable def Try.pinned : Pinned := { name := "ytlgbhaigpecdoaa", sum := "82e9c3820ab555b3900490c3de05d566433c70566cfbda8ceca7934419210989", checked := Try.checked }
namespace Rows
def none {H : Type} : Left H := { results := [], args := [] }

/-- 'bakelaw2.ImageSectors': WHATEVER THE INPUT: true; the input reads as it did. -/
def imageSectorsSpec : ChangeSpec := { name := "imageSectors", fn := fun _ => fun
  | [d1, d2, d3, d4, d5, d6, d7] => { results := [.lit (.bool true)], args := [d1, d2, d3, d4, d5, d6, d7] }
  | _ => none }
def imageSectorsRow : OpenClaim := { program := "ytlgbhaigpecdoaa", sum := "82e9c3820ab555b3900490c3de05d566433c70566cfbda8ceca7934419210989", func := "bakelite/bakelaw2.ImageSectors", spec := "imageSectors", unfollowed := true, recurses := true, apart := false }
def ImageSectorsSaid : Prop := imageSectorsRow.holds Try.pinned (OpenSpec.ofChange imageSectorsSpec)

/-- ITS FALSE NEIGHBOUR: 'it returns false'. Refute it at one input. -/
def imageSectorsWrong : ChangeSpec := { name := "imageSectors", fn := fun _ => fun
  | [d1, d2, d3, d4, d5, d6, d7] => { results := [.lit (.bool false)], args := [d1, d2, d3, d4, d5, d6, d7] }
  | _ => none }
def ImageSectorsWrongFalsely : Prop := imageSectorsRow.holds Try.pinned (OpenSpec.ofChange imageSectorsWrong)

/-- 'bakelaw2.MfmWrites': WHATEVER THE INPUT: true; the input reads as it did. -/
def mfmWritesSpec : ChangeSpec := { name := "mfmWrites", fn := fun _ => fun
  | [d1, d2, d3] => { results := [.lit (.bool true)], args := [d1, d2, d3] }
  | _ => none }
def mfmWritesRow : OpenClaim := { program := "ytlgbhaigpecdoaa", sum := "82e9c3820ab555b3900490c3de05d566433c70566cfbda8ceca7934419210989", func := "bakelite/bakelaw2.MfmWrites", spec := "mfmWrites", unfollowed := true, recurses := true, apart := false }
def MfmWritesSaid : Prop := mfmWritesRow.holds Try.pinned (OpenSpec.ofChange mfmWritesSpec)

/-- ITS FALSE NEIGHBOUR: 'it returns false'. Refute it at one input. -/
def mfmWritesWrong : ChangeSpec := { name := "mfmWrites", fn := fun _ => fun
  | [d1, d2, d3] => { results := [.lit (.bool false)], args := [d1, d2, d3] }
  | _ => none }
def MfmWritesWrongFalsely : Prop := mfmWritesRow.holds Try.pinned (OpenSpec.ofChange mfmWritesWrong)

/-- 'bakelaw2.MfmPlain': WHATEVER THE INPUT: true; the input reads as it did. -/
def mfmPlainSpec : ChangeSpec := { name := "mfmPlain", fn := fun _ => fun
  | [d1, d2, d3] => { results := [.lit (.bool true)], args := [d1, d2, d3] }
  | _ => none }
def mfmPlainRow : OpenClaim := { program := "ytlgbhaigpecdoaa", sum := "82e9c3820ab555b3900490c3de05d566433c70566cfbda8ceca7934419210989", func := "bakelite/bakelaw2.MfmPlain", spec := "mfmPlain", unfollowed := true, recurses := true, apart := false }
def MfmPlainSaid : Prop := mfmPlainRow.holds Try.pinned (OpenSpec.ofChange mfmPlainSpec)

/-- ITS FALSE NEIGHBOUR: 'it returns false'. Refute it at one input. -/
def mfmPlainWrong : ChangeSpec := { name := "mfmPlain", fn := fun _ => fun
  | [d1, d2, d3] => { results := [.lit (.bool false)], args := [d1, d2, d3] }
  | _ => none }
def MfmPlainWrongFalsely : Prop := mfmPlainRow.holds Try.pinned (OpenSpec.ofChange mfmPlainWrong)

/-- 'bakelaw2.ChainNews': WHATEVER THE INPUT: true; the input reads as it did. -/
def chainNewsSpec : ChangeSpec := { name := "chainNews", fn := fun _ => fun
  | [d1, d2, d3] => { results := [.lit (.bool true)], args := [d1, d2, d3] }
  | _ => none }
def chainNewsRow : OpenClaim := { program := "ytlgbhaigpecdoaa", sum := "82e9c3820ab555b3900490c3de05d566433c70566cfbda8ceca7934419210989", func := "bakelite/bakelaw2.ChainNews", spec := "chainNews", inPlace := ["internal/bytealg.IndexByteString"], unfollowed := true, recurses := true, apart := false }
def ChainNewsSaid : Prop := chainNewsRow.holds Try.pinned (OpenSpec.ofChange chainNewsSpec)

/-- ITS FALSE NEIGHBOUR: 'it returns false'. Refute it at one input. -/
def chainNewsWrong : ChangeSpec := { name := "chainNews", fn := fun _ => fun
  | [d1, d2, d3] => { results := [.lit (.bool false)], args := [d1, d2, d3] }
  | _ => none }
def ChainNewsWrongFalsely : Prop := chainNewsRow.holds Try.pinned (OpenSpec.ofChange chainNewsWrong)

/-- 'bakelaw2.TapeWrites': WHATEVER THE INPUT: true; the input reads as it did. -/
def tapeWritesSpec : ChangeSpec := { name := "tapeWrites", fn := fun _ => fun
  | [d1, d2] => { results := [.lit (.bool true)], args := [d1, d2] }
  | _ => none }
def tapeWritesRow : OpenClaim := { program := "ytlgbhaigpecdoaa", sum := "82e9c3820ab555b3900490c3de05d566433c70566cfbda8ceca7934419210989", func := "bakelite/bakelaw2.TapeWrites", spec := "tapeWrites", unfollowed := true, recurses := true, apart := false }
def TapeWritesSaid : Prop := tapeWritesRow.holds Try.pinned (OpenSpec.ofChange tapeWritesSpec)

/-- ITS FALSE NEIGHBOUR: 'it returns false'. Refute it at one input. -/
def tapeWritesWrong : ChangeSpec := { name := "tapeWrites", fn := fun _ => fun
  | [d1, d2] => { results := [.lit (.bool false)], args := [d1, d2] }
  | _ => none }
def TapeWritesWrongFalsely : Prop := tapeWritesRow.holds Try.pinned (OpenSpec.ofChange tapeWritesWrong)

/-- 'bakelaw2.ImageBacks': WHATEVER THE INPUT: true; the input reads as it did. -/
def imageBacksSpec : ChangeSpec := { name := "imageBacks", fn := fun _ => fun
  | [d1, d2] => { results := [.lit (.bool true)], args := [d1, d2] }
  | _ => none }
def imageBacksRow : OpenClaim := { program := "ytlgbhaigpecdoaa", sum := "82e9c3820ab555b3900490c3de05d566433c70566cfbda8ceca7934419210989", func := "bakelite/bakelaw2.ImageBacks", spec := "imageBacks", unfollowed := true, recurses := true, apart := false }
def ImageBacksSaid : Prop := imageBacksRow.holds Try.pinned (OpenSpec.ofChange imageBacksSpec)

/-- ITS FALSE NEIGHBOUR: 'it returns false'. Refute it at one input. -/
def imageBacksWrong : ChangeSpec := { name := "imageBacks", fn := fun _ => fun
  | [d1, d2] => { results := [.lit (.bool false)], args := [d1, d2] }
  | _ => none }
def ImageBacksWrongFalsely : Prop := imageBacksRow.holds Try.pinned (OpenSpec.ofChange imageBacksWrong)

/-- 'bakelaw2.ImageTracks': WHATEVER THE INPUT: true; the input reads as it did. -/
def imageTracksSpec : ChangeSpec := { name := "imageTracks", fn := fun _ => fun
  | [d1, d2] => { results := [.lit (.bool true)], args := [d1, d2] }
  | _ => none }
def imageTracksRow : OpenClaim := { program := "ytlgbhaigpecdoaa", sum := "82e9c3820ab555b3900490c3de05d566433c70566cfbda8ceca7934419210989", func := "bakelite/bakelaw2.ImageTracks", spec := "imageTracks", unfollowed := true, recurses := true, apart := false }
def ImageTracksSaid : Prop := imageTracksRow.holds Try.pinned (OpenSpec.ofChange imageTracksSpec)

/-- ITS FALSE NEIGHBOUR: 'it returns false'. Refute it at one input. -/
def imageTracksWrong : ChangeSpec := { name := "imageTracks", fn := fun _ => fun
  | [d1, d2] => { results := [.lit (.bool false)], args := [d1, d2] }
  | _ => none }
def ImageTracksWrongFalsely : Prop := imageTracksRow.holds Try.pinned (OpenSpec.ofChange imageTracksWrong)

/-- 'bakelaw2.SectScans': WHATEVER THE INPUT: true; the input reads as it did. -/
def sectScansSpec : ChangeSpec := { name := "sectScans", fn := fun _ => fun
  | [d1, d2] => { results := [.lit (.bool true)], args := [d1, d2] }
  | _ => none }
def sectScansRow : OpenClaim := { program := "ytlgbhaigpecdoaa", sum := "82e9c3820ab555b3900490c3de05d566433c70566cfbda8ceca7934419210989", func := "bakelite/bakelaw2.SectScans", spec := "sectScans", unfollowed := true, recurses := true, apart := false }
def SectScansSaid : Prop := sectScansRow.holds Try.pinned (OpenSpec.ofChange sectScansSpec)

/-- ITS FALSE NEIGHBOUR: 'it returns false'. Refute it at one input. -/
def sectScansWrong : ChangeSpec := { name := "sectScans", fn := fun _ => fun
  | [d1, d2] => { results := [.lit (.bool false)], args := [d1, d2] }
  | _ => none }
def SectScansWrongFalsely : Prop := sectScansRow.holds Try.pinned (OpenSpec.ofChange sectScansWrong)

/-- 'bakelaw2.SectFormats': WHATEVER THE INPUT: true; the input reads as it did. -/
def sectFormatsSpec : ChangeSpec := { name := "sectFormats", fn := fun _ => fun
  | [d1, d2, d3] => { results := [.lit (.bool true)], args := [d1, d2, d3] }
  | _ => none }
def sectFormatsRow : OpenClaim := { program := "ytlgbhaigpecdoaa", sum := "82e9c3820ab555b3900490c3de05d566433c70566cfbda8ceca7934419210989", func := "bakelite/bakelaw2.SectFormats", spec := "sectFormats", apart := false }
def SectFormatsSaid : Prop := sectFormatsRow.holds Try.pinned (OpenSpec.ofChange sectFormatsSpec)

/-- ITS FALSE NEIGHBOUR: 'it returns false'. Refute it at one input. -/
def sectFormatsWrong : ChangeSpec := { name := "sectFormats", fn := fun _ => fun
  | [d1, d2, d3] => { results := [.lit (.bool false)], args := [d1, d2, d3] }
  | _ => none }
def SectFormatsWrongFalsely : Prop := sectFormatsRow.holds Try.pinned (OpenSpec.ofChange sectFormatsWrong)

/-- 'bakelaw2.ChainChecks': WHATEVER THE INPUT: true; the input reads as it did. -/
def chainChecksSpec : ChangeSpec := { name := "chainChecks", fn := fun _ => fun
  | [d] => { results := [.lit (.bool true)], args := [d] }
  | _ => none }
def chainChecksRow : OpenClaim := { program := "ytlgbhaigpecdoaa", sum := "82e9c3820ab555b3900490c3de05d566433c70566cfbda8ceca7934419210989", func := "bakelite/bakelaw2.ChainChecks", spec := "chainChecks", inPlace := ["internal/bytealg.Count", "internal/bytealg.IndexByte", "internal/bytealg.Index", "internal/bytealg.IndexByteString"], unfollowed := true, recurses := true, named := ["internal/bytealg.MaxLen"], apart := false }
def ChainChecksSaid : Prop := chainChecksRow.holds Try.pinned (OpenSpec.ofChange chainChecksSpec)

/-- ITS FALSE NEIGHBOUR: 'it returns false'. Refute it at one input. -/
def chainChecksWrong : ChangeSpec := { name := "chainChecks", fn := fun _ => fun
  | [d] => { results := [.lit (.bool false)], args := [d] }
  | _ => none }
def ChainChecksWrongFalsely : Prop := chainChecksRow.holds Try.pinned (OpenSpec.ofChange chainChecksWrong)

/-- 'bakelaw2.ChainDrops': WHATEVER THE INPUT: true; the input reads as it did. -/
def chainDropsSpec : ChangeSpec := { name := "chainDrops", fn := fun _ => fun
  | [d1, d2] => { results := [.lit (.bool true)], args := [d1, d2] }
  | _ => none }
def chainDropsRow : OpenClaim := { program := "ytlgbhaigpecdoaa", sum := "82e9c3820ab555b3900490c3de05d566433c70566cfbda8ceca7934419210989", func := "bakelite/bakelaw2.ChainDrops", spec := "chainDrops", inPlace := ["internal/bytealg.Count", "internal/bytealg.IndexByte", "internal/bytealg.Index", "internal/bytealg.IndexByteString"], unfollowed := true, recurses := true, named := ["internal/bytealg.MaxLen"], apart := false }
def ChainDropsSaid : Prop := chainDropsRow.holds Try.pinned (OpenSpec.ofChange chainDropsSpec)

/-- ITS FALSE NEIGHBOUR: 'it returns false'. Refute it at one input. -/
def chainDropsWrong : ChangeSpec := { name := "chainDrops", fn := fun _ => fun
  | [d1, d2] => { results := [.lit (.bool false)], args := [d1, d2] }
  | _ => none }
def ChainDropsWrongFalsely : Prop := chainDropsRow.holds Try.pinned (OpenSpec.ofChange chainDropsWrong)

/-- 'bakelaw2.ChainReads': WHATEVER THE INPUT: true; the input reads as it did. -/
def chainReadsSpec : ChangeSpec := { name := "chainReads", fn := fun _ => fun
  | [d1, d2] => { results := [.lit (.bool true)], args := [d1, d2] }
  | _ => none }
def chainReadsRow : OpenClaim := { program := "ytlgbhaigpecdoaa", sum := "82e9c3820ab555b3900490c3de05d566433c70566cfbda8ceca7934419210989", func := "bakelite/bakelaw2.ChainReads", spec := "chainReads", inPlace := ["internal/bytealg.Count", "internal/bytealg.IndexByte", "internal/bytealg.Index", "internal/bytealg.IndexByteString"], unfollowed := true, recurses := true, named := ["internal/bytealg.MaxLen"], apart := false }
def ChainReadsSaid : Prop := chainReadsRow.holds Try.pinned (OpenSpec.ofChange chainReadsSpec)

/-- ITS FALSE NEIGHBOUR: 'it returns false'. Refute it at one input. -/
def chainReadsWrong : ChangeSpec := { name := "chainReads", fn := fun _ => fun
  | [d1, d2] => { results := [.lit (.bool false)], args := [d1, d2] }
  | _ => none }
def ChainReadsWrongFalsely : Prop := chainReadsRow.holds Try.pinned (OpenSpec.ofChange chainReadsWrong)

/- THE SECOND FORM. 'bulk': how many values and letters a reading holds, each counted each time it is reached (what is shared counts as often as it is met; a slice's spare places count too). A statement '..UptoSaid' is the law's where the arguments, and the package variables that the reading takes, are together of bulk at most 1048576: NARROWER than '..Said'. Prove '..Said' where nothing that the law and all that it calls make is longer than what came in: it says more and counts as full. Else prove '..UptoSaid'. A law counts once. -/
mutual
def uptoBulk {H : Type} : DataW H → Nat
  | .lit (.string bytes) => bytes.length + 1
  | .lit _ => 1
  | .nil => 1
  | .ptr d => uptoBulk d + 1
  | .slice elems spare => uptoBulkAll elems + uptoBulkAll spare + 1
  | .agg parts => uptoBulkAll parts + 1
  | .iface _ d => uptoBulk d + 1
  | .map entries => uptoBulkEntries entries + 1
  | .held _ => 1
def uptoBulkAll {H : Type} : List (DataW H) → Nat
  | [] => 0
  | d :: r => uptoBulk d + uptoBulkAll r
def uptoBulkEntries {H : Type} : List (Lit × DataW H) → Nat
  | [] => 0
  | x :: r => uptoBulkEntry x + uptoBulkEntries r
def uptoBulkEntry {H : Type} : Lit × DataW H → Nat
  | (.string bytes, d) => bytes.length + uptoBulk d + 1
  | (_, d) => uptoBulk d + 1
 end
def uptoSmall : (H : Type) → List (DataW H) → Bool := fun _ ds => decide (uptoBulkAll ds ≤ 1048576)
def OpenSpec.upto (s : _root_.Go.ChangeSpec) : _root_.Go.OpenSpec := { _root_.Go.OpenSpec.ofChange s with cond := some uptoSmall }

/-- 'bakelaw2.ImageSectors', WHERE WHAT IT READS IS OF BULK AT MOST 1048576: true; the input reads as it did. -/
def imageSectorsUptoRow : OpenClaim := { program := "ytlgbhaigpecdoaa", sum := "82e9c3820ab555b3900490c3de05d566433c70566cfbda8ceca7934419210989", func := "bakelite/bakelaw2.ImageSectors", spec := "imageSectors", unfollowed := true, recurses := true, apart := false, narrowed := true }
def ImageSectorsUptoSaid : Prop := imageSectorsUptoRow.holds Try.pinned (OpenSpec.upto imageSectorsSpec)

/-- 'bakelaw2.MfmWrites', WHERE WHAT IT READS IS OF BULK AT MOST 1048576: true; the input reads as it did. -/
def mfmWritesUptoRow : OpenClaim := { program := "ytlgbhaigpecdoaa", sum := "82e9c3820ab555b3900490c3de05d566433c70566cfbda8ceca7934419210989", func := "bakelite/bakelaw2.MfmWrites", spec := "mfmWrites", unfollowed := true, recurses := true, apart := false, narrowed := true }
def MfmWritesUptoSaid : Prop := mfmWritesUptoRow.holds Try.pinned (OpenSpec.upto mfmWritesSpec)

/-- 'bakelaw2.MfmPlain', WHERE WHAT IT READS IS OF BULK AT MOST 1048576: true; the input reads as it did. -/
def mfmPlainUptoRow : OpenClaim := { program := "ytlgbhaigpecdoaa", sum := "82e9c3820ab555b3900490c3de05d566433c70566cfbda8ceca7934419210989", func := "bakelite/bakelaw2.MfmPlain", spec := "mfmPlain", unfollowed := true, recurses := true, apart := false, narrowed := true }
def MfmPlainUptoSaid : Prop := mfmPlainUptoRow.holds Try.pinned (OpenSpec.upto mfmPlainSpec)

/-- 'bakelaw2.ChainNews', WHERE WHAT IT READS IS OF BULK AT MOST 1048576: true; the input reads as it did. -/
def chainNewsUptoRow : OpenClaim := { program := "ytlgbhaigpecdoaa", sum := "82e9c3820ab555b3900490c3de05d566433c70566cfbda8ceca7934419210989", func := "bakelite/bakelaw2.ChainNews", spec := "chainNews", inPlace := ["internal/bytealg.IndexByteString"], unfollowed := true, recurses := true, apart := false, narrowed := true }
def ChainNewsUptoSaid : Prop := chainNewsUptoRow.holds Try.pinned (OpenSpec.upto chainNewsSpec)

/-- 'bakelaw2.TapeWrites', WHERE WHAT IT READS IS OF BULK AT MOST 1048576: true; the input reads as it did. -/
def tapeWritesUptoRow : OpenClaim := { program := "ytlgbhaigpecdoaa", sum := "82e9c3820ab555b3900490c3de05d566433c70566cfbda8ceca7934419210989", func := "bakelite/bakelaw2.TapeWrites", spec := "tapeWrites", unfollowed := true, recurses := true, apart := false, narrowed := true }
def TapeWritesUptoSaid : Prop := tapeWritesUptoRow.holds Try.pinned (OpenSpec.upto tapeWritesSpec)

/-- 'bakelaw2.ImageBacks', WHERE WHAT IT READS IS OF BULK AT MOST 1048576: true; the input reads as it did. -/
def imageBacksUptoRow : OpenClaim := { program := "ytlgbhaigpecdoaa", sum := "82e9c3820ab555b3900490c3de05d566433c70566cfbda8ceca7934419210989", func := "bakelite/bakelaw2.ImageBacks", spec := "imageBacks", unfollowed := true, recurses := true, apart := false, narrowed := true }
def ImageBacksUptoSaid : Prop := imageBacksUptoRow.holds Try.pinned (OpenSpec.upto imageBacksSpec)

/-- 'bakelaw2.ImageTracks', WHERE WHAT IT READS IS OF BULK AT MOST 1048576: true; the input reads as it did. -/
def imageTracksUptoRow : OpenClaim := { program := "ytlgbhaigpecdoaa", sum := "82e9c3820ab555b3900490c3de05d566433c70566cfbda8ceca7934419210989", func := "bakelite/bakelaw2.ImageTracks", spec := "imageTracks", unfollowed := true, recurses := true, apart := false, narrowed := true }
def ImageTracksUptoSaid : Prop := imageTracksUptoRow.holds Try.pinned (OpenSpec.upto imageTracksSpec)

/-- 'bakelaw2.SectScans', WHERE WHAT IT READS IS OF BULK AT MOST 1048576: true; the input reads as it did. -/
def sectScansUptoRow : OpenClaim := { program := "ytlgbhaigpecdoaa", sum := "82e9c3820ab555b3900490c3de05d566433c70566cfbda8ceca7934419210989", func := "bakelite/bakelaw2.SectScans", spec := "sectScans", unfollowed := true, recurses := true, apart := false, narrowed := true }
def SectScansUptoSaid : Prop := sectScansUptoRow.holds Try.pinned (OpenSpec.upto sectScansSpec)

/-- 'bakelaw2.SectFormats', WHERE WHAT IT READS IS OF BULK AT MOST 1048576: true; the input reads as it did. -/
def sectFormatsUptoRow : OpenClaim := { program := "ytlgbhaigpecdoaa", sum := "82e9c3820ab555b3900490c3de05d566433c70566cfbda8ceca7934419210989", func := "bakelite/bakelaw2.SectFormats", spec := "sectFormats", apart := false, narrowed := true }
def SectFormatsUptoSaid : Prop := sectFormatsUptoRow.holds Try.pinned (OpenSpec.upto sectFormatsSpec)

/-- 'bakelaw2.ChainChecks', WHERE WHAT IT READS IS OF BULK AT MOST 1048576: true; the input reads as it did. -/
def chainChecksUptoRow : OpenClaim := { program := "ytlgbhaigpecdoaa", sum := "82e9c3820ab555b3900490c3de05d566433c70566cfbda8ceca7934419210989", func := "bakelite/bakelaw2.ChainChecks", spec := "chainChecks", inPlace := ["internal/bytealg.Count", "internal/bytealg.IndexByte", "internal/bytealg.Index", "internal/bytealg.IndexByteString"], unfollowed := true, recurses := true, named := ["internal/bytealg.MaxLen"], apart := false, narrowed := true }
def ChainChecksUptoSaid : Prop := chainChecksUptoRow.holds Try.pinned (OpenSpec.upto chainChecksSpec)

/-- 'bakelaw2.ChainDrops', WHERE WHAT IT READS IS OF BULK AT MOST 1048576: true; the input reads as it did. -/
def chainDropsUptoRow : OpenClaim := { program := "ytlgbhaigpecdoaa", sum := "82e9c3820ab555b3900490c3de05d566433c70566cfbda8ceca7934419210989", func := "bakelite/bakelaw2.ChainDrops", spec := "chainDrops", inPlace := ["internal/bytealg.Count", "internal/bytealg.IndexByte", "internal/bytealg.Index", "internal/bytealg.IndexByteString"], unfollowed := true, recurses := true, named := ["internal/bytealg.MaxLen"], apart := false, narrowed := true }
def ChainDropsUptoSaid : Prop := chainDropsUptoRow.holds Try.pinned (OpenSpec.upto chainDropsSpec)

/-- 'bakelaw2.ChainReads', WHERE WHAT IT READS IS OF BULK AT MOST 1048576: true; the input reads as it did. -/
def chainReadsUptoRow : OpenClaim := { program := "ytlgbhaigpecdoaa", sum := "82e9c3820ab555b3900490c3de05d566433c70566cfbda8ceca7934419210989", func := "bakelite/bakelaw2.ChainReads", spec := "chainReads", inPlace := ["internal/bytealg.Count", "internal/bytealg.IndexByte", "internal/bytealg.Index", "internal/bytealg.IndexByteString"], unfollowed := true, recurses := true, named := ["internal/bytealg.MaxLen"], apart := false, narrowed := true }
def ChainReadsUptoSaid : Prop := chainReadsUptoRow.holds Try.pinned (OpenSpec.upto chainReadsSpec)

end Rows
end Go.Proofs.Ytlgbhaigpecdoaa
