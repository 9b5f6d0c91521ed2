/-
  NARROWER THAN 'FOR EVERY INPUT', by the rows' own cells (each row's printed sentence says how): DiskSizes: laid · DiskShapes: laid · DiskMounts: laid · DiskPlays: laid · TiersAgain: laid · TiersOne: laid · TiersPlays: laid.
  DERIVED. THE GIVEN ROWS OF THIS SEAT. 7 by the template 'for every input the law returns true; each argument reads behind the call as it read before'; 0 by the template 'total and deterministic' (their statements: YtgkdpbambfgahaaGreatDoorTotals.lean).
  GIVEN WITH THE SEED: the statements are not yours to turn. If you find one false, say at which input.
  Laid BY PROGRAM, IN A SANDBOX (cutbox-rows.mjs): the forced cells as the released guide's own fill.sh prints them over the translation edaf40f168cef285… (all of the seat's roots in one cut). By AI agents, Wed Nov 11 2026. No macro, syntax, notation, axiom, sorry.
-/
import Derived.Test.YtgkdpbambfgahaaGreatDoorChecked
import GoSem.PinnedTables
import GoSem.Claim
import GoSem.ClaimJoined
import GoSem.ClaimMapViews
import Derived.JoinedTies
import Derived.KernelRfl
namespace Go.Proofs.YtgkdpbambfgahaaGreatDoor
/- THE CELL 'sum', in the pinned program and in every row, IS THE sha256 OF THE DUMP (.gsa) THAT YtgkdpbambfgahaaGreatDoorProg.lean LOADS. Nothing in Lean hashes anything: it is a label: what it is worth is what the hold of that sum in a sandbox is worth. -/
noncomputable def Tryz.pinned : Pinned := { name := "ytgkdpbambfgahaagreatdoor", sum := "edaf40f168cef285c9301f92381b91332e1d367181ea38ffaea3529c5091012a", checked := Tryz.checked }
namespace Rows
def none {H : Type} : Left H := { results := [], args := [] }

/- WHAT THE LISTED PACKAGE-LEVEL VARIABLES READ AS WHEN THE CALL BEGINS. Each datum BY PROGRAM (the guide's laid-datum.mjs) off the statement by which the dump's own 'gosem.cut.vars' lays the variable. In a bare row this is a premise. The card (YtgkdpbambfgahaaGreatDoorCards.lean) ties it to the program's text. -/
def laid_unicode_utf8_acceptRanges {H : Type} : DataW H := .agg [.agg [.lit (.int .u8 128), .lit (.int .u8 191)], .agg [.lit (.int .u8 160), .lit (.int .u8 191)], .agg [.lit (.int .u8 128), .lit (.int .u8 159)], .agg [.lit (.int .u8 144), .lit (.int .u8 191)], .agg [.lit (.int .u8 128), .lit (.int .u8 143)], .agg [.lit (.int .u8 0), .lit (.int .u8 0)], .agg [.lit (.int .u8 0), .lit (.int .u8 0)], .agg [.lit (.int .u8 0), .lit (.int .u8 0)], .agg [.lit (.int .u8 0), .lit (.int .u8 0)], .agg [.lit (.int .u8 0), .lit (.int .u8 0)], .agg [.lit (.int .u8 0), .lit (.int .u8 0)], .agg [.lit (.int .u8 0), .lit (.int .u8 0)], .agg [.lit (.int .u8 0), .lit (.int .u8 0)], .agg [.lit (.int .u8 0), .lit (.int .u8 0)], .agg [.lit (.int .u8 0), .lit (.int .u8 0)], .agg [.lit (.int .u8 0), .lit (.int .u8 0)]]
def laid_icehouse_crc_half {H : Type} : DataW H := .agg [.lit (.int .u32 0), .lit (.int .u32 498536548), .lit (.int .u32 997073096), .lit (.int .u32 651767980), .lit (.int .u32 1994146192), .lit (.int .u32 1802195444), .lit (.int .u32 1303535960), .lit (.int .u32 1342533948), .lit (.int .u32 3988292384), .lit (.int .u32 4027552580), .lit (.int .u32 3604390888), .lit (.int .u32 3412177804), .lit (.int .u32 2607071920), .lit (.int .u32 2262029012), .lit (.int .u32 2685067896), .lit (.int .u32 3183342108)]
/-- One of Go's own tables, pinned by name: the form's constant. -/
def laid_unicode_utf8_first : DataW Unit := Go.Pinned.utf8First

/-- 'icehouselaw20.DiskSizes': WHATEVER THE INPUT: true; the input reads as it did. -/
def diskSizesSpec : ChangeSpec := { name := "diskSizes", fn := fun _ => fun
  | [d1, d2, d3] => { results := [.lit (.bool true)], args := [d1, d2, d3] }
  | _ => none }
def diskSizesRow : OpenClaim := { program := "ytgkdpbambfgahaagreatdoor", sum := "edaf40f168cef285c9301f92381b91332e1d367181ea38ffaea3529c5091012a", func := "icehouse/icehouselaw20.DiskSizes", spec := "diskSizes", inPlace := ["slices.overlaps[icehouse/api.Extent]", "internal/bytealg.IndexByteString", "internal/bytealg.IndexString", "slices.overlaps[string]", "slices.overlaps[int]", "slices.overlaps[icehouse/disk.known]"], unfollowed := true, recurses := true, named := ["icehouse/crc.half", "internal/bytealg.MaxLen", "unicode/utf8.first", "unicode/utf8.acceptRanges"], apart := false, laid := [("unicode/utf8.acceptRanges", laid_unicode_utf8_acceptRanges), ("icehouse/crc.half", laid_icehouse_crc_half), ("unicode/utf8.first", laid_unicode_utf8_first)] }
def DiskSizesSaid : Prop := diskSizesRow.holds Tryz.pinned (OpenSpec.ofChange diskSizesSpec)

/-- ITS FALSE NEIGHBOUR: 'it returns false'. Refute it at one input. -/
def diskSizesWrong : ChangeSpec := { name := "diskSizes", fn := fun _ => fun
  | [d1, d2, d3] => { results := [.lit (.bool false)], args := [d1, d2, d3] }
  | _ => none }
def DiskSizesWrongFalsely : Prop := diskSizesRow.holds Tryz.pinned (OpenSpec.ofChange diskSizesWrong)

/-- 'icehouselaw20.DiskShapes': WHATEVER THE INPUT: true; the input reads as it did. -/
def diskShapesSpec : ChangeSpec := { name := "diskShapes", fn := fun _ => fun
  | [d1, d2, d3] => { results := [.lit (.bool true)], args := [d1, d2, d3] }
  | _ => none }
def diskShapesRow : OpenClaim := { program := "ytgkdpbambfgahaagreatdoor", sum := "edaf40f168cef285c9301f92381b91332e1d367181ea38ffaea3529c5091012a", func := "icehouse/icehouselaw20.DiskShapes", spec := "diskShapes", inPlace := ["slices.overlaps[icehouse/api.Extent]", "internal/bytealg.IndexByteString", "internal/bytealg.IndexString", "slices.overlaps[string]", "slices.overlaps[int]", "slices.overlaps[icehouse/disk.known]"], unfollowed := true, recurses := true, named := ["icehouse/crc.half", "internal/bytealg.MaxLen", "unicode/utf8.first", "unicode/utf8.acceptRanges"], apart := false, laid := [("unicode/utf8.acceptRanges", laid_unicode_utf8_acceptRanges), ("icehouse/crc.half", laid_icehouse_crc_half), ("unicode/utf8.first", laid_unicode_utf8_first)] }
def DiskShapesSaid : Prop := diskShapesRow.holds Tryz.pinned (OpenSpec.ofChange diskShapesSpec)

/-- ITS FALSE NEIGHBOUR: 'it returns false'. Refute it at one input. -/
def diskShapesWrong : ChangeSpec := { name := "diskShapes", fn := fun _ => fun
  | [d1, d2, d3] => { results := [.lit (.bool false)], args := [d1, d2, d3] }
  | _ => none }
def DiskShapesWrongFalsely : Prop := diskShapesRow.holds Tryz.pinned (OpenSpec.ofChange diskShapesWrong)

/-- 'icehouselaw20.DiskMounts': WHATEVER THE INPUT: true; the input reads as it did. -/
def diskMountsSpec : ChangeSpec := { name := "diskMounts", fn := fun _ => fun
  | [d1, d2, d3] => { results := [.lit (.bool true)], args := [d1, d2, d3] }
  | _ => none }
def diskMountsRow : OpenClaim := { program := "ytgkdpbambfgahaagreatdoor", sum := "edaf40f168cef285c9301f92381b91332e1d367181ea38ffaea3529c5091012a", func := "icehouse/icehouselaw20.DiskMounts", spec := "diskMounts", inPlace := ["slices.overlaps[icehouse/api.Extent]", "internal/bytealg.IndexByteString", "internal/bytealg.IndexString", "slices.overlaps[string]", "slices.overlaps[int]", "slices.overlaps[icehouse/disk.known]"], unfollowed := true, recurses := true, named := ["icehouse/crc.half", "internal/bytealg.MaxLen", "unicode/utf8.first", "unicode/utf8.acceptRanges"], apart := false, laid := [("unicode/utf8.acceptRanges", laid_unicode_utf8_acceptRanges), ("icehouse/crc.half", laid_icehouse_crc_half), ("unicode/utf8.first", laid_unicode_utf8_first)] }
def DiskMountsSaid : Prop := diskMountsRow.holds Tryz.pinned (OpenSpec.ofChange diskMountsSpec)

/-- ITS FALSE NEIGHBOUR: 'it returns false'. Refute it at one input. -/
def diskMountsWrong : ChangeSpec := { name := "diskMounts", fn := fun _ => fun
  | [d1, d2, d3] => { results := [.lit (.bool false)], args := [d1, d2, d3] }
  | _ => none }
def DiskMountsWrongFalsely : Prop := diskMountsRow.holds Tryz.pinned (OpenSpec.ofChange diskMountsWrong)

/-- 'icehouselaw20.DiskPlays': WHATEVER THE INPUT: true; the input reads as it did. -/
def diskPlaysSpec : ChangeSpec := { name := "diskPlays", fn := fun _ => fun
  | [d1, d2] => { results := [.lit (.bool true)], args := [d1, d2] }
  | _ => none }
def diskPlaysRow : OpenClaim := { program := "ytgkdpbambfgahaagreatdoor", sum := "edaf40f168cef285c9301f92381b91332e1d367181ea38ffaea3529c5091012a", func := "icehouse/icehouselaw20.DiskPlays", spec := "diskPlays", inPlace := ["slices.overlaps[icehouse/api.Extent]", "internal/bytealg.IndexByteString", "internal/bytealg.IndexString", "slices.overlaps[string]", "slices.overlaps[int]", "slices.overlaps[icehouse/disk.known]"], unfollowed := true, recurses := true, named := ["icehouse/crc.half", "internal/bytealg.MaxLen", "unicode/utf8.first", "unicode/utf8.acceptRanges"], apart := false, laid := [("unicode/utf8.acceptRanges", laid_unicode_utf8_acceptRanges), ("icehouse/crc.half", laid_icehouse_crc_half), ("unicode/utf8.first", laid_unicode_utf8_first)] }
def DiskPlaysSaid : Prop := diskPlaysRow.holds Tryz.pinned (OpenSpec.ofChange diskPlaysSpec)

/-- ITS FALSE NEIGHBOUR: 'it returns false'. Refute it at one input. -/
def diskPlaysWrong : ChangeSpec := { name := "diskPlays", fn := fun _ => fun
  | [d1, d2] => { results := [.lit (.bool false)], args := [d1, d2] }
  | _ => none }
def DiskPlaysWrongFalsely : Prop := diskPlaysRow.holds Tryz.pinned (OpenSpec.ofChange diskPlaysWrong)

/-- 'icehouselaw22.TiersAgain': WHATEVER THE INPUT: true; the input reads as it did. -/
def tiersAgainSpec : ChangeSpec := { name := "tiersAgain", fn := fun _ => fun
  | [d1, d2, d3] => { results := [.lit (.bool true)], args := [d1, d2, d3] }
  | _ => none }
def tiersAgainRow : OpenClaim := { program := "ytgkdpbambfgahaagreatdoor", sum := "edaf40f168cef285c9301f92381b91332e1d367181ea38ffaea3529c5091012a", func := "icehouse/icehouselaw22.TiersAgain", spec := "tiersAgain", inPlace := ["slices.overlaps[icehouse/api.Extent]", "internal/bytealg.IndexByteString", "internal/bytealg.IndexString", "slices.overlaps[string]", "slices.overlaps[int]", "slices.overlaps[icehouse/disk.known]"], unfollowed := true, recurses := true, named := ["icehouse/crc.half", "internal/bytealg.MaxLen", "unicode/utf8.first", "unicode/utf8.acceptRanges"], apart := false, laid := [("unicode/utf8.acceptRanges", laid_unicode_utf8_acceptRanges), ("icehouse/crc.half", laid_icehouse_crc_half), ("unicode/utf8.first", laid_unicode_utf8_first)] }
def TiersAgainSaid : Prop := tiersAgainRow.holds Tryz.pinned (OpenSpec.ofChange tiersAgainSpec)

/-- ITS FALSE NEIGHBOUR: 'it returns false'. Refute it at one input. -/
def tiersAgainWrong : ChangeSpec := { name := "tiersAgain", fn := fun _ => fun
  | [d1, d2, d3] => { results := [.lit (.bool false)], args := [d1, d2, d3] }
  | _ => none }
def TiersAgainWrongFalsely : Prop := tiersAgainRow.holds Tryz.pinned (OpenSpec.ofChange tiersAgainWrong)

/-- 'icehouselaw22.TiersOne': WHATEVER THE INPUT: true; the input reads as it did. -/
def tiersOneSpec : ChangeSpec := { name := "tiersOne", fn := fun _ => fun
  | [d1, d2] => { results := [.lit (.bool true)], args := [d1, d2] }
  | _ => none }
def tiersOneRow : OpenClaim := { program := "ytgkdpbambfgahaagreatdoor", sum := "edaf40f168cef285c9301f92381b91332e1d367181ea38ffaea3529c5091012a", func := "icehouse/icehouselaw22.TiersOne", spec := "tiersOne", inPlace := ["slices.overlaps[icehouse/api.Extent]", "internal/bytealg.IndexByteString", "internal/bytealg.IndexString", "slices.overlaps[string]", "slices.overlaps[int]", "slices.overlaps[icehouse/disk.known]"], unfollowed := true, recurses := true, named := ["icehouse/crc.half", "internal/bytealg.MaxLen", "unicode/utf8.first", "unicode/utf8.acceptRanges"], apart := false, laid := [("unicode/utf8.acceptRanges", laid_unicode_utf8_acceptRanges), ("icehouse/crc.half", laid_icehouse_crc_half), ("unicode/utf8.first", laid_unicode_utf8_first)] }
def TiersOneSaid : Prop := tiersOneRow.holds Tryz.pinned (OpenSpec.ofChange tiersOneSpec)

/-- ITS FALSE NEIGHBOUR: 'it returns false'. Refute it at one input. -/
def tiersOneWrong : ChangeSpec := { name := "tiersOne", fn := fun _ => fun
  | [d1, d2] => { results := [.lit (.bool false)], args := [d1, d2] }
  | _ => none }
def TiersOneWrongFalsely : Prop := tiersOneRow.holds Tryz.pinned (OpenSpec.ofChange tiersOneWrong)

/-- 'icehouselaw22.TiersPlays': WHATEVER THE INPUT: true; the input reads as it did. -/
def tiersPlaysSpec : ChangeSpec := { name := "tiersPlays", fn := fun _ => fun
  | [d1, d2] => { results := [.lit (.bool true)], args := [d1, d2] }
  | _ => none }
def tiersPlaysRow : OpenClaim := { program := "ytgkdpbambfgahaagreatdoor", sum := "edaf40f168cef285c9301f92381b91332e1d367181ea38ffaea3529c5091012a", func := "icehouse/icehouselaw22.TiersPlays", spec := "tiersPlays", inPlace := ["slices.overlaps[icehouse/api.Extent]", "internal/bytealg.IndexByteString", "internal/bytealg.IndexString", "slices.overlaps[string]", "slices.overlaps[int]", "slices.overlaps[icehouse/disk.known]"], unfollowed := true, recurses := true, named := ["icehouse/crc.half", "internal/bytealg.MaxLen", "unicode/utf8.first", "unicode/utf8.acceptRanges"], apart := false, laid := [("unicode/utf8.acceptRanges", laid_unicode_utf8_acceptRanges), ("icehouse/crc.half", laid_icehouse_crc_half), ("unicode/utf8.first", laid_unicode_utf8_first)] }
def TiersPlaysSaid : Prop := tiersPlaysRow.holds Tryz.pinned (OpenSpec.ofChange tiersPlaysSpec)

/-- ITS FALSE NEIGHBOUR: 'it returns false'. Refute it at one input. -/
def tiersPlaysWrong : ChangeSpec := { name := "tiersPlays", fn := fun _ => fun
  | [d1, d2] => { results := [.lit (.bool false)], args := [d1, d2] }
  | _ => none }
def TiersPlaysWrongFalsely : Prop := tiersPlaysRow.holds Tryz.pinned (OpenSpec.ofChange tiersPlaysWrong)

/- THE SECOND FORM. 'bulk': how many values and letters a reading holds, each counted each time it is reached (what is shared counts as often as it is met; a slice's spare places count too). A statement '..UptoSaid' is the law's where the arguments, and the package variables that the reading takes, are together of bulk at most 1048576: NARROWER than '..Said'. Prove '..Said' where nothing that the law and all that it calls make is longer than what came in: it says more and counts as full. Else prove '..UptoSaid'. A law counts once. -/
mutual
def uptoBulk {H : Type} : DataW H → Nat
  | .lit (.string bytes) => bytes.length + 1
  | .lit _ => 1
  | .nil => 1
  | .ptr d => uptoBulk d + 1
  | .slice elems spare => uptoBulkAll elems + uptoBulkAll spare + 1
  | .agg parts => uptoBulkAll parts + 1
  | .iface _ d => uptoBulk d + 1
  | .map entries => uptoBulkEntries entries + 1
  | .held _ => 1
def uptoBulkAll {H : Type} : List (DataW H) → Nat
  | [] => 0
  | d :: r => uptoBulk d + uptoBulkAll r
def uptoBulkEntries {H : Type} : List (Lit × DataW H) → Nat
  | [] => 0
  | x :: r => uptoBulkEntry x + uptoBulkEntries r
def uptoBulkEntry {H : Type} : Lit × DataW H → Nat
  | (.string bytes, d) => bytes.length + uptoBulk d + 1
  | (_, d) => uptoBulk d + 1
 end
def uptoSmall : (H : Type) → List (DataW H) → Bool := fun _ ds => decide (uptoBulkAll ds ≤ 1048576)
def OpenSpec.upto (s : _root_.Go.ChangeSpec) : _root_.Go.OpenSpec := { _root_.Go.OpenSpec.ofChange s with cond := some uptoSmall }

/-- 'icehouselaw20.DiskSizes', WHERE WHAT IT READS IS OF BULK AT MOST 1048576: true; the input reads as it did. -/
def diskSizesUptoRow : OpenClaim := { program := "ytgkdpbambfgahaagreatdoor", sum := "edaf40f168cef285c9301f92381b91332e1d367181ea38ffaea3529c5091012a", func := "icehouse/icehouselaw20.DiskSizes", spec := "diskSizes", inPlace := ["slices.overlaps[icehouse/api.Extent]", "internal/bytealg.IndexByteString", "internal/bytealg.IndexString", "slices.overlaps[string]", "slices.overlaps[int]", "slices.overlaps[icehouse/disk.known]"], unfollowed := true, recurses := true, named := ["icehouse/crc.half", "internal/bytealg.MaxLen", "unicode/utf8.first", "unicode/utf8.acceptRanges"], apart := false, laid := [("unicode/utf8.acceptRanges", laid_unicode_utf8_acceptRanges), ("icehouse/crc.half", laid_icehouse_crc_half), ("unicode/utf8.first", laid_unicode_utf8_first)], narrowed := true }
def DiskSizesUptoSaid : Prop := diskSizesUptoRow.holds Tryz.pinned (OpenSpec.upto diskSizesSpec)

/-- 'icehouselaw20.DiskShapes', WHERE WHAT IT READS IS OF BULK AT MOST 1048576: true; the input reads as it did. -/
def diskShapesUptoRow : OpenClaim := { program := "ytgkdpbambfgahaagreatdoor", sum := "edaf40f168cef285c9301f92381b91332e1d367181ea38ffaea3529c5091012a", func := "icehouse/icehouselaw20.DiskShapes", spec := "diskShapes", inPlace := ["slices.overlaps[icehouse/api.Extent]", "internal/bytealg.IndexByteString", "internal/bytealg.IndexString", "slices.overlaps[string]", "slices.overlaps[int]", "slices.overlaps[icehouse/disk.known]"], unfollowed := true, recurses := true, named := ["icehouse/crc.half", "internal/bytealg.MaxLen", "unicode/utf8.first", "unicode/utf8.acceptRanges"], apart := false, laid := [("unicode/utf8.acceptRanges", laid_unicode_utf8_acceptRanges), ("icehouse/crc.half", laid_icehouse_crc_half), ("unicode/utf8.first", laid_unicode_utf8_first)], narrowed := true }
def DiskShapesUptoSaid : Prop := diskShapesUptoRow.holds Tryz.pinned (OpenSpec.upto diskShapesSpec)

/-- 'icehouselaw20.DiskMounts', WHERE WHAT IT READS IS OF BULK AT MOST 1048576: true; the input reads as it did. -/
def diskMountsUptoRow : OpenClaim := { program := "ytgkdpbambfgahaagreatdoor", sum := "edaf40f168cef285c9301f92381b91332e1d367181ea38ffaea3529c5091012a", func := "icehouse/icehouselaw20.DiskMounts", spec := "diskMounts", inPlace := ["slices.overlaps[icehouse/api.Extent]", "internal/bytealg.IndexByteString", "internal/bytealg.IndexString", "slices.overlaps[string]", "slices.overlaps[int]", "slices.overlaps[icehouse/disk.known]"], unfollowed := true, recurses := true, named := ["icehouse/crc.half", "internal/bytealg.MaxLen", "unicode/utf8.first", "unicode/utf8.acceptRanges"], apart := false, laid := [("unicode/utf8.acceptRanges", laid_unicode_utf8_acceptRanges), ("icehouse/crc.half", laid_icehouse_crc_half), ("unicode/utf8.first", laid_unicode_utf8_first)], narrowed := true }
def DiskMountsUptoSaid : Prop := diskMountsUptoRow.holds Tryz.pinned (OpenSpec.upto diskMountsSpec)

/-- 'icehouselaw20.DiskPlays', WHERE WHAT IT READS IS OF BULK AT MOST 1048576: true; the input reads as it did. -/
def diskPlaysUptoRow : OpenClaim := { program := "ytgkdpbambfgahaagreatdoor", sum := "edaf40f168cef285c9301f92381b91332e1d367181ea38ffaea3529c5091012a", func := "icehouse/icehouselaw20.DiskPlays", spec := "diskPlays", inPlace := ["slices.overlaps[icehouse/api.Extent]", "internal/bytealg.IndexByteString", "internal/bytealg.IndexString", "slices.overlaps[string]", "slices.overlaps[int]", "slices.overlaps[icehouse/disk.known]"], unfollowed := true, recurses := true, named := ["icehouse/crc.half", "internal/bytealg.MaxLen", "unicode/utf8.first", "unicode/utf8.acceptRanges"], apart := false, laid := [("unicode/utf8.acceptRanges", laid_unicode_utf8_acceptRanges), ("icehouse/crc.half", laid_icehouse_crc_half), ("unicode/utf8.first", laid_unicode_utf8_first)], narrowed := true }
def DiskPlaysUptoSaid : Prop := diskPlaysUptoRow.holds Tryz.pinned (OpenSpec.upto diskPlaysSpec)

/-- 'icehouselaw22.TiersAgain', WHERE WHAT IT READS IS OF BULK AT MOST 1048576: true; the input reads as it did. -/
def tiersAgainUptoRow : OpenClaim := { program := "ytgkdpbambfgahaagreatdoor", sum := "edaf40f168cef285c9301f92381b91332e1d367181ea38ffaea3529c5091012a", func := "icehouse/icehouselaw22.TiersAgain", spec := "tiersAgain", inPlace := ["slices.overlaps[icehouse/api.Extent]", "internal/bytealg.IndexByteString", "internal/bytealg.IndexString", "slices.overlaps[string]", "slices.overlaps[int]", "slices.overlaps[icehouse/disk.known]"], unfollowed := true, recurses := true, named := ["icehouse/crc.half", "internal/bytealg.MaxLen", "unicode/utf8.first", "unicode/utf8.acceptRanges"], apart := false, laid := [("unicode/utf8.acceptRanges", laid_unicode_utf8_acceptRanges), ("icehouse/crc.half", laid_icehouse_crc_half), ("unicode/utf8.first", laid_unicode_utf8_first)], narrowed := true }
def TiersAgainUptoSaid : Prop := tiersAgainUptoRow.holds Tryz.pinned (OpenSpec.upto tiersAgainSpec)

/-- 'icehouselaw22.TiersOne', WHERE WHAT IT READS IS OF BULK AT MOST 1048576: true; the input reads as it did. -/
def tiersOneUptoRow : OpenClaim := { program := "ytgkdpbambfgahaagreatdoor", sum := "edaf40f168cef285c9301f92381b91332e1d367181ea38ffaea3529c5091012a", func := "icehouse/icehouselaw22.TiersOne", spec := "tiersOne", inPlace := ["slices.overlaps[icehouse/api.Extent]", "internal/bytealg.IndexByteString", "internal/bytealg.IndexString", "slices.overlaps[string]", "slices.overlaps[int]", "slices.overlaps[icehouse/disk.known]"], unfollowed := true, recurses := true, named := ["icehouse/crc.half", "internal/bytealg.MaxLen", "unicode/utf8.first", "unicode/utf8.acceptRanges"], apart := false, laid := [("unicode/utf8.acceptRanges", laid_unicode_utf8_acceptRanges), ("icehouse/crc.half", laid_icehouse_crc_half), ("unicode/utf8.first", laid_unicode_utf8_first)], narrowed := true }
def TiersOneUptoSaid : Prop := tiersOneUptoRow.holds Tryz.pinned (OpenSpec.upto tiersOneSpec)

/-- 'icehouselaw22.TiersPlays', WHERE WHAT IT READS IS OF BULK AT MOST 1048576: true; the input reads as it did. -/
def tiersPlaysUptoRow : OpenClaim := { program := "ytgkdpbambfgahaagreatdoor", sum := "edaf40f168cef285c9301f92381b91332e1d367181ea38ffaea3529c5091012a", func := "icehouse/icehouselaw22.TiersPlays", spec := "tiersPlays", inPlace := ["slices.overlaps[icehouse/api.Extent]", "internal/bytealg.IndexByteString", "internal/bytealg.IndexString", "slices.overlaps[string]", "slices.overlaps[int]", "slices.overlaps[icehouse/disk.known]"], unfollowed := true, recurses := true, named := ["icehouse/crc.half", "internal/bytealg.MaxLen", "unicode/utf8.first", "unicode/utf8.acceptRanges"], apart := false, laid := [("unicode/utf8.acceptRanges", laid_unicode_utf8_acceptRanges), ("icehouse/crc.half", laid_icehouse_crc_half), ("unicode/utf8.first", laid_unicode_utf8_first)], narrowed := true }
def TiersPlaysUptoSaid : Prop := tiersPlaysUptoRow.holds Tryz.pinned (OpenSpec.upto tiersPlaysSpec)

end Rows
end Go.Proofs.YtgkdpbambfgahaaGreatDoor
