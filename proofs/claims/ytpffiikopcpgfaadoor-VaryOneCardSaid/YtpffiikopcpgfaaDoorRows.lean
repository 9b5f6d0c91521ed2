/-
  NARROWER THAN 'FOR EVERY INPUT', by the rows' own cells (each row's printed sentence says how): StartReads: laid · StartCuts: laid · StartBounds: laid · ControlParses: laid · ControlNumbers: laid · ControlQuiet: laid · ControlPrints: laid · ControlJoins: laid · StartPrints: laid · StartApart: laid · VaryNames: laid · VaryOrder: laid · VaryKeys: laid · VaryOne: laid · VaryBlanks: laid.
  DERIVED. THE GIVEN ROWS OF THIS SEAT. 15 by the template 'for every input the law returns true; each argument reads behind the call as it read before'; 0 by the template 'total and deterministic' (their statements: YtpffiikopcpgfaaDoorTotals.lean).
  GIVEN WITH THE SEED: the statements are not yours to turn. If you find one false, say at which input.
  Laid BY PROGRAM, IN A SANDBOX (cutbox-rows.mjs): the forced cells as the released guide's own fill.sh prints them over the translation a096adb018f6f6d4… (all of the seat's roots in one cut). By AI agents, Wed Nov 11 2026. No macro, syntax, notation, axiom, sorry.
-/
import Derived.Test.YtpffiikopcpgfaaDoorChecked
import GoSem.PinnedTables
import GoSem.Claim
import GoSem.ClaimJoined
import GoSem.ClaimMapViews
import Derived.JoinedTies
import Derived.KernelRfl
namespace Go.Proofs.YtpffiikopcpgfaaDoor
/- THE CELL 'sum', in the pinned program and in every row, IS THE sha256 OF THE DUMP (.gsa) THAT YtpffiikopcpgfaaDoorProg.lean LOADS. Nothing in Lean hashes anything: it is a label: what it is worth is what the hold of that sum in a sandbox is worth. -/
noncomputable def Tryd.pinned : Pinned := { name := "ytpffiikopcpgfaadoor", sum := "a096adb018f6f6d43d358e35b6c7df162c345489615cb4c02b5db187e1a31b96", checked := Tryd.checked }
namespace Rows
def none {H : Type} : Left H := { results := [], args := [] }

/- WHAT THE LISTED PACKAGE-LEVEL VARIABLES READ AS WHEN THE CALL BEGINS. Each datum BY PROGRAM (the guide's laid-datum.mjs) off the statement by which the dump's own 'gosem.cut.vars' lays the variable. In a bare row this is a premise. The card (YtpffiikopcpgfaaDoorCards.lean) ties it to the program's text. -/
def laid_unicode_utf8_acceptRanges {H : Type} : DataW H := .agg [.agg [.lit (.int .u8 128), .lit (.int .u8 191)], .agg [.lit (.int .u8 160), .lit (.int .u8 191)], .agg [.lit (.int .u8 128), .lit (.int .u8 159)], .agg [.lit (.int .u8 144), .lit (.int .u8 191)], .agg [.lit (.int .u8 128), .lit (.int .u8 143)], .agg [.lit (.int .u8 0), .lit (.int .u8 0)], .agg [.lit (.int .u8 0), .lit (.int .u8 0)], .agg [.lit (.int .u8 0), .lit (.int .u8 0)], .agg [.lit (.int .u8 0), .lit (.int .u8 0)], .agg [.lit (.int .u8 0), .lit (.int .u8 0)], .agg [.lit (.int .u8 0), .lit (.int .u8 0)], .agg [.lit (.int .u8 0), .lit (.int .u8 0)], .agg [.lit (.int .u8 0), .lit (.int .u8 0)], .agg [.lit (.int .u8 0), .lit (.int .u8 0)], .agg [.lit (.int .u8 0), .lit (.int .u8 0)], .agg [.lit (.int .u8 0), .lit (.int .u8 0)]]
/-- One of Go's own tables, pinned by name: the form's constant. -/
def laid_unicode_utf8_first : DataW Unit := Go.Pinned.utf8First

/-- 'icehouselaw06.StartReads': WHATEVER THE INPUT: true; the input reads as it did. -/
def startReadsSpec : ChangeSpec := { name := "startReads", fn := fun _ => fun
  | [d] => { results := [.lit (.bool true)], args := [d] }
  | _ => none }
def startReadsRow : OpenClaim := { program := "ytpffiikopcpgfaadoor", sum := "a096adb018f6f6d43d358e35b6c7df162c345489615cb4c02b5db187e1a31b96", func := "icehouse/icehouselaw06.StartReads", spec := "startReads", inPlace := ["internal/bytealg.IndexByte", "internal/bytealg.CountString", "internal/bytealg.IndexByteString", "internal/bytealg.IndexString"], unfollowed := true, recurses := true, named := ["unicode/utf8.first", "unicode/utf8.acceptRanges", "internal/bytealg.MaxLen"], apart := false, laid := [("unicode/utf8.acceptRanges", laid_unicode_utf8_acceptRanges), ("unicode/utf8.first", laid_unicode_utf8_first)] }
def StartReadsSaid : Prop := startReadsRow.holds Tryd.pinned (OpenSpec.ofChange startReadsSpec)

/-- ITS FALSE NEIGHBOUR: 'it returns false'. Refute it at one input. -/
def startReadsWrong : ChangeSpec := { name := "startReads", fn := fun _ => fun
  | [d] => { results := [.lit (.bool false)], args := [d] }
  | _ => none }
def StartReadsWrongFalsely : Prop := startReadsRow.holds Tryd.pinned (OpenSpec.ofChange startReadsWrong)

/-- 'icehouselaw06.StartCuts': WHATEVER THE INPUT: true; the input reads as it did. -/
def startCutsSpec : ChangeSpec := { name := "startCuts", fn := fun _ => fun
  | [d1, d2] => { results := [.lit (.bool true)], args := [d1, d2] }
  | _ => none }
def startCutsRow : OpenClaim := { program := "ytpffiikopcpgfaadoor", sum := "a096adb018f6f6d43d358e35b6c7df162c345489615cb4c02b5db187e1a31b96", func := "icehouse/icehouselaw06.StartCuts", spec := "startCuts", inPlace := ["internal/bytealg.IndexByte", "internal/bytealg.CountString", "internal/bytealg.IndexByteString", "internal/bytealg.IndexString"], unfollowed := true, recurses := true, named := ["unicode/utf8.first", "unicode/utf8.acceptRanges", "internal/bytealg.MaxLen"], apart := false, laid := [("unicode/utf8.acceptRanges", laid_unicode_utf8_acceptRanges), ("unicode/utf8.first", laid_unicode_utf8_first)] }
def StartCutsSaid : Prop := startCutsRow.holds Tryd.pinned (OpenSpec.ofChange startCutsSpec)

/-- ITS FALSE NEIGHBOUR: 'it returns false'. Refute it at one input. -/
def startCutsWrong : ChangeSpec := { name := "startCuts", fn := fun _ => fun
  | [d1, d2] => { results := [.lit (.bool false)], args := [d1, d2] }
  | _ => none }
def StartCutsWrongFalsely : Prop := startCutsRow.holds Tryd.pinned (OpenSpec.ofChange startCutsWrong)

/-- 'icehouselaw06.StartBounds': WHATEVER THE INPUT: true; the input reads as it did. -/
def startBoundsSpec : ChangeSpec := { name := "startBounds", fn := fun _ => fun
  | [d] => { results := [.lit (.bool true)], args := [d] }
  | _ => none }
def startBoundsRow : OpenClaim := { program := "ytpffiikopcpgfaadoor", sum := "a096adb018f6f6d43d358e35b6c7df162c345489615cb4c02b5db187e1a31b96", func := "icehouse/icehouselaw06.StartBounds", spec := "startBounds", inPlace := ["internal/bytealg.IndexByte", "internal/bytealg.CountString", "internal/bytealg.IndexByteString", "internal/bytealg.IndexString"], unfollowed := true, recurses := true, named := ["unicode/utf8.first", "unicode/utf8.acceptRanges", "internal/bytealg.MaxLen"], apart := false, laid := [("unicode/utf8.acceptRanges", laid_unicode_utf8_acceptRanges), ("unicode/utf8.first", laid_unicode_utf8_first)] }
def StartBoundsSaid : Prop := startBoundsRow.holds Tryd.pinned (OpenSpec.ofChange startBoundsSpec)

/-- ITS FALSE NEIGHBOUR: 'it returns false'. Refute it at one input. -/
def startBoundsWrong : ChangeSpec := { name := "startBounds", fn := fun _ => fun
  | [d] => { results := [.lit (.bool false)], args := [d] }
  | _ => none }
def StartBoundsWrongFalsely : Prop := startBoundsRow.holds Tryd.pinned (OpenSpec.ofChange startBoundsWrong)

/-- 'icehouselaw04.ControlParses': WHATEVER THE INPUT: true; the input reads as it did. -/
def controlParsesSpec : ChangeSpec := { name := "controlParses", fn := fun _ => fun
  | [d] => { results := [.lit (.bool true)], args := [d] }
  | _ => none }
def controlParsesRow : OpenClaim := { program := "ytpffiikopcpgfaadoor", sum := "a096adb018f6f6d43d358e35b6c7df162c345489615cb4c02b5db187e1a31b96", func := "icehouse/icehouselaw04.ControlParses", spec := "controlParses", inPlace := ["internal/bytealg.IndexByteString", "internal/bytealg.IndexString", "internal/abi.NoEscape"], unfollowed := true, recurses := true, named := ["unicode/utf8.first", "unicode/utf8.acceptRanges", "internal/bytealg.MaxLen"], apart := false, laid := [("unicode/utf8.acceptRanges", laid_unicode_utf8_acceptRanges), ("unicode/utf8.first", laid_unicode_utf8_first)] }
def ControlParsesSaid : Prop := controlParsesRow.holds Tryd.pinned (OpenSpec.ofChange controlParsesSpec)

/-- ITS FALSE NEIGHBOUR: 'it returns false'. Refute it at one input. -/
def controlParsesWrong : ChangeSpec := { name := "controlParses", fn := fun _ => fun
  | [d] => { results := [.lit (.bool false)], args := [d] }
  | _ => none }
def ControlParsesWrongFalsely : Prop := controlParsesRow.holds Tryd.pinned (OpenSpec.ofChange controlParsesWrong)

/-- 'icehouselaw04.ControlNumbers': WHATEVER THE INPUT: true; the input reads as it did. -/
def controlNumbersSpec : ChangeSpec := { name := "controlNumbers", fn := fun _ => fun
  | [d1, d2, d3] => { results := [.lit (.bool true)], args := [d1, d2, d3] }
  | _ => none }
def controlNumbersRow : OpenClaim := { program := "ytpffiikopcpgfaadoor", sum := "a096adb018f6f6d43d358e35b6c7df162c345489615cb4c02b5db187e1a31b96", func := "icehouse/icehouselaw04.ControlNumbers", spec := "controlNumbers", inPlace := ["internal/bytealg.IndexByteString", "internal/bytealg.IndexString", "internal/abi.NoEscape"], unfollowed := true, recurses := true, named := ["unicode/utf8.first", "unicode/utf8.acceptRanges", "internal/bytealg.MaxLen"], apart := false, laid := [("unicode/utf8.acceptRanges", laid_unicode_utf8_acceptRanges), ("unicode/utf8.first", laid_unicode_utf8_first)] }
def ControlNumbersSaid : Prop := controlNumbersRow.holds Tryd.pinned (OpenSpec.ofChange controlNumbersSpec)

/-- ITS FALSE NEIGHBOUR: 'it returns false'. Refute it at one input. -/
def controlNumbersWrong : ChangeSpec := { name := "controlNumbers", fn := fun _ => fun
  | [d1, d2, d3] => { results := [.lit (.bool false)], args := [d1, d2, d3] }
  | _ => none }
def ControlNumbersWrongFalsely : Prop := controlNumbersRow.holds Tryd.pinned (OpenSpec.ofChange controlNumbersWrong)

/-- 'icehouselaw04.ControlQuiet': WHATEVER THE INPUT: true; the input reads as it did. -/
def controlQuietSpec : ChangeSpec := { name := "controlQuiet", fn := fun _ => fun
  | [d1, d2] => { results := [.lit (.bool true)], args := [d1, d2] }
  | _ => none }
def controlQuietRow : OpenClaim := { program := "ytpffiikopcpgfaadoor", sum := "a096adb018f6f6d43d358e35b6c7df162c345489615cb4c02b5db187e1a31b96", func := "icehouse/icehouselaw04.ControlQuiet", spec := "controlQuiet", inPlace := ["internal/bytealg.IndexByteString", "internal/bytealg.IndexString", "internal/abi.NoEscape"], unfollowed := true, recurses := true, named := ["unicode/utf8.first", "unicode/utf8.acceptRanges", "internal/bytealg.MaxLen"], apart := false, laid := [("unicode/utf8.acceptRanges", laid_unicode_utf8_acceptRanges), ("unicode/utf8.first", laid_unicode_utf8_first)] }
def ControlQuietSaid : Prop := controlQuietRow.holds Tryd.pinned (OpenSpec.ofChange controlQuietSpec)

/-- ITS FALSE NEIGHBOUR: 'it returns false'. Refute it at one input. -/
def controlQuietWrong : ChangeSpec := { name := "controlQuiet", fn := fun _ => fun
  | [d1, d2] => { results := [.lit (.bool false)], args := [d1, d2] }
  | _ => none }
def ControlQuietWrongFalsely : Prop := controlQuietRow.holds Tryd.pinned (OpenSpec.ofChange controlQuietWrong)

/-- 'icehouselaw04.ControlPrints': WHATEVER THE INPUT: true; the input reads as it did. -/
def controlPrintsSpec : ChangeSpec := { name := "controlPrints", fn := fun _ => fun
  | [d] => { results := [.lit (.bool true)], args := [d] }
  | _ => none }
def controlPrintsRow : OpenClaim := { program := "ytpffiikopcpgfaadoor", sum := "a096adb018f6f6d43d358e35b6c7df162c345489615cb4c02b5db187e1a31b96", func := "icehouse/icehouselaw04.ControlPrints", spec := "controlPrints", inPlace := ["internal/bytealg.IndexByteString", "internal/bytealg.IndexString", "internal/abi.NoEscape", "internal/bytealg.MakeNoZero"], unfollowed := true, recurses := true, named := ["unicode/utf8.first", "unicode/utf8.acceptRanges", "internal/bytealg.MaxLen"], apart := false, laid := [("unicode/utf8.acceptRanges", laid_unicode_utf8_acceptRanges), ("unicode/utf8.first", laid_unicode_utf8_first)] }
def ControlPrintsSaid : Prop := controlPrintsRow.holds Tryd.pinned (OpenSpec.ofChange controlPrintsSpec)

/-- ITS FALSE NEIGHBOUR: 'it returns false'. Refute it at one input. -/
def controlPrintsWrong : ChangeSpec := { name := "controlPrints", fn := fun _ => fun
  | [d] => { results := [.lit (.bool false)], args := [d] }
  | _ => none }
def ControlPrintsWrongFalsely : Prop := controlPrintsRow.holds Tryd.pinned (OpenSpec.ofChange controlPrintsWrong)

/-- 'icehouselaw04.ControlJoins': WHATEVER THE INPUT: true; the input reads as it did. -/
def controlJoinsSpec : ChangeSpec := { name := "controlJoins", fn := fun _ => fun
  | [d1, d2] => { results := [.lit (.bool true)], args := [d1, d2] }
  | _ => none }
def controlJoinsRow : OpenClaim := { program := "ytpffiikopcpgfaadoor", sum := "a096adb018f6f6d43d358e35b6c7df162c345489615cb4c02b5db187e1a31b96", func := "icehouse/icehouselaw04.ControlJoins", spec := "controlJoins", inPlace := ["internal/bytealg.IndexByteString", "internal/bytealg.IndexString", "internal/abi.NoEscape", "internal/bytealg.MakeNoZero"], unfollowed := true, recurses := true, named := ["unicode/utf8.first", "unicode/utf8.acceptRanges", "internal/bytealg.MaxLen"], apart := false, laid := [("unicode/utf8.acceptRanges", laid_unicode_utf8_acceptRanges), ("unicode/utf8.first", laid_unicode_utf8_first)] }
def ControlJoinsSaid : Prop := controlJoinsRow.holds Tryd.pinned (OpenSpec.ofChange controlJoinsSpec)

/-- ITS FALSE NEIGHBOUR: 'it returns false'. Refute it at one input. -/
def controlJoinsWrong : ChangeSpec := { name := "controlJoins", fn := fun _ => fun
  | [d1, d2] => { results := [.lit (.bool false)], args := [d1, d2] }
  | _ => none }
def ControlJoinsWrongFalsely : Prop := controlJoinsRow.holds Tryd.pinned (OpenSpec.ofChange controlJoinsWrong)

/-- 'icehouselaw06.StartPrints': WHATEVER THE INPUT: true; the input reads as it did. -/
def startPrintsSpec : ChangeSpec := { name := "startPrints", fn := fun _ => fun
  | [d1, d2] => { results := [.lit (.bool true)], args := [d1, d2] }
  | _ => none }
def startPrintsRow : OpenClaim := { program := "ytpffiikopcpgfaadoor", sum := "a096adb018f6f6d43d358e35b6c7df162c345489615cb4c02b5db187e1a31b96", func := "icehouse/icehouselaw06.StartPrints", spec := "startPrints", inPlace := ["internal/bytealg.IndexByte", "internal/bytealg.CountString", "internal/bytealg.IndexByteString", "internal/bytealg.IndexString", "internal/abi.NoEscape", "internal/bytealg.MakeNoZero"], unfollowed := true, recurses := true, named := ["unicode/utf8.first", "unicode/utf8.acceptRanges", "internal/bytealg.MaxLen"], apart := false, laid := [("unicode/utf8.acceptRanges", laid_unicode_utf8_acceptRanges), ("unicode/utf8.first", laid_unicode_utf8_first)] }
def StartPrintsSaid : Prop := startPrintsRow.holds Tryd.pinned (OpenSpec.ofChange startPrintsSpec)

/-- ITS FALSE NEIGHBOUR: 'it returns false'. Refute it at one input. -/
def startPrintsWrong : ChangeSpec := { name := "startPrints", fn := fun _ => fun
  | [d1, d2] => { results := [.lit (.bool false)], args := [d1, d2] }
  | _ => none }
def StartPrintsWrongFalsely : Prop := startPrintsRow.holds Tryd.pinned (OpenSpec.ofChange startPrintsWrong)

/-- 'icehouselaw06.StartApart': WHATEVER THE INPUT: true; the input reads as it did. -/
def startApartSpec : ChangeSpec := { name := "startApart", fn := fun _ => fun
  | [d1, d2] => { results := [.lit (.bool true)], args := [d1, d2] }
  | _ => none }
def startApartRow : OpenClaim := { program := "ytpffiikopcpgfaadoor", sum := "a096adb018f6f6d43d358e35b6c7df162c345489615cb4c02b5db187e1a31b96", func := "icehouse/icehouselaw06.StartApart", spec := "startApart", inPlace := ["internal/bytealg.IndexByte", "internal/bytealg.CountString", "internal/bytealg.IndexByteString", "internal/bytealg.IndexString", "internal/abi.NoEscape", "internal/bytealg.MakeNoZero"], unfollowed := true, recurses := true, named := ["unicode/utf8.first", "unicode/utf8.acceptRanges", "internal/bytealg.MaxLen"], apart := false, laid := [("unicode/utf8.acceptRanges", laid_unicode_utf8_acceptRanges), ("unicode/utf8.first", laid_unicode_utf8_first)] }
def StartApartSaid : Prop := startApartRow.holds Tryd.pinned (OpenSpec.ofChange startApartSpec)

/-- ITS FALSE NEIGHBOUR: 'it returns false'. Refute it at one input. -/
def startApartWrong : ChangeSpec := { name := "startApart", fn := fun _ => fun
  | [d1, d2] => { results := [.lit (.bool false)], args := [d1, d2] }
  | _ => none }
def StartApartWrongFalsely : Prop := startApartRow.holds Tryd.pinned (OpenSpec.ofChange startApartWrong)

/-- 'icehouselaw09.VaryNames': WHATEVER THE INPUT: true; the input reads as it did. -/
def varyNamesSpec : ChangeSpec := { name := "varyNames", fn := fun _ => fun
  | [d] => { results := [.lit (.bool true)], args := [d] }
  | _ => none }
def varyNamesRow : OpenClaim := { program := "ytpffiikopcpgfaadoor", sum := "a096adb018f6f6d43d358e35b6c7df162c345489615cb4c02b5db187e1a31b96", func := "icehouse/icehouselaw09.VaryNames", spec := "varyNames", inPlace := ["internal/bytealg.IndexByteString", "internal/bytealg.IndexString", "internal/abi.NoEscape", "internal/bytealg.MakeNoZero"], unfollowed := true, recurses := true, named := ["unicode/utf8.first", "unicode/utf8.acceptRanges", "internal/bytealg.MaxLen"], apart := false, laid := [("unicode/utf8.acceptRanges", laid_unicode_utf8_acceptRanges), ("unicode/utf8.first", laid_unicode_utf8_first)] }
def VaryNamesSaid : Prop := varyNamesRow.holds Tryd.pinned (OpenSpec.ofChange varyNamesSpec)

/-- ITS FALSE NEIGHBOUR: 'it returns false'. Refute it at one input. -/
def varyNamesWrong : ChangeSpec := { name := "varyNames", fn := fun _ => fun
  | [d] => { results := [.lit (.bool false)], args := [d] }
  | _ => none }
def VaryNamesWrongFalsely : Prop := varyNamesRow.holds Tryd.pinned (OpenSpec.ofChange varyNamesWrong)

/-- 'icehouselaw09.VaryOrder': WHATEVER THE INPUT: true; the input reads as it did. -/
def varyOrderSpec : ChangeSpec := { name := "varyOrder", fn := fun _ => fun
  | [d1, d2] => { results := [.lit (.bool true)], args := [d1, d2] }
  | _ => none }
def varyOrderRow : OpenClaim := { program := "ytpffiikopcpgfaadoor", sum := "a096adb018f6f6d43d358e35b6c7df162c345489615cb4c02b5db187e1a31b96", func := "icehouse/icehouselaw09.VaryOrder", spec := "varyOrder", inPlace := ["internal/bytealg.IndexByteString", "internal/bytealg.IndexString", "internal/abi.NoEscape", "internal/bytealg.MakeNoZero"], unfollowed := true, recurses := true, named := ["unicode/utf8.first", "unicode/utf8.acceptRanges", "internal/bytealg.MaxLen"], apart := false, laid := [("unicode/utf8.acceptRanges", laid_unicode_utf8_acceptRanges), ("unicode/utf8.first", laid_unicode_utf8_first)] }
def VaryOrderSaid : Prop := varyOrderRow.holds Tryd.pinned (OpenSpec.ofChange varyOrderSpec)

/-- ITS FALSE NEIGHBOUR: 'it returns false'. Refute it at one input. -/
def varyOrderWrong : ChangeSpec := { name := "varyOrder", fn := fun _ => fun
  | [d1, d2] => { results := [.lit (.bool false)], args := [d1, d2] }
  | _ => none }
def VaryOrderWrongFalsely : Prop := varyOrderRow.holds Tryd.pinned (OpenSpec.ofChange varyOrderWrong)

/-- 'icehouselaw09.VaryKeys': WHATEVER THE INPUT: true; the input reads as it did. -/
def varyKeysSpec : ChangeSpec := { name := "varyKeys", fn := fun _ => fun
  | [d1, d2, d3] => { results := [.lit (.bool true)], args := [d1, d2, d3] }
  | _ => none }
def varyKeysRow : OpenClaim := { program := "ytpffiikopcpgfaadoor", sum := "a096adb018f6f6d43d358e35b6c7df162c345489615cb4c02b5db187e1a31b96", func := "icehouse/icehouselaw09.VaryKeys", spec := "varyKeys", inPlace := ["internal/bytealg.IndexByteString", "internal/bytealg.IndexString", "internal/abi.NoEscape", "internal/bytealg.MakeNoZero"], unfollowed := true, recurses := true, named := ["unicode/utf8.first", "unicode/utf8.acceptRanges", "internal/bytealg.MaxLen"], apart := false, laid := [("unicode/utf8.acceptRanges", laid_unicode_utf8_acceptRanges), ("unicode/utf8.first", laid_unicode_utf8_first)] }
def VaryKeysSaid : Prop := varyKeysRow.holds Tryd.pinned (OpenSpec.ofChange varyKeysSpec)

/-- ITS FALSE NEIGHBOUR: 'it returns false'. Refute it at one input. -/
def varyKeysWrong : ChangeSpec := { name := "varyKeys", fn := fun _ => fun
  | [d1, d2, d3] => { results := [.lit (.bool false)], args := [d1, d2, d3] }
  | _ => none }
def VaryKeysWrongFalsely : Prop := varyKeysRow.holds Tryd.pinned (OpenSpec.ofChange varyKeysWrong)

/-- 'icehouselaw09.VaryOne': WHATEVER THE INPUT: true; the input reads as it did. -/
def varyOneSpec : ChangeSpec := { name := "varyOne", fn := fun _ => fun
  | [d1, d2, d3] => { results := [.lit (.bool true)], args := [d1, d2, d3] }
  | _ => none }
def varyOneRow : OpenClaim := { program := "ytpffiikopcpgfaadoor", sum := "a096adb018f6f6d43d358e35b6c7df162c345489615cb4c02b5db187e1a31b96", func := "icehouse/icehouselaw09.VaryOne", spec := "varyOne", inPlace := ["internal/bytealg.IndexByteString", "internal/bytealg.IndexString", "internal/abi.NoEscape", "internal/bytealg.MakeNoZero"], unfollowed := true, recurses := true, named := ["unicode/utf8.first", "unicode/utf8.acceptRanges", "internal/bytealg.MaxLen"], apart := false, laid := [("unicode/utf8.acceptRanges", laid_unicode_utf8_acceptRanges), ("unicode/utf8.first", laid_unicode_utf8_first)] }
def VaryOneSaid : Prop := varyOneRow.holds Tryd.pinned (OpenSpec.ofChange varyOneSpec)

/-- ITS FALSE NEIGHBOUR: 'it returns false'. Refute it at one input. -/
def varyOneWrong : ChangeSpec := { name := "varyOne", fn := fun _ => fun
  | [d1, d2, d3] => { results := [.lit (.bool false)], args := [d1, d2, d3] }
  | _ => none }
def VaryOneWrongFalsely : Prop := varyOneRow.holds Tryd.pinned (OpenSpec.ofChange varyOneWrong)

/-- 'icehouselaw09.VaryBlanks': WHATEVER THE INPUT: true; the input reads as it did. -/
def varyBlanksSpec : ChangeSpec := { name := "varyBlanks", fn := fun _ => fun
  | [d1, d2, d3] => { results := [.lit (.bool true)], args := [d1, d2, d3] }
  | _ => none }
def varyBlanksRow : OpenClaim := { program := "ytpffiikopcpgfaadoor", sum := "a096adb018f6f6d43d358e35b6c7df162c345489615cb4c02b5db187e1a31b96", func := "icehouse/icehouselaw09.VaryBlanks", spec := "varyBlanks", inPlace := ["internal/bytealg.IndexByteString", "internal/bytealg.IndexString", "internal/abi.NoEscape", "internal/bytealg.MakeNoZero"], unfollowed := true, recurses := true, named := ["unicode/utf8.first", "unicode/utf8.acceptRanges", "internal/bytealg.MaxLen"], apart := false, laid := [("unicode/utf8.acceptRanges", laid_unicode_utf8_acceptRanges), ("unicode/utf8.first", laid_unicode_utf8_first)] }
def VaryBlanksSaid : Prop := varyBlanksRow.holds Tryd.pinned (OpenSpec.ofChange varyBlanksSpec)

/-- ITS FALSE NEIGHBOUR: 'it returns false'. Refute it at one input. -/
def varyBlanksWrong : ChangeSpec := { name := "varyBlanks", fn := fun _ => fun
  | [d1, d2, d3] => { results := [.lit (.bool false)], args := [d1, d2, d3] }
  | _ => none }
def VaryBlanksWrongFalsely : Prop := varyBlanksRow.holds Tryd.pinned (OpenSpec.ofChange varyBlanksWrong)

/- THE SECOND FORM. 'bulk': how many values and letters a reading holds, each counted each time it is reached (what is shared counts as often as it is met; a slice's spare places count too). A statement '..UptoSaid' is the law's where the arguments, and the package variables that the reading takes, are together of bulk at most 1048576: NARROWER than '..Said'. Prove '..Said' where nothing that the law and all that it calls make is longer than what came in: it says more and counts as full. Else prove '..UptoSaid'. A law counts once. -/
mutual
def uptoBulk {H : Type} : DataW H → Nat
  | .lit (.string bytes) => bytes.length + 1
  | .lit _ => 1
  | .nil => 1
  | .ptr d => uptoBulk d + 1
  | .slice elems spare => uptoBulkAll elems + uptoBulkAll spare + 1
  | .agg parts => uptoBulkAll parts + 1
  | .iface _ d => uptoBulk d + 1
  | .map entries => uptoBulkEntries entries + 1
  | .held _ => 1
def uptoBulkAll {H : Type} : List (DataW H) → Nat
  | [] => 0
  | d :: r => uptoBulk d + uptoBulkAll r
def uptoBulkEntries {H : Type} : List (Lit × DataW H) → Nat
  | [] => 0
  | x :: r => uptoBulkEntry x + uptoBulkEntries r
def uptoBulkEntry {H : Type} : Lit × DataW H → Nat
  | (.string bytes, d) => bytes.length + uptoBulk d + 1
  | (_, d) => uptoBulk d + 1
 end
def uptoSmall : (H : Type) → List (DataW H) → Bool := fun _ ds => decide (uptoBulkAll ds ≤ 1048576)
def OpenSpec.upto (s : _root_.Go.ChangeSpec) : _root_.Go.OpenSpec := { _root_.Go.OpenSpec.ofChange s with cond := some uptoSmall }

/-- 'icehouselaw06.StartReads', WHERE WHAT IT READS IS OF BULK AT MOST 1048576: true; the input reads as it did. -/
def startReadsUptoRow : OpenClaim := { program := "ytpffiikopcpgfaadoor", sum := "a096adb018f6f6d43d358e35b6c7df162c345489615cb4c02b5db187e1a31b96", func := "icehouse/icehouselaw06.StartReads", spec := "startReads", inPlace := ["internal/bytealg.IndexByte", "internal/bytealg.CountString", "internal/bytealg.IndexByteString", "internal/bytealg.IndexString"], unfollowed := true, recurses := true, named := ["unicode/utf8.first", "unicode/utf8.acceptRanges", "internal/bytealg.MaxLen"], apart := false, laid := [("unicode/utf8.acceptRanges", laid_unicode_utf8_acceptRanges), ("unicode/utf8.first", laid_unicode_utf8_first)], narrowed := true }
def StartReadsUptoSaid : Prop := startReadsUptoRow.holds Tryd.pinned (OpenSpec.upto startReadsSpec)

/-- 'icehouselaw06.StartCuts', WHERE WHAT IT READS IS OF BULK AT MOST 1048576: true; the input reads as it did. -/
def startCutsUptoRow : OpenClaim := { program := "ytpffiikopcpgfaadoor", sum := "a096adb018f6f6d43d358e35b6c7df162c345489615cb4c02b5db187e1a31b96", func := "icehouse/icehouselaw06.StartCuts", spec := "startCuts", inPlace := ["internal/bytealg.IndexByte", "internal/bytealg.CountString", "internal/bytealg.IndexByteString", "internal/bytealg.IndexString"], unfollowed := true, recurses := true, named := ["unicode/utf8.first", "unicode/utf8.acceptRanges", "internal/bytealg.MaxLen"], apart := false, laid := [("unicode/utf8.acceptRanges", laid_unicode_utf8_acceptRanges), ("unicode/utf8.first", laid_unicode_utf8_first)], narrowed := true }
def StartCutsUptoSaid : Prop := startCutsUptoRow.holds Tryd.pinned (OpenSpec.upto startCutsSpec)

/-- 'icehouselaw06.StartBounds', WHERE WHAT IT READS IS OF BULK AT MOST 1048576: true; the input reads as it did. -/
def startBoundsUptoRow : OpenClaim := { program := "ytpffiikopcpgfaadoor", sum := "a096adb018f6f6d43d358e35b6c7df162c345489615cb4c02b5db187e1a31b96", func := "icehouse/icehouselaw06.StartBounds", spec := "startBounds", inPlace := ["internal/bytealg.IndexByte", "internal/bytealg.CountString", "internal/bytealg.IndexByteString", "internal/bytealg.IndexString"], unfollowed := true, recurses := true, named := ["unicode/utf8.first", "unicode/utf8.acceptRanges", "internal/bytealg.MaxLen"], apart := false, laid := [("unicode/utf8.acceptRanges", laid_unicode_utf8_acceptRanges), ("unicode/utf8.first", laid_unicode_utf8_first)], narrowed := true }
def StartBoundsUptoSaid : Prop := startBoundsUptoRow.holds Tryd.pinned (OpenSpec.upto startBoundsSpec)

/-- 'icehouselaw04.ControlParses', WHERE WHAT IT READS IS OF BULK AT MOST 1048576: true; the input reads as it did. -/
def controlParsesUptoRow : OpenClaim := { program := "ytpffiikopcpgfaadoor", sum := "a096adb018f6f6d43d358e35b6c7df162c345489615cb4c02b5db187e1a31b96", func := "icehouse/icehouselaw04.ControlParses", spec := "controlParses", inPlace := ["internal/bytealg.IndexByteString", "internal/bytealg.IndexString", "internal/abi.NoEscape"], unfollowed := true, recurses := true, named := ["unicode/utf8.first", "unicode/utf8.acceptRanges", "internal/bytealg.MaxLen"], apart := false, laid := [("unicode/utf8.acceptRanges", laid_unicode_utf8_acceptRanges), ("unicode/utf8.first", laid_unicode_utf8_first)], narrowed := true }
def ControlParsesUptoSaid : Prop := controlParsesUptoRow.holds Tryd.pinned (OpenSpec.upto controlParsesSpec)

/-- 'icehouselaw04.ControlNumbers', WHERE WHAT IT READS IS OF BULK AT MOST 1048576: true; the input reads as it did. -/
def controlNumbersUptoRow : OpenClaim := { program := "ytpffiikopcpgfaadoor", sum := "a096adb018f6f6d43d358e35b6c7df162c345489615cb4c02b5db187e1a31b96", func := "icehouse/icehouselaw04.ControlNumbers", spec := "controlNumbers", inPlace := ["internal/bytealg.IndexByteString", "internal/bytealg.IndexString", "internal/abi.NoEscape"], unfollowed := true, recurses := true, named := ["unicode/utf8.first", "unicode/utf8.acceptRanges", "internal/bytealg.MaxLen"], apart := false, laid := [("unicode/utf8.acceptRanges", laid_unicode_utf8_acceptRanges), ("unicode/utf8.first", laid_unicode_utf8_first)], narrowed := true }
def ControlNumbersUptoSaid : Prop := controlNumbersUptoRow.holds Tryd.pinned (OpenSpec.upto controlNumbersSpec)

/-- 'icehouselaw04.ControlQuiet', WHERE WHAT IT READS IS OF BULK AT MOST 1048576: true; the input reads as it did. -/
def controlQuietUptoRow : OpenClaim := { program := "ytpffiikopcpgfaadoor", sum := "a096adb018f6f6d43d358e35b6c7df162c345489615cb4c02b5db187e1a31b96", func := "icehouse/icehouselaw04.ControlQuiet", spec := "controlQuiet", inPlace := ["internal/bytealg.IndexByteString", "internal/bytealg.IndexString", "internal/abi.NoEscape"], unfollowed := true, recurses := true, named := ["unicode/utf8.first", "unicode/utf8.acceptRanges", "internal/bytealg.MaxLen"], apart := false, laid := [("unicode/utf8.acceptRanges", laid_unicode_utf8_acceptRanges), ("unicode/utf8.first", laid_unicode_utf8_first)], narrowed := true }
def ControlQuietUptoSaid : Prop := controlQuietUptoRow.holds Tryd.pinned (OpenSpec.upto controlQuietSpec)

/-- 'icehouselaw04.ControlPrints', WHERE WHAT IT READS IS OF BULK AT MOST 1048576: true; the input reads as it did. -/
def controlPrintsUptoRow : OpenClaim := { program := "ytpffiikopcpgfaadoor", sum := "a096adb018f6f6d43d358e35b6c7df162c345489615cb4c02b5db187e1a31b96", func := "icehouse/icehouselaw04.ControlPrints", spec := "controlPrints", inPlace := ["internal/bytealg.IndexByteString", "internal/bytealg.IndexString", "internal/abi.NoEscape", "internal/bytealg.MakeNoZero"], unfollowed := true, recurses := true, named := ["unicode/utf8.first", "unicode/utf8.acceptRanges", "internal/bytealg.MaxLen"], apart := false, laid := [("unicode/utf8.acceptRanges", laid_unicode_utf8_acceptRanges), ("unicode/utf8.first", laid_unicode_utf8_first)], narrowed := true }
def ControlPrintsUptoSaid : Prop := controlPrintsUptoRow.holds Tryd.pinned (OpenSpec.upto controlPrintsSpec)

/-- 'icehouselaw04.ControlJoins', WHERE WHAT IT READS IS OF BULK AT MOST 1048576: true; the input reads as it did. -/
def controlJoinsUptoRow : OpenClaim := { program := "ytpffiikopcpgfaadoor", sum := "a096adb018f6f6d43d358e35b6c7df162c345489615cb4c02b5db187e1a31b96", func := "icehouse/icehouselaw04.ControlJoins", spec := "controlJoins", inPlace := ["internal/bytealg.IndexByteString", "internal/bytealg.IndexString", "internal/abi.NoEscape", "internal/bytealg.MakeNoZero"], unfollowed := true, recurses := true, named := ["unicode/utf8.first", "unicode/utf8.acceptRanges", "internal/bytealg.MaxLen"], apart := false, laid := [("unicode/utf8.acceptRanges", laid_unicode_utf8_acceptRanges), ("unicode/utf8.first", laid_unicode_utf8_first)], narrowed := true }
def ControlJoinsUptoSaid : Prop := controlJoinsUptoRow.holds Tryd.pinned (OpenSpec.upto controlJoinsSpec)

/-- 'icehouselaw06.StartPrints', WHERE WHAT IT READS IS OF BULK AT MOST 1048576: true; the input reads as it did. -/
def startPrintsUptoRow : OpenClaim := { program := "ytpffiikopcpgfaadoor", sum := "a096adb018f6f6d43d358e35b6c7df162c345489615cb4c02b5db187e1a31b96", func := "icehouse/icehouselaw06.StartPrints", spec := "startPrints", inPlace := ["internal/bytealg.IndexByte", "internal/bytealg.CountString", "internal/bytealg.IndexByteString", "internal/bytealg.IndexString", "internal/abi.NoEscape", "internal/bytealg.MakeNoZero"], unfollowed := true, recurses := true, named := ["unicode/utf8.first", "unicode/utf8.acceptRanges", "internal/bytealg.MaxLen"], apart := false, laid := [("unicode/utf8.acceptRanges", laid_unicode_utf8_acceptRanges), ("unicode/utf8.first", laid_unicode_utf8_first)], narrowed := true }
def StartPrintsUptoSaid : Prop := startPrintsUptoRow.holds Tryd.pinned (OpenSpec.upto startPrintsSpec)

/-- 'icehouselaw06.StartApart', WHERE WHAT IT READS IS OF BULK AT MOST 1048576: true; the input reads as it did. -/
def startApartUptoRow : OpenClaim := { program := "ytpffiikopcpgfaadoor", sum := "a096adb018f6f6d43d358e35b6c7df162c345489615cb4c02b5db187e1a31b96", func := "icehouse/icehouselaw06.StartApart", spec := "startApart", inPlace := ["internal/bytealg.IndexByte", "internal/bytealg.CountString", "internal/bytealg.IndexByteString", "internal/bytealg.IndexString", "internal/abi.NoEscape", "internal/bytealg.MakeNoZero"], unfollowed := true, recurses := true, named := ["unicode/utf8.first", "unicode/utf8.acceptRanges", "internal/bytealg.MaxLen"], apart := false, laid := [("unicode/utf8.acceptRanges", laid_unicode_utf8_acceptRanges), ("unicode/utf8.first", laid_unicode_utf8_first)], narrowed := true }
def StartApartUptoSaid : Prop := startApartUptoRow.holds Tryd.pinned (OpenSpec.upto startApartSpec)

/-- 'icehouselaw09.VaryNames', WHERE WHAT IT READS IS OF BULK AT MOST 1048576: true; the input reads as it did. -/
def varyNamesUptoRow : OpenClaim := { program := "ytpffiikopcpgfaadoor", sum := "a096adb018f6f6d43d358e35b6c7df162c345489615cb4c02b5db187e1a31b96", func := "icehouse/icehouselaw09.VaryNames", spec := "varyNames", inPlace := ["internal/bytealg.IndexByteString", "internal/bytealg.IndexString", "internal/abi.NoEscape", "internal/bytealg.MakeNoZero"], unfollowed := true, recurses := true, named := ["unicode/utf8.first", "unicode/utf8.acceptRanges", "internal/bytealg.MaxLen"], apart := false, laid := [("unicode/utf8.acceptRanges", laid_unicode_utf8_acceptRanges), ("unicode/utf8.first", laid_unicode_utf8_first)], narrowed := true }
def VaryNamesUptoSaid : Prop := varyNamesUptoRow.holds Tryd.pinned (OpenSpec.upto varyNamesSpec)

/-- 'icehouselaw09.VaryOrder', WHERE WHAT IT READS IS OF BULK AT MOST 1048576: true; the input reads as it did. -/
def varyOrderUptoRow : OpenClaim := { program := "ytpffiikopcpgfaadoor", sum := "a096adb018f6f6d43d358e35b6c7df162c345489615cb4c02b5db187e1a31b96", func := "icehouse/icehouselaw09.VaryOrder", spec := "varyOrder", inPlace := ["internal/bytealg.IndexByteString", "internal/bytealg.IndexString", "internal/abi.NoEscape", "internal/bytealg.MakeNoZero"], unfollowed := true, recurses := true, named := ["unicode/utf8.first", "unicode/utf8.acceptRanges", "internal/bytealg.MaxLen"], apart := false, laid := [("unicode/utf8.acceptRanges", laid_unicode_utf8_acceptRanges), ("unicode/utf8.first", laid_unicode_utf8_first)], narrowed := true }
def VaryOrderUptoSaid : Prop := varyOrderUptoRow.holds Tryd.pinned (OpenSpec.upto varyOrderSpec)

/-- 'icehouselaw09.VaryKeys', WHERE WHAT IT READS IS OF BULK AT MOST 1048576: true; the input reads as it did. -/
def varyKeysUptoRow : OpenClaim := { program := "ytpffiikopcpgfaadoor", sum := "a096adb018f6f6d43d358e35b6c7df162c345489615cb4c02b5db187e1a31b96", func := "icehouse/icehouselaw09.VaryKeys", spec := "varyKeys", inPlace := ["internal/bytealg.IndexByteString", "internal/bytealg.IndexString", "internal/abi.NoEscape", "internal/bytealg.MakeNoZero"], unfollowed := true, recurses := true, named := ["unicode/utf8.first", "unicode/utf8.acceptRanges", "internal/bytealg.MaxLen"], apart := false, laid := [("unicode/utf8.acceptRanges", laid_unicode_utf8_acceptRanges), ("unicode/utf8.first", laid_unicode_utf8_first)], narrowed := true }
def VaryKeysUptoSaid : Prop := varyKeysUptoRow.holds Tryd.pinned (OpenSpec.upto varyKeysSpec)

/-- 'icehouselaw09.VaryOne', WHERE WHAT IT READS IS OF BULK AT MOST 1048576: true; the input reads as it did. -/
def varyOneUptoRow : OpenClaim := { program := "ytpffiikopcpgfaadoor", sum := "a096adb018f6f6d43d358e35b6c7df162c345489615cb4c02b5db187e1a31b96", func := "icehouse/icehouselaw09.VaryOne", spec := "varyOne", inPlace := ["internal/bytealg.IndexByteString", "internal/bytealg.IndexString", "internal/abi.NoEscape", "internal/bytealg.MakeNoZero"], unfollowed := true, recurses := true, named := ["unicode/utf8.first", "unicode/utf8.acceptRanges", "internal/bytealg.MaxLen"], apart := false, laid := [("unicode/utf8.acceptRanges", laid_unicode_utf8_acceptRanges), ("unicode/utf8.first", laid_unicode_utf8_first)], narrowed := true }
def VaryOneUptoSaid : Prop := varyOneUptoRow.holds Tryd.pinned (OpenSpec.upto varyOneSpec)

/-- 'icehouselaw09.VaryBlanks', WHERE WHAT IT READS IS OF BULK AT MOST 1048576: true; the input reads as it did. -/
def varyBlanksUptoRow : OpenClaim := { program := "ytpffiikopcpgfaadoor", sum := "a096adb018f6f6d43d358e35b6c7df162c345489615cb4c02b5db187e1a31b96", func := "icehouse/icehouselaw09.VaryBlanks", spec := "varyBlanks", inPlace := ["internal/bytealg.IndexByteString", "internal/bytealg.IndexString", "internal/abi.NoEscape", "internal/bytealg.MakeNoZero"], unfollowed := true, recurses := true, named := ["unicode/utf8.first", "unicode/utf8.acceptRanges", "internal/bytealg.MaxLen"], apart := false, laid := [("unicode/utf8.acceptRanges", laid_unicode_utf8_acceptRanges), ("unicode/utf8.first", laid_unicode_utf8_first)], narrowed := true }
def VaryBlanksUptoSaid : Prop := varyBlanksUptoRow.holds Tryd.pinned (OpenSpec.upto varyBlanksSpec)

end Rows
end Go.Proofs.YtpffiikopcpgfaaDoor
