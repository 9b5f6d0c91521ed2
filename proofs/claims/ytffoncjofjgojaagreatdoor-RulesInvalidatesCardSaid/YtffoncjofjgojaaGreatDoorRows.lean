/-
  NARROWER THAN 'FOR EVERY INPUT', by the rows' own cells (each row's printed sentence says how): FreshLater: laid · FreshLonger: laid · FreshStrict: laid · RulesStrict: laid · RulesStores: laid · RulesInvalidates: laid · RulesKeeps: laid · RulesTwice: laid · RulesValidates: laid · RulesAsked: laid.
  DERIVED. THE GIVEN ROWS OF THIS SEAT. 10 by the template 'for every input the law returns true; each argument reads behind the call as it read before'; 0 by the template 'total and deterministic' (their statements: YtffoncjofjgojaaGreatDoorTotals.lean).
  GIVEN WITH THE SEED: the statements are not yours to turn. If you find one false, say at which input.
  Laid BY PROGRAM, IN A SANDBOX (cutbox-rows.mjs): the forced cells as the released guide's own fill.sh prints them over the translation f2caaccf773c1e2b… (all of the seat's roots in one cut). By AI agents, Wed Nov 11 2026. No macro, syntax, notation, axiom, sorry.
-/
import Derived.Test.YtffoncjofjgojaaGreatDoorChecked
import GoSem.PinnedTables
import GoSem.Claim
import GoSem.ClaimJoined
import GoSem.ClaimMapViews
import Derived.JoinedTies
import Derived.KernelRfl
namespace Go.Proofs.YtffoncjofjgojaaGreatDoor
/- THE CELL 'sum', in the pinned program and in every row, IS THE sha256 OF THE DUMP (.gsa) THAT YtffoncjofjgojaaGreatDoorProg.lean LOADS. Nothing in Lean hashes anything: it is a label: what it is worth is what the hold of that sum in a sandbox is worth. -/
noncomputable def Tryz.pinned : Pinned := { name := "ytffoncjofjgojaagreatdoor", sum := "f2caaccf773c1e2b425f4f90632c567fca276562d6d2b89632f8fd1598e427f7", checked := Tryz.checked }
namespace Rows
def none {H : Type} : Left H := { results := [], args := [] }

/- WHAT THE LISTED PACKAGE-LEVEL VARIABLES READ AS WHEN THE CALL BEGINS. Each datum BY PROGRAM (the guide's laid-datum.mjs) off the statement by which the dump's own 'gosem.cut.vars' lays the variable. In a bare row this is a premise. The card (YtffoncjofjgojaaGreatDoorCards.lean) ties it to the program's text. -/
def laid_unicode_utf8_acceptRanges {H : Type} : DataW H := .agg [.agg [.lit (.int .u8 128), .lit (.int .u8 191)], .agg [.lit (.int .u8 160), .lit (.int .u8 191)], .agg [.lit (.int .u8 128), .lit (.int .u8 159)], .agg [.lit (.int .u8 144), .lit (.int .u8 191)], .agg [.lit (.int .u8 128), .lit (.int .u8 143)], .agg [.lit (.int .u8 0), .lit (.int .u8 0)], .agg [.lit (.int .u8 0), .lit (.int .u8 0)], .agg [.lit (.int .u8 0), .lit (.int .u8 0)], .agg [.lit (.int .u8 0), .lit (.int .u8 0)], .agg [.lit (.int .u8 0), .lit (.int .u8 0)], .agg [.lit (.int .u8 0), .lit (.int .u8 0)], .agg [.lit (.int .u8 0), .lit (.int .u8 0)], .agg [.lit (.int .u8 0), .lit (.int .u8 0)], .agg [.lit (.int .u8 0), .lit (.int .u8 0)], .agg [.lit (.int .u8 0), .lit (.int .u8 0)], .agg [.lit (.int .u8 0), .lit (.int .u8 0)]]
/-- One of Go's own tables, pinned by name: the form's constant. -/
def laid_unicode_utf8_first : DataW Unit := Go.Pinned.utf8First

/-- 'icehouselaw10.FreshLater': WHATEVER THE INPUT: true; the input reads as it did. -/
def freshLaterSpec : ChangeSpec := { name := "freshLater", fn := fun _ => fun
  | [d1, d2, d3] => { results := [.lit (.bool true)], args := [d1, d2, d3] }
  | _ => none }
def freshLaterRow : OpenClaim := { program := "ytffoncjofjgojaagreatdoor", sum := "f2caaccf773c1e2b425f4f90632c567fca276562d6d2b89632f8fd1598e427f7", func := "icehouse/icehouselaw10.FreshLater", spec := "freshLater", inPlace := ["internal/bytealg.IndexByteString", "internal/bytealg.IndexString", "internal/abi.NoEscape", "internal/bytealg.CountString", "internal/bytealg.MakeNoZero"], unfollowed := true, recurses := true, named := ["unicode/utf8.first", "unicode/utf8.acceptRanges", "internal/bytealg.MaxLen"], apart := false, laid := [("unicode/utf8.acceptRanges", laid_unicode_utf8_acceptRanges), ("unicode/utf8.first", laid_unicode_utf8_first)] }
def FreshLaterSaid : Prop := freshLaterRow.holds Tryz.pinned (OpenSpec.ofChange freshLaterSpec)

/-- ITS FALSE NEIGHBOUR: 'it returns false'. Refute it at one input. -/
def freshLaterWrong : ChangeSpec := { name := "freshLater", fn := fun _ => fun
  | [d1, d2, d3] => { results := [.lit (.bool false)], args := [d1, d2, d3] }
  | _ => none }
def FreshLaterWrongFalsely : Prop := freshLaterRow.holds Tryz.pinned (OpenSpec.ofChange freshLaterWrong)

/-- 'icehouselaw10.FreshLonger': WHATEVER THE INPUT: true; the input reads as it did. -/
def freshLongerSpec : ChangeSpec := { name := "freshLonger", fn := fun _ => fun
  | [d1, d2, d3] => { results := [.lit (.bool true)], args := [d1, d2, d3] }
  | _ => none }
def freshLongerRow : OpenClaim := { program := "ytffoncjofjgojaagreatdoor", sum := "f2caaccf773c1e2b425f4f90632c567fca276562d6d2b89632f8fd1598e427f7", func := "icehouse/icehouselaw10.FreshLonger", spec := "freshLonger", inPlace := ["internal/bytealg.IndexByteString", "internal/bytealg.IndexString", "internal/abi.NoEscape", "internal/bytealg.CountString", "internal/bytealg.MakeNoZero"], unfollowed := true, recurses := true, named := ["unicode/utf8.first", "unicode/utf8.acceptRanges", "internal/bytealg.MaxLen"], apart := false, laid := [("unicode/utf8.acceptRanges", laid_unicode_utf8_acceptRanges), ("unicode/utf8.first", laid_unicode_utf8_first)] }
def FreshLongerSaid : Prop := freshLongerRow.holds Tryz.pinned (OpenSpec.ofChange freshLongerSpec)

/-- ITS FALSE NEIGHBOUR: 'it returns false'. Refute it at one input. -/
def freshLongerWrong : ChangeSpec := { name := "freshLonger", fn := fun _ => fun
  | [d1, d2, d3] => { results := [.lit (.bool false)], args := [d1, d2, d3] }
  | _ => none }
def FreshLongerWrongFalsely : Prop := freshLongerRow.holds Tryz.pinned (OpenSpec.ofChange freshLongerWrong)

/-- 'icehouselaw10.FreshStrict': WHATEVER THE INPUT: true; the input reads as it did. -/
def freshStrictSpec : ChangeSpec := { name := "freshStrict", fn := fun _ => fun
  | [d1, d2, d3] => { results := [.lit (.bool true)], args := [d1, d2, d3] }
  | _ => none }
def freshStrictRow : OpenClaim := { program := "ytffoncjofjgojaagreatdoor", sum := "f2caaccf773c1e2b425f4f90632c567fca276562d6d2b89632f8fd1598e427f7", func := "icehouse/icehouselaw10.FreshStrict", spec := "freshStrict", inPlace := ["internal/bytealg.IndexByteString", "internal/bytealg.IndexString", "internal/abi.NoEscape", "internal/bytealg.CountString", "internal/bytealg.MakeNoZero"], unfollowed := true, recurses := true, named := ["unicode/utf8.first", "unicode/utf8.acceptRanges", "internal/bytealg.MaxLen"], apart := false, laid := [("unicode/utf8.acceptRanges", laid_unicode_utf8_acceptRanges), ("unicode/utf8.first", laid_unicode_utf8_first)] }
def FreshStrictSaid : Prop := freshStrictRow.holds Tryz.pinned (OpenSpec.ofChange freshStrictSpec)

/-- ITS FALSE NEIGHBOUR: 'it returns false'. Refute it at one input. -/
def freshStrictWrong : ChangeSpec := { name := "freshStrict", fn := fun _ => fun
  | [d1, d2, d3] => { results := [.lit (.bool false)], args := [d1, d2, d3] }
  | _ => none }
def FreshStrictWrongFalsely : Prop := freshStrictRow.holds Tryz.pinned (OpenSpec.ofChange freshStrictWrong)

/-- 'icehouselaw11.RulesStrict': WHATEVER THE INPUT: true; the input reads as it did. -/
def rulesStrictSpec : ChangeSpec := { name := "rulesStrict", fn := fun _ => fun
  | [d1, d2, d3] => { results := [.lit (.bool true)], args := [d1, d2, d3] }
  | _ => none }
def rulesStrictRow : OpenClaim := { program := "ytffoncjofjgojaagreatdoor", sum := "f2caaccf773c1e2b425f4f90632c567fca276562d6d2b89632f8fd1598e427f7", func := "icehouse/icehouselaw11.RulesStrict", spec := "rulesStrict", inPlace := ["internal/bytealg.IndexByteString", "internal/bytealg.IndexString", "internal/abi.NoEscape", "internal/bytealg.CountString", "internal/bytealg.MakeNoZero"], unfollowed := true, recurses := true, named := ["internal/bytealg.MaxLen", "unicode/utf8.first", "unicode/utf8.acceptRanges"], apart := false, laid := [("unicode/utf8.acceptRanges", laid_unicode_utf8_acceptRanges), ("unicode/utf8.first", laid_unicode_utf8_first)] }
def RulesStrictSaid : Prop := rulesStrictRow.holds Tryz.pinned (OpenSpec.ofChange rulesStrictSpec)

/-- ITS FALSE NEIGHBOUR: 'it returns false'. Refute it at one input. -/
def rulesStrictWrong : ChangeSpec := { name := "rulesStrict", fn := fun _ => fun
  | [d1, d2, d3] => { results := [.lit (.bool false)], args := [d1, d2, d3] }
  | _ => none }
def RulesStrictWrongFalsely : Prop := rulesStrictRow.holds Tryz.pinned (OpenSpec.ofChange rulesStrictWrong)

/-- 'icehouselaw11.RulesStores': WHATEVER THE INPUT: true; the input reads as it did. -/
def rulesStoresSpec : ChangeSpec := { name := "rulesStores", fn := fun _ => fun
  | [d1, d2] => { results := [.lit (.bool true)], args := [d1, d2] }
  | _ => none }
def rulesStoresRow : OpenClaim := { program := "ytffoncjofjgojaagreatdoor", sum := "f2caaccf773c1e2b425f4f90632c567fca276562d6d2b89632f8fd1598e427f7", func := "icehouse/icehouselaw11.RulesStores", spec := "rulesStores", inPlace := ["internal/bytealg.IndexByteString", "internal/bytealg.IndexString", "internal/abi.NoEscape", "internal/bytealg.CountString", "internal/bytealg.MakeNoZero"], unfollowed := true, recurses := true, named := ["internal/bytealg.MaxLen", "unicode/utf8.first", "unicode/utf8.acceptRanges"], apart := false, laid := [("unicode/utf8.acceptRanges", laid_unicode_utf8_acceptRanges), ("unicode/utf8.first", laid_unicode_utf8_first)] }
def RulesStoresSaid : Prop := rulesStoresRow.holds Tryz.pinned (OpenSpec.ofChange rulesStoresSpec)

/-- ITS FALSE NEIGHBOUR: 'it returns false'. Refute it at one input. -/
def rulesStoresWrong : ChangeSpec := { name := "rulesStores", fn := fun _ => fun
  | [d1, d2] => { results := [.lit (.bool false)], args := [d1, d2] }
  | _ => none }
def RulesStoresWrongFalsely : Prop := rulesStoresRow.holds Tryz.pinned (OpenSpec.ofChange rulesStoresWrong)

/-- 'icehouselaw11.RulesInvalidates': WHATEVER THE INPUT: true; the input reads as it did. -/
def rulesInvalidatesSpec : ChangeSpec := { name := "rulesInvalidates", fn := fun _ => fun
  | [d1, d2, d3] => { results := [.lit (.bool true)], args := [d1, d2, d3] }
  | _ => none }
def rulesInvalidatesRow : OpenClaim := { program := "ytffoncjofjgojaagreatdoor", sum := "f2caaccf773c1e2b425f4f90632c567fca276562d6d2b89632f8fd1598e427f7", func := "icehouse/icehouselaw11.RulesInvalidates", spec := "rulesInvalidates", inPlace := ["internal/bytealg.IndexByteString", "internal/bytealg.IndexString", "internal/abi.NoEscape", "internal/bytealg.CountString", "internal/bytealg.MakeNoZero"], unfollowed := true, recurses := true, named := ["internal/bytealg.MaxLen", "unicode/utf8.first", "unicode/utf8.acceptRanges"], apart := false, laid := [("unicode/utf8.acceptRanges", laid_unicode_utf8_acceptRanges), ("unicode/utf8.first", laid_unicode_utf8_first)] }
def RulesInvalidatesSaid : Prop := rulesInvalidatesRow.holds Tryz.pinned (OpenSpec.ofChange rulesInvalidatesSpec)

/-- ITS FALSE NEIGHBOUR: 'it returns false'. Refute it at one input. -/
def rulesInvalidatesWrong : ChangeSpec := { name := "rulesInvalidates", fn := fun _ => fun
  | [d1, d2, d3] => { results := [.lit (.bool false)], args := [d1, d2, d3] }
  | _ => none }
def RulesInvalidatesWrongFalsely : Prop := rulesInvalidatesRow.holds Tryz.pinned (OpenSpec.ofChange rulesInvalidatesWrong)

/-- 'icehouselaw11.RulesKeeps': WHATEVER THE INPUT: true; the input reads as it did. -/
def rulesKeepsSpec : ChangeSpec := { name := "rulesKeeps", fn := fun _ => fun
  | [d] => { results := [.lit (.bool true)], args := [d] }
  | _ => none }
def rulesKeepsRow : OpenClaim := { program := "ytffoncjofjgojaagreatdoor", sum := "f2caaccf773c1e2b425f4f90632c567fca276562d6d2b89632f8fd1598e427f7", func := "icehouse/icehouselaw11.RulesKeeps", spec := "rulesKeeps", inPlace := ["internal/bytealg.IndexByteString", "internal/bytealg.IndexString", "internal/abi.NoEscape", "internal/bytealg.CountString", "internal/bytealg.MakeNoZero"], unfollowed := true, recurses := true, named := ["internal/bytealg.MaxLen", "unicode/utf8.first", "unicode/utf8.acceptRanges"], apart := false, laid := [("unicode/utf8.acceptRanges", laid_unicode_utf8_acceptRanges), ("unicode/utf8.first", laid_unicode_utf8_first)] }
def RulesKeepsSaid : Prop := rulesKeepsRow.holds Tryz.pinned (OpenSpec.ofChange rulesKeepsSpec)

/-- ITS FALSE NEIGHBOUR: 'it returns false'. Refute it at one input. -/
def rulesKeepsWrong : ChangeSpec := { name := "rulesKeeps", fn := fun _ => fun
  | [d] => { results := [.lit (.bool false)], args := [d] }
  | _ => none }
def RulesKeepsWrongFalsely : Prop := rulesKeepsRow.holds Tryz.pinned (OpenSpec.ofChange rulesKeepsWrong)

/-- 'icehouselaw11.RulesTwice': WHATEVER THE INPUT: true; the input reads as it did. -/
def rulesTwiceSpec : ChangeSpec := { name := "rulesTwice", fn := fun _ => fun
  | [d1, d2] => { results := [.lit (.bool true)], args := [d1, d2] }
  | _ => none }
def rulesTwiceRow : OpenClaim := { program := "ytffoncjofjgojaagreatdoor", sum := "f2caaccf773c1e2b425f4f90632c567fca276562d6d2b89632f8fd1598e427f7", func := "icehouse/icehouselaw11.RulesTwice", spec := "rulesTwice", inPlace := ["internal/bytealg.IndexByteString", "internal/bytealg.IndexString", "internal/abi.NoEscape", "internal/bytealg.CountString", "internal/bytealg.MakeNoZero"], unfollowed := true, recurses := true, named := ["internal/bytealg.MaxLen", "unicode/utf8.first", "unicode/utf8.acceptRanges"], apart := false, laid := [("unicode/utf8.acceptRanges", laid_unicode_utf8_acceptRanges), ("unicode/utf8.first", laid_unicode_utf8_first)] }
def RulesTwiceSaid : Prop := rulesTwiceRow.holds Tryz.pinned (OpenSpec.ofChange rulesTwiceSpec)

/-- ITS FALSE NEIGHBOUR: 'it returns false'. Refute it at one input. -/
def rulesTwiceWrong : ChangeSpec := { name := "rulesTwice", fn := fun _ => fun
  | [d1, d2] => { results := [.lit (.bool false)], args := [d1, d2] }
  | _ => none }
def RulesTwiceWrongFalsely : Prop := rulesTwiceRow.holds Tryz.pinned (OpenSpec.ofChange rulesTwiceWrong)

/-- 'icehouselaw11.RulesValidates': WHATEVER THE INPUT: true; the input reads as it did. -/
def rulesValidatesSpec : ChangeSpec := { name := "rulesValidates", fn := fun _ => fun
  | [d1, d2] => { results := [.lit (.bool true)], args := [d1, d2] }
  | _ => none }
def rulesValidatesRow : OpenClaim := { program := "ytffoncjofjgojaagreatdoor", sum := "f2caaccf773c1e2b425f4f90632c567fca276562d6d2b89632f8fd1598e427f7", func := "icehouse/icehouselaw11.RulesValidates", spec := "rulesValidates", inPlace := ["internal/bytealg.IndexByteString", "internal/bytealg.IndexString", "internal/abi.NoEscape", "internal/bytealg.CountString", "internal/bytealg.MakeNoZero"], unfollowed := true, recurses := true, named := ["internal/bytealg.MaxLen", "unicode/utf8.first", "unicode/utf8.acceptRanges"], apart := false, laid := [("unicode/utf8.acceptRanges", laid_unicode_utf8_acceptRanges), ("unicode/utf8.first", laid_unicode_utf8_first)] }
def RulesValidatesSaid : Prop := rulesValidatesRow.holds Tryz.pinned (OpenSpec.ofChange rulesValidatesSpec)

/-- ITS FALSE NEIGHBOUR: 'it returns false'. Refute it at one input. -/
def rulesValidatesWrong : ChangeSpec := { name := "rulesValidates", fn := fun _ => fun
  | [d1, d2] => { results := [.lit (.bool false)], args := [d1, d2] }
  | _ => none }
def RulesValidatesWrongFalsely : Prop := rulesValidatesRow.holds Tryz.pinned (OpenSpec.ofChange rulesValidatesWrong)

/-- 'icehouselaw11.RulesAsked': WHATEVER THE INPUT: true; the input reads as it did. -/
def rulesAskedSpec : ChangeSpec := { name := "rulesAsked", fn := fun _ => fun
  | [d] => { results := [.lit (.bool true)], args := [d] }
  | _ => none }
def rulesAskedRow : OpenClaim := { program := "ytffoncjofjgojaagreatdoor", sum := "f2caaccf773c1e2b425f4f90632c567fca276562d6d2b89632f8fd1598e427f7", func := "icehouse/icehouselaw11.RulesAsked", spec := "rulesAsked", inPlace := ["internal/bytealg.IndexByteString", "internal/bytealg.IndexString", "internal/abi.NoEscape", "internal/bytealg.CountString", "internal/bytealg.MakeNoZero"], unfollowed := true, recurses := true, named := ["internal/bytealg.MaxLen", "unicode/utf8.first", "unicode/utf8.acceptRanges"], apart := false, laid := [("unicode/utf8.acceptRanges", laid_unicode_utf8_acceptRanges), ("unicode/utf8.first", laid_unicode_utf8_first)] }
def RulesAskedSaid : Prop := rulesAskedRow.holds Tryz.pinned (OpenSpec.ofChange rulesAskedSpec)

/-- ITS FALSE NEIGHBOUR: 'it returns false'. Refute it at one input. -/
def rulesAskedWrong : ChangeSpec := { name := "rulesAsked", fn := fun _ => fun
  | [d] => { results := [.lit (.bool false)], args := [d] }
  | _ => none }
def RulesAskedWrongFalsely : Prop := rulesAskedRow.holds Tryz.pinned (OpenSpec.ofChange rulesAskedWrong)

/- THE SECOND FORM. 'bulk': how many values and letters a reading holds, each counted each time it is reached (what is shared counts as often as it is met; a slice's spare places count too). A statement '..UptoSaid' is the law's where the arguments, and the package variables that the reading takes, are together of bulk at most 1048576: NARROWER than '..Said'. Prove '..Said' where nothing that the law and all that it calls make is longer than what came in: it says more and counts as full. Else prove '..UptoSaid'. A law counts once. -/
mutual
def uptoBulk {H : Type} : DataW H → Nat
  | .lit (.string bytes) => bytes.length + 1
  | .lit _ => 1
  | .nil => 1
  | .ptr d => uptoBulk d + 1
  | .slice elems spare => uptoBulkAll elems + uptoBulkAll spare + 1
  | .agg parts => uptoBulkAll parts + 1
  | .iface _ d => uptoBulk d + 1
  | .map entries => uptoBulkEntries entries + 1
  | .held _ => 1
def uptoBulkAll {H : Type} : List (DataW H) → Nat
  | [] => 0
  | d :: r => uptoBulk d + uptoBulkAll r
def uptoBulkEntries {H : Type} : List (Lit × DataW H) → Nat
  | [] => 0
  | x :: r => uptoBulkEntry x + uptoBulkEntries r
def uptoBulkEntry {H : Type} : Lit × DataW H → Nat
  | (.string bytes, d) => bytes.length + uptoBulk d + 1
  | (_, d) => uptoBulk d + 1
 end
def uptoSmall : (H : Type) → List (DataW H) → Bool := fun _ ds => decide (uptoBulkAll ds ≤ 1048576)
def OpenSpec.upto (s : _root_.Go.ChangeSpec) : _root_.Go.OpenSpec := { _root_.Go.OpenSpec.ofChange s with cond := some uptoSmall }

/-- 'icehouselaw10.FreshLater', WHERE WHAT IT READS IS OF BULK AT MOST 1048576: true; the input reads as it did. -/
def freshLaterUptoRow : OpenClaim := { program := "ytffoncjofjgojaagreatdoor", sum := "f2caaccf773c1e2b425f4f90632c567fca276562d6d2b89632f8fd1598e427f7", func := "icehouse/icehouselaw10.FreshLater", spec := "freshLater", inPlace := ["internal/bytealg.IndexByteString", "internal/bytealg.IndexString", "internal/abi.NoEscape", "internal/bytealg.CountString", "internal/bytealg.MakeNoZero"], unfollowed := true, recurses := true, named := ["unicode/utf8.first", "unicode/utf8.acceptRanges", "internal/bytealg.MaxLen"], apart := false, laid := [("unicode/utf8.acceptRanges", laid_unicode_utf8_acceptRanges), ("unicode/utf8.first", laid_unicode_utf8_first)], narrowed := true }
def FreshLaterUptoSaid : Prop := freshLaterUptoRow.holds Tryz.pinned (OpenSpec.upto freshLaterSpec)

/-- 'icehouselaw10.FreshLonger', WHERE WHAT IT READS IS OF BULK AT MOST 1048576: true; the input reads as it did. -/
def freshLongerUptoRow : OpenClaim := { program := "ytffoncjofjgojaagreatdoor", sum := "f2caaccf773c1e2b425f4f90632c567fca276562d6d2b89632f8fd1598e427f7", func := "icehouse/icehouselaw10.FreshLonger", spec := "freshLonger", inPlace := ["internal/bytealg.IndexByteString", "internal/bytealg.IndexString", "internal/abi.NoEscape", "internal/bytealg.CountString", "internal/bytealg.MakeNoZero"], unfollowed := true, recurses := true, named := ["unicode/utf8.first", "unicode/utf8.acceptRanges", "internal/bytealg.MaxLen"], apart := false, laid := [("unicode/utf8.acceptRanges", laid_unicode_utf8_acceptRanges), ("unicode/utf8.first", laid_unicode_utf8_first)], narrowed := true }
def FreshLongerUptoSaid : Prop := freshLongerUptoRow.holds Tryz.pinned (OpenSpec.upto freshLongerSpec)

/-- 'icehouselaw10.FreshStrict', WHERE WHAT IT READS IS OF BULK AT MOST 1048576: true; the input reads as it did. -/
def freshStrictUptoRow : OpenClaim := { program := "ytffoncjofjgojaagreatdoor", sum := "f2caaccf773c1e2b425f4f90632c567fca276562d6d2b89632f8fd1598e427f7", func := "icehouse/icehouselaw10.FreshStrict", spec := "freshStrict", inPlace := ["internal/bytealg.IndexByteString", "internal/bytealg.IndexString", "internal/abi.NoEscape", "internal/bytealg.CountString", "internal/bytealg.MakeNoZero"], unfollowed := true, recurses := true, named := ["unicode/utf8.first", "unicode/utf8.acceptRanges", "internal/bytealg.MaxLen"], apart := false, laid := [("unicode/utf8.acceptRanges", laid_unicode_utf8_acceptRanges), ("unicode/utf8.first", laid_unicode_utf8_first)], narrowed := true }
def FreshStrictUptoSaid : Prop := freshStrictUptoRow.holds Tryz.pinned (OpenSpec.upto freshStrictSpec)

/-- 'icehouselaw11.RulesStrict', WHERE WHAT IT READS IS OF BULK AT MOST 1048576: true; the input reads as it did. -/
def rulesStrictUptoRow : OpenClaim := { program := "ytffoncjofjgojaagreatdoor", sum := "f2caaccf773c1e2b425f4f90632c567fca276562d6d2b89632f8fd1598e427f7", func := "icehouse/icehouselaw11.RulesStrict", spec := "rulesStrict", inPlace := ["internal/bytealg.IndexByteString", "internal/bytealg.IndexString", "internal/abi.NoEscape", "internal/bytealg.CountString", "internal/bytealg.MakeNoZero"], unfollowed := true, recurses := true, named := ["internal/bytealg.MaxLen", "unicode/utf8.first", "unicode/utf8.acceptRanges"], apart := false, laid := [("unicode/utf8.acceptRanges", laid_unicode_utf8_acceptRanges), ("unicode/utf8.first", laid_unicode_utf8_first)], narrowed := true }
def RulesStrictUptoSaid : Prop := rulesStrictUptoRow.holds Tryz.pinned (OpenSpec.upto rulesStrictSpec)

/-- 'icehouselaw11.RulesStores', WHERE WHAT IT READS IS OF BULK AT MOST 1048576: true; the input reads as it did. -/
def rulesStoresUptoRow : OpenClaim := { program := "ytffoncjofjgojaagreatdoor", sum := "f2caaccf773c1e2b425f4f90632c567fca276562d6d2b89632f8fd1598e427f7", func := "icehouse/icehouselaw11.RulesStores", spec := "rulesStores", inPlace := ["internal/bytealg.IndexByteString", "internal/bytealg.IndexString", "internal/abi.NoEscape", "internal/bytealg.CountString", "internal/bytealg.MakeNoZero"], unfollowed := true, recurses := true, named := ["internal/bytealg.MaxLen", "unicode/utf8.first", "unicode/utf8.acceptRanges"], apart := false, laid := [("unicode/utf8.acceptRanges", laid_unicode_utf8_acceptRanges), ("unicode/utf8.first", laid_unicode_utf8_first)], narrowed := true }
def RulesStoresUptoSaid : Prop := rulesStoresUptoRow.holds Tryz.pinned (OpenSpec.upto rulesStoresSpec)

/-- 'icehouselaw11.RulesInvalidates', WHERE WHAT IT READS IS OF BULK AT MOST 1048576: true; the input reads as it did. -/
def rulesInvalidatesUptoRow : OpenClaim := { program := "ytffoncjofjgojaagreatdoor", sum := "f2caaccf773c1e2b425f4f90632c567fca276562d6d2b89632f8fd1598e427f7", func := "icehouse/icehouselaw11.RulesInvalidates", spec := "rulesInvalidates", inPlace := ["internal/bytealg.IndexByteString", "internal/bytealg.IndexString", "internal/abi.NoEscape", "internal/bytealg.CountString", "internal/bytealg.MakeNoZero"], unfollowed := true, recurses := true, named := ["internal/bytealg.MaxLen", "unicode/utf8.first", "unicode/utf8.acceptRanges"], apart := false, laid := [("unicode/utf8.acceptRanges", laid_unicode_utf8_acceptRanges), ("unicode/utf8.first", laid_unicode_utf8_first)], narrowed := true }
def RulesInvalidatesUptoSaid : Prop := rulesInvalidatesUptoRow.holds Tryz.pinned (OpenSpec.upto rulesInvalidatesSpec)

/-- 'icehouselaw11.RulesKeeps', WHERE WHAT IT READS IS OF BULK AT MOST 1048576: true; the input reads as it did. -/
def rulesKeepsUptoRow : OpenClaim := { program := "ytffoncjofjgojaagreatdoor", sum := "f2caaccf773c1e2b425f4f90632c567fca276562d6d2b89632f8fd1598e427f7", func := "icehouse/icehouselaw11.RulesKeeps", spec := "rulesKeeps", inPlace := ["internal/bytealg.IndexByteString", "internal/bytealg.IndexString", "internal/abi.NoEscape", "internal/bytealg.CountString", "internal/bytealg.MakeNoZero"], unfollowed := true, recurses := true, named := ["internal/bytealg.MaxLen", "unicode/utf8.first", "unicode/utf8.acceptRanges"], apart := false, laid := [("unicode/utf8.acceptRanges", laid_unicode_utf8_acceptRanges), ("unicode/utf8.first", laid_unicode_utf8_first)], narrowed := true }
def RulesKeepsUptoSaid : Prop := rulesKeepsUptoRow.holds Tryz.pinned (OpenSpec.upto rulesKeepsSpec)

/-- 'icehouselaw11.RulesTwice', WHERE WHAT IT READS IS OF BULK AT MOST 1048576: true; the input reads as it did. -/
def rulesTwiceUptoRow : OpenClaim := { program := "ytffoncjofjgojaagreatdoor", sum := "f2caaccf773c1e2b425f4f90632c567fca276562d6d2b89632f8fd1598e427f7", func := "icehouse/icehouselaw11.RulesTwice", spec := "rulesTwice", inPlace := ["internal/bytealg.IndexByteString", "internal/bytealg.IndexString", "internal/abi.NoEscape", "internal/bytealg.CountString", "internal/bytealg.MakeNoZero"], unfollowed := true, recurses := true, named := ["internal/bytealg.MaxLen", "unicode/utf8.first", "unicode/utf8.acceptRanges"], apart := false, laid := [("unicode/utf8.acceptRanges", laid_unicode_utf8_acceptRanges), ("unicode/utf8.first", laid_unicode_utf8_first)], narrowed := true }
def RulesTwiceUptoSaid : Prop := rulesTwiceUptoRow.holds Tryz.pinned (OpenSpec.upto rulesTwiceSpec)

/-- 'icehouselaw11.RulesValidates', WHERE WHAT IT READS IS OF BULK AT MOST 1048576: true; the input reads as it did. -/
def rulesValidatesUptoRow : OpenClaim := { program := "ytffoncjofjgojaagreatdoor", sum := "f2caaccf773c1e2b425f4f90632c567fca276562d6d2b89632f8fd1598e427f7", func := "icehouse/icehouselaw11.RulesValidates", spec := "rulesValidates", inPlace := ["internal/bytealg.IndexByteString", "internal/bytealg.IndexString", "internal/abi.NoEscape", "internal/bytealg.CountString", "internal/bytealg.MakeNoZero"], unfollowed := true, recurses := true, named := ["internal/bytealg.MaxLen", "unicode/utf8.first", "unicode/utf8.acceptRanges"], apart := false, laid := [("unicode/utf8.acceptRanges", laid_unicode_utf8_acceptRanges), ("unicode/utf8.first", laid_unicode_utf8_first)], narrowed := true }
def RulesValidatesUptoSaid : Prop := rulesValidatesUptoRow.holds Tryz.pinned (OpenSpec.upto rulesValidatesSpec)

/-- 'icehouselaw11.RulesAsked', WHERE WHAT IT READS IS OF BULK AT MOST 1048576: true; the input reads as it did. -/
def rulesAskedUptoRow : OpenClaim := { program := "ytffoncjofjgojaagreatdoor", sum := "f2caaccf773c1e2b425f4f90632c567fca276562d6d2b89632f8fd1598e427f7", func := "icehouse/icehouselaw11.RulesAsked", spec := "rulesAsked", inPlace := ["internal/bytealg.IndexByteString", "internal/bytealg.IndexString", "internal/abi.NoEscape", "internal/bytealg.CountString", "internal/bytealg.MakeNoZero"], unfollowed := true, recurses := true, named := ["internal/bytealg.MaxLen", "unicode/utf8.first", "unicode/utf8.acceptRanges"], apart := false, laid := [("unicode/utf8.acceptRanges", laid_unicode_utf8_acceptRanges), ("unicode/utf8.first", laid_unicode_utf8_first)], narrowed := true }
def RulesAskedUptoSaid : Prop := rulesAskedUptoRow.holds Tryz.pinned (OpenSpec.upto rulesAskedSpec)

end Rows
end Go.Proofs.YtffoncjofjgojaaGreatDoor
