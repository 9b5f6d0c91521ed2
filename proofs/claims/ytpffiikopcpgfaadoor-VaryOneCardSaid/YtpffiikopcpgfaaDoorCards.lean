/-
  DERIVED. GIVEN WITH THE SEED: THE CARDS: each row of YtpffiikopcpgfaaDoorRows.lean that lists a variable, with what it lists TIED to the program's text (the seventh form; the later family's looks); each row that meets fmt, with fmt's text TOLD by the authors' own Lean function (tested against real Go, not proved from fmt's source: count such statements apart). THE CARD IS WHAT COUNTS. Prove the row's statement (the work); the ties are given (YtpffiikopcpgfaaDoorTie.lean); close each card by the builder's one call (the guide's Derived/Test/ToyasCard.lean, 'card_holds'). Laid BY PROGRAM, IN A SANDBOX (cutbox-door.mjs). By AI agents, Wed Nov 11 2026. No macro, syntax, notation, axiom, sorry.
-/
import Derived.Test.YtpffiikopcpgfaaDoorRows
import GoSem.ClaimSeven
namespace Go.Proofs.YtpffiikopcpgfaaDoor
namespace Rows

/-- THE TIED CARD OF 'icehouselaw06.StartReads'. -/
def startReadsCard : Claim7 := { stood := { row := startReadsRow, standIns := [], harness := (true, "9394c650982b816692ab44f32803a609c277d90d250cf1056f7f65067291b08a"), looks := false }, kinds := [], alts := [], laidByText := true, laidKinds := [.data, .pinned], laidTests := true, laidLooks := .later }
def StartReadsCardSaid : Prop := Claim7.holds Tryd.pinned (.plain (OpenSpec.ofChange startReadsSpec)) startReadsCard

/-- THE TIED CARD OF 'icehouselaw06.StartCuts'. -/
def startCutsCard : Claim7 := { stood := { row := startCutsRow, standIns := [], harness := (true, "9394c650982b816692ab44f32803a609c277d90d250cf1056f7f65067291b08a"), looks := false }, kinds := [], alts := [], laidByText := true, laidKinds := [.data, .pinned], laidTests := true, laidLooks := .later }
def StartCutsCardSaid : Prop := Claim7.holds Tryd.pinned (.plain (OpenSpec.ofChange startCutsSpec)) startCutsCard

/-- THE TIED CARD OF 'icehouselaw06.StartBounds'. -/
def startBoundsCard : Claim7 := { stood := { row := startBoundsRow, standIns := [], harness := (true, "9394c650982b816692ab44f32803a609c277d90d250cf1056f7f65067291b08a"), looks := false }, kinds := [], alts := [], laidByText := true, laidKinds := [.data, .pinned], laidTests := true, laidLooks := .later }
def StartBoundsCardSaid : Prop := Claim7.holds Tryd.pinned (.plain (OpenSpec.ofChange startBoundsSpec)) startBoundsCard

/-- THE TIED CARD OF 'icehouselaw04.ControlParses'. -/
def controlParsesCard : Claim7 := { stood := { row := controlParsesRow, standIns := [], harness := (true, "9394c650982b816692ab44f32803a609c277d90d250cf1056f7f65067291b08a"), looks := false }, kinds := [], alts := [], laidByText := true, laidKinds := [.data, .pinned], laidTests := true, laidLooks := .later }
def ControlParsesCardSaid : Prop := Claim7.holds Tryd.pinned (.plain (OpenSpec.ofChange controlParsesSpec)) controlParsesCard

/-- THE TIED CARD OF 'icehouselaw04.ControlNumbers'. -/
def controlNumbersCard : Claim7 := { stood := { row := controlNumbersRow, standIns := [], harness := (true, "9394c650982b816692ab44f32803a609c277d90d250cf1056f7f65067291b08a"), looks := false }, kinds := [], alts := [], laidByText := true, laidKinds := [.data, .pinned], laidTests := true, laidLooks := .later }
def ControlNumbersCardSaid : Prop := Claim7.holds Tryd.pinned (.plain (OpenSpec.ofChange controlNumbersSpec)) controlNumbersCard

/-- THE TIED CARD OF 'icehouselaw04.ControlQuiet'. -/
def controlQuietCard : Claim7 := { stood := { row := controlQuietRow, standIns := [], harness := (true, "9394c650982b816692ab44f32803a609c277d90d250cf1056f7f65067291b08a"), looks := false }, kinds := [], alts := [], laidByText := true, laidKinds := [.data, .pinned], laidTests := true, laidLooks := .later }
def ControlQuietCardSaid : Prop := Claim7.holds Tryd.pinned (.plain (OpenSpec.ofChange controlQuietSpec)) controlQuietCard

/-- THE TIED CARD OF 'icehouselaw04.ControlPrints'. -/
def controlPrintsCard : Claim7 := { stood := { row := controlPrintsRow, standIns := [], harness := (true, "9394c650982b816692ab44f32803a609c277d90d250cf1056f7f65067291b08a"), looks := false }, kinds := [], alts := [], laidByText := true, laidKinds := [.data, .pinned], laidTests := true, laidLooks := .later }
def ControlPrintsCardSaid : Prop := Claim7.holds Tryd.pinned (.plain (OpenSpec.ofChange controlPrintsSpec)) controlPrintsCard

/-- THE TIED CARD OF 'icehouselaw04.ControlJoins'. -/
def controlJoinsCard : Claim7 := { stood := { row := controlJoinsRow, standIns := [], harness := (true, "9394c650982b816692ab44f32803a609c277d90d250cf1056f7f65067291b08a"), looks := false }, kinds := [], alts := [], laidByText := true, laidKinds := [.data, .pinned], laidTests := true, laidLooks := .later }
def ControlJoinsCardSaid : Prop := Claim7.holds Tryd.pinned (.plain (OpenSpec.ofChange controlJoinsSpec)) controlJoinsCard

/-- THE TIED CARD OF 'icehouselaw06.StartPrints'. -/
def startPrintsCard : Claim7 := { stood := { row := startPrintsRow, standIns := [], harness := (true, "9394c650982b816692ab44f32803a609c277d90d250cf1056f7f65067291b08a"), looks := false }, kinds := [], alts := [], laidByText := true, laidKinds := [.data, .pinned], laidTests := true, laidLooks := .later }
def StartPrintsCardSaid : Prop := Claim7.holds Tryd.pinned (.plain (OpenSpec.ofChange startPrintsSpec)) startPrintsCard

/-- THE TIED CARD OF 'icehouselaw06.StartApart'. -/
def startApartCard : Claim7 := { stood := { row := startApartRow, standIns := [], harness := (true, "9394c650982b816692ab44f32803a609c277d90d250cf1056f7f65067291b08a"), looks := false }, kinds := [], alts := [], laidByText := true, laidKinds := [.data, .pinned], laidTests := true, laidLooks := .later }
def StartApartCardSaid : Prop := Claim7.holds Tryd.pinned (.plain (OpenSpec.ofChange startApartSpec)) startApartCard

/-- THE TIED CARD OF 'icehouselaw09.VaryNames'. -/
def varyNamesCard : Claim7 := { stood := { row := varyNamesRow, standIns := [], harness := (true, "9394c650982b816692ab44f32803a609c277d90d250cf1056f7f65067291b08a"), looks := false }, kinds := [], alts := [], laidByText := true, laidKinds := [.data, .pinned], laidTests := true, laidLooks := .later }
def VaryNamesCardSaid : Prop := Claim7.holds Tryd.pinned (.plain (OpenSpec.ofChange varyNamesSpec)) varyNamesCard

/-- THE TIED CARD OF 'icehouselaw09.VaryOrder'. -/
def varyOrderCard : Claim7 := { stood := { row := varyOrderRow, standIns := [], harness := (true, "9394c650982b816692ab44f32803a609c277d90d250cf1056f7f65067291b08a"), looks := false }, kinds := [], alts := [], laidByText := true, laidKinds := [.data, .pinned], laidTests := true, laidLooks := .later }
def VaryOrderCardSaid : Prop := Claim7.holds Tryd.pinned (.plain (OpenSpec.ofChange varyOrderSpec)) varyOrderCard

/-- THE TIED CARD OF 'icehouselaw09.VaryKeys'. -/
def varyKeysCard : Claim7 := { stood := { row := varyKeysRow, standIns := [], harness := (true, "9394c650982b816692ab44f32803a609c277d90d250cf1056f7f65067291b08a"), looks := false }, kinds := [], alts := [], laidByText := true, laidKinds := [.data, .pinned], laidTests := true, laidLooks := .later }
def VaryKeysCardSaid : Prop := Claim7.holds Tryd.pinned (.plain (OpenSpec.ofChange varyKeysSpec)) varyKeysCard

/-- THE TIED CARD OF 'icehouselaw09.VaryOne'. -/
def varyOneCard : Claim7 := { stood := { row := varyOneRow, standIns := [], harness := (true, "9394c650982b816692ab44f32803a609c277d90d250cf1056f7f65067291b08a"), looks := false }, kinds := [], alts := [], laidByText := true, laidKinds := [.data, .pinned], laidTests := true, laidLooks := .later }
def VaryOneCardSaid : Prop := Claim7.holds Tryd.pinned (.plain (OpenSpec.ofChange varyOneSpec)) varyOneCard

/-- THE TIED CARD OF 'icehouselaw09.VaryBlanks'. -/
def varyBlanksCard : Claim7 := { stood := { row := varyBlanksRow, standIns := [], harness := (true, "9394c650982b816692ab44f32803a609c277d90d250cf1056f7f65067291b08a"), looks := false }, kinds := [], alts := [], laidByText := true, laidKinds := [.data, .pinned], laidTests := true, laidLooks := .later }
def VaryBlanksCardSaid : Prop := Claim7.holds Tryd.pinned (.plain (OpenSpec.ofChange varyBlanksSpec)) varyBlanksCard

/-- THE SECOND FORM's CARD OF 'icehouselaw06.StartReads'. -/
def startReadsUptoCard : Claim7 := { stood := { row := startReadsUptoRow, standIns := [], harness := (true, "9394c650982b816692ab44f32803a609c277d90d250cf1056f7f65067291b08a"), looks := false }, kinds := [], alts := [], laidByText := true, laidKinds := [.data, .pinned], laidTests := true, laidLooks := .later }
def StartReadsUptoCardSaid : Prop := Claim7.holds Tryd.pinned (.plain (OpenSpec.upto startReadsSpec)) startReadsUptoCard

/-- THE SECOND FORM's CARD OF 'icehouselaw06.StartCuts'. -/
def startCutsUptoCard : Claim7 := { stood := { row := startCutsUptoRow, standIns := [], harness := (true, "9394c650982b816692ab44f32803a609c277d90d250cf1056f7f65067291b08a"), looks := false }, kinds := [], alts := [], laidByText := true, laidKinds := [.data, .pinned], laidTests := true, laidLooks := .later }
def StartCutsUptoCardSaid : Prop := Claim7.holds Tryd.pinned (.plain (OpenSpec.upto startCutsSpec)) startCutsUptoCard

/-- THE SECOND FORM's CARD OF 'icehouselaw06.StartBounds'. -/
def startBoundsUptoCard : Claim7 := { stood := { row := startBoundsUptoRow, standIns := [], harness := (true, "9394c650982b816692ab44f32803a609c277d90d250cf1056f7f65067291b08a"), looks := false }, kinds := [], alts := [], laidByText := true, laidKinds := [.data, .pinned], laidTests := true, laidLooks := .later }
def StartBoundsUptoCardSaid : Prop := Claim7.holds Tryd.pinned (.plain (OpenSpec.upto startBoundsSpec)) startBoundsUptoCard

/-- THE SECOND FORM's CARD OF 'icehouselaw04.ControlParses'. -/
def controlParsesUptoCard : Claim7 := { stood := { row := controlParsesUptoRow, standIns := [], harness := (true, "9394c650982b816692ab44f32803a609c277d90d250cf1056f7f65067291b08a"), looks := false }, kinds := [], alts := [], laidByText := true, laidKinds := [.data, .pinned], laidTests := true, laidLooks := .later }
def ControlParsesUptoCardSaid : Prop := Claim7.holds Tryd.pinned (.plain (OpenSpec.upto controlParsesSpec)) controlParsesUptoCard

/-- THE SECOND FORM's CARD OF 'icehouselaw04.ControlNumbers'. -/
def controlNumbersUptoCard : Claim7 := { stood := { row := controlNumbersUptoRow, standIns := [], harness := (true, "9394c650982b816692ab44f32803a609c277d90d250cf1056f7f65067291b08a"), looks := false }, kinds := [], alts := [], laidByText := true, laidKinds := [.data, .pinned], laidTests := true, laidLooks := .later }
def ControlNumbersUptoCardSaid : Prop := Claim7.holds Tryd.pinned (.plain (OpenSpec.upto controlNumbersSpec)) controlNumbersUptoCard

/-- THE SECOND FORM's CARD OF 'icehouselaw04.ControlQuiet'. -/
def controlQuietUptoCard : Claim7 := { stood := { row := controlQuietUptoRow, standIns := [], harness := (true, "9394c650982b816692ab44f32803a609c277d90d250cf1056f7f65067291b08a"), looks := false }, kinds := [], alts := [], laidByText := true, laidKinds := [.data, .pinned], laidTests := true, laidLooks := .later }
def ControlQuietUptoCardSaid : Prop := Claim7.holds Tryd.pinned (.plain (OpenSpec.upto controlQuietSpec)) controlQuietUptoCard

/-- THE SECOND FORM's CARD OF 'icehouselaw04.ControlPrints'. -/
def controlPrintsUptoCard : Claim7 := { stood := { row := controlPrintsUptoRow, standIns := [], harness := (true, "9394c650982b816692ab44f32803a609c277d90d250cf1056f7f65067291b08a"), looks := false }, kinds := [], alts := [], laidByText := true, laidKinds := [.data, .pinned], laidTests := true, laidLooks := .later }
def ControlPrintsUptoCardSaid : Prop := Claim7.holds Tryd.pinned (.plain (OpenSpec.upto controlPrintsSpec)) controlPrintsUptoCard

/-- THE SECOND FORM's CARD OF 'icehouselaw04.ControlJoins'. -/
def controlJoinsUptoCard : Claim7 := { stood := { row := controlJoinsUptoRow, standIns := [], harness := (true, "9394c650982b816692ab44f32803a609c277d90d250cf1056f7f65067291b08a"), looks := false }, kinds := [], alts := [], laidByText := true, laidKinds := [.data, .pinned], laidTests := true, laidLooks := .later }
def ControlJoinsUptoCardSaid : Prop := Claim7.holds Tryd.pinned (.plain (OpenSpec.upto controlJoinsSpec)) controlJoinsUptoCard

/-- THE SECOND FORM's CARD OF 'icehouselaw06.StartPrints'. -/
def startPrintsUptoCard : Claim7 := { stood := { row := startPrintsUptoRow, standIns := [], harness := (true, "9394c650982b816692ab44f32803a609c277d90d250cf1056f7f65067291b08a"), looks := false }, kinds := [], alts := [], laidByText := true, laidKinds := [.data, .pinned], laidTests := true, laidLooks := .later }
def StartPrintsUptoCardSaid : Prop := Claim7.holds Tryd.pinned (.plain (OpenSpec.upto startPrintsSpec)) startPrintsUptoCard

/-- THE SECOND FORM's CARD OF 'icehouselaw06.StartApart'. -/
def startApartUptoCard : Claim7 := { stood := { row := startApartUptoRow, standIns := [], harness := (true, "9394c650982b816692ab44f32803a609c277d90d250cf1056f7f65067291b08a"), looks := false }, kinds := [], alts := [], laidByText := true, laidKinds := [.data, .pinned], laidTests := true, laidLooks := .later }
def StartApartUptoCardSaid : Prop := Claim7.holds Tryd.pinned (.plain (OpenSpec.upto startApartSpec)) startApartUptoCard

/-- THE SECOND FORM's CARD OF 'icehouselaw09.VaryNames'. -/
def varyNamesUptoCard : Claim7 := { stood := { row := varyNamesUptoRow, standIns := [], harness := (true, "9394c650982b816692ab44f32803a609c277d90d250cf1056f7f65067291b08a"), looks := false }, kinds := [], alts := [], laidByText := true, laidKinds := [.data, .pinned], laidTests := true, laidLooks := .later }
def VaryNamesUptoCardSaid : Prop := Claim7.holds Tryd.pinned (.plain (OpenSpec.upto varyNamesSpec)) varyNamesUptoCard

/-- THE SECOND FORM's CARD OF 'icehouselaw09.VaryOrder'. -/
def varyOrderUptoCard : Claim7 := { stood := { row := varyOrderUptoRow, standIns := [], harness := (true, "9394c650982b816692ab44f32803a609c277d90d250cf1056f7f65067291b08a"), looks := false }, kinds := [], alts := [], laidByText := true, laidKinds := [.data, .pinned], laidTests := true, laidLooks := .later }
def VaryOrderUptoCardSaid : Prop := Claim7.holds Tryd.pinned (.plain (OpenSpec.upto varyOrderSpec)) varyOrderUptoCard

/-- THE SECOND FORM's CARD OF 'icehouselaw09.VaryKeys'. -/
def varyKeysUptoCard : Claim7 := { stood := { row := varyKeysUptoRow, standIns := [], harness := (true, "9394c650982b816692ab44f32803a609c277d90d250cf1056f7f65067291b08a"), looks := false }, kinds := [], alts := [], laidByText := true, laidKinds := [.data, .pinned], laidTests := true, laidLooks := .later }
def VaryKeysUptoCardSaid : Prop := Claim7.holds Tryd.pinned (.plain (OpenSpec.upto varyKeysSpec)) varyKeysUptoCard

/-- THE SECOND FORM's CARD OF 'icehouselaw09.VaryOne'. -/
def varyOneUptoCard : Claim7 := { stood := { row := varyOneUptoRow, standIns := [], harness := (true, "9394c650982b816692ab44f32803a609c277d90d250cf1056f7f65067291b08a"), looks := false }, kinds := [], alts := [], laidByText := true, laidKinds := [.data, .pinned], laidTests := true, laidLooks := .later }
def VaryOneUptoCardSaid : Prop := Claim7.holds Tryd.pinned (.plain (OpenSpec.upto varyOneSpec)) varyOneUptoCard

/-- THE SECOND FORM's CARD OF 'icehouselaw09.VaryBlanks'. -/
def varyBlanksUptoCard : Claim7 := { stood := { row := varyBlanksUptoRow, standIns := [], harness := (true, "9394c650982b816692ab44f32803a609c277d90d250cf1056f7f65067291b08a"), looks := false }, kinds := [], alts := [], laidByText := true, laidKinds := [.data, .pinned], laidTests := true, laidLooks := .later }
def VaryBlanksUptoCardSaid : Prop := Claim7.holds Tryd.pinned (.plain (OpenSpec.upto varyBlanksSpec)) varyBlanksUptoCard
end Rows
end Go.Proofs.YtpffiikopcpgfaaDoor
