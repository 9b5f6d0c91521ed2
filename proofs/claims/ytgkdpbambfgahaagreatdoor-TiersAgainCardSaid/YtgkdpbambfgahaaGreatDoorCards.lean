/-
  DERIVED. GIVEN WITH THE SEED: THE CARDS: each row of YtgkdpbambfgahaaGreatDoorRows.lean that lists a variable, with what it lists TIED to the program's text (the seventh form; the later family's looks); each row that meets fmt, with fmt's text TOLD by the authors' own Lean function (tested against real Go, not proved from fmt's source: count such statements apart). THE CARD IS WHAT COUNTS. Prove the row's statement (the work); the ties are given (YtgkdpbambfgahaaGreatDoorTie.lean); close each card by the builder's one call (the guide's Derived/Test/ToyasCard.lean, 'card_holds'). Laid BY PROGRAM, IN A SANDBOX (cutbox-door.mjs). By AI agents, Wed Nov 11 2026. No macro, syntax, notation, axiom, sorry.
-/
import Derived.Test.YtgkdpbambfgahaaGreatDoorRows
import GoSem.ClaimSeven
namespace Go.Proofs.YtgkdpbambfgahaaGreatDoor
namespace Rows

/-- THE TIED CARD OF 'icehouselaw20.DiskSizes'. -/
def diskSizesCard : Claim7 := { stood := { row := diskSizesRow, standIns := [], harness := (true, "ef240efb5da31e24611c917d10f9056f80c8067bb942af8a5bf78a16f5a7f7f5"), looks := true }, kinds := [], alts := [], laidByText := true, laidKinds := [.data, .data, .pinned], laidTests := true, laidLooks := .later }
def DiskSizesCardSaid : Prop := Claim7.holds Tryz.pinned (.plain (OpenSpec.ofChange diskSizesSpec)) diskSizesCard

/-- THE TIED CARD OF 'icehouselaw20.DiskShapes'. -/
def diskShapesCard : Claim7 := { stood := { row := diskShapesRow, standIns := [], harness := (true, "ef240efb5da31e24611c917d10f9056f80c8067bb942af8a5bf78a16f5a7f7f5"), looks := true }, kinds := [], alts := [], laidByText := true, laidKinds := [.data, .data, .pinned], laidTests := true, laidLooks := .later }
def DiskShapesCardSaid : Prop := Claim7.holds Tryz.pinned (.plain (OpenSpec.ofChange diskShapesSpec)) diskShapesCard

/-- THE TIED CARD OF 'icehouselaw20.DiskMounts'. -/
def diskMountsCard : Claim7 := { stood := { row := diskMountsRow, standIns := [], harness := (true, "ef240efb5da31e24611c917d10f9056f80c8067bb942af8a5bf78a16f5a7f7f5"), looks := true }, kinds := [], alts := [], laidByText := true, laidKinds := [.data, .data, .pinned], laidTests := true, laidLooks := .later }
def DiskMountsCardSaid : Prop := Claim7.holds Tryz.pinned (.plain (OpenSpec.ofChange diskMountsSpec)) diskMountsCard

/-- THE TIED CARD OF 'icehouselaw20.DiskPlays'. -/
def diskPlaysCard : Claim7 := { stood := { row := diskPlaysRow, standIns := [], harness := (true, "ef240efb5da31e24611c917d10f9056f80c8067bb942af8a5bf78a16f5a7f7f5"), looks := true }, kinds := [], alts := [], laidByText := true, laidKinds := [.data, .data, .pinned], laidTests := true, laidLooks := .later }
def DiskPlaysCardSaid : Prop := Claim7.holds Tryz.pinned (.plain (OpenSpec.ofChange diskPlaysSpec)) diskPlaysCard

/-- THE TIED CARD OF 'icehouselaw22.TiersAgain'. -/
def tiersAgainCard : Claim7 := { stood := { row := tiersAgainRow, standIns := [], harness := (true, "ef240efb5da31e24611c917d10f9056f80c8067bb942af8a5bf78a16f5a7f7f5"), looks := true }, kinds := [], alts := [], laidByText := true, laidKinds := [.data, .data, .pinned], laidTests := true, laidLooks := .later }
def TiersAgainCardSaid : Prop := Claim7.holds Tryz.pinned (.plain (OpenSpec.ofChange tiersAgainSpec)) tiersAgainCard

/-- THE TIED CARD OF 'icehouselaw22.TiersOne'. -/
def tiersOneCard : Claim7 := { stood := { row := tiersOneRow, standIns := [], harness := (true, "ef240efb5da31e24611c917d10f9056f80c8067bb942af8a5bf78a16f5a7f7f5"), looks := true }, kinds := [], alts := [], laidByText := true, laidKinds := [.data, .data, .pinned], laidTests := true, laidLooks := .later }
def TiersOneCardSaid : Prop := Claim7.holds Tryz.pinned (.plain (OpenSpec.ofChange tiersOneSpec)) tiersOneCard

/-- THE TIED CARD OF 'icehouselaw22.TiersPlays'. -/
def tiersPlaysCard : Claim7 := { stood := { row := tiersPlaysRow, standIns := [], harness := (true, "ef240efb5da31e24611c917d10f9056f80c8067bb942af8a5bf78a16f5a7f7f5"), looks := true }, kinds := [], alts := [], laidByText := true, laidKinds := [.data, .data, .pinned], laidTests := true, laidLooks := .later }
def TiersPlaysCardSaid : Prop := Claim7.holds Tryz.pinned (.plain (OpenSpec.ofChange tiersPlaysSpec)) tiersPlaysCard

/-- THE SECOND FORM's CARD OF 'icehouselaw20.DiskSizes'. -/
def diskSizesUptoCard : Claim7 := { stood := { row := diskSizesUptoRow, standIns := [], harness := (true, "ef240efb5da31e24611c917d10f9056f80c8067bb942af8a5bf78a16f5a7f7f5"), looks := true }, kinds := [], alts := [], laidByText := true, laidKinds := [.data, .data, .pinned], laidTests := true, laidLooks := .later }
def DiskSizesUptoCardSaid : Prop := Claim7.holds Tryz.pinned (.plain (OpenSpec.upto diskSizesSpec)) diskSizesUptoCard

/-- THE SECOND FORM's CARD OF 'icehouselaw20.DiskShapes'. -/
def diskShapesUptoCard : Claim7 := { stood := { row := diskShapesUptoRow, standIns := [], harness := (true, "ef240efb5da31e24611c917d10f9056f80c8067bb942af8a5bf78a16f5a7f7f5"), looks := true }, kinds := [], alts := [], laidByText := true, laidKinds := [.data, .data, .pinned], laidTests := true, laidLooks := .later }
def DiskShapesUptoCardSaid : Prop := Claim7.holds Tryz.pinned (.plain (OpenSpec.upto diskShapesSpec)) diskShapesUptoCard

/-- THE SECOND FORM's CARD OF 'icehouselaw20.DiskMounts'. -/
def diskMountsUptoCard : Claim7 := { stood := { row := diskMountsUptoRow, standIns := [], harness := (true, "ef240efb5da31e24611c917d10f9056f80c8067bb942af8a5bf78a16f5a7f7f5"), looks := true }, kinds := [], alts := [], laidByText := true, laidKinds := [.data, .data, .pinned], laidTests := true, laidLooks := .later }
def DiskMountsUptoCardSaid : Prop := Claim7.holds Tryz.pinned (.plain (OpenSpec.upto diskMountsSpec)) diskMountsUptoCard

/-- THE SECOND FORM's CARD OF 'icehouselaw20.DiskPlays'. -/
def diskPlaysUptoCard : Claim7 := { stood := { row := diskPlaysUptoRow, standIns := [], harness := (true, "ef240efb5da31e24611c917d10f9056f80c8067bb942af8a5bf78a16f5a7f7f5"), looks := true }, kinds := [], alts := [], laidByText := true, laidKinds := [.data, .data, .pinned], laidTests := true, laidLooks := .later }
def DiskPlaysUptoCardSaid : Prop := Claim7.holds Tryz.pinned (.plain (OpenSpec.upto diskPlaysSpec)) diskPlaysUptoCard

/-- THE SECOND FORM's CARD OF 'icehouselaw22.TiersAgain'. -/
def tiersAgainUptoCard : Claim7 := { stood := { row := tiersAgainUptoRow, standIns := [], harness := (true, "ef240efb5da31e24611c917d10f9056f80c8067bb942af8a5bf78a16f5a7f7f5"), looks := true }, kinds := [], alts := [], laidByText := true, laidKinds := [.data, .data, .pinned], laidTests := true, laidLooks := .later }
def TiersAgainUptoCardSaid : Prop := Claim7.holds Tryz.pinned (.plain (OpenSpec.upto tiersAgainSpec)) tiersAgainUptoCard

/-- THE SECOND FORM's CARD OF 'icehouselaw22.TiersOne'. -/
def tiersOneUptoCard : Claim7 := { stood := { row := tiersOneUptoRow, standIns := [], harness := (true, "ef240efb5da31e24611c917d10f9056f80c8067bb942af8a5bf78a16f5a7f7f5"), looks := true }, kinds := [], alts := [], laidByText := true, laidKinds := [.data, .data, .pinned], laidTests := true, laidLooks := .later }
def TiersOneUptoCardSaid : Prop := Claim7.holds Tryz.pinned (.plain (OpenSpec.upto tiersOneSpec)) tiersOneUptoCard

/-- THE SECOND FORM's CARD OF 'icehouselaw22.TiersPlays'. -/
def tiersPlaysUptoCard : Claim7 := { stood := { row := tiersPlaysUptoRow, standIns := [], harness := (true, "ef240efb5da31e24611c917d10f9056f80c8067bb942af8a5bf78a16f5a7f7f5"), looks := true }, kinds := [], alts := [], laidByText := true, laidKinds := [.data, .data, .pinned], laidTests := true, laidLooks := .later }
def TiersPlaysUptoCardSaid : Prop := Claim7.holds Tryz.pinned (.plain (OpenSpec.upto tiersPlaysSpec)) tiersPlaysUptoCard
end Rows
end Go.Proofs.YtgkdpbambfgahaaGreatDoor
