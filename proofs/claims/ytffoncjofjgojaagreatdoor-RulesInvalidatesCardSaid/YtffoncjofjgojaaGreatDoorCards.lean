/-
  DERIVED. GIVEN WITH THE SEED: THE CARDS: each row of YtffoncjofjgojaaGreatDoorRows.lean that lists a variable, with what it lists TIED to the program's text (the seventh form; the later family's looks); each row that meets fmt, with fmt's text TOLD by the authors' own Lean function (tested against real Go, not proved from fmt's source: count such statements apart). THE CARD IS WHAT COUNTS. Prove the row's statement (the work); the ties are given (YtffoncjofjgojaaGreatDoorTie.lean); close each card by the builder's one call (the guide's Derived/Test/ToyasCard.lean, 'card_holds'). Laid BY PROGRAM, IN A SANDBOX (cutbox-door.mjs). By AI agents, Wed Nov 11 2026. No macro, syntax, notation, axiom, sorry.
-/
import Derived.Test.YtffoncjofjgojaaGreatDoorRows
import GoSem.ClaimSeven
namespace Go.Proofs.YtffoncjofjgojaaGreatDoor
namespace Rows

/-- THE TIED CARD OF 'icehouselaw10.FreshLater'. -/
def freshLaterCard : Claim7 := { stood := { row := freshLaterRow, standIns := [], harness := (true, "d0f140c305312f6285567c0cbd60e74101f595ea3810c3330b43029994109cc2"), looks := false }, kinds := [], alts := [], laidByText := true, laidKinds := [.data, .pinned], laidTests := true, laidLooks := .later }
def FreshLaterCardSaid : Prop := Claim7.holds Tryz.pinned (.plain (OpenSpec.ofChange freshLaterSpec)) freshLaterCard

/-- THE TIED CARD OF 'icehouselaw10.FreshLonger'. -/
def freshLongerCard : Claim7 := { stood := { row := freshLongerRow, standIns := [], harness := (true, "d0f140c305312f6285567c0cbd60e74101f595ea3810c3330b43029994109cc2"), looks := false }, kinds := [], alts := [], laidByText := true, laidKinds := [.data, .pinned], laidTests := true, laidLooks := .later }
def FreshLongerCardSaid : Prop := Claim7.holds Tryz.pinned (.plain (OpenSpec.ofChange freshLongerSpec)) freshLongerCard

/-- THE TIED CARD OF 'icehouselaw10.FreshStrict'. -/
def freshStrictCard : Claim7 := { stood := { row := freshStrictRow, standIns := [], harness := (true, "d0f140c305312f6285567c0cbd60e74101f595ea3810c3330b43029994109cc2"), looks := false }, kinds := [], alts := [], laidByText := true, laidKinds := [.data, .pinned], laidTests := true, laidLooks := .later }
def FreshStrictCardSaid : Prop := Claim7.holds Tryz.pinned (.plain (OpenSpec.ofChange freshStrictSpec)) freshStrictCard

/-- THE TIED CARD OF 'icehouselaw11.RulesStrict'. -/
def rulesStrictCard : Claim7 := { stood := { row := rulesStrictRow, standIns := [], harness := (true, "d0f140c305312f6285567c0cbd60e74101f595ea3810c3330b43029994109cc2"), looks := false }, kinds := [], alts := [], laidByText := true, laidKinds := [.data, .pinned], laidTests := true, laidLooks := .later }
def RulesStrictCardSaid : Prop := Claim7.holds Tryz.pinned (.plain (OpenSpec.ofChange rulesStrictSpec)) rulesStrictCard

/-- THE TIED CARD OF 'icehouselaw11.RulesStores'. -/
def rulesStoresCard : Claim7 := { stood := { row := rulesStoresRow, standIns := [], harness := (true, "d0f140c305312f6285567c0cbd60e74101f595ea3810c3330b43029994109cc2"), looks := false }, kinds := [], alts := [], laidByText := true, laidKinds := [.data, .pinned], laidTests := true, laidLooks := .later }
def RulesStoresCardSaid : Prop := Claim7.holds Tryz.pinned (.plain (OpenSpec.ofChange rulesStoresSpec)) rulesStoresCard

/-- THE TIED CARD OF 'icehouselaw11.RulesInvalidates'. -/
def rulesInvalidatesCard : Claim7 := { stood := { row := rulesInvalidatesRow, standIns := [], harness := (true, "d0f140c305312f6285567c0cbd60e74101f595ea3810c3330b43029994109cc2"), looks := false }, kinds := [], alts := [], laidByText := true, laidKinds := [.data, .pinned], laidTests := true, laidLooks := .later }
def RulesInvalidatesCardSaid : Prop := Claim7.holds Tryz.pinned (.plain (OpenSpec.ofChange rulesInvalidatesSpec)) rulesInvalidatesCard

/-- THE TIED CARD OF 'icehouselaw11.RulesKeeps'. -/
def rulesKeepsCard : Claim7 := { stood := { row := rulesKeepsRow, standIns := [], harness := (true, "d0f140c305312f6285567c0cbd60e74101f595ea3810c3330b43029994109cc2"), looks := false }, kinds := [], alts := [], laidByText := true, laidKinds := [.data, .pinned], laidTests := true, laidLooks := .later }
def RulesKeepsCardSaid : Prop := Claim7.holds Tryz.pinned (.plain (OpenSpec.ofChange rulesKeepsSpec)) rulesKeepsCard

/-- THE TIED CARD OF 'icehouselaw11.RulesTwice'. -/
def rulesTwiceCard : Claim7 := { stood := { row := rulesTwiceRow, standIns := [], harness := (true, "d0f140c305312f6285567c0cbd60e74101f595ea3810c3330b43029994109cc2"), looks := false }, kinds := [], alts := [], laidByText := true, laidKinds := [.data, .pinned], laidTests := true, laidLooks := .later }
def RulesTwiceCardSaid : Prop := Claim7.holds Tryz.pinned (.plain (OpenSpec.ofChange rulesTwiceSpec)) rulesTwiceCard

/-- THE TIED CARD OF 'icehouselaw11.RulesValidates'. -/
def rulesValidatesCard : Claim7 := { stood := { row := rulesValidatesRow, standIns := [], harness := (true, "d0f140c305312f6285567c0cbd60e74101f595ea3810c3330b43029994109cc2"), looks := false }, kinds := [], alts := [], laidByText := true, laidKinds := [.data, .pinned], laidTests := true, laidLooks := .later }
def RulesValidatesCardSaid : Prop := Claim7.holds Tryz.pinned (.plain (OpenSpec.ofChange rulesValidatesSpec)) rulesValidatesCard

/-- THE TIED CARD OF 'icehouselaw11.RulesAsked'. -/
def rulesAskedCard : Claim7 := { stood := { row := rulesAskedRow, standIns := [], harness := (true, "d0f140c305312f6285567c0cbd60e74101f595ea3810c3330b43029994109cc2"), looks := false }, kinds := [], alts := [], laidByText := true, laidKinds := [.data, .pinned], laidTests := true, laidLooks := .later }
def RulesAskedCardSaid : Prop := Claim7.holds Tryz.pinned (.plain (OpenSpec.ofChange rulesAskedSpec)) rulesAskedCard

/-- THE SECOND FORM's CARD OF 'icehouselaw10.FreshLater'. -/
def freshLaterUptoCard : Claim7 := { stood := { row := freshLaterUptoRow, standIns := [], harness := (true, "d0f140c305312f6285567c0cbd60e74101f595ea3810c3330b43029994109cc2"), looks := false }, kinds := [], alts := [], laidByText := true, laidKinds := [.data, .pinned], laidTests := true, laidLooks := .later }
def FreshLaterUptoCardSaid : Prop := Claim7.holds Tryz.pinned (.plain (OpenSpec.upto freshLaterSpec)) freshLaterUptoCard

/-- THE SECOND FORM's CARD OF 'icehouselaw10.FreshLonger'. -/
def freshLongerUptoCard : Claim7 := { stood := { row := freshLongerUptoRow, standIns := [], harness := (true, "d0f140c305312f6285567c0cbd60e74101f595ea3810c3330b43029994109cc2"), looks := false }, kinds := [], alts := [], laidByText := true, laidKinds := [.data, .pinned], laidTests := true, laidLooks := .later }
def FreshLongerUptoCardSaid : Prop := Claim7.holds Tryz.pinned (.plain (OpenSpec.upto freshLongerSpec)) freshLongerUptoCard

/-- THE SECOND FORM's CARD OF 'icehouselaw10.FreshStrict'. -/
def freshStrictUptoCard : Claim7 := { stood := { row := freshStrictUptoRow, standIns := [], harness := (true, "d0f140c305312f6285567c0cbd60e74101f595ea3810c3330b43029994109cc2"), looks := false }, kinds := [], alts := [], laidByText := true, laidKinds := [.data, .pinned], laidTests := true, laidLooks := .later }
def FreshStrictUptoCardSaid : Prop := Claim7.holds Tryz.pinned (.plain (OpenSpec.upto freshStrictSpec)) freshStrictUptoCard

/-- THE SECOND FORM's CARD OF 'icehouselaw11.RulesStrict'. -/
def rulesStrictUptoCard : Claim7 := { stood := { row := rulesStrictUptoRow, standIns := [], harness := (true, "d0f140c305312f6285567c0cbd60e74101f595ea3810c3330b43029994109cc2"), looks := false }, kinds := [], alts := [], laidByText := true, laidKinds := [.data, .pinned], laidTests := true, laidLooks := .later }
def RulesStrictUptoCardSaid : Prop := Claim7.holds Tryz.pinned (.plain (OpenSpec.upto rulesStrictSpec)) rulesStrictUptoCard

/-- THE SECOND FORM's CARD OF 'icehouselaw11.RulesStores'. -/
def rulesStoresUptoCard : Claim7 := { stood := { row := rulesStoresUptoRow, standIns := [], harness := (true, "d0f140c305312f6285567c0cbd60e74101f595ea3810c3330b43029994109cc2"), looks := false }, kinds := [], alts := [], laidByText := true, laidKinds := [.data, .pinned], laidTests := true, laidLooks := .later }
def RulesStoresUptoCardSaid : Prop := Claim7.holds Tryz.pinned (.plain (OpenSpec.upto rulesStoresSpec)) rulesStoresUptoCard

/-- THE SECOND FORM's CARD OF 'icehouselaw11.RulesInvalidates'. -/
def rulesInvalidatesUptoCard : Claim7 := { stood := { row := rulesInvalidatesUptoRow, standIns := [], harness := (true, "d0f140c305312f6285567c0cbd60e74101f595ea3810c3330b43029994109cc2"), looks := false }, kinds := [], alts := [], laidByText := true, laidKinds := [.data, .pinned], laidTests := true, laidLooks := .later }
def RulesInvalidatesUptoCardSaid : Prop := Claim7.holds Tryz.pinned (.plain (OpenSpec.upto rulesInvalidatesSpec)) rulesInvalidatesUptoCard

/-- THE SECOND FORM's CARD OF 'icehouselaw11.RulesKeeps'. -/
def rulesKeepsUptoCard : Claim7 := { stood := { row := rulesKeepsUptoRow, standIns := [], harness := (true, "d0f140c305312f6285567c0cbd60e74101f595ea3810c3330b43029994109cc2"), looks := false }, kinds := [], alts := [], laidByText := true, laidKinds := [.data, .pinned], laidTests := true, laidLooks := .later }
def RulesKeepsUptoCardSaid : Prop := Claim7.holds Tryz.pinned (.plain (OpenSpec.upto rulesKeepsSpec)) rulesKeepsUptoCard

/-- THE SECOND FORM's CARD OF 'icehouselaw11.RulesTwice'. -/
def rulesTwiceUptoCard : Claim7 := { stood := { row := rulesTwiceUptoRow, standIns := [], harness := (true, "d0f140c305312f6285567c0cbd60e74101f595ea3810c3330b43029994109cc2"), looks := false }, kinds := [], alts := [], laidByText := true, laidKinds := [.data, .pinned], laidTests := true, laidLooks := .later }
def RulesTwiceUptoCardSaid : Prop := Claim7.holds Tryz.pinned (.plain (OpenSpec.upto rulesTwiceSpec)) rulesTwiceUptoCard

/-- THE SECOND FORM's CARD OF 'icehouselaw11.RulesValidates'. -/
def rulesValidatesUptoCard : Claim7 := { stood := { row := rulesValidatesUptoRow, standIns := [], harness := (true, "d0f140c305312f6285567c0cbd60e74101f595ea3810c3330b43029994109cc2"), looks := false }, kinds := [], alts := [], laidByText := true, laidKinds := [.data, .pinned], laidTests := true, laidLooks := .later }
def RulesValidatesUptoCardSaid : Prop := Claim7.holds Tryz.pinned (.plain (OpenSpec.upto rulesValidatesSpec)) rulesValidatesUptoCard

/-- THE SECOND FORM's CARD OF 'icehouselaw11.RulesAsked'. -/
def rulesAskedUptoCard : Claim7 := { stood := { row := rulesAskedUptoRow, standIns := [], harness := (true, "d0f140c305312f6285567c0cbd60e74101f595ea3810c3330b43029994109cc2"), looks := false }, kinds := [], alts := [], laidByText := true, laidKinds := [.data, .pinned], laidTests := true, laidLooks := .later }
def RulesAskedUptoCardSaid : Prop := Claim7.holds Tryz.pinned (.plain (OpenSpec.upto rulesAskedSpec)) rulesAskedUptoCard
end Rows
end Go.Proofs.YtffoncjofjgojaaGreatDoor
