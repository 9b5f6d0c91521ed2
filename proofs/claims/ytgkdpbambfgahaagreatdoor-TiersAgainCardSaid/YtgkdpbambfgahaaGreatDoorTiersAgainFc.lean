/- What is found of the program by reckoning, for the row and its card. -/
import Derived.Test.YtgkdpbambfgahaaGreatDoorTiersAgainFb
import Derived.Test.YtgkdpbambfgahaaGreatDoorCards
set_option linter.all false
set_option maxRecDepth 100000
set_option maxHeartbeats 64000000
namespace Go.Proofs.YtgkdpbambfgahaaGreatDoor.tiersAgain
open Go.ChangeShapes Go.WideShapes Go.ChangeAt Go.RowKit
theorem cWf:Rows.tiersAgainRow.wfByText (OpenSpec.ofChange Rows.tiersAgainSpec)=true:=by kernel_rfl
theorem cMain:Tryz.pinned.checked.prog.mainIs=some (Rows.tiersAgainCard.stood.harness.1,Rows.tiersAgainCard.stood.harness.2.toList):=by kernel_rfl
theorem cNamed:Tryz.pinned.checked.prog.funcNamed Rows.tiersAgainRow.func=some 7:=by kernel_rfl
theorem cStand:([107,87,87].all λu=>!Tryz.prog.wantsStandIn u)=true:=by kernel_rfl
end Go.Proofs.YtgkdpbambfgahaaGreatDoor.tiersAgain
