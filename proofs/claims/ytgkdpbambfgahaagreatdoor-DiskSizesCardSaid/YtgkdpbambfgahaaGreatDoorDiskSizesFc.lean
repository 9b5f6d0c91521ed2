/- What is found of the program by reckoning, for the row and its card. -/
import Derived.Test.YtgkdpbambfgahaaGreatDoorDiskSizesFb
import Derived.Test.YtgkdpbambfgahaaGreatDoorCards
set_option linter.all false
set_option maxRecDepth 100000
set_option maxHeartbeats 64000000
namespace Go.Proofs.YtgkdpbambfgahaaGreatDoor.diskSizes
open Go.ChangeShapes Go.WideShapes Go.ChangeAt Go.RowKit
theorem cWf:Rows.diskSizesRow.wfByText (OpenSpec.ofChange Rows.diskSizesSpec)=true:=by kernel_rfl
theorem cMain:Tryz.pinned.checked.prog.mainIs=some (Rows.diskSizesCard.stood.harness.1,Rows.diskSizesCard.stood.harness.2.toList):=by kernel_rfl
theorem cNamed:Tryz.pinned.checked.prog.funcNamed Rows.diskSizesRow.func=some 3:=by kernel_rfl
theorem cStand:([3,5,22].all fun u=>!Tryz.prog.wantsStandIn u)=true:=by kernel_rfl
end Go.Proofs.YtgkdpbambfgahaaGreatDoor.diskSizes
