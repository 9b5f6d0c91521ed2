/- What is found of the program by reckoning, for the row and its card. -/
import Derived.Test.YtgkdpbambfgahaaGreatDoorDiskShapesFb
import Derived.Test.YtgkdpbambfgahaaGreatDoorCards
set_option linter.all false
set_option maxRecDepth 100000
set_option maxHeartbeats 64000000
namespace Go.Proofs.YtgkdpbambfgahaaGreatDoor.diskShapes
open Go.ChangeShapes Go.WideShapes Go.ChangeAt Go.RowKit
theorem cWf:Rows.diskShapesRow.wfByText (OpenSpec.ofChange Rows.diskShapesSpec)=true:=by kernel_rfl
theorem cMain:Tryz.pinned.checked.prog.mainIs=some (Rows.diskShapesCard.stood.harness.1,Rows.diskShapesCard.stood.harness.2.toList):=by kernel_rfl
theorem cNamed:Tryz.pinned.checked.prog.funcNamed Rows.diskShapesRow.func=some 4:=by kernel_rfl
theorem cStand:([3,34,49].all fun u=>!Tryz.prog.wantsStandIn u)=true:=by kernel_rfl
end Go.Proofs.YtgkdpbambfgahaaGreatDoor.diskShapes
