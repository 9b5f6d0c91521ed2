/- What is found of the program by reckoning, for the row and its card. -/
import Derived.Test.YtgkdpbambfgahaaGreatDoorTiersAgainFd
set_option linter.all false
set_option maxRecDepth 100000
set_option maxHeartbeats 64000000
namespace Go.Proofs.YtgkdpbambfgahaaGreatDoor.tiersAgain
open Go.ChangeShapes Go.WideShapes Go.ChangeAt Go.RowKit
theorem cLooks:true=Tryz.pinned.checked.prog.looks []:=by kernel_rfl
end Go.Proofs.YtgkdpbambfgahaaGreatDoor.tiersAgain
