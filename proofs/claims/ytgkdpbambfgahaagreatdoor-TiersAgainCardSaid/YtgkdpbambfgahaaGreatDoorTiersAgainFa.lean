/- What is found of the program by reckoning, for the row and its card. -/
import Derived.Test.YtgkdpbambfgahaaGreatDoorRows
import Derived.KernelRfl
import Derived.ProofKit
import Derived.OpenShut
set_option linter.all false
set_option maxRecDepth 100000
set_option maxHeartbeats 64000000
namespace Go.Proofs.YtgkdpbambfgahaaGreatDoor.tiersAgain
open Go.ChangeShapes Go.WideShapes Go.ChangeAt Go.RowKit
theorem q0:(Rows.tiersAgainRow.wf (OpenSpec.ofChange Rows.tiersAgainSpec))=true:=by kernel_rfl
theorem q1:(laidOutB Tryz.pinned.checked.prog)=true:=by kernel_rfl
theorem q2:(mapsRowed Tryz.pinned.checked.prog)=true:=by kernel_rfl
theorem q3:(Tryz.f7.params.all (Tryz.pinned.checked.prog.readableRec ·))=true:=by kernel_rfl
theorem q4:(namedTie Tryz.pinned.checked.prog Rows.tiersAgainRow.named Rows.tiersAgainSpec.vars)=true:=by kernel_rfl
theorem q5:((Rows.tiersAgainRow.stops==[]))=true:=by kernel_rfl
theorem q6:((Tryz.pinned.checked.prog.stops==[]))=true:=by kernel_rfl
theorem q7:((Rows.tiersAgainRow.knobs==[]))=true:=by kernel_rfl
theorem q8:((Tryz.pinned.checked.prog.stopKnobs==[]))=true:=by kernel_rfl
theorem q9:((Rows.tiersAgainRow.inPlace==Tryz.pinned.checked.prog.inPlace 7))=true:=by kernel_rfl
theorem q10:((Rows.tiersAgainRow.unfollowed==Tryz.pinned.checked.prog.unfollowed 7))=true:=by kernel_rfl
theorem q11:((Rows.tiersAgainRow.recurses==Tryz.pinned.checked.prog.recurses 7))=true:=by kernel_rfl
theorem q12:((Rows.tiersAgainRow.named==Tryz.pinned.checked.prog.varsNamed 7))=true:=by kernel_rfl
theorem q13:((Rows.tiersAgainRow.maps==(Tryz.f7.params.toList++Rows.tiersAgainSpec.plain.varTypes Tryz.pinned.checked.prog).any (Tryz.pinned.checked.prog.mapsRec ·)))=true:=by kernel_rfl
theorem q14:((Rows.tiersAgainRow.ifaces==(Tryz.f7.params.toList++Rows.tiersAgainSpec.plain.varTypes Tryz.pinned.checked.prog).any (Tryz.pinned.checked.prog.ifacesRec ·)))=true:=by kernel_rfl
theorem q15:((Rows.tiersAgainRow.mapsOut==Tryz.pinned.checked.prog.mapsAmong Tryz.f7.resultTypes.toList))=true:=by kernel_rfl
end Go.Proofs.YtgkdpbambfgahaaGreatDoor.tiersAgain
