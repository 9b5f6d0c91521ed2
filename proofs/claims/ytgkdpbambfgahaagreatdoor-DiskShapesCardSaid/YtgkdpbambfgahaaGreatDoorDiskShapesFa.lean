/- What is found of the program by reckoning, for the row and its card. -/
import Derived.Test.YtgkdpbambfgahaaGreatDoorRows
import Derived.KernelRfl
import Derived.ProofKit
import Derived.OpenShut
set_option linter.all false
set_option maxRecDepth 100000
set_option maxHeartbeats 64000000
namespace Go.Proofs.YtgkdpbambfgahaaGreatDoor.diskShapes
open Go.ChangeShapes Go.WideShapes Go.ChangeAt Go.RowKit
theorem q0:(Rows.diskShapesRow.wf (OpenSpec.ofChange Rows.diskShapesSpec))=true:=by kernel_rfl
theorem q1:(laidOutB Tryz.pinned.checked.prog)=true:=by kernel_rfl
theorem q2:(mapsRowed Tryz.pinned.checked.prog)=true:=by kernel_rfl
theorem q3:(Tryz.f4.params.all (Tryz.pinned.checked.prog.readableRec ·))=true:=by kernel_rfl
theorem q4:(namedTie Tryz.pinned.checked.prog Rows.diskShapesRow.named Rows.diskShapesSpec.vars)=true:=by kernel_rfl
theorem q5:((Rows.diskShapesRow.stops==[]))=true:=by kernel_rfl
theorem q6:((Tryz.pinned.checked.prog.stops==[]))=true:=by kernel_rfl
theorem q7:((Rows.diskShapesRow.knobs==[]))=true:=by kernel_rfl
theorem q8:((Tryz.pinned.checked.prog.stopKnobs==[]))=true:=by kernel_rfl
theorem q9:((Rows.diskShapesRow.inPlace==Tryz.pinned.checked.prog.inPlace 4))=true:=by kernel_rfl
theorem q10:((Rows.diskShapesRow.unfollowed==Tryz.pinned.checked.prog.unfollowed 4))=true:=by kernel_rfl
theorem q11:((Rows.diskShapesRow.recurses==Tryz.pinned.checked.prog.recurses 4))=true:=by kernel_rfl
theorem q12:((Rows.diskShapesRow.named==Tryz.pinned.checked.prog.varsNamed 4))=true:=by kernel_rfl
theorem q13:((Rows.diskShapesRow.maps==(Tryz.f4.params.toList++Rows.diskShapesSpec.plain.varTypes Tryz.pinned.checked.prog).any (Tryz.pinned.checked.prog.mapsRec ·)))=true:=by kernel_rfl
theorem q14:((Rows.diskShapesRow.ifaces==(Tryz.f4.params.toList++Rows.diskShapesSpec.plain.varTypes Tryz.pinned.checked.prog).any (Tryz.pinned.checked.prog.ifacesRec ·)))=true:=by kernel_rfl
theorem q15:((Rows.diskShapesRow.mapsOut==Tryz.pinned.checked.prog.mapsAmong Tryz.f4.resultTypes.toList))=true:=by kernel_rfl
end Go.Proofs.YtgkdpbambfgahaaGreatDoor.diskShapes
