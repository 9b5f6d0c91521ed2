/- What is found of the program by reckoning, for the row and its card. -/
import Derived.Test.YtgkdpbambfgahaaGreatDoorRows
import Derived.KernelRfl
import Derived.ProofKit
import Derived.OpenShut
set_option linter.all false
set_option maxRecDepth 100000
set_option maxHeartbeats 64000000
namespace Go.Proofs.YtgkdpbambfgahaaGreatDoor.diskSizes
open Go.ChangeShapes Go.WideShapes Go.ChangeAt Go.RowKit
theorem q0:(Rows.diskSizesRow.wf (OpenSpec.ofChange Rows.diskSizesSpec))=true:=by kernel_rfl
theorem q1:(laidOutB Tryz.pinned.checked.prog)=true:=by kernel_rfl
theorem q2:(mapsRowed Tryz.pinned.checked.prog)=true:=by kernel_rfl
theorem q3:(Tryz.f3.params.all (Tryz.pinned.checked.prog.readableRec ·))=true:=by kernel_rfl
theorem q4:(namedTie Tryz.pinned.checked.prog Rows.diskSizesRow.named Rows.diskSizesSpec.vars)=true:=by kernel_rfl
theorem q5:((Rows.diskSizesRow.stops==[]))=true:=by kernel_rfl
theorem q6:((Tryz.pinned.checked.prog.stops==[]))=true:=by kernel_rfl
theorem q7:((Rows.diskSizesRow.knobs==[]))=true:=by kernel_rfl
theorem q8:((Tryz.pinned.checked.prog.stopKnobs==[]))=true:=by kernel_rfl
theorem q9:((Rows.diskSizesRow.inPlace==Tryz.pinned.checked.prog.inPlace 3))=true:=by kernel_rfl
theorem q10:((Rows.diskSizesRow.unfollowed==Tryz.pinned.checked.prog.unfollowed 3))=true:=by kernel_rfl
theorem q11:((Rows.diskSizesRow.recurses==Tryz.pinned.checked.prog.recurses 3))=true:=by kernel_rfl
theorem q12:((Rows.diskSizesRow.named==Tryz.pinned.checked.prog.varsNamed 3))=true:=by kernel_rfl
theorem q13:((Rows.diskSizesRow.maps==(Tryz.f3.params.toList++Rows.diskSizesSpec.plain.varTypes Tryz.pinned.checked.prog).any (Tryz.pinned.checked.prog.mapsRec ·)))=true:=by kernel_rfl
theorem q14:((Rows.diskSizesRow.ifaces==(Tryz.f3.params.toList++Rows.diskSizesSpec.plain.varTypes Tryz.pinned.checked.prog).any (Tryz.pinned.checked.prog.ifacesRec ·)))=true:=by kernel_rfl
theorem q15:((Rows.diskSizesRow.mapsOut==Tryz.pinned.checked.prog.mapsAmong Tryz.f3.resultTypes.toList))=true:=by kernel_rfl
end Go.Proofs.YtgkdpbambfgahaaGreatDoor.diskSizes
