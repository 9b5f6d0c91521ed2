/- What is found of the program by reckoning, for the row and its card. -/
import Derived.Test.YtgkdpbambfgahaaGreatDoorTiersAgainFa
set_option linter.all false
set_option maxRecDepth 100000
set_option maxHeartbeats 64000000
namespace Go.Proofs.YtgkdpbambfgahaaGreatDoor.tiersAgain
open Go.ChangeShapes Go.WideShapes Go.ChangeAt Go.RowKit
theorem q16:((Rows.tiersAgainRow.loops==(Tryz.f7.params.toList++Rows.tiersAgainSpec.plain.varTypes Tryz.pinned.checked.prog).any (Tryz.pinned.checked.prog.loopsFrom ·)))=true:=by kernel_rfl
theorem q17:((Rows.tiersAgainRow.wideKeys==(Tryz.f7.params.toList++Rows.tiersAgainSpec.plain.varTypes Tryz.pinned.checked.prog++Tryz.f7.resultTypes.toList).any (Tryz.pinned.checked.prog.wideKeysFrom ·)))=true:=by kernel_rfl
theorem q18:(Rows.tiersAgainSpec.vars.all (Tryz.pinned.checked.prog.varReadable ·))=true:=by kernel_rfl
theorem q19:(Tryz.f7.resultTypes.all (λt=>Tryz.pinned.checked.prog.readableRec t&&decide (t<Tryz.pinned.checked.prog.types.size)))=true:=by kernel_rfl
theorem q20:((Rows.tiersAgainRow.ifacesOut==Tryz.f7.resultTypes.toList.any (Tryz.pinned.checked.prog.ifacesRec ·)))=true:=by kernel_rfl
theorem q21:((Rows.tiersAgainRow.loopsOut==Tryz.f7.resultTypes.toList.any (Tryz.pinned.checked.prog.loopsFrom ·)))=true:=by kernel_rfl
theorem q22:((Rows.tiersAgainRow.plainKeys==Tryz.pinned.checked.prog.plainKeys))=true:=by kernel_rfl
theorem q23:(Rows.tiersAgainRow.shortTexts.isNone)=true:=by kernel_rfl
theorem q24:(Tryz.pinned.checked.prog.stopsHeard)=true:=by kernel_rfl
theorem q25:(Tryz.pinned.checked.prog.mayEnter)=true:=by kernel_rfl
theorem q26:((Rows.tiersAgainRow.lifted==Tryz.pinned.checked.prog.liftsFinal))=true:=by kernel_rfl
theorem q27:((Tryz.pinned.checked.prog.make==some Rows.tiersAgainRow.make))=true:=by kernel_rfl
theorem q28:((Rows.tiersAgainRow.kinds==(if Rows.tiersAgainRow.domain.isEmpty then[]else Tryz.f7.params.toList.map λt=>match Tryz.pinned.checked.prog.underlying t with|some (.int k)=>some k|_=>none)))=true:=by kernel_rfl
theorem q29:((Rows.tiersAgainRow.pinned==Rows.tiersAgainRow.pinnedBy))=true:=by kernel_rfl
theorem q30:((Rows.tiersAgainRow.veiled==(Tryz.f7.params.toList++Rows.tiersAgainSpec.plain.varTypes Tryz.pinned.checked.prog++Tryz.f7.resultTypes.toList).any (Tryz.pinned.checked.prog.veiledRec ·)))=true:=by kernel_rfl
theorem q31:(Rows.tiersAgainRow.veiledFits Tryz.pinned.checked.prog Tryz.f7.params.toList (Tryz.f7.params.toList++Rows.tiersAgainSpec.plain.varTypes Tryz.pinned.checked.prog++Tryz.f7.resultTypes.toList))=true:=by kernel_rfl
theorem two{a b:Bool}(h:a=true)(k:b=true):(a&&b)=true:=by rw[h,k];rfl
theorem facts:joinedFacts Tryz.pinned.checked.prog 7 Tryz.f7 Rows.tiersAgainSpec Rows.tiersAgainRow=true:=by
 unfold joinedFacts;exact two (two (two (two (two (two (two (two (two (two (two (two (two (two (two (two (two (two (two (two (two (two (two (two (two (two (two (two (two (two (two (q0) q1) q2) q3) q4) q5) q6) q7) q8) q9) q10) q11) q12) q13) q14) q15) q16) q17) q18) q19) q20) q21) q22) q23) q24) q25) q26) q27) q28) q29) q30) q31
end Go.Proofs.YtgkdpbambfgahaaGreatDoor.tiersAgain
