/- DiskShapes answers true whatever the input, and leaves it as it was; its card is tied to the program's text: no condition. -/
import Derived.Test.YtgkdpbambfgahaaGreatDoorWaz
import Derived.Test.YtgkdpbambfgahaaGreatDoorDiskShapesFe
import Derived.Test.YtgkdpbambfgahaaGreatDoorTie
import Derived.Test.YtgkdpbambfgahaaGreatDoorCards
import Derived.ProofKit
import Derived.OpenShut
import Derived.LaidMore
import Derived.Lay
import Derived.SevenTiedAt
import Derived.Stop.Joined
set_option linter.all false
set_option maxRecDepth 100000
set_option maxHeartbeats 64000000
namespace Go.Proofs.YtgkdpbambfgahaaGreatDoor.diskShapes
open Go.ChangeShapes Go.WideShapes Go.ChangeAt Go.RowKit
theorem own:ownKnob Tryz.prog.godebug=none:=by kernel_rfl
theorem lifted(os:Os)(started:os.Started)(H:Type)(enc:TypeId×Value->H):ReturnsInHanded {} Tryz.checked os 4 .any (fun w args=>(Rows.diskShapesSpec.pre enc Tryz.prog Tryz.f4 Rows.diskShapesRow.domain false w args/\laidMetH Tryz.prog Rows.diskShapesRow.laid w)/\sizedMet enc Tryz.prog Tryz.f4 (OpenSpec.ofChange Rows.diskShapesSpec) false w args) (Rows.diskShapesSpec.post enc Tryz.prog Tryz.f4 false true false false):=by
 refine Av.BU (C:=Tryz.checked) (X:=fun w _=>laidMetH Tryz.prog Rows.diskShapesRow.laid w) (fun _ _ _ hh h=>h.of_heap hh) own started (by kernel_rfl) Tryz.func4 (ChangeSpec.witness_shaped (enc:=enc) (C:=Tryz.checked) (os:=os) (X:=fun w _=>laidMetH Tryz.prog Rows.diskShapesRow.laid w) false (World.laidAll Tryz.prog os Rows.diskShapesRow.laid) #[.int .i64 0,.agg #[.int .i64 0,.int .i64 0],.agg #[.string .empty,.slice none 0 0,.string .empty,.string .empty,.string .empty,.int .i64 0,.string .empty,.int .i64 0,.slice none 0 0,.int .i64 0,.int .i64 0,.int .i64 0,.int .i64 0,.int .u32 0,.slice none 0 0]] 8 (World.laidAll_os _ _ _) (World.shaped_of_ZipB (by kernel_rfl) (by kernel_rfl)) (by kernel_rfl) (by kernel_rfl) (by kernel_rfl) (by rw[MakeChecks.laidMetH_plain _ _ _ (by kernel_rfl)];exact laidMet_laidAll _ (by kernel_rfl) (by kernel_rfl))) ?_;intro W base args ds gs before hval hW hX hwt;have hg:Av.Wz (Av.m8 W):=Av.Fv (MakeChecks.laidMetH_plain _ _ W (by kernel_rfl)▸hX) (by
  have e:(Rows.laid_icehouse_crc_half:DataW Unit)=Go.Lib.tabData .u32 (Av.mb.map fun n:Nat=>(n:Int)):=rfl;rw[<-e];exact .tail _ (.head _))
 refine Av.C6 (P:=Tryz.prog) (Ss:=[Av.KC,Av.KF,Av.Yb]) (tr:=4) Av.agT (by kernel_rfl) (by kernel_rfl) Tryz.underlying4 rfl (by rw[Tryz.params4];exact⟨Av.rd3,Av.ajw,Av.ajv,trivial⟩) ?_ ?_ H enc W base args ds gs before hval hW hg hwt
 ·intro H ds h;rw[Tryz.params4]at h
  match ds,h with
  |[d0,d1,d2],_=>rfl
 ·intro xs h;obtain⟨x0,x1,x2,rfl,h0,h1,h2⟩:=Av.ZJ h;exact Av.aeu h0 h1 h2
theorem said:Rows.DiskShapesSaid:=OpenClaim.holds_of_wide 4 Tryz.f4 rfl rfl rfl rfl rfl rfl rfl ⟨rfl,rfl,rfl,rfl,rfl⟩ rfl rfl rfl rfl rfl (by kernel_rfl) Tryz.func4 facts (of_decide_eq_true (by kernel_rfl)) (by unfold Func.isWrapper;first|(rw[if_pos (by decide+kernel)];kernel_rfl)|(rw[if_neg (by decide+kernel)];exact⟨rfl,rfl⟩)) (fun os started H enc _=>lifted os started H enc)
theorem proved:Rows.DiskShapesCardSaid:=Claim7.holds_tied_plain_at .later [] [.data,.data,.pinned] true Rows.diskShapesCard.stood.harness true said (fun _ h=>by cases h) cWf (fun _ h=>by cases h) diskShapes_row_tie rfl ⟨rfl,rfl⟩ cMain rfl (fun f fn hf hfn=>by
 obtain rfl:f=4:=Option.some.inj (cNamed.symm.trans hf)|>.symm;obtain rfl:fn=Tryz.f4:=(Option.some.inj (Tryz.func4.symm.trans hfn)).symm;exact⟨cLooks,fun j t ht=>by
  rw[Tryz.params4]at ht;have hm:t∈[3,34,49]:=by simpa using Array.mem_of_getElem? ht
  exact(show Tryz.prog.wantsStandIn t=false by simpa using List.all_eq_true.1 cStand t hm)⟩) cGoes
end Go.Proofs.YtgkdpbambfgahaaGreatDoor.diskShapes
