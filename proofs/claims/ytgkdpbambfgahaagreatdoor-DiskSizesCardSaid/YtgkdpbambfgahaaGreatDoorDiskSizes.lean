/- DiskSizes answers true whatever the input, and leaves it as it was; its card is tied to the program's text: no condition. -/
import Derived.Test.YtgkdpbambfgahaaGreatDoorWay
import Derived.Test.YtgkdpbambfgahaaGreatDoorDiskSizesFe
import Derived.Test.YtgkdpbambfgahaaGreatDoorTie
import Derived.Test.YtgkdpbambfgahaaGreatDoorCards
import Derived.ProofKit
import Derived.OpenShut
import Derived.LaidMore
import Derived.Lay
import Derived.SevenTiedAt
import Derived.Stop.Joined
set_option linter.all false
set_option maxRecDepth 100000
set_option maxHeartbeats 64000000
namespace Go.Proofs.YtgkdpbambfgahaaGreatDoor.diskSizes
open Go.ChangeShapes Go.WideShapes Go.ChangeAt Go.RowKit
theorem own:ownKnob Tryz.prog.godebug=none:=by kernel_rfl
theorem lifted(os:Os)(started:os.Started)(H:Type)(enc:TypeId×Value->H):ReturnsInHanded {} Tryz.checked os 3 .any (fun w args=>(Rows.diskSizesSpec.pre enc Tryz.prog Tryz.f3 Rows.diskSizesRow.domain false w args/\laidMetH Tryz.prog Rows.diskSizesRow.laid w)/\sizedMet enc Tryz.prog Tryz.f3 (OpenSpec.ofChange Rows.diskSizesSpec) false w args) (Rows.diskSizesSpec.post enc Tryz.prog Tryz.f3 false true false false):=by
 refine returnsInHanded_of_change_and (C:=Tryz.checked) (X:=fun w _=>laidMetH Tryz.prog Rows.diskSizesRow.laid w) (fun _ _ _ hh h=>h.of_heap hh) own started (by kernel_rfl) Tryz.func3 (ChangeSpec.witness_shaped (enc:=enc) (C:=Tryz.checked) (os:=os) (X:=fun w _=>laidMetH Tryz.prog Rows.diskSizesRow.laid w) false (World.laidAll Tryz.prog os Rows.diskSizesRow.laid) #[.int .i64 0,.int .u8 0,.slice none 0 0] 8 (World.laidAll_os _ _ _) (World.shaped_of_ZipB (by kernel_rfl) (by kernel_rfl)) (by kernel_rfl) (by kernel_rfl) (by kernel_rfl) (by rw[MakeChecks.laidMetH_plain _ _ _ (by kernel_rfl)];exact laidMet_laidAll _ (by kernel_rfl) (by kernel_rfl))) ?_;intro W base args ds gs before hval hW _ _ hX _;have hg:Av.V3 (Av.lK W):=Av.B7 (MakeChecks.laidMetH_plain _ _ W (by kernel_rfl)▸hX) (by
  have e:(Rows.laid_icehouse_crc_half:DataW Unit)=Go.Lib.tabData .u32 (Av.kn.map fun n:Nat=>(n:Int)):=rfl;rw[<-e];exact .tail _ (.head _))
 refine Av.As (P:=Tryz.prog) (Ss:=[Av.Wb,Av.u8S,Av.Wc]) (tr:=4) Av.agT (by kernel_rfl) (by kernel_rfl) Tryz.underlying4 rfl (by rw[Tryz.params3];exact⟨Av.rd3,Av.rd5,Av.amN,trivial⟩) ?_ ?_ H enc W base args ds gs before hval hW hg
 ·intro H ds h;rw[Tryz.params3]at h
  match ds,h with
  |[d0,d1,d2],_=>rfl
 ·intro xs h;obtain⟨x0,x1,x2,rfl,h0,h1,h2⟩:=Av.Wd h;exact Av.agU h0 h1 h2
theorem said:Rows.DiskSizesSaid:=OpenClaim.holds_of_wide 3 Tryz.f3 rfl rfl rfl rfl rfl rfl rfl ⟨rfl,rfl,rfl,rfl,rfl⟩ rfl rfl rfl rfl rfl (by kernel_rfl) Tryz.func3 facts (of_decide_eq_true (by kernel_rfl)) (by unfold Func.isWrapper;first|(rw[if_pos (by decide+kernel)];kernel_rfl)|(rw[if_neg (by decide+kernel)];exact⟨rfl,rfl⟩)) (fun os started H enc _=>lifted os started H enc)
theorem proved:Rows.DiskSizesCardSaid:=Claim7.holds_tied_plain_at .later [] [.data,.data,.pinned] true Rows.diskSizesCard.stood.harness true said (fun _ h=>by cases h) cWf (fun _ h=>by cases h) diskSizes_row_tie rfl ⟨rfl,rfl⟩ cMain rfl (fun f fn hf hfn=>by
 obtain rfl:f=3:=Option.some.inj (cNamed.symm.trans hf)|>.symm;obtain rfl:fn=Tryz.f3:=(Option.some.inj (Tryz.func3.symm.trans hfn)).symm;exact⟨cLooks,fun j t ht=>by
  rw[Tryz.params3]at ht;have hm:t∈[3,5,22]:=by simpa using Array.mem_of_getElem? ht
  exact(show Tryz.prog.wantsStandIn t=false by simpa using List.all_eq_true.1 cStand t hm)⟩) cGoes
end Go.Proofs.YtgkdpbambfgahaaGreatDoor.diskSizes
