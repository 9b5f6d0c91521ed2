/- TiersAgain answers true whatever the input, and leaves it as it was; its card is tied to the program's text: no condition. -/
import Derived.Test.YtgkdpbambfgahaaGreatDoorWay
import Derived.Test.YtgkdpbambfgahaaGreatDoorTiersAgainFe
import Derived.Test.YtgkdpbambfgahaaGreatDoorTie
import Derived.Test.YtgkdpbambfgahaaGreatDoorCards
import Derived.ProofKit
import Derived.OpenShut
import Derived.LaidMore
import Derived.Lay
import Derived.SevenTiedAt
import Derived.Stop.Joined
set_option linter.all false
set_option maxRecDepth 100000
set_option maxHeartbeats 64000000
namespace Go.Proofs.YtgkdpbambfgahaaGreatDoor.tiersAgain
open Go.ChangeShapes Go.WideShapes Go.ChangeAt Go.RowKit
theorem own:ownKnob Tryz.prog.godebug=none:=by kernel_rfl
theorem lifted(os:Os)(started:os.Started)(H:Type)(enc:TypeId×Value->H):ReturnsInHanded {} Tryz.checked os 7 .any (λw args=>(Rows.tiersAgainSpec.pre enc Tryz.prog Tryz.f7 Rows.tiersAgainRow.domain false w args/\laidMetH Tryz.prog Rows.tiersAgainRow.laid w)/\sizedMet enc Tryz.prog Tryz.f7 (OpenSpec.ofChange Rows.tiersAgainSpec) false w args) (Rows.tiersAgainSpec.post enc Tryz.prog Tryz.f7 false true false false):=by
 refine Av.Fp (C:=Tryz.checked) (X:=λw _=>laidMetH Tryz.prog Rows.tiersAgainRow.laid w) (λ_ _ _ hh h=>h.of_heap hh) own started (by kernel_rfl) Tryz.func7 (ChangeSpec.witness_shaped (enc:=enc) (C:=Tryz.checked) (os:=os) (X:=λw _=>laidMetH Tryz.prog Rows.tiersAgainRow.laid w) false (World.laidAll Tryz.prog os Rows.tiersAgainRow.laid) #[.agg #[.int .i64 0,.int .i64 0,.int .i64 0],.slice none 0 0,.slice none 0 0] 8 (World.laidAll_os _ _ _) (World.shaped_of_ZipB (by kernel_rfl) (by kernel_rfl)) (by kernel_rfl) (by kernel_rfl) (by kernel_rfl) (by rw[MakeChecks.laidMetH_plain _ _ _ (by kernel_rfl)];exact laidMet_laidAll _ (by kernel_rfl) (by kernel_rfl))) ?_;intro W base args ds gs before hval hW hX hwt;have hg:Av.GOk (Av.ou W):=Av.HT (MakeChecks.laidMetH_plain _ _ W (by kernel_rfl)▸hX) (by
  have e:(Rows.laid_icehouse_crc_half:DataW Unit)=Go.Lib.tabData .u32 (Av.nK.map λn:Nat=>(n:Int)):=rfl;rw[<-e];exact .tail _ (.head _))
 refine Av.FN (P:=Tryz.prog) (Ss:=[Av.szS,Av.HU,Av.HU]) (tr:=4) Av.aj5 (by kernel_rfl) (by kernel_rfl) Tryz.underlying4 rfl (by rw[Tryz.params7];exact⟨Av.aj6,Av.aj7,Av.aj7,trivial⟩) ?_ ?_ H enc W base args ds gs before hval hW hg hwt
 .intro H ds h;rw[Tryz.params7]at h
  match ds,h with
  |[d0,d1,d2],_=>rfl
 .intro xs h;obtain⟨x0,x1,x2,rfl,h0,h1,h2⟩:=Av.aex h;exact Av.aj8 h0 h1 h2
theorem said:Rows.TiersAgainSaid:=OpenClaim.holds_of_wide 7 Tryz.f7 rfl rfl rfl rfl rfl rfl rfl ⟨rfl,rfl,rfl,rfl,rfl⟩ rfl rfl rfl rfl rfl (by kernel_rfl) Tryz.func7 facts (of_decide_eq_true (by kernel_rfl)) (by unfold Func.isWrapper;first|(rw[if_pos (by decide+kernel)];kernel_rfl)|(rw[if_neg (by decide+kernel)];exact⟨rfl,rfl⟩)) (λos started H enc _=>lifted os started H enc)
theorem proved:Rows.TiersAgainCardSaid:=Claim7.holds_tied_plain_at .later [] [.data,.data,.pinned] true Rows.tiersAgainCard.stood.harness true said (λ_ h=>by cases h) cWf (λ_ h=>by cases h) tiersAgain_row_tie rfl ⟨rfl,rfl⟩ cMain rfl (λf fn hf hfn=>by
 obtain rfl:f=7:=Option.some.inj (cNamed.symm.trans hf)|>.symm;obtain rfl:fn=Tryz.f7:=(Option.some.inj (Tryz.func7.symm.trans hfn)).symm;exact⟨cLooks,λj t ht=>by
  rw[Tryz.params7]at ht;have hm:t∈[107,87,87]:=by simpa using Array.mem_of_getElem? ht
  exact(show Tryz.prog.wantsStandIn t=false by simpa using List.all_eq_true.1 cStand t hm)⟩) cGoes
end Go.Proofs.YtgkdpbambfgahaaGreatDoor.tiersAgain
