/- TiersAgain, part 9: an abstract interpreter over any program's form, with its proof of soundness; no condition. -/
import Derived.Test.YtgkdpbambfgahaaGreatDoorWah
import Derived.Test.YtgkdpbambfgahaaGreatDoorProg
import Derived.KernelRfl
set_option linter.all false
set_option maxRecDepth 100000
set_option maxHeartbeats 64000000
namespace Go.Av
open Go.RowKit
@[simp]def afR:=qA @ze.eq_1<|qA @ze.eq_2<|qA @mW.eq_1<|qA @mW.eq_2<|qA @mD.eq_1<|qA @leL.eq_1<|@leL.eq_2
section
variable{ρ:Nat->Nat}{m:Nat}
@[simp]def afS:=qA @AV.cp.eq_7<|qA @AV.cp.eq_1<|qA @AV.cp.eq_2<|qA @AV.cp.eq_8<|qA @AV.cp.eq_10<|qA @AV.cp.eq_3<|qA @AV.cp.eq_4<|qA @AV.cp.eq_5<|qA @AV.cp.eq_6<|qA @AV.cp.eu.eq_1<|@AV.cp.eu.eq_2
@[simp]def aqI{x:PC}:AV.ja m (.p x)=true:=(rfl)
@[simp]def afT:=qA @AV.ja.eq_1<|@AV.ja.eq_2
@[simp]def ak1{xs:List PC}:AV.ja m (.full xs)=true:=(rfl)
@[simp]def afU:=qA @AV.ja.eq_3<|qA @AV.ja.eq_4<|qA @AV.ja.eq_5<|qA @AV.ja.eq_6<|qA @AV.ja.eq_7<|qA @AV.ja.iA.eq_1<|@AV.ja.iA.eq_2
end
def rnG(i:Nat):Option Nat->Nat
 |some j=>j
 |none=>i
@[simp]def aqJ{rn:List (Nat×Nat)}{i:Nat}:Cf rn i=rnG i (lk i rn):=by unfold Cf rnG;cases lk i rn<;>rfl
@[simp]def afV:=qA @rnG.eq_1<|qA @rnG.eq_2<|@uw.eq_1
@[simp]def ah7{ρ:Nat->Nat}{m:Nat}{bx:List (Nat×Ob)}{i:Nat}{el:TypeId}{sz:Nat}{xs:List AV}{l:List (Nat×Ob)}:uw ρ m bx ((i,⟨el,sz,xs⟩)::l)=(i<m/\AV.ja.iA m xs=true/\VK (lk (ρ i) bx) ⟨el,sz,AV.cp.eu ρ xs⟩/\uw ρ m bx l):=(rfl)
@[simp]def ah8{el el':TypeId}{sz sz':Nat}{xs ys:List AV}:VK (some ⟨el,sz,xs⟩) ⟨el',sz',ys⟩=(el=el'/\sz=sz'/\ys<+:xs):=(rfl)
@[congr]def afW{a b:Option Ob}{o:Ob}(h:a=b):VK a o=VK b o:=by rw[h]
@[simp]def afX:=qA @Qz.eq_1<|qA @Qz.eq_2<|qA @oP.eq_1<|qA @oP.eq_2<|qA @oP.C3.eq_1<|qA @oP.C3.eq_2<|@C4.eq_1
@[simp]def az{iM:Nat}{rs zs:List AV}{tb a_:Tb}:Gg iM rs a_ zs tb=∃rn,C4 iM rn tb a_/\toAll zs (AV.cp.eu (Cf rn) rs)/\AV.ja.iA a_.nx rs=true:=(rfl)
section
variable{P:Program}{cx:Cx}{Q:Exit->AS->Prop}{st:AS}{c:Code}
def leN(iM:Nat)(st:AS)(l:List (Nat×AV))(tb:Tb):Prop:=∃rn,C4 iM rn st.tb tb/\leL rn tb.nx st.sl l
def sX{α:Type}(cx:Cx)(C:α->Prop)(S:α->List (Nat×AV))(T:α->Tb)(μ:α->Nat)(m:Nat)(Q:Exit->AS->Prop):Exit->AS->Prop:=λe st'=>match e with
 | .normal=>∃a',C a'/\μ a'<m/\leN cx.iM st' (S a') (T a')
 |e=>Q e st'
section
variable{α:Type}{C:α->Prop}{S:α->List (Nat×AV)}{T:α->Tb}{μ:α->Nat}{m:Nat}
@[simp]def afY:=@sX.eq_1
@[simp]def am9{i:Nat}:sX cx C S T μ m Q (.exit i) st=Q (.exit i) st:=(rfl)
@[simp]def am_:sX cx C S T μ m Q .ret st=Q .ret st:=(rfl)
end
def aE{iM:Nat}{l:List (Nat×AV)}{tb:Tb}(rn:List (Nat×Nat))(h:C4 iM rn st.tb tb/\leL rn tb.nx st.sl l):leN iM st l tb:=⟨rn,h⟩
def aB{iM:Nat}{l:List (Nat×AV)}{tb:Tb}(h:C4 iM [] st.tb tb/\leL [] tb.nx st.sl l):leN iM st l tb:=⟨[],h⟩
def aS{α:Type}(C:α->Prop)(S:α->List (Nat×AV))(T:α->Tb)(μ:α->Nat)(a0:α)(hc:C a0)(Uh:AS)(hst:st.le cx.iM Uh)(h0:leN cx.iM Uh (S a0) (T a0))(h:∀a,C a->aw P cx c (NQ (S a) (T a)) (sX cx C S T μ (μ a) Q)):aw P cx (.loop c) st Q:=by
 obtain⟨rn,h1,h2⟩:=h0;refine⟨λn st'=>∃a,C a/\μ a=n/\st'=NQ (S a) (T a),λn=>sX cx C S T μ n Q,μ a0,⟨_,hst.trans (mS rn h1 h2),a0,hc,rfl,rfl⟩,?_,?_⟩
 .rintro n _ ⟨a,ha,rfl,rfl⟩;exact h a ha
 .intro n e st' hq;cases e with
  |normal=>obtain⟨a',h1,h2,rn,h3,h4⟩:=hq;grind [mS]
  |_=>exact hq
def bI{α:Type}(C:α->Prop)(S:α->List (Nat×AV))(μ:α->Nat)(a0:α)(hc:C a0)(h0:leN cx.iM st (S a0) ⟨[],[],cx.iM⟩)(h:∀a,C a->aw P cx c (NQ (S a) ⟨[],[],cx.iM⟩) (sX cx C S (λ_=>⟨[],[],cx.iM⟩) μ (μ a) Q)):aw P cx (.loop c) st Q:=aS C S (λ_=>⟨[],[],cx.iM⟩) μ a0 hc st (AS.le_refl _ _) h0 h
end
end Go.Av
namespace Go.Av
open Go.Proofs Go.Proofs.Tryz
@[simp]def am1:bS prog 3=some false/\aW prog 3=some 1/\Av.isSome prog 3=true/\bX prog 3=some [.sc (.int .i64 0)]/\Av.intOf prog 3=some .i64/\bS prog 4=some false/\aW prog 4=some 1/\isBool prog 4=true/\bS prog 5=some false/\aW prog 5=some 1/\Av.isSome prog 5=true/\bX prog 5=some [.sc (.int .u8 0)]/\Av.intOf prog 5=some .u8/\bS prog 9=some false/\aW prog 9=some 1/\isStr prog 9=true/\bX prog 9=some [.str []]/\Av.intOf prog 9=none/\bS prog 22=some false/\aW prog 22=some 1/\bX prog 22=some [.nil]/\aO prog 22=some 1/\dF prog 22=some (5,1,1)/\fT prog 22=true:=by(repeat' apply And.intro)<;>kernel_rfl
@[simp]def ahN:Av.intOf prog 22=none/\bS prog 28=some false/\aW prog 28=some 1/\bS prog 29=some false/\aW prog 29=some 1/\bX prog 29=some [.sc (.int .i64 0)]/\bS prog 31=some false/\aW prog 31=some 1/\uD prog 31=true/\bS prog 32=some false/\aW prog 32=some 1/\uD prog 32=true/\bS prog 34=some true/\aW prog 34=some 2/\bX prog 34=some [.sc (.int .i64 0),.sc (.int .i64 0)]/\bL prog 34=true/\aT prog 34 0=some (0,1)/\aT prog 34 1=some (1,1)/\dw prog 34 0=some (0,1,false)/\dw prog 34 1=some (1,1,false)/\bS prog 35=some false/\aO prog 35=some 18/\dF prog 35=some (206,18,256)/\bS prog 37=some true:=by(repeat' apply And.intro)<;>kernel_rfl
@[simp]def ahO:aW prog 37=some 1/\bX prog 37=some [.nil]/\bL prog 37=true/\aT prog 37 0=some (0,1)/\dw prog 37 0=some (0,1,false)/\bS prog 40=some false/\aW prog 40=some 1/\aO prog 40=some 1/\dF prog 40=some (9,1,16)/\Av.intOf prog 40=none/\bS prog 42=some true/\aW prog 42=some 5/\bX prog 42=some [.str [],.str [],.sc (.int .i64 0),.str [],.sc (.int .i64 0)]/\bL prog 42=true/\DJ prog 42=some [(0,9),(1,9),(2,3),(3,9),(4,3)]/\uB prog 42=true/\aT prog 42 2=some (2,1)/\aT prog 42 3=some (3,1)/\aT prog 42 4=some (4,1)/\dw prog 42 0=some (0,1,false)/\dw prog 42 1=some (1,1,false)/\dw prog 42 2=some (2,1,false)/\dw prog 42 3=some (3,1,false)/\dw prog 42 4=some (4,1,false):=by(repeat' apply And.intro)<;>kernel_rfl
@[simp]def aj':bS prog 43=some false/\aW prog 43=some 1/\aO prog 43=some 2/\dF prog 43=some (139,2,32)/\Av.intOf prog 43=none/\bS prog 45=some true/\aW prog 45=some 2/\bX prog 45=some [.sc (.int .i64 0),.sc (.int .i64 0)]/\bL prog 45=true/\DJ prog 45=some [(0,3),(1,3)]/\uB prog 45=true/\aT prog 45 0=some (0,1)/\aT prog 45 1=some (1,1)/\dw prog 45 0=some (0,1,false)/\dw prog 45 1=some (1,1,false)/\bS prog 46=some false/\aW prog 46=some 1/\Av.isSome prog 46=true/\Av.intOf prog 46=some .u32/\bS prog 47=some false/\aW prog 47=some 1/\aO prog 47=some 2/\dF prog 47=some (157,2,16)/\Av.intOf prog 47=none:=by(repeat' apply And.intro)<;>kernel_rfl
@[simp]def aka:bS prog 49=some true/\aW prog 49=some 15/\bX prog 49=some [.str [],.nil,.str [],.str [],.str [],.sc (.int .i64 0),.str [],.sc (.int .i64 0),.nil,.sc (.int .i64 0),.sc (.int .i64 0),.sc (.int .i64 0),.sc (.int .i64 0),.sc (.int .u32 0),.nil]/\bL prog 49=true/\aT prog 49 0=some (0,1)/\aT prog 49 1=some (1,1)/\aT prog 49 2=some (2,1)/\aT prog 49 3=some (3,5)/\aT prog 49 4=some (8,1)/\aT prog 49 5=some (9,2)/\dw prog 49 0=some (0,1,false)/\dw prog 49 1=some (1,1,false)/\dw prog 49 2=some (2,1,false)/\dw prog 49 3=some (3,5,true)/\dw prog 49 4=some (8,1,false)/\dw prog 49 5=some (9,2,true)/\dw prog 49 6=some (11,1,false)/\dw prog 49 7=some (12,1,false)/\dw prog 49 8=some (13,1,false)/\dw prog 49 9=some (14,1,false):=by(repeat' apply And.intro)<;>kernel_rfl
@[simp]def alT:bS prog 82=some false/\aW prog 82=some 1/\aO prog 82=some 3/\dF prog 82=some (198,3,32)/\Av.intOf prog 82=none/\bS prog 87=some false/\aW prog 87=some 1/\aO prog 87=some 1/\dF prog 87=some (3,1,8)/\Av.intOf prog 87=none/\bS prog 91=some false/\aW prog 91=some 1/\bS prog 93=some false/\aW prog 93=some 1/\bX prog 93=some [.nil]/\aO prog 93=some 1/\dF prog 93=some (22,1,24)/\Av.intOf prog 93=none/\bS prog 107=some true/\aW prog 107=some 3/\bX prog 107=some [.sc (.int .i64 0),.sc (.int .i64 0),.sc (.int .i64 0)]/\bL prog 107=true/\aT prog 107 0=some (0,1)/\aT prog 107 1=some (1,1):=by(repeat' apply And.intro)<;>kernel_rfl
@[simp]def aiZ:dw prog 107 0=some (0,1,false)/\dw prog 107 1=some (1,1,false)/\dw prog 107 2=some (2,1,false)/\uD prog 108=true/\bS prog 112=some false/\aW prog 112=some 1/\uD prog 112=true/\bS prog 113=some false/\aW prog 113=some 1/\uD prog 113=true/\bX prog 115=some [.sc (.pointer none),.sc (.pointer none),.sc (.pointer none),.nil,.sc (.int .i64 0),.sc (.int .i64 0)]/\bL prog 115=true/\dw prog 115 0=some (0,1,false)/\dw prog 115 1=some (1,1,false)/\dw prog 115 2=some (2,1,false)/\dw prog 115 3=some (3,1,true)/\dw prog 115 4=some (4,1,false)/\dw prog 115 5=some (5,1,false)/\bX prog 117=some [.sc (.pointer none),.sc (.pointer none),.sc (.int .i64 0)]/\bL prog 117=true/\aT prog 117 0=some (0,1)/\aT prog 117 1=some (1,1)/\aT prog 117 2=some (2,1)/\dw prog 117 0=some (0,1,false):=by(repeat' apply And.intro)<;>kernel_rfl
@[simp]def ai0:dw prog 117 1=some (1,1,false)/\dw prog 117 2=some (2,1,false)/\bS prog 119=some true/\aW prog 119=some 17/\bX prog 119=some [.str [],.str [],.nil,.str [],.str [],.str [],.sc (.int .i64 0),.str [],.sc (.int .i64 0),.nil,.sc (.int .i64 0),.sc (.int .i64 0),.sc (.int .i64 0),.sc (.int .i64 0),.sc (.int .u32 0),.nil,.nil]/\bL prog 119=true/\aT prog 119 0=some (0,1)/\aT prog 119 1=some (1,15)/\aT prog 119 2=some (16,1)/\dw prog 119 0=some (0,1,false)/\dw prog 119 1=some (1,15,true)/\dw prog 119 2=some (16,1,false)/\bS prog 139=some true/\aW prog 139=some 2/\bX prog 139=some [.str [],.str []]/\bL prog 139=true/\DJ prog 139=some [(0,9),(1,9)]/\uB prog 139=true/\aT prog 139 0=some (0,1)/\aT prog 139 1=some (1,1)/\dw prog 139 0=some (0,1,false)/\dw prog 139 1=some (1,1,false)/\bX prog 141=some [.sc (.pointer none),.str [],.nil,.str [],.str [],.str [],.sc (.int .i64 0),.str [],.sc (.int .i64 0),.nil,.sc (.int .i64 0),.sc (.int .i64 0),.sc (.int .i64 0),.sc (.int .i64 0),.sc (.int .u32 0),.nil,.nil,.sc (.bool false),.sc (.bool false)]/\bL prog 141=true:=by(repeat' apply And.intro)<;>kernel_rfl
@[simp]def abj:aT prog 141 0=some (0,1)/\aT prog 141 1=some (1,15)/\dw prog 141 0=some (0,1,false)/\dw prog 141 1=some (1,15,true)/\dw prog 141 2=some (16,1,false)/\dw prog 141 3=some (17,1,false)/\dw prog 141 4=some (18,1,false)/\bS prog 146=some true/\aW prog 146=some 3/\bX prog 146=some [.sc (.pointer none),.sc (.int .i64 0),.sc (.int .i64 0)]/\bL prog 146=true/\aT prog 146 0=some (0,1)/\aT prog 146 1=some (1,2)/\dw prog 146 0=some (0,1,false)/\dw prog 146 1=some (1,2,true)/\bS prog 147=some false/\aW prog 147=some 1/\bS prog 148=some false/\aW prog 148=some 1/\bS prog 149=some false/\aW prog 149=some 1/\aO prog 149=some 4/\dF prog 149=some (159,4,56)/\Av.intOf prog 149=none:=by(repeat' apply And.intro)<;>kernel_rfl
@[simp]def ai1:bX prog 151=some [.sc (.pointer none),.sc (.int .i64 0),.sc (.int .i64 0),.sc (.pointer none),.sc (.int .i64 0),.sc (.pointer none),.sc (.pointer none),.nil,.sc (.int .i64 0),.nil,.sc (.bool false)]/\bL prog 151=true/\aT prog 151 0=some (0,3)/\aT prog 151 8=some (10,1)/\dw prog 151 0=some (0,3,true)/\dw prog 151 1=some (3,1,false)/\dw prog 151 2=some (4,1,false)/\dw prog 151 3=some (5,1,false)/\dw prog 151 4=some (6,1,false)/\dw prog 151 5=some (7,1,false)/\dw prog 151 6=some (8,1,false)/\dw prog 151 7=some (9,1,false)/\dw prog 151 8=some (10,1,false)/\bS prog 157=some true/\aW prog 157=some 2/\bX prog 157=some [.sc (.int .i64 0),.sc (.int .i64 0)]/\bL prog 157=true/\DJ prog 157=some [(0,3),(1,3)]/\uB prog 157=true/\aT prog 157 0=some (0,1)/\aT prog 157 1=some (1,1)/\dw prog 157 0=some (0,1,false)/\dw prog 157 1=some (1,1,false)/\bS prog 159=some true:=by(repeat' apply And.intro)<;>kernel_rfl
@[simp]def ahd:aW prog 159=some 4:=bp
@[simp]def ahQ:bX prog 159=some [.str [],.sc (.int .i64 0),.sc (.int .i64 0),.nil]/\bL prog 159=true/\aT prog 159 0=some (0,1)/\aT prog 159 1=some (1,1)/\aT prog 159 2=some (2,1)/\aT prog 159 3=some (3,1)/\dw prog 159 0=some (0,1,false)/\dw prog 159 1=some (1,1,false)/\dw prog 159 2=some (2,1,false)/\dw prog 159 3=some (3,1,false)/\bX prog 166=some [.sc (.int .i64 0),.nil,.sc (.int .i64 0)]/\bL prog 166=true/\aT prog 166 2=some (2,1)/\dw prog 166 0=some (0,1,false)/\dw prog 166 1=some (1,1,false)/\dw prog 166 2=some (2,1,false)/\bS prog 167=some false/\aW prog 167=some 1/\aO prog 167=some 64/\dF prog 167=some (172,64,64)/\bS prog 168=some false/\aW prog 168=some 1/\aO prog 168=some 65/\dF prog 168=some (174,65,72):=by(repeat' apply And.intro)<;>kernel_rfl
@[simp]def ahR:bX prog 170=some [.sc (.int .i64 0),.nil,.sc (.int .i64 0),.nil,.nil,.nil]/\bL prog 170=true/\aT prog 170 0=some (0,3)/\aT prog 170 1=some (3,1)/\aT prog 170 2=some (4,1)/\dw prog 170 0=some (0,3,true)/\dw prog 170 1=some (3,1,false)/\dw prog 170 2=some (4,1,false)/\dw prog 170 3=some (5,1,false)/\bS prog 172=some true/\aW prog 172=some 64/\bS prog 174=some true/\aW prog 174=some 65/\bL prog 174=true/\aT prog 174 0=some (0,1)/\aT prog 174 1=some (1,64)/\dw prog 174 0=some (0,1,false)/\dw prog 174 1=some (1,64,true)/\bS prog 178=some true/\aW prog 178=some 2/\bX prog 178=some [.sc (.int .i64 0),.sc (.int .i64 0)]/\bL prog 178=true/\aT prog 178 0=some (0,1)/\aT prog 178 1=some (1,1):=by(repeat' apply And.intro)<;>kernel_rfl
@[simp]def ahS:dw prog 178 0=some (0,1,false)/\dw prog 178 1=some (1,1,false)/\bS prog 189=some false/\bS prog 198=some true/\aW prog 198=some 3/\bX prog 198=some [.sc (.int .i64 0),.str [],.sc (.bool false)]/\bL prog 198=true/\aT prog 198 0=some (0,1)/\aT prog 198 1=some (1,1)/\dw prog 198 0=some (0,1,false)/\dw prog 198 1=some (1,1,false)/\dw prog 198 2=some (2,1,false)/\bS prog 206=some true/\aW prog 206=some 18/\bX prog 206=some [.str [],.str [],.nil,.str [],.str [],.str [],.sc (.int .i64 0),.str [],.sc (.int .i64 0),.nil,.sc (.int .i64 0),.sc (.int .i64 0),.sc (.int .i64 0),.sc (.int .i64 0),.sc (.int .u32 0),.nil,.nil,.sc (.int .i64 0)]/\bL prog 206=true/\aT prog 206 0=some (0,1)/\aT prog 206 1=some (1,15)/\aT prog 206 2=some (16,1)/\aT prog 206 3=some (17,1)/\dw prog 206 0=some (0,1,false)/\dw prog 206 1=some (1,15,true)/\dw prog 206 2=some (16,1,false)/\dw prog 206 3=some (17,1,false):=by(repeat' apply And.intro)<;>kernel_rfl
@[simp]def aeU:uD prog 219=true/\bX prog 225=some [.sc (.pointer none),.sc (.pointer none),.str [],.nil]/\bL prog 225=true/\aT prog 225 0=some (0,1)/\aT prog 225 1=some (1,1)/\aT prog 225 2=some (2,1)/\dw prog 225 0=some (0,1,false)/\dw prog 225 1=some (1,1,false)/\dw prog 225 2=some (2,1,false)/\dw prog 225 3=some (3,1,false)/\Av.isSome prog 240=true/\Av.intOf prog 240=some .u64/\bS prog 247=some false/\aW prog 247=some 1/\bS prog 261=some true/\aW prog 261=some 3/\bX prog 261=some [.sc (.pointer none),.sc (.int .i64 0),.sc (.int .i64 0)]/\bL prog 261=true/\aT prog 261 0=some (0,1)/\aT prog 261 1=some (1,1)/\aT prog 261 2=some (2,1)/\dw prog 261 0=some (0,1,false)/\dw prog 261 1=some (1,1,false)/\dw prog 261 2=some (2,1,false):=by(repeat' apply And.intro)<;>kernel_rfl
@[simp]def ahT:bS prog 263=some true/\aW prog 263=some 3/\bX prog 263=some [.sc (.int .i64 0),.sc (.int .i64 0),.sc (.int .i64 0)]/\bL prog 263=true/\aT prog 263 0=some (0,1)/\aT prog 263 1=some (1,1)/\aT prog 263 2=some (2,1)/\dw prog 263 0=some (0,1,false)/\dw prog 263 1=some (1,1,false)/\dw prog 263 2=some (2,1,false)/\bS prog 266=some false/\aW prog 266=some 1/\aO prog 266=some 2/\dF prog 266=some (364,2,32)/\bX prog 268=some [.sc (.pointer none),.sc (.int .i64 0),.sc (.int .i64 0),.sc (.int .i64 0),.sc (.int .i64 0),.sc (.int .i64 0),.sc (.int .i64 0),.sc (.int .i64 0),.sc (.int .i64 0),.sc (.bool false),.nil,.sc (.int .i64 0)]/\bL prog 268=true/\aT prog 268 0=some (0,3)/\aT prog 268 1=some (3,3)/\aT prog 268 2=some (6,1)/\aT prog 268 3=some (7,1)/\aT prog 268 4=some (8,1)/\dw prog 268 0=some (0,3,true)/\dw prog 268 1=some (3,3,true)/\dw prog 268 2=some (6,1,false):=by(repeat' apply And.intro)<;>kernel_rfl
@[simp]def ahU:dw prog 268 3=some (7,1,false)/\dw prog 268 4=some (8,1,false)/\dw prog 268 5=some (9,1,false)/\dw prog 268 6=some (10,1,false)/\dw prog 268 7=some (11,1,false)/\bS prog 272=some false/\aW prog 272=some 1/\bX prog 272=some [.nil]/\aO prog 272=some 2/\dF prog 272=some (157,2,16)/\Av.intOf prog 272=none/\bX prog 274=some [.sc (.int .i64 0),.nil,.nil,.nil]/\bL prog 274=true/\aT prog 274 0=some (0,1)/\aT prog 274 1=some (1,1)/\dw prog 274 0=some (0,1,false)/\dw prog 274 1=some (1,1,false)/\dw prog 274 2=some (2,1,false)/\dw prog 274 3=some (3,1,false)/\Av.isSome prog 276=true/\isIface prog 276=false/\bX prog 278=some [.sc (.pointer none),.nil,.nil]/\bL prog 278=true/\aT prog 278 0=some (0,1):=by(repeat' apply And.intro)<;>kernel_rfl
@[simp]def ahV:dw prog 278 0=some (0,1,false)/\dw prog 278 1=some (1,1,false)/\dw prog 278 2=some (2,1,false)/\aO prog 282=some 2/\bS prog 306=some false/\aW prog 306=some 1/\aO prog 306=some 17/\dF prog 306=some (119,17,248)/\Av.intOf prog 306=none:=by(repeat' apply And.intro)<;>kernel_rfl
@[simp]def ahW:dw prog 308 0=some (0,1,false)/\dw prog 308 1=some (1,1,false)/\bX prog 310=some [.sc (.int .i64 0),.sc (.int .i64 0),.nil,.sc (.int .i64 0),.nil,.sc (.int .i64 0)]/\bL prog 310=true/\aT prog 310 0=some (0,1)/\aT prog 310 1=some (1,1)/\dw prog 310 0=some (0,1,false)/\dw prog 310 1=some (1,1,false)/\dw prog 310 2=some (2,2,true)/\dw prog 310 3=some (4,2,true)/\aO prog 313=some 1/\dF prog 313=some (315,1,8)/\bS prog 315=some false/\aW prog 315=some 1/\aO prog 334=some 5/\dF prog 334=some (343,5,72)/\bX prog 339=some [.sc (.pointer none),.nil]/\bL prog 339=true/\aT prog 339 0=some (0,1)/\aT prog 339 1=some (1,1)/\dw prog 339 0=some (0,1,false)/\dw prog 339 1=some (1,1,false)/\bS prog 341=some true/\aW prog 341=some 3:=by(repeat' apply And.intro)<;>kernel_rfl
@[simp]def ahX:bX prog 341=some [.sc (.bool false),.nil,.nil]/\bL prog 341=true/\aT prog 341 0=some (0,1)/\aT prog 341 1=some (1,1)/\aT prog 341 2=some (2,1)/\dw prog 341 0=some (0,1,false)/\dw prog 341 1=some (1,1,false)/\dw prog 341 2=some (2,1,false)/\bS prog 343=some true/\aW prog 343=some 5/\bX prog 343=some [.sc (.bool false),.nil,.nil,.sc (.int .i64 0),.sc (.int .i64 0)]/\bL prog 343=true/\aT prog 343 0=some (0,3)/\aT prog 343 1=some (3,1)/\aT prog 343 2=some (4,1)/\dw prog 343 0=some (0,3,true)/\dw prog 343 1=some (3,1,false)/\dw prog 343 2=some (4,1,false)/\bX prog 359=some [.nil]/\bL prog 359=true/\aT prog 359 0=some (0,1)/\dw prog 359 0=some (0,1,false)/\bS prog 364=some true/\aW prog 364=some 2:=by(repeat' apply And.intro)<;>kernel_rfl
@[simp]def ahY:bX prog 364=some [.sc (.int .i64 0),.nil]/\bL prog 364=true/\aT prog 364 0=some (0,1)/\aT prog 364 1=some (1,1)/\dw prog 364 0=some (0,1,false)/\dw prog 364 1=some (1,1,false)/\aO prog 367=some 1/\dF prog 367=some (91,1,8)/\bS prog 369=some false/\aW prog 369=some 1/\bX prog 371=some [.sc .nilIface,.sc (.int .i64 0)]/\bL prog 371=true/\aT prog 371 0=some (0,1)/\aT prog 371 1=some (1,1)/\dw prog 371 0=some (0,1,false)/\dw prog 371 1=some (1,1,false)/\aO prog 387=some 1/\dF prog 387=some (47,1,24)/\bX prog 408=some [.nil]/\bL prog 408=true/\aT prog 408 0=some (0,1)/\dw prog 408 0=some (0,1,false)/\bS prog 434=some true/\aW prog 434=some 7:=by(repeat' apply And.intro)<;>kernel_rfl
@[simp]def ahZ:bX prog 434=some [.sc (.int .i64 0),.sc (.bool false),.nil,.nil,.sc (.bool false),.nil,.nil]/\bL prog 434=true/\aT prog 434 0=some (0,1)/\aT prog 434 1=some (1,3)/\aT prog 434 2=some (4,3)/\dw prog 434 0=some (0,1,false)/\dw prog 434 1=some (1,3,true)/\dw prog 434 2=some (4,3,true)/\aO prog 464=some 1/\dF prog 464=some (93,1,24)/\aO prog 468=some 1/\dF prog 468=some (40,1,24)/\aO prog 470=some 1/\dF prog 470=some (87,1,24)/\aW prog 474=some 256/\bX prog 511=some [.nil,.sc (.bool false)]/\bL prog 511=true/\aT prog 511 0=some (0,1)/\dw prog 511 0=some (0,1,false)/\dw prog 511 1=some (1,1,false):=by(repeat' apply And.intro)<;>kernel_rfl
end Go.Av

namespace Go.Av
open Go.RowKit
variable{l:List AV}{k n s:Nat}{α:Type}
section
variable{P:Program}{f:FuncId}{xs:List AV}{tb a_ uj:Tb}{r r':AV}
def RLe(r:AV)(tb:Tb)(r':AV)(a_:Tb):Prop:=∀(w0:World) (M0:Mem) (F:Nat->Prop) (g:G) (w:World) (v:Value),bf w0 M0 F tb g w->bJ g v r->∃g',g.le g'/\bf w0 M0 F a_ g' w/\bJ g' v r'
def se(h:dm P f xs tb r a_)(hr:RLe r a_ r' uj):dm P f xs tb r' uj:=by
 refine⟨h.1,λg w vs F hw hvs=>(h.2 g w vs F hw hvs).mono ?_⟩;rintro e w' ⟨v,g',rfl,h1,h2,h3⟩;obtain⟨I7,h4,h5,h6⟩:=hr _ _ _ _ _ _ h2 h3;exact⟨v,I7,rfl,h1.trans h4,h5,h6⟩
def VJ{el:TypeId}(h:isNone r):RLe r tb (.view tb.nx 0 0 s none) (tb.bD ⟨el,s,[]⟩):=by
 intro w0 M0 F g w v hw hv;obtain⟨ad,rfl,AF⟩:∃ad,v= .slice ad 0 0/\(ad=none\/∃a',ad=some a'):=by
  unfold isNone at h;split at h
  .cases hv with
   |full hr=>cases hr with
    |dX=>simp
    |ug a=>simp
    |sl hn _ _ _ _ _ _ hs=>have:=hs.length;grind
  .have:=bO hv;cases this;simp
  grind
 refine⟨_,hw.nP 0 0,hw.GD el s,?_⟩;have:=bJ.view (g:=g.eN tb.nx 0 0) (id:=tb.nx) (b:=0) (c:=0) (o:=0) (n:=0) (s:=s) (a:=ad) (m:=none) (by simp[G.eN]) O O (.void rfl AF) H;omega
def eT{el:TypeId}(h:dm P f xs tb r a_)(hr:isNone r):dm P f xs tb (.view a_.nx 0 0 s none) (a_.bD ⟨el,s,[]⟩):=se h (VJ hr)
def LM{g:G}{vs:List Value}{ys:List PC}(h:dh g.M vs ys):aV g vs (ys.map .p):=lY h
def iX{pre post:List AV}{id:Nat}{bx:List (Nat×Ob)}{rw:List (Nat×TypeId×Nat)}{nx:Nat}(hc:eE P f)(h1:∀c,n<=c->0<c->c<=maxLen->dm P f (pre++ .view id 0 n s (some c)::post) ⟨bx,rw,nx⟩ r a_)(h2:n=0->dm P f (pre++ .full []::post) ⟨del id bx,rw,nx⟩ r a_):dm P f (pre++ .view id 0 n s none::post) ⟨bx,rw,nx⟩ r a_:=by
 refine⟨hc,λg w vs F hw hvs=>?_⟩;obtain⟨us,ws,rfl,hu,hws⟩:=aV.split pre hvs;cases hws with
 |cons h hs=>
  cases h with
  |view e h3 h4 h5 hm=>
   rename_i b c ad;cases h5 with
   |void h0 AF=>
    subst h0;have hn:n=0:=O;subst hn;refine(h2 rfl).2 g w _ F (hw.cV id) (hu.append (.cons ?_ hs));rcases AF with rfl|⟨a',rfl⟩
    .exact .full (n:=0) .dX
    .exact .full (n:=0) (.ug a')
   |real off hp ha ho=>
    exact(h1 c O hp h4).2 g w _ F hw (hu.append (.cons (.view e h3 h4 (.real off hp ha ho) (λk hk=>by grind)) hs))
def bF{xs:List PC}{r:AV}{y:PC}(h:dm P f (xs.map .p) ⟨[],[],0⟩ r a_)(hy:dA a_.bx 4 r y):nc P f xs y:=by
 refine⟨h.1,λM w vs hH hvs=>?_⟩;have hw:bf w M (λ_=>False) ⟨[],[],0⟩ ⟨M,λ_=>none,λ_=>none⟩ w:=by
  refine⟨hH,vj.refl _ _,λ_ _ _=>rfl,Mem.le_refl _,?_,?_,?_,?_,?_,?_⟩
  .simp
  .simp
  .simp
  all_goals simp
 refine(h.2 ⟨M,λ_=>none,λ_=>none⟩ w vs (λ_=>False) hw (LM (g:=⟨M,λ_=>none,λ_=>none⟩) hvs)).mono ?_;rintro e w' ⟨v,g',rfl,hle,hS,hr⟩;have hold:∀b o v,M b o=some v->b<w.heap.size:=λb o v e=>hH.lt e;have hMo:∀b,b<w.heap.size->g'.M b=M b:=λb hb=>hS.old b hb (λh=>h);refine⟨v,λb o=>if b<w.heap.size then M b o else w'.cell? ⟨b,o,none⟩,rfl,za hS ?_ ?_ 4 v r y hr hy,?_,?_,?_,?_⟩
 .intro b o v e;show(if b<w.heap.size then _ else _)=_;split
  .grind
  .exact hS.holds b o v e
 .intro id ob b c hl hg hc o v e;obtain⟨cur,f2,_⟩:=(hS.boxes id ob hl).real hg hc
  grind
 .refine⟨?_,hH.g.mono λb o v e=>by
   grind⟩
  intro b o v e;have e:(if b<w.heap.size then M b o else w'.cell? ⟨b,o,none⟩)=some v:=e;split at e
  .rename_i hb;rw[<-hMo b hb]at e;exact hS.holds b o v e
  omega
 .intro b o v e
  grind
 .grind
 .exact⟨hS.keep.os,hS.keep.tape,hS.keep.output,hS.keep.size,λk hk=>hS.keep.block k hk (λh=>h)⟩
def qM{pre post:List AV}{ys:List PC}(hc:eE P f)(h1:ys=[]->dm P f (pre++ .p .nil::post) tb r a_)(h2:dm P f (pre++ .nn ys::post) tb r a_):dm P f (pre++ .p (.sl ys)::post) tb r a_:=by
 refine⟨hc,λg w vs F hw hvs=>?_⟩;obtain⟨us,ws,rfl,hu,hws⟩:=aV.split pre hvs;cases hws with
 |cons h hs=>
  have h:=bO h;cases h with
  |dX=>exact(h1 rfl).2 g w _ F hw (hu.append (.cons (.p .nil) hs))
  |ug a=>exact h2.2 g w _ F hw (hu.append (.cons (.nn (.ug a)) hs))
  |sl a1 a2 a3 a4 a5 a6 a7 a8=>exact h2.2 g w _ F hw (hu.append (.cons (.nn (.sl a1 a2 a3 a4 a5 a6 a7 a8)) hs))
end
@[simp]def RX:((k:Int)<0)=False:=H
@[simp]def aqj:(n=n+1+1)=False:=by simp only[fV,nC];omega
@[simp]def aqk:(n+1+1=n)=False:=by simp only[fV,nC];omega
@[simp]def aql:(n<n+1+1)=True:=by simp only[fV,nD];omega
@[simp]def aqm:(n<=n+1+1)=True:=by simp only[fV,nD];omega
@[simp]def aqn:(n=n+1+1+1)=False:=by simp only[fV,nC];omega
@[simp]def aqo:(n+1+1+1=n)=False:=by simp only[fV,nC];omega
@[simp]def aqp:(n<n+1+1+1)=True:=by simp only[fV,nD];omega
@[simp]def aqq:(n<=n+1+1+1)=True:=by simp only[fV,nD];omega
@[simp]def aqr:(n=n+1+1+1+1)=False:=by simp only[fV,nC];omega
@[simp]def aqs:(n+1+1+1+1=n)=False:=by simp only[fV,nC];omega
@[simp]def aqt:(n<n+1+1+1+1)=True:=by simp only[fV,nD];omega
@[simp]def aqu:(n<=n+1+1+1+1)=True:=by simp only[fV,nD];omega
@[simp]def aqv:(n=n+1+1+1+1+1)=False:=by simp only[fV,nC];omega
@[simp]def aqw:(n+1+1+1+1+1=n)=False:=by simp only[fV,nC];omega
@[simp]def aqx:(n<n+1+1+1+1+1)=True:=by simp only[fV,nD];omega
@[simp]def aqy:(n<=n+1+1+1+1+1)=True:=by simp only[fV,nD];omega
@[simp]def aqz:(n=n+1+1+1+1+1+1)=False:=by simp only[fV,nC];omega
@[simp]def aqA:(n+1+1+1+1+1+1=n)=False:=by simp only[fV,nC];omega
@[simp]def aqB:(n<n+1+1+1+1+1+1)=True:=by simp only[fV,nD];omega
@[simp]def aqC:(n<=n+1+1+1+1+1+1)=True:=by simp only[fV,nD];omega
@[simp]def aqD:(n=n+1+1+1+1+1+1+1)=False:=by simp only[fV,nC];omega
@[simp]def aqE:(n+1+1+1+1+1+1+1=n)=False:=by simp only[fV,nC];omega
@[simp]def aqF:(n<n+1+1+1+1+1+1+1)=True:=by simp only[fV,nD];omega
@[simp]def aqG:(n<=n+1+1+1+1+1+1+1)=True:=by simp only[fV,nD];omega
section
variable{ρ:Nat->Nat}{m:Nat}
@[simp]def acD{a b:List AV}:AV.cp.eu ρ (a++b)=AV.cp.eu ρ a++AV.cp.eu ρ b:=by
 induction a with
 |nil=>rfl
 |cons x a ih=>simp[AV.cp.eu,ih]
def s9(l:List AV):AV.cp.eu ρ l=l.map (AV.cp ρ):=by
 induction l with
 |nil=>rfl
 |cons x a ih=>simp_all
@[simp]def ah3:AV.cp.eu ρ (l.take k)=(AV.cp.eu ρ l).take k:=by simp[s9]
@[simp]def ah4:AV.cp.eu ρ (l.drop k)=(AV.cp.eu ρ l).drop k:=by simp[s9]
@[simp]def akZ{x:AV}:AV.cp.eu ρ (l.set k x)=(AV.cp.eu ρ l).set k (x.cp ρ):=by simp[s9]
@[simp]def afN{l:List PC}:AV.cp.eu ρ (l.map .p)=l.map .p:=by
 induction l with
 |nil=>rfl
 |cons x a ih=>simp[ih]
@[simp]def aam{f:α->PC}{l:List α}:AV.cp.eu ρ (l.map λx=> .p (f x))=l.map λx=> .p (f x):=by
 induction l with
 |nil=>rfl
 |cons x a ih=>simp[ih]
@[simp]def am7{f:α->PC}{l:List α}:AV.cp.eu ρ (l.map (AV.p∘f))=l.map (AV.p∘f):=aam (f:=f)
@[simp]def Zl{f:α->PC}{l:List α}:AV.ja.iA m (l.map (AV.p∘f))=true:=by
 induction l with
 |nil=>rfl
 |cons x a ih=>simp[ih]
@[simp]def acE{a b:List AV}:AV.ja.iA m (a++b)=(AV.ja.iA m a&&AV.ja.iA m b):=by
 induction a with
 |nil=>simp
 |cons x a ih=>simp[ih,Bool.and_assoc]
def I8(l:List AV):AV.ja.iA m l=l.all (AV.ja m):=by
 induction l with
 |nil=>rfl
 |cons x a ih=>simp_all
@[simp]def ah5(h:AV.ja.iA m l=true):AV.ja.iA m (l.take k)=true:=by
 rw[I8]at*;exact gX.2 λx hx=>gX.1 h x (oa hx)
@[simp]def ah6(h:AV.ja.iA m l=true):AV.ja.iA m (l.drop k)=true:=by
 rw[I8]at*;exact gX.2 λx hx=>gX.1 h x (fq hx)
@[simp]def afO{l:List PC}:AV.ja.iA m (l.map .p)=true:=by
 induction l with
 |nil=>rfl
 |cons x a ih=>simp[ih]
@[simp]def am8{f:α->PC}{l:List α}:AV.ja.iA m (l.map λx=> .p (f x))=true:=by
 induction l with
 |nil=>rfl
 |cons x a ih=>simp[ih]
end
def fM:PC->List PC
 | .agg false xs=>xs
 |x=>[x]
def I9(x:PC):bA x=(fM x).map .p:=by
 cases x with
 |agg b l=>cases b<;>rfl
 |_=>rfl
@[simp]def vT{xs:List PC}:xs.flatMap bA=(xs.flatMap fM).map .p:=by
 induction xs with
 |nil=>rfl
 |cons x xs ih=>simp[ih,I9]
@[simp]def aan{v:Value}:fM (.sc v)=[.sc v]:=(rfl)
@[simp]def ak0{l:List PC}:fM (.agg false l)=l:=(rfl)
def lR{xs:List PC}(h:∀x∈xs,x.width=s):(xs.flatMap fM).length=xs.length*s:=by
 have:=zk (s:=s) xs h;simp_all
end Go.Av
namespace Go.Av
open Go.RowKit
section
variable{P:Program}{f:FuncId}{xs:List AV}{tb a_ uj:Tb}{r r':AV}
def NP{id n s:Nat}{m:Option Nat}{ob:Ob}{ys:List PC}(hl:lk id tb.bx=some ob)(hsz:ob.sz=s)(hs:0<s)(hx:n*s<=ob.xs.length)(hc:ob.xs.take (n*s)=ys.flatMap bA)(hy:ys.length=n)(hw':∀y∈ys,y.width=s)(ht:∀y∈ys,cE y=true):RLe (.view id 0 n s m) tb (.p (.sl ys)) ⟨(tb.cV id).bx,tb.rw,tb.nx+1⟩:=by
 intro w0 M0 F g w v hw hv;subst hsz;cases hv with
 |view e h3 h4 h5 hm=>
  rename_i b c au;have agP:∀i p,lk i (tb.cV id).bx=some p->lk i tb.bx=some p:=λi p h=>by
   grind [Tb.cV,cQ]
  cases h5 with
  |void hz AF=>
   subst hz;have hn0:n=0:=O;subst hn0;have:ys=[]:=o5 hy;subst this;refine⟨g,G.le_refl g,hw.sub agP (λ_ _ h=>h) (Nat.le_succ _),?_⟩;rcases AF with rfl|⟨a',rfl⟩
   .exact .p .dX
   .exact .p (.ug a')
  |real off iQ had h5=>
   subst had;obtain rfl:off=0:=O;obtain⟨N,k1,k2,k3⟩:=hw.AE hl e iQ hs O hx hc hy hw' ht;refine⟨_,?_,k2.sub (λi p h=>h) (λi p h=>?_) (aX _),.p k3⟩
   .exact⟨k1,λ_ _ h=>h,λi p h=>by have:=hw.pO h;simp only[G.ez,G.with];grind⟩
   .simp only[Tb.cC,Tb.cV,bP];split
    .rename_i hi;subst hi;obtain⟨v',q1,_⟩:=hw.rows tb.nx p.1 p.2 h;have:=hw.pO q1;omega
    omega
def nO{id n s:Nat}{m:Option Nat}{ob:Ob}{ys:List PC}(h:dm P f xs tb (.view id 0 n s m) a_)(hl:lk id a_.bx=some ob)(hsz:ob.sz=s)(hs:0<s)(hx:n*s<=ob.xs.length)(hc:ob.xs.take (n*s)=ys.flatMap bA)(hy:ys.length=n)(hw':∀y∈ys,y.width=s)(ht:∀y∈ys,cE y=true):dm P f xs tb (.p (.sl ys)) ⟨(a_.cV id).bx,a_.rw,a_.nx+1⟩:=se h (NP hl hsz hs hx hc hy hw' ht)
end
theorem tV{g:G}{x:AV}:∀{ys:List AV} {vs:List Value} (j:Nat) (v:Value),vs[j]?=some v->aV g vs ys->bJ g v x->aV g vs (ys.set j x)
 |[],_,_,_,_,hs,_=>by grind
 |y::ys,_,j,v,hv,.cons h hs,hn=>by
  cases j with
  |zero=>simp at hv;subst hv;exact .cons hn hs
  |succ j=>simp at hv;exact .cons h (tV j v hv hs hn)
section
variable{w0:World}{M0:Mem}{F:Nat->Prop}{tb:Tb}{g:G}{w:World}
def bf.adR(h1:bf w0 M0 F tb g w){id j:Nat}(el s:Nat){ob:Ob}(hl:lk id tb.bx=some ob)(hj:ob.xs[j]?=some (.p .nil)):bf w0 M0 F ((tb.bD ⟨el,s,[]⟩).aY id {ob with xs:=ob.xs.set j (.view tb.nx 0 0 s none)}) (g.eN tb.nx 0 0) w:=by
 obtain⟨b,c,f1,fr,f0⟩:=h1.boxes id ob hl;have CF:ob.xs≠[]:=λhz=>by grind
 have iQ:0<c:=qZ λhz=>CF (f0 hz);obtain⟨cur,f2,f3,⟨tt,fz,f4,fo⟩,f5,f6,f7,f8,f9⟩:=fr iQ;have hid:id<tb.nx:=h1.Eb f1;obtain⟨u,hu,hr⟩:=f8.get hj;have hz:=bO hr;have hle:=h1.nP 0 0;have jS:=h1.GD el s;have hl':lk id (tb.bD ⟨el,s,[]⟩).bx=some ob:=by
  grind [Tb.bD,lk]
 have hv:bJ (g.eN tb.nx 0 0) u (.view tb.nx 0 0 s none):=by
  cases hz;have:=bJ.view (g:=g.eN tb.nx 0 0) (id:=tb.nx) (b:=0) (c:=0) (o:=0) (n:=0) (s:=s) (a:=none) (m:=none) (by simp[G.eN]) O O (.void rfl (.inl rfl)) H;omega
 have key:=jS.aY (o':={ob with xs:=ob.xs.set j (.view tb.nx 0 0 s none)}) (cur':=cur) hl' (show(g.eN tb.nx 0 0).ob id=some (b,c)from hle.ob _ _ f1) iQ f4 rfl rfl rfl (by grind) (by
  simp only[vh];exact tV j _ hu (f8.mono hle) hv) O
 grind [setRow_self]
end
section
variable{w0:World}{M0:Mem}{F:Nat->Prop}{tb:Tb}{g:G}{w:World}
def bf.adS(h1:bf w0 M0 F tb g w){id j:Nat}{x y:AV}{ob:Ob}(hl:lk id tb.bx=some ob)(hj:ob.xs[j]?=some x)(hxy:x.to y):bf w0 M0 F (tb.aY id {ob with xs:=ob.xs.set j y}) g w:=by
 obtain⟨b,c,f1,fr,f0⟩:=h1.boxes id ob hl;have CF:ob.xs≠[]:=λhz=>by grind
 have iQ:0<c:=qZ λhz=>CF (f0 hz);obtain⟨cur,f2,f3,⟨tt,fz,f4,fo⟩,f5,f6,f7,f8,f9⟩:=fr iQ;obtain⟨u,hu,hr⟩:=f8.get hj;have key:=h1.aY (o':={ob with xs:=ob.xs.set j y}) (cur':=cur) hl f1 iQ f4 rfl rfl rfl (by grind) (by
  grind [tV,G9]) O
 grind [setRow_self]
end
def TD{iM:Nat}{st:AS}(id j:Nat)(x y:AV)(ob:Ob)(hl:lk id st.tb.bx=some ob)(hj:ob.xs[j]?=some x)(hxy:x.to y):st.le iM ⟨st.sl,st.tb.aY id {ob with xs:=ob.xs.set j y}⟩:=by
 rintro fr a w hf ⟨g,h0,h1,h2,h3,h4⟩;exact⟨_,h0,h1.adS hl hj hxy,h2,h3,h4⟩
def mI{P:Program}{f:FuncId}{xs:List AV}{tb a_:Tb}{r:AV}{id j:Nat}{x:AV}(y:AV){ob:Ob}(h:dm P f xs tb r a_)(hl:lk id a_.bx=some ob)(hj:ob.xs[j]?=some x)(hxy:x.to y):dm P f xs tb r (a_.aY id {ob with xs:=ob.xs.set j y}):=se h λ_ _ _ g _ _ hw hv=>⟨g,G.le_refl g,hw.adS hl hj hxy,hv⟩
def CZ{iM:Nat}{st:AS}(id j el s:Nat)(ob:Ob)(hl:lk id st.tb.bx=some ob)(hj:ob.xs[j]?=some (.p .nil)):st.le iM ⟨st.sl,(st.tb.bD ⟨el,s,[]⟩).aY id {ob with xs:=ob.xs.set j (.view st.tb.nx 0 0 s none)}⟩:=by
 rintro fr a w hf ⟨g,h0,h1,h2,h3,h4⟩;exact⟨_,h0.trans (h1.nP 0 0),h1.adR el s hl hj,λt=>(h2 t).mono (h1.nP 0 0),h3,h4⟩
section
variable{P:Program}{f:FuncId}{xs:List AV}{tb a_:Tb}{r:AV}
def Rr{id j:Nat}{el s:Nat}{ob:Ob}(hl:lk id tb.bx=some ob)(hj:ob.xs[j]?=some (.p .nil)):RLe r tb r ((tb.bD ⟨el,s,[]⟩).aY id {ob with xs:=ob.xs.set j (.view tb.nx 0 0 s none)}):=by
 intro w0 M0 F g w v hw hv;exact⟨_,hw.nP 0 0,hw.adR el s hl hj,hv.mono (hw.nP 0 0)⟩
def mJ{id j:Nat}(el s:Nat){ob:Ob}(h:dm P f xs tb r a_)(hl:lk id a_.bx=some ob)(hj:ob.xs[j]?=some (.p .nil)):dm P f xs tb r ((a_.bD ⟨el,s,[]⟩).aY id {ob with xs:=ob.xs.set j (.view a_.nx 0 0 s none)}):=se h (Rr hl hj)
end
mutual
theorem OG{rn:List (Nat×Nat)}{nx:Nat}(h:∀p∈rn,nx<=p.1):∀(x:AV),x.ja nx=true->x.cp (Cf rn)=x
 | .p _,_=>rfl
 | .obj i o,hx=>by grind [AV.ja,AV.cp,nS]
 | .own i o,hx=>by grind [AV.ja,AV.cp,nS]
 | .full _,_=>rfl
 | .nn _,_=>rfl
 | .view i o n s c,hx=>by grind [AV.ja,AV.cp,nS]
 | .agg t xs,hx=>by simp only[AV.ja]at hx;simp only[AV.cp];rw[oH h xs hx]
 | .mB f xs,hx=>by simp only[AV.ja]at hx;simp only[AV.cp];rw[oH h xs hx]
 | .pK f xs,hx=>by simp only[AV.ja]at hx;simp only[AV.cp];rw[oH h xs hx]
 | .o_ t x,hx=>by simp only[AV.ja]at hx;simp only[AV.cp];rw[OG h x hx]
 | .any,_=>rfl
theorem oH{rn:List (Nat×Nat)}{nx:Nat}(h:∀p∈rn,nx<=p.1):∀(xs:List AV),AV.ja.iA nx xs=true->AV.cp.eu (Cf rn) xs=xs
 |[],_=>rfl
 |x::l,hx=>by
  simp only[AV.ja.iA,bG]at hx;simp only[AV.cp.eu];rw[OG h x hx.1,oH h l hx.2]
end
mutual
theorem JV{m n:Nat}(h:m<=n):∀(x:AV),x.ja m=true->x.ja n=true
 | .p _,_=>rfl
 | .obj i o,hx=>by grind [AV.ja]
 | .own i o,hx=>by grind [AV.ja]
 | .full _,_=>rfl
 | .nn _,_=>rfl
 | .view i o n s c,hx=>by grind [AV.ja]
 | .agg t xs,hx=>by simp only[AV.ja]at hx⊢;exact nZ h xs hx
 | .mB f xs,hx=>by simp only[AV.ja]at hx⊢;exact nZ h xs hx
 | .pK f xs,hx=>by simp only[AV.ja]at hx⊢;exact nZ h xs hx
 | .o_ t x,hx=>by simp only[AV.ja]at hx⊢;exact JV h x hx
 | .any,_=>rfl
theorem nZ{m n:Nat}(h:m<=n):∀(xs:List AV),AV.ja.iA m xs=true->AV.ja.iA n xs=true
 |[],_=>rfl
 |x::l,hx=>by
  simp only[AV.ja.iA,bG]at hx⊢;exact⟨JV h x hx.1,nZ h l hx.2⟩
end
@[simp]def adT{xs:List PC}:bA (.agg false xs)=xs.map .p:=(rfl)
@[simp]def al4{i o:Nat}{l:List AV}:fS (.obj i o::l)=none:=(rfl)
@[simp]def ai5{i o n s:Nat}{c:Option Nat}{l:List AV}:fS (.view i o n s c::l)=none:=(rfl)
@[simp]def al5{f:Fn}{xs:List AV}{l:List AV}:fS (.mB f xs::l)=none:=(rfl)
@[simp]def al6{f:Fn}{xs:List AV}{l:List AV}:fS (.pK f xs::l)=none:=(rfl)
def BI{P:Program}{f:FuncId}{r:AV}{a_:Tb}{pre post:List AV}{id n s:Nat}{bx:List (Nat×Ob)}{rw:List (Nat×TypeId×Nat)}{nx:Nat}(hc:eE P f)(h1:∀c,n<=c->0<c->c<=maxLen->dm P f (pre++ .view id 0 n s (some c)::post) ⟨bx,rw,nx⟩ r a_)(h2:n=0->dm P f (pre++ .p (.sl [])::post) ⟨bx,rw,nx⟩ r a_):dm P f (pre++ .view id 0 n s none::post) ⟨bx,rw,nx⟩ r a_:=by
 refine⟨hc,λg w vs F hw hvs=>?_⟩;obtain⟨us,ws,rfl,hu,hws⟩:=aV.split pre hvs;cases hws with
 |cons h hs=>
  cases h with
  |view e h3 h4 h5 hm=>
   rename_i b c ad;cases h5 with
   |void h0 AF=>
    subst h0;have hn:n=0:=O;subst hn;refine(h2 rfl).2 g w _ F hw (hu.append (.cons ?_ hs));rcases AF with rfl|⟨a',rfl⟩
    .exact .p .dX
    .exact .p (.ug a')
   |real off hp ha ho=>
    exact(h1 c O hp h4).2 g w _ F hw (hu.append (.cons (.view e h3 h4 (.real off hp ha ho) (λk hk=>by grind)) hs))
end Go.Av
namespace Go.Av
open Go.RowKit
def fh:List Nat->Nat->Nat->Nat
 |[],n,i=>n+i
 |j::_,_,0=>j
 |_::l,n,i+1=>fh l n i
def LY:List Nat->Nat->Nat->Option Nat
 |[],n,j=>if n<=j then some (j-n)else none
 |i::l,n,j=>if j=i then some 0 else(LY l n j).map (·+1)
theorem pF:∀(l:List Nat) (n i:Nat),l.length<=i->fh l n i=n+(i-l.length)
 |[],n,i,_=>by simp[fh]
 |_::l,n,0,h=>by grind
 |_::l,n,i+1,h=>by
  simp only[cF]at h⊢;rw[fh,pF l n i O];omega
theorem Wt:∀(l:List Nat) (n i:Nat),i<l.length->fh l n i∈l
 |[],n,i,h=>by grind
 |j::l,n,0,h=>by simp[fh]
 |j::l,n,i+1,h=>by
  simp only[cF]at h;exact yH _ (Wt l n i O)
theorem A3:∀(l:List Nat) (n:Nat),l.Nodup->(∀j∈l,j<n)->∀i,LY l n (fh l n i)=some i
 |[],n,_,_,i=>by simp[fh,LY]
 |j::l,n,hn,hl,0=>by simp[fh,LY]
 |j::l,n,hn,hl,i+1=>by
  have hn:=List.nodup_cons.1 hn;have ih:=A3 l n hn.2 (λk hk=>hl k (yH _ hk)) i
  grind [fh,Wt,pF,LY]
theorem G2:∀(l:List Nat) (n j i:Nat),LY l n j=some i->fh l n i=j
 |[],n,j,i,h=>by
  grind [LY,fh]
 |k::l,n,j,i,h=>by
  simp only[LY]at h;split at h
  .rename_i e;injection h with h;subst h;subst e;rfl
  .cases h2:LY l n j with
   |none=>grind
   |some i'=>rw[h2]at h;simp at h;subst h;exact G2 l n j i' h2
def fD(ρ:Nat->Nat):List (Nat×Ob)->List (Nat×Ob)
 |[]=>[]
 |(i,o)::l=>(ρ i,{o with xs:=AV.cp.eu ρ o.xs})::fD ρ l
def jj(ρ:Nat->Nat):List (Nat×TypeId×Nat)->List (Nat×TypeId×Nat)
 |[]=>[]
 |(i,r)::l=>(ρ i,r)::jj ρ l
def Tb.cp(ρ:Nat->Nat)(tb:Tb):Tb:=⟨fD ρ tb.bx,jj ρ tb.rw,ρ tb.nx⟩
def tf{ρ:Nat->Nat}(hρ:∀i j,ρ i=ρ j->i=j){i:Nat}{o:Ob}:∀{l:List (Nat×Ob)},lk i l=some o->lk (ρ i) (fD ρ l)=some {o with xs:=AV.cp.eu ρ o.xs}
 |[],h=>by simp_all
 |(j,p)::l,h=>by
  simp only[lk]at h;simp only[fD,lk];split at h
  .grind
  .rename_i e;rw[ah (λh=>e (hρ _ _ h))];exact tf hρ h
theorem tg{ρ:Nat->Nat}(hρ:∀i j,ρ i=ρ j->i=j){i:Nat}{o:TypeId×Nat}:∀{l:List (Nat×TypeId×Nat)},lk i l=some o->lk (ρ i) (jj ρ l)=some o
 |[],h=>by simp_all
 |(j,p)::l,h=>by
  simp only[lk]at h;simp only[jj,lk];split at h
  .grind
  .rename_i e;rw[ah (λh=>e (hρ _ _ h))];exact tg hρ h
def ET{ρ:Nat->Nat}{j:Nat}{q:Ob}:∀{l:List (Nat×Ob)},lk j (fD ρ l)=some q->∃i o,j=ρ i/\q={o with xs:=AV.cp.eu ρ o.xs}/\(∀hρ:∀i j,ρ i=ρ j->i=j,lk i l=some o)
 |[],h=>by simp[fD]at h
 |(k,p)::l,h=>by
  simp only[fD,lk]at h;split at h
  .grind [lk]
  .rename_i e;obtain⟨i,o,h1,h2,h3⟩:=ET h
   grind [lk]
theorem EU{ρ:Nat->Nat}{j:Nat}{q:TypeId×Nat}:∀{l:List (Nat×TypeId×Nat)},lk j (jj ρ l)=some q->∃i,j=ρ i/\(∀hρ:∀i j,ρ i=ρ j->i=j,lk i l=some q)
 |[],h=>by simp[jj]at h
 |(k,p)::l,h=>by
  simp only[jj,lk]at h;split at h
  .grind [lk]
  .rename_i e;obtain⟨i,h1,h3⟩:=EU h
   grind [lk]
def G.pull(g:G)(ρ:Nat->Nat):G:=⟨g.M,λi=>g.ob (ρ i),λi=>g.rv (ρ i)⟩
mutual
theorem EV{g:G}{ρ:Nat->Nat}:∀{v:Value} (x:AV),bJ g v (x.cp ρ)->bJ (g.pull ρ) v x
 |v,.p y,h=>by simp only[AV.cp]at h;cases h with|p h1=>exact .p h1
 |v,.obj id off,h=>by simp only[AV.cp]at h;cases h with|obj e=>exact .obj e
 |v,.own id xs,h=>by simp only[AV.cp]at h;cases h with|own e hr=>exact .own e hr
 |v,.full xs,h=>by simp only[AV.cp]at h;cases h with|full hr=>exact .full hr
 |v,.nn xs,h=>by simp only[AV.cp]at h;cases h with|nn hr=>exact .nn hr
 |v,.view id o n s c,h=>by simp only[AV.cp]at h;cases h with|view e h1 h2 h3 h4=>exact .view (g:=g.pull ρ) e h1 h2 h3 h4
 |v,.agg t xs,h=>by
  simp only[AV.cp]at h;cases h with
  |agg hs h1=>exact .agg (kV xs hs) h1
  |sE hs=>exact .sE (kV xs hs)
 |v,.mB f xs,h=>by
  simp only[AV.cp]at h;cases h with
  |mB hs=>exact .mB (kV xs hs)
 |v,.pK f xs,h=>by
  simp only[AV.cp]at h;cases h with
  |pK hs=>exact .pK (kV xs hs)
 |v,.o_ t x,h=>by
  simp only[AV.cp]at h;cases h with
  |o_ h1=>exact .o_ (EV x h1)
 |v,.any,_=> .any v
theorem kV{g:G}{ρ:Nat->Nat}:∀{vs:List Value} (xs:List AV),aV g vs (AV.cp.eu ρ xs)->aV (g.pull ρ) vs xs
 |_,[],h=>by simp only[AV.cp.eu]at h;cases h;exact .nil
 |_,x::xs,h=>by
  simp only[AV.cp.eu]at h;cases h with|cons h1 hs=>exact .cons (EV x h1) (kV xs hs)
end
structure aa4(g' I7:G)(ρ:Nat->Nat):Prop where
 M:I7.M=g'.M
 ob:∀i,I7.ob (ρ i)=g'.ob i
 rv:∀i,I7.rv (ρ i)=g'.rv i
mutual
theorem zB{g' I7:G}{ρ:Nat->Nat}(hp:aa4 g' I7 ρ):∀{v:Value} (x:AV),bJ g' v x->bJ I7 v (x.cp ρ)
 |v,.p y,h=>by cases h with|p h1=>exact .p (hp.M▸h1)
 |v,.obj id off,h=>by cases h with|obj e=>exact .obj ((hp.ob _).trans e)
 |v,.own id xs,h=>by cases h with|own e hr=>exact .own ((hp.rv _).trans e) (hp.M▸hr)
 |v,.full xs,h=>by cases h with|full hr=>exact .full (hp.M▸hr)
 |v,.nn xs,h=>by cases h with|nn hr=>exact .nn (hp.M▸hr)
 |v,.view id o n s c,h=>by cases h with|view e h1 h2 h3 h4=>exact .view ((hp.ob _).trans e) h1 h2 h3 h4
 |v,.agg t xs,h=>by
  cases h with
  |agg hs h1=>exact .agg (mY hp xs hs) h1
  |sE hs=>exact .sE (mY hp xs hs)
 |v,.mB f xs,h=>by
  cases h with
  |mB hs=>exact .mB (mY hp xs hs)
 |v,.pK f xs,h=>by
  cases h with
  |pK hs=>exact .pK (mY hp xs hs)
 |v,.o_ t x,h=>by
  cases h with
  |o_ h1=>exact .o_ (zB hp x h1)
 |v,.any,_=> .any v
theorem mY{g' I7:G}{ρ:Nat->Nat}(hp:aa4 g' I7 ρ):∀{vs:List Value} (xs:List AV),aV g' vs xs->aV I7 vs (AV.cp.eu ρ xs)
 |_,[],h=>by cases h;exact .nil
 |_,x::xs,h=>by cases h with|cons h1 hs=>exact .cons (zB hp x h1) (mY hp xs hs)
end
section
variable{w0:World}{M0:Mem}{F:Nat->Prop}{tb:Tb}{g:G}{w:World}
def bf.pull{ρ:Nat->Nat}(hρ:∀i j,ρ i=ρ j->i=j)(hge:∀i,tb.nx<=i->ρ tb.nx<=ρ i)(h:bf w0 M0 F (tb.cp ρ) g w):bf w0 M0 F tb (g.pull ρ) w:=by
 refine⟨h.holds,h.keep,h.old,h.HC,λi o e=>?_,λi el sz e=>?_,λi j o p b c b' c' ei ej hij e1 e2 p1 p2=>?_,λi j r s u v b ei ej hij e1 e2 e3=>?_,λi j o r b c v ei ej e1 e2 p1=>?_,λi hi=>?_⟩
 .obtain⟨b,c,f1,fr,f0⟩:=h.boxes _ _ (tf hρ e);refine⟨b,c,f1,λhp=>?_,λhz=>?_⟩
  .obtain⟨cur,f2,f3,f4,f5,f6,f7,f8,f9⟩:=fr hp;simp only[jO]at f7 f8;exact⟨cur,f2,f3,f4,f5,f6,f7,kV _ f8,f9⟩
  grind [jO]
 .obtain⟨v,f1,f2⟩:=h.rows _ _ _ (tg hρ e);exact⟨v,f1,f2⟩
 .exact h.iC _ _ _ _ b c b' c' (tf hρ ei) (tf hρ ej) (λe=>hij (hρ _ _ e)) e1 e2 p1 p2
 .exact h.jA _ _ _ _ u v b (tg hρ ei) (tg hρ ej) (λe=>hij (hρ _ _ e)) e1 e2 e3
 .exact h.gS _ _ _ _ b c v (tf hρ ei) (tg hρ ej) e1 e2 p1
 .exact h.fresh (ρ i) (hge i hi)
def bf.push{g' I7:G}{ρ:Nat->Nat}(hρ:∀i j,ρ i=ρ j->i=j)(hp:aa4 g' I7 ρ)(hge:∀j,ρ tb.nx<=j->∃i,tb.nx<=i/\j=ρ i)(h:bf w0 M0 F tb g' w):bf w0 M0 F (tb.cp ρ) I7 w:=by
 have hM:=hp.M;have Kg:∀{j q},lk j (tb.cp ρ).bx=some q->∃i o,j=ρ i/\q={o with xs:=AV.cp.eu ρ o.xs}/\lk i tb.bx=some o:=λe=>by
  obtain⟨i,o,h1,h2,h3⟩:=ET e
  grind
 have hrw:∀{j q},lk j (tb.cp ρ).rw=some q->∃i,j=ρ i/\lk i tb.rw=some q:=λe=>by
  obtain⟨i,h1,h3⟩:=EU e
  grind
 refine⟨hM▸h.holds,h.keep,hM▸h.old,hM▸h.HC,λi o e=>?_,λi el sz e=>?_,λi j o p b c b' c' ei ej hij e1 e2 p1 p2=>?_,λi j r s u v b ei ej hij e1 e2 e3=>?_,λi j o r b c v ei ej e1 e2 p1=>?_,λj hj=>?_⟩
 .obtain⟨i',o',rfl,rfl,k⟩:=Kg e;obtain⟨b,c,f1,fr,f0⟩:=h.boxes _ _ k;refine⟨b,c,(hp.ob _).trans f1,λhp'=>?_,λhz=>by simp only[f0 hz];rfl⟩;obtain⟨cur,f2,f3,f4,f5,f6,f7,f8,f9⟩:=fr hp';refine⟨cur,f2,λoff=>by rw[hM];grind,f4,f5,f6,by grind [jO],?_,f9⟩
  grind [jO,mY]
 .obtain⟨i',rfl,k⟩:=hrw e;obtain⟨v,f1,f2⟩:=h.rows _ _ _ k;exact⟨v,(hp.rv _).trans f1,by rw[hM];omega⟩
 .obtain⟨i',o',rfl,rfl,ki⟩:=Kg ei;obtain⟨j',p',rfl,rfl,kj⟩:=Kg ej;exact h.iC _ _ _ _ b c b' c' ki kj (λe=>hij (by rw[e])) ((hp.ob _).symm.trans e1) ((hp.ob _).symm.trans e2) p1 p2
 .obtain⟨i',rfl,ki⟩:=hrw ei;obtain⟨j',rfl,kj⟩:=hrw ej;exact h.jA _ _ _ _ u v b ki kj (λe=>hij (by rw[e])) ((hp.rv _).symm.trans e1) ((hp.rv _).symm.trans e2) e3
 .obtain⟨i',o',rfl,rfl,ki⟩:=Kg ei;obtain⟨j',rfl,kj⟩:=hrw ej;exact h.gS _ _ _ _ b c v ki kj ((hp.ob _).symm.trans e1) ((hp.rv _).symm.trans e2) p1
 .obtain⟨i,h1,rfl⟩:=hge j hj;rw[hp.ob,hp.rv];exact h.fresh i h1
end
def xg{P:Program}{f:FuncId}{xs:List AV}{r:AV}{tb a_:Tb}(h:dm P f xs tb r a_)(rn:List Nat)(n:Nat)(hl:rn.length=tb.nx)(hm:tb.nx<=a_.nx)(hnd:rn.Nodup)(hlt:∀j∈rn,j<n):dm P f (AV.cp.eu (fh rn n) xs) (tb.cp (fh rn n)) (r.cp (fh rn n)) (a_.cp (fh rn n)):=by
 have inj:∀i j,fh rn n i=fh rn n j->i=j:=λi j e=>by
  grind [A3]
 have qp:fh rn n tb.nx=n:=by grind [pF]
 refine⟨h.1,λg w vs F hw hvs=>?_⟩;have alC:=hw.pull (tb:=tb) inj (λi hi=>by grind [pF]);refine(h.2 (g.pull (fh rn n)) w vs F alC (kV _ hvs)).mono ?_;rintro e w' ⟨v,g',rfl,h1,h2,h3⟩
 let I7:G:=⟨g'.M,λj=>match LY rn n j with|some i=>g'.ob i|none=>g.ob j,λj=>match LY rn n j with|some i=>g'.rv i|none=>g.rv j⟩
 have hp:aa4 g' I7 (fh rn n):=⟨rfl,λi=>by grind [A3],λi=>by grind [A3]⟩;refine⟨v,I7,rfl,⟨h1.M,λj p e=>?_,λj p e=>?_⟩,h2.push inj hp ?_,zB hp _ h3⟩
 .show(match LY rn n j with|some i=>g'.ob i|none=>g.ob j)=_;cases hj:LY rn n j with
  |none=>omega
  |some i=>exact h1.ob i p (by show g.ob (fh rn n i)=_;grind [G2])
 .show(match LY rn n j with|some i=>g'.rv i|none=>g.rv j)=_;cases hj:LY rn n j with
  |none=>omega
  |some i=>exact h1.rv i p (by show g.rv (fh rn n i)=_;grind [G2])
 .intro j hj;rw[pF _ _ _ O]at hj;refine⟨rn.length+(j-n),O,?_⟩
  grind [pF]
@[simp]def anB{n i:Nat}:fh [] n i=n+i:=(rfl)
@[simp]def alD{j n:Nat}{l:List Nat}:fh (j::l) n 0=j:=(rfl)
@[simp]def alE{j n i:Nat}{l:List Nat}:fh (j::l) n (i+1)=fh l n i:=(rfl)
@[simp]def aiV{ρ:Nat->Nat}:fD ρ []=[]:=(rfl)
@[simp]def agV{ρ:Nat->Nat}{i sz:Nat}{el:TypeId}{xs:List AV}{l:List (Nat×Ob)}:fD ρ ((i,⟨el,sz,xs⟩)::l)=(ρ i,⟨el,sz,AV.cp.eu ρ xs⟩)::fD ρ l:=(rfl)
@[simp]def aa5{ρ:Nat->Nat}{l m:List (Nat×Ob)}:fD ρ (l++m)=fD ρ l++fD ρ m:=by
 induction l with
 |nil=>rfl
 |cons x l ih=>obtain⟨i,o⟩:=x;simp[fD,ih]
@[simp]def aiW{ρ:Nat->Nat}:jj ρ []=[]:=(rfl)
@[simp]def agW{ρ:Nat->Nat}{i:Nat}{r:TypeId×Nat}{l:List (Nat×TypeId×Nat)}:jj ρ ((i,r)::l)=(ρ i,r)::jj ρ l:=(rfl)
@[simp]def alF{ρ:Nat->Nat}{bx:List (Nat×Ob)}{rw:List (Nat×TypeId×Nat)}{nx:Nat}:Tb.cp ρ ⟨bx,rw,nx⟩=⟨fD ρ bx,jj ρ rw,ρ nx⟩:=(rfl)
section
variable{P:Program}{tb:Tb}{kt:AV->Tb->Prop}
def aD{gf:FuncId}{ys l:List AV}{ts ts':Tb}{r:AV}(rn:List Nat)(h:dm P gf ys ts r ts')(hs:rn.length=ts.nx/\ts.nx<=ts'.nx/\rn.Nodup/\∀j∈rn,j<tb.nx)(hl:toAll l (AV.cp.eu (fh rn tb.nx) ys))(hb:aA tb.bx (fD (fh rn tb.nx) ts.bx))(hr:aA tb.rw (jj (fh rn tb.nx) ts.rw))(hk:kt (r.cp (fh rn tb.nx)) (tb.merge (ts.cp (fh rn tb.nx)) (ts'.cp (fh rn tb.nx)))):jN P gf [] l tb kt:=aN (xg h rn tb.nx hs.1 hs.2.1 hs.2.2.1 hs.2.2.2) hl hb hr (by show fh rn tb.nx ts.nx=tb.nx;grind [pF]) hk
end
def jf{P:Program}{tb:Tb}{kt:AV->Tb->Prop}{gf:FuncId}{ys l:List AV}{ts ts':Tb}{r:AV}(rn:List Nat)(h:dm P gf ys ts r ts')(hk:kt (r.cp (fh rn tb.nx)) (tb.merge (ts.cp (fh rn tb.nx)) (ts'.cp (fh rn tb.nx))))(hs:rn.length=ts.nx/\ts.nx<=ts'.nx/\rn.Nodup/\∀j∈rn,j<tb.nx:=by simp)(hl:toAll l (AV.cp.eu (fh rn tb.nx) ys):=by simp)(hb:aA tb.bx (fD (fh rn tb.nx) ts.bx):=by simp)(hr:aA tb.rw (jj (fh rn tb.nx) ts.rw):=by simp):jN P gf [] l tb kt:=aD rn h hs hl hb hr hk
def Dy{P:Program}{tb:Tb}{kt:AV->Tb->Prop}{gf:FuncId}{ys l:List AV}{ts ts':Tb}{r:AV}(rn:List Nat)(h:dm P gf ys ts r ts')(hk:kt (r.cp (fh rn tb.nx)) (tb.merge (ts.cp (fh rn tb.nx)) (ts'.cp (fh rn tb.nx))))(hs:rn.length=ts.nx/\ts.nx<=ts'.nx/\rn.Nodup/\∀j∈rn,j<tb.nx:=by simp)(hl:toAll l (AV.cp.eu (fh rn tb.nx) ys):=by simp)(hb:aA tb.bx (fD (fh rn tb.nx) ts.bx):=by simp[aA])(hr:aA tb.rw (jj (fh rn tb.nx) ts.rw):=by simp):jN P gf [] l tb kt:=aD rn h hs hl hb hr hk
end Go.Av
namespace Go.Av
open Go.Proofs Go.Proofs.Tryz
def mixed:prog.follows .mixedOrders=true:=bp
@[simp]def aqH{x y:UInt8}:((x.toNat:Int) !=(y.toNat:Int))=(x !=y):=by
 rw[uO];simp[<-yt];omega
def aq(rs:List AV){f:FuncId}{fn:Func}{c:Code}{xs:List AV}{r:AV}{tb a_:Tb}(md:List Nat)(cls:List (Nat×List (Nat×Cls)))(lab:List (Nat×Nat))(hf:prog.funcs[f]?=some fn)(hb:fn.body=some c)(h:aw prog ⟨md,cls,lab,tb.nx,[]⟩ c (mD xs tb) (ur prog fn (Gg tb.nx rs a_)))(hnm:(fn.name=="runtime.NumGoroutine")=false:=by kernel_rfl)(hk:codeOk cls [] fn.ntmps c=true:=by kernel_rfl)(hr:r=wL rs:=by rfl)(hx:xs.length<=fn.ntmps:=by exact Nat.le_of_ble_eq_true rfl):dm prog f xs tb r a_:=zl md cls lab mixed hf hb hnm hk hx hr h
def aC(rs:List AV){f:FuncId}{fn:Func}{c:Code}{xs:List AV}{r:AV}{tb a_:Tb}(hf:prog.funcs[f]?=some fn)(hb:fn.body=some c)(h:aw prog ⟨[],[],[],tb.nx,[]⟩ c (mD xs tb) (ur prog fn (Gg tb.nx rs a_)))(hnm:(fn.name=="runtime.NumGoroutine")=false:=by kernel_rfl)(hk:codeOk [] [] fn.ntmps c=true:=by kernel_rfl)(hr:r=wL rs:=by rfl)(hx:xs.length<=fn.ntmps:=by exact Nat.le_of_ble_eq_true rfl):dm prog f xs tb r a_:=aq rs [] [] [] hf hb h hnm hk hr hx
def dK(ys:List PC){f:FuncId}{fn:Func}{c:Code}{xs:List PC}{r:PC}(md:List Nat)(cls:List (Nat×List (Nat×Cls)))(lab:List (Nat×Nat))(hf:prog.funcs[f]?=some fn)(hb:fn.body=some c)(h:aw prog ⟨md,cls,lab,0,[]⟩ c (mD (xs.map .p) ⟨[],[],0⟩) (ur prog fn (ED ys)))(hnm:(fn.name=="runtime.NumGoroutine")=false:=by kernel_rfl)(hk:codeOk cls [] fn.ntmps c=true:=by kernel_rfl)(hr:r=CT ys:=by rfl)(hx:xs.length<=fn.ntmps:=by exact Nat.le_of_ble_eq_true rfl):nc prog f xs r:=kU md cls lab mixed hf hb hnm hk hx hr h
def ay(ys:List PC){f:FuncId}{fn:Func}{c:Code}{xs:List PC}{r:PC}(hf:prog.funcs[f]?=some fn)(hb:fn.body=some c)(h:aw prog ⟨[],[],[],0,[]⟩ c (mD (xs.map .p) ⟨[],[],0⟩) (ur prog fn (ED ys)))(hnm:(fn.name=="runtime.NumGoroutine")=false:=by kernel_rfl)(hk:codeOk [] [] fn.ntmps c=true:=by kernel_rfl)(hr:r=CT ys:=by rfl)(hx:xs.length<=fn.ntmps:=by exact Nat.le_of_ble_eq_true rfl):nc prog f xs r:=dK ys [] [] [] hf hb h hnm hk hr hx
abbrev bN:=@dm prog
abbrev cq:=@nc prog
end Go.Av
namespace Go.Av
def HG{A V:List AV}{z:AV}{n m i:Nat}(hA:A.length=n)(hV:V.length=m)(hi:i<=n):List.take (i+m) (bH (i+m) (List.take i (bH i (List.take i A++List.replicate (n+m-i) z))++(V++List.drop (i+m) (bH i (List.take i A++List.replicate (n+m-i) z)))))++(List.take (n-i) (List.drop i A)++List.drop (i+m+(n-i)) (bH (i+m) (List.take i (bH i (List.take i A++List.replicate (n+m-i) z))++(V++List.drop (i+m) (bH i (List.take i A++List.replicate (n+m-i) z))))))=List.take i A++(V++List.drop i A):=by
 have l1:(List.take i A).length=i:=by grind
 rw[fj (k:=i) (by grind)];have e1:List.take i (List.take i A++List.replicate (n+m-i) z)=List.take i A:=gN l1;have e2:List.drop (i+m) (List.take i A++List.replicate (n+m-i) z)=List.replicate (n-i) z:=by
  rw[<-oy,kr l1,List.drop_replicate];grind
 rw[e1,e2];have l2:(List.take i A++V).length=i+m:=by grind
 rw[fj (k:=i+m) (by grind)];rw[<-cW (List.take i A) V,gN l2,<-oy,kr l2]
 grind [gv]
def HI{A V:List AV}{n m i k:Nat}(hA:A.length=n)(hV:V.length=m)(hi:i<=n)(hk:k=n-i):List.take i (bH i (List.take (i+m) (bH (i+m) A)++(List.take k (List.drop i (bH (i+m) A))++List.drop (i+m+k) (bH (i+m) A))))++(V++List.drop (i+m) (bH i (List.take (i+m) (bH (i+m) A)++(List.take k (List.drop i (bH (i+m) A))++List.drop (i+m+k) (bH (i+m) A)))))=List.take i A++(V++List.drop i A):=by
 subst hk;have l1:(List.take (i+m) (bH (i+m) A)).length=i+m:=by grind [jW]
 have hp:bH (i+m) A=A++List.replicate (i+m-n) .any:=by grind [bH]
 rw[fj (k:=i) (by grind)];rw[kr l1];have e1:List.take i (List.take (i+m) (bH (i+m) A)++(List.take (n-i) (List.drop i (bH (i+m) A))++List.drop (i+m+(n-i)) (bH (i+m) A)))=List.take i A:=by
  grind
 have e2:List.take (n-i) (List.drop i (bH (i+m) A))=List.drop i A:=by
  grind
 have e3:List.drop (i+m+(n-i)) (bH (i+m) A)=[]:=gM (by grind)
 grind
def QH{Q V S R:List AV}{i m k:Nat}(hP:Q.length=i)(hV:V.length=m)(hS:S.length=k)(hR:R.length=m+k):List.take (i+m) (bH (i+m) (List.take i (bH i (Q++R))++(V++List.drop (i+m) (bH i (Q++R)))))++(S++List.drop (i+m+k) (bH (i+m) (List.take i (bH i (Q++R))++(V++List.drop (i+m) (bH i (Q++R))))))=Q++(V++S):=by
 rw[fj (k:=i) (by grind)];rw[gN hP];have e2:List.drop (i+m) (Q++R)=List.drop m R:=by rw[<-oy,kr hP]
 rw[e2];have l2:(Q++V).length=i+m:=by grind
 rw[fj (k:=i+m) (by grind)];rw[<-cW Q V,gN l2,<-oy,kr l2];simp_all
def QI{A V:List AV}{n m i j k:Nat}(hA:A.length=n)(hV:V.length=m)(hi:i<=n)(hj:j<=n)(hij:j<i+m)(hk:k=n-j):List.take i (bH i (List.take (i+m) (bH (i+m) A)++(List.take k (List.drop j (bH (i+m) A))++List.drop (i+m+k) (bH (i+m) A))))++(V++List.drop (i+m) (bH i (List.take (i+m) (bH (i+m) A)++(List.take k (List.drop j (bH (i+m) A))++List.drop (i+m+k) (bH (i+m) A)))))=List.take i A++(V++List.drop j A):=by
 subst hk;have l1:(List.take (i+m) (bH (i+m) A)).length=i+m:=by grind [jW]
 have hp:bH (i+m) A=A++List.replicate (i+m-n) .any:=by grind [bH]
 rw[fj (k:=i) (by grind)];rw[kr l1];have e1:∀R,List.take i (List.take (i+m) (bH (i+m) A)++R)=List.take i A:=λR=>by
  grind
 have e2:List.take (n-j) (List.drop j (bH (i+m) A))=List.drop j A:=by
  grind
 have e3:List.drop (i+m+(n-j)) (bH (i+m) A)=[]:=gM (by grind)
 grind
def LS{A V:List AV}{n m i j k:Nat}(hA:A.length=n)(hV:V.length=m)(hj:j<=n)(hij:i+m<=j)(hk:k=n-j)(R:List AV):List.take (i+m+k) (List.take (i+m) (List.take i A++(V++List.drop (i+m) A))++(List.take k (List.drop j (List.take i A++(V++List.drop (i+m) A)))++R))=List.take i A++(V++List.drop j A):=by
 subst hk;have l1:(List.take i A++V).length=i+m:=by grind
 rw[<-cW (List.take i A) V,gN l1];have e1:List.drop j (List.take i A++V++List.drop (i+m) A)=List.drop j A:=by
  have:j=(i+m)+(j-(i+m)):=O;rw[this,<-oy,kr l1,oy]
 grind [List.length_drop]
def wW{A R:List AV}{n i j k:Nat}(hA:A.length=n)(hij:i<=j)(hj:j<=n)(hk:k=i+(n-j)):List.take k (List.take i A++(List.take (n-j) (List.drop j A)++R))=List.take i A++List.drop j A:=by
 grind
end Go.Av
namespace Go.Av
open Go.Proofs Go.Proofs.Tryz
def dz{α:Type}(p:α->Bool):List α->Int
 |[]=>-1
 |a::l=>if p a=true then 0 else if dz p l<0 then-1 else dz p l+1
def rq{α:Type}(p:α->Bool)(l:List α):decide (0<=dz p l)=l.any p:=by
 induction l with
 |nil=>rfl
 |cons a l ih=>
  simp only[dz,Fh,<-ih];by_cases hp:p a=true
  .simp[hp]
  .by_cases h:dz p l<0
   .have h2:¬0<=dz p l:=O;simp[hp,h,h2]
   .have h2:0<=dz p l:=O;have h3:0<=dz p l+1:=O;simp[hp,h,h2,h3]
def oB{α:Type}(p:α->Bool)(l:List α)(i:Nat)(h:∀x∈l.take i,p x=false)(hi:i<=l.length):dz p l=if dz p (l.drop i)<0 then-1 else dz p (l.drop i)+i:=by
 induction l generalizing i with
 |nil=>simp[dz]
 |cons a l ih=>
  cases i with
  |zero=>
   have:-1<=dz p (a::l):=by
    clear ih h hi;generalize a::l=m
    induction m with
    |nil=>simp[dz]
    |cons a m ih=>simp only[dz];split<;>(try split)<;>omega
   simp only[jx];split<;>omega
  |succ i=>
   have h0:p a=false:=h a H;have:=ih i (λx hx=>h x (by simp[hx])) (by simp at hi;omega);simp only[gJ,dz,h0,dZ,dc];rw[this];split
   .simp
   .rw[ah O];omega
abbrev sS(x:UInt8):PC:= .sc (.int .u8 x.toNat)
abbrev cK(b:aF):PC:= .sl (af b)
abbrev iL(w:Int×aF):PC:= .agg false [.int w.1,cK w.2]
abbrev Fd:=aF×aF
abbrev oL(f:Fd):PC:= .agg false [.str f.1,.str f.2]
def afa(g:FuncId)(caps:List PC)(p:aF->Bool)(l:List (aF))(hl:l.length<=1000000000000)(hg:∀x∈l,cq g (cK x::caps) (.bool (p x))):cq 197 [.sl (l.map cK),.fn (.func g) caps] (.int (dz p l)):=by
 refine ay [_] func197 rfl ?_;obtain⟨R,hR⟩:=mH (dz p l);rw[<-hR];simp;refine bI (λi:Nat=>i<=l.length/\∀x∈l.take i,p x=false) (λi=>[(0,.p (.sl (l.map cK))),(1,.p (.fn (.func g) caps)),(7,.p (.int l.length)),(8,.p (.int i))]) (λi=>l.length-i) 0 ⟨H,H⟩ (aB H) ?_;rintro i ⟨g1,g2⟩;have hf:=oB p l i g2 g1;rw[<-hR]at hf;by_cases ci:i<l.length
 .have wi:=ju i;rw[eK ci]at hf;simp only[dz]at hf;simp[ci];refine cm (hg l[i] (bB ci)) ?_;cases hp:p l[i]with
  |true=>
   simp[hp]at hf;simp[hf,results197]
  |false=>
   simp[wi];refine⟨i+1,⟨O,λx hx=>?_⟩,O,aB H⟩;rw[kG ci,lD]at hx;rcases hx with hx|hx
   .exact g2 _ hx
   .simp at hx;rw[hx];exact hp
 .rw[vf O]at hf;simp[dz]at hf;simp[ci,hf,results197]
def afb(g:FuncId)(caps:List PC)(p:aF->Bool)(l:List (aF))(hl:l.length<=1000000000000)(hg:∀x∈l,cq g (cK x::caps) (.bool (p x))):cq 105 [.sl (l.map cK),.fn (.func g) caps] (.bool (l.any p)):=by
 refine ay [_] func105 rfl ?_;simp;refine cm (afa g caps p l hl hg) ?_;rw[<-rq];simp[results105]
def afc(g:FuncId)(caps:List PC)(p:Int×aF->Bool)(l:List (Int×aF))(hl:l.length<=1000000000000)(hg:∀x∈l,cq g (iL x::caps) (.bool (p x))):cq 332 [.sl (l.map iL),.fn (.func g) caps] (.int (dz p l)):=by
 refine ay [_] func332 rfl ?_;obtain⟨R,hR⟩:=mH (dz p l);rw[<-hR];simp;refine bI (λi:Nat=>i<=l.length/\∀x∈l.take i,p x=false) (λi=>[(0,.p (.sl (l.map iL))),(1,.p (.fn (.func g) caps)),(7,.p (.int l.length)),(8,.p (.int i))]) (λi=>l.length-i) 0 ⟨H,H⟩ (aB H) ?_;rintro i ⟨g1,g2⟩;have hf:=oB p l i g2 g1;rw[<-hR]at hf;by_cases ci:i<l.length
 .have wi:=ju i;rw[eK ci]at hf;simp only[dz]at hf;simp[ci];refine cm (hg l[i] (bB ci)) ?_;cases hp:p l[i]with
  |true=>
   simp[hp]at hf;simp[hf,results332]
  |false=>
   simp[wi];refine⟨i+1,⟨O,λa b hx=>?_⟩,O,aB H⟩;rw[kG ci,lD]at hx;rcases hx with hx|hx
   .exact g2 _ hx
   .simp at hx;rw[hx];exact hp
 .rw[vf O]at hf;simp[dz]at hf;simp[ci,hf,results332]
def afd(g:FuncId)(caps:List PC)(p:Int×aF->Bool)(l:List (Int×aF))(hl:l.length<=1000000000000)(hg:∀x∈l,cq g (iL x::caps) (.bool (p x))):cq 257 [.sl (l.map iL),.fn (.func g) caps] (.bool (l.any p)):=by
 refine ay [_] func257 rfl ?_;simp;refine cm (afc g caps p l hl hg) ?_;rw[<-rq];simp[results257]
def afe(g:FuncId)(caps:List PC)(p:UInt8->Bool)(l:List (UInt8))(hl:l.length<=1000000000000)(hg:∀x∈l,cq g (sS x::caps) (.bool (p x))):cq 440 [.sl (l.map sS),.fn (.func g) caps] (.int (dz p l)):=by
 refine ay [_] func440 rfl ?_;obtain⟨R,hR⟩:=mH (dz p l);rw[<-hR];simp;refine bI (λi:Nat=>i<=l.length/\∀x∈l.take i,p x=false) (λi=>[(0,.p (.sl (l.map sS))),(1,.p (.fn (.func g) caps)),(7,.p (.int l.length)),(8,.p (.int i))]) (λi=>l.length-i) 0 ⟨H,H⟩ (aB H) ?_;rintro i ⟨g1,g2⟩;have hf:=oB p l i g2 g1;rw[<-hR]at hf;by_cases ci:i<l.length
 .have wi:=ju i;rw[eK ci]at hf;simp only[dz]at hf;simp[ci];refine cm (hg l[i] (bB ci)) ?_;cases hp:p l[i]with
  |true=>
   simp[hp]at hf;simp[hf,results440]
  |false=>
   simp[wi];refine⟨i+1,⟨O,λx hx=>?_⟩,O,aB H⟩;rw[kG ci,lD]at hx;rcases hx with hx|hx
   .exact g2 _ hx
   .simp at hx;rw[hx];exact hp
 .rw[vf O]at hf;simp[dz]at hf;simp[ci,hf,results440]
def aff(g:FuncId)(caps:List PC)(p:UInt8->Bool)(l:List (UInt8))(hl:l.length<=1000000000000)(hg:∀x∈l,cq g (sS x::caps) (.bool (p x))):cq 438 [.sl (l.map sS),.fn (.func g) caps] (.bool (l.any p)):=by
 refine ay [_] func438 rfl ?_;simp;refine cm (afe g caps p l hl hg) ?_;rw[<-rq];simp[results438]
def afg(g:FuncId)(caps:List PC)(p:Fd->Bool)(l:List (Fd))(hl:l.length<=1000000000000)(hg:∀x∈l,cq g (oL x::caps) (.bool (p x))):cq 351 [.sl (l.map oL),.fn (.func g) caps] (.int (dz p l)):=by
 refine ay [_] func351 rfl ?_;obtain⟨R,hR⟩:=mH (dz p l);rw[<-hR];simp;refine bI (λi:Nat=>i<=l.length/\∀x∈l.take i,p x=false) (λi=>[(0,.p (.sl (l.map oL))),(1,.p (.fn (.func g) caps)),(7,.p (.int l.length)),(8,.p (.int i))]) (λi=>l.length-i) 0 ⟨H,H⟩ (aB H) ?_;rintro i ⟨g1,g2⟩;have hf:=oB p l i g2 g1;rw[<-hR]at hf;by_cases ci:i<l.length
 .have wi:=ju i;rw[eK ci]at hf;simp only[dz]at hf;simp[ci];refine cm (hg l[i] (bB ci)) ?_;cases hp:p l[i]with
  |true=>
   simp[hp]at hf;simp[hf,results351]
  |false=>
   simp[wi];refine⟨i+1,⟨O,λa b hx=>?_⟩,O,aB H⟩;rw[kG ci,lD]at hx;rcases hx with hx|hx
   .exact g2 _ hx
   .simp at hx;rw[hx];exact hp
 .rw[vf O]at hf;simp[dz]at hf;simp[ci,hf,results351]
def aeA(g:FuncId)(caps:List PC)(p:Fd->Bool)(l:List (Fd))(hl:l.length<=1000000000000)(hg:∀x∈l,cq g (oL x::caps) (.bool (p x))):cq 296 [.sl (l.map oL),.fn (.func g) caps] (.bool (l.any p)):=by
 refine ay [_] func296 rfl ?_;simp;refine cm (afg g caps p l hl hg) ?_;rw[<-rq];simp[results296]
def afh(v:Int)(l:List (Int))(hl:l.length<=1000000000000):cq 278 [.sl (l.map PC.int),PC.int v] (.int (dz (λx=>v==x) l)):=by
 refine ay [_] func278 rfl ?_;obtain⟨R,hR⟩:=mH (dz (λx=>v==x) l);rw[<-hR];simp;refine bI (λi:Nat=>i<=l.length/\∀x∈l.take i,¬v=x) (λi=>[(0,.p (.sl (l.map PC.int))),(1,.p (PC.int v)),(7,.p (.int l.length)),(8,.p (.int i))]) (λi=>l.length-i) 0 ⟨H,H⟩ (aB H) ?_;rintro i ⟨g1,g2⟩;have hf:=oB (λx=>v==x) l i (λx hx=>by simpa using g2 x hx) g1;rw[<-hR]at hf;by_cases ci:i<l.length
 .have wi:=ju i;rw[eK ci]at hf;simp only[dz]at hf;simp[ci];by_cases hp:v=l[i]
  .have hp':(v==l[i])=true:=U hp;simp[hp']at hf;simp[hp',hf,results278]
  .have hp':(v==l[i])=false:=U hp;simp[hp',wi];refine⟨i+1,⟨O,λx hx=>?_⟩,O,aB H⟩;rw[kG ci,lD]at hx;rcases hx with hx|hx
   .exact g2 _ hx
   .simp only[gK]at hx;rw[hx];exact hp
 .rw[vf O]at hf;simp[dz]at hf;simp[ci,hf,results278]
def afi(v:Int)(l:List (Int))(hl:l.length<=1000000000000):cq 196 [.sl (l.map PC.int),PC.int v] (.bool (l.any λx=>v==x)):=by
 refine ay [_] func196 rfl ?_;simp;refine cm (afh v l hl) ?_;rw[<-rq];simp[results196]
end Go.Av
namespace Go.aL
open Go.Av
abbrev dY:=aF
structure bt where
 n:Int
 bad:List Int
 left:Int
 kept:List dY
 now:List dY
 q:List (Nat×dY)
def bt.next(D:bt):bt×Int:=if D.left=0 then(D,32)else({D with left:=if D.left<0 then-1 else D.left-1,n:=IntKind.i64.wrap (D.n+1)},if D.bad.contains D.n then 31 else 0)
def bt.there(D:bt)(a n:Int):Bool:=decide (0<=a)&&decide (a<=D.kept.length)&&decide (0<=n)&&decide (n<=D.kept.length-a)
def bt.lay(D:bt)(a:Nat):List dY->bt
 |[]=>D
 |b::l=>({D with q:=D.q++[(a,b)],now:=D.now.set a b}:bt).lay (a+1) l
def bt.write(D:bt)(a:Int)(l:List dY):bt×Int:=if D.there a l.length=true/\l.all (λb=>b.length==64)=true then
 (if D.next.2=0 then(D.next.1.lay a.toNat l,0)else D.next)else(D,2)
def bt.read(D:bt)(a n:Int):bt×List dY×Int:=if D.there a n=true then
 (if D.next.2=0 then(D.next.1,(D.now.drop a.toNat).take n.toNat,0)else(D.next.1,[],D.next.2))else(D,[],2)
def gH(now:List dY):List (Nat×dY)->List dY->List dY
 |[],k=>k
 |w::q,k=>gH now q (k.set w.1 (now.getD w.1 []))
def bt.settle(D:bt):bt:={D with kept:=gH D.now D.q D.kept,q:=[]}
def bt.flush(D:bt):bt×Int:=if D.next.2=0 then(D.next.1.settle,0)else D.next
structure fJ(b:Nat)(D:bt):Prop where
 len:D.now.length=D.kept.length
 pos:1<=D.kept.length
 top:D.kept.length<=65536
 kept:∀s∈D.kept,s.length=64
 now:∀s∈D.now,s.length=64
 q:D.q.length<=b
 qs:∀w∈D.q,w.1<D.kept.length/\w.2.length=64
 left:-1<=D.left/\D.left<=9223372036854775807
 n:-9223372036854775808<=D.n/\D.n<=9223372036854775807
 bad:D.bad.length<=1000000000
def tF(n:Int):-9223372036854775808<=IntKind.i64.wrap n/\IntKind.i64.wrap n<=9223372036854775807:=by
 rw[IntWalk.i64_left];unfold RowKit.wrap64;omega
def fJ.next{b:Nat}{D:bt}(h:fJ b D):fJ b D.next.1:=by
 obtain⟨h1,h2,h3,h4,h5,h6,h7,h8,h9,h10⟩:=h;unfold bt.next;split
 .exact⟨h1,h2,h3,h4,h5,h6,h7,h8,h9,h10⟩
 .have:=tF (D.n+1);exact⟨h1,h2,h3,h4,h5,h6,h7,by simp only;split<;>omega,this,h10⟩
end Go.aL
namespace Go.Av
open Go.Proofs Go.Proofs.Tryz Go.aL
@[simp]def afM{P:Program}{md:Bool}{t:TypeId}{x:Operand}{e:Operand->AV}{tb:Tb}{kt:AV->Tb->Prop}:mX P md (.sliceToArrayPointer t x) e tb kt=jq P (.sliceToArrayPointer t x) e (qK kt tb):=(rfl)
@[simp]def ah0:kZ prog 172=some (64,1,false):=bp
@[simp]def ah1:bX prog 174=some (.sc (.int .i64 0)::List.replicate 64 (.sc (.int .u8 0))):=bp
def HM:List PC:=List.replicate 64 (.sc (.int .u8 0))
@[simp]def am6:HM.length=64:=by simp[HM]
@[simp]def akY:List.drop 64 (List.map AV.p HM)=[]:=H
@[simp]def ah2:bX prog 172=some HM:=bp
abbrev TV(b:dY):PC:= .agg false (af b)
abbrev ZD(w:Nat×dY):PC:= .agg false (.int w.1::af w.2)
def ak(L:List dY):Ob:=⟨172,64,(L.flatMap af).map .p⟩
@[reducible]def Gf(q:Nat)(D:bt):Ob:=⟨170,6,[.p (.int D.n),.p (.sl (D.bad.map PC.int)),.p (.int D.left),.view 1 0 D.kept.length 64 none,.view 2 0 D.now.length 64 none,.own q (D.q.map ZD)]⟩
@[reducible]def eG(q:Nat)(D:bt):List (Nat×Ob):=[(0,Gf q D),(1,ak D.kept),(2,ak D.now)]
@[reducible]def dN(q:Nat):List (Nat×TypeId×Nat):=[(q,174,65)]
def aai(l:List AV)(k:Nat)(h:AV.ja.iA k l=true):AV.cp.eu (Cf []) l=l:=oH (nx:=k) H l h
def GR(el:TypeId)(sz:Nat)(D:bt)(b:Nat)(hD:fJ b D)(rest:List AV)(hr:AV.ja.iA (4) rest=true):bN 103 [.obj 0 0] ⟨[(0,⟨el,sz,.p (.int D.n):: .p (.sl (D.bad.map PC.int)):: .p (.int D.left)::rest⟩)],[],4⟩ (.p (.int D.next.2)) ⟨[(0,⟨el,sz,.p (.int D.next.1.n):: .p (.sl (D.bad.map PC.int)):: .p (.int D.next.1.left)::rest⟩)],[],4⟩:=by
 have hb:=hD.bad;have hl:=hD.left;have hc:=afi D.n D.bad O;have e:(D.bad.any λx=>D.n==x)=D.bad.contains D.n:=by rw[<-List.any_beq]
 rw[e]at hc;have hri:=aai rest _ hr;refine aC [_] func103 rfl ?_;unfold bt.next;by_cases c:D.left=0
 .simp[c,results103];exact⟨[],by simp[hr,hri]⟩
 .have w1:IntKind.i64.wrap (D.left-1)=D.left-1:=aG;have c':(D.left==0)=false:=U c;have w2:(if D.left<0 then-1 else D.left-1)=if D.left-1< -1 then-1 else D.left-1:=by split<;>split<;>omega
  simp[c,c',w1,w2];refine cm hc ?_;by_cases cb:D.n∈D.bad
  .simp[cb,results103];exact⟨[],by simp[hr,hri]⟩
  .simp[cb,results103];exact⟨[],by simp[hr,hri]⟩
def wu{P:Program}{tb:Tb}{kt:AV->Tb->Prop}{gf:FuncId}{ys l:List AV}{ts ts':Tb}{r:AV}(rn:List Nat)(h:dm P gf ys ts r ts')(hk:kt (r.cp (fh rn tb.nx)) (tb.merge (ts.cp (fh rn tb.nx)) (ts'.cp (fh rn tb.nx))))(hs:rn.length=ts.nx/\ts.nx<=ts'.nx/\rn.Nodup/\∀j∈rn,j<tb.nx:=by simp)(hl:toAll l (AV.cp.eu (fh rn tb.nx) ys):=by simp)(hb:aA tb.bx (fD (fh rn tb.nx) ts.bx):=by simp[aA,ak])(hr:aA tb.rw (jj (fh rn tb.nx) ts.rw):=by simp[aA]):jN P gf [] l tb kt:=aD rn h hs hl hb hr hk
end Go.Av
