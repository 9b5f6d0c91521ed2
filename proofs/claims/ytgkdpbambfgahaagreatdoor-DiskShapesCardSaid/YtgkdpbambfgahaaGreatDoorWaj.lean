/- DiskShapes, part 10: an abstract interpreter over any program's form, with its proof of soundness; no condition. -/
import Derived.Test.YtgkdpbambfgahaaGreatDoorWai
import Derived.Test.YtgkdpbambfgahaaGreatDoorProg
import Derived.KernelRfl
set_option linter.all false
set_option maxRecDepth 100000
set_option maxHeartbeats 64000000
namespace Go.Av
open Go.RowKit
@[simp]theorem ad':uf []=fun _=> .any:=(rfl)
@[simp]theorem aaq{k:Nat}{v:AV}{l:List (Nat×AV)}:uf ((k,v)::l)=u9 (uf l) k v:=(rfl)
@[simp]theorem X9{k:Nat}:jk [] k=fun _=> .any:=(rfl)
@[simp]theorem U7{k:Nat}{x:AV}{l:List AV}:jk (x::l) k=u9 (jk l (k+1)) k x:=(rfl)
@[simp]theorem aea{xs:List AV}{tb:Tb}:me xs tb=⟨jk xs 0,tb⟩:=(rfl)
@[simp]theorem ag5{rn:List (Nat×Nat)}{m:Nat}{f:Nat->AV}:Td rn m f []=True:=(rfl)
@[simp]theorem aeb{rn:List (Nat×Nat)}{m:Nat}{f:Nat->AV}{k:Nat}{v:AV}{l:List (Nat×AV)}:Td rn m f ((k,v)::l)=((f k).to (v.ren (uM rn))/\v.fD m=true/\Td rn m f l):=(rfl)
section
variable{ρ:Nat->Nat}{m:Nat}
@[simp]theorem alv{x:PC}:AV.ren ρ (.p x)= .p x:=(rfl)
@[simp]theorem ag6{i o:Nat}:AV.ren ρ (.obj i o)= .obj (ρ i) o:=(rfl)
@[simp]theorem ag7{i:Nat}{xs:List PC}:AV.ren ρ (.own i xs)= .own (ρ i) xs:=(rfl)
@[simp]theorem aec{xs:List PC}:AV.ren ρ (.full xs)= .full xs:=(rfl)
@[simp]theorem aed{i o n s:Nat}{c:Option Nat}:AV.ren ρ (.view i o n s c)= .view (ρ i) o n s c:=(rfl)
@[simp]theorem ag8{t:Bool}{xs:List AV}:AV.ren ρ (.agg t xs)= .agg t (AV.ren.dm ρ xs):=(rfl)
@[simp]theorem ag9{f:Fn}{xs:List AV}:AV.ren ρ (.lJ f xs)= .lJ f (AV.ren.dm ρ xs):=(rfl)
@[simp]theorem ag_{f:Fn}{xs:List AV}:AV.ren ρ (.mE f xs)= .mE f (AV.ren.dm ρ xs):=(rfl)
@[simp]theorem ag'{t:TypeId}{x:AV}:AV.ren ρ (.mW t x)= .mW t (x.ren ρ):=(rfl)
@[simp]theorem aee:AV.ren.dm ρ []=[]:=(rfl)
@[simp]theorem aar{x:AV}{l:List AV}:AV.ren.dm ρ (x::l)=x.ren ρ::AV.ren.dm ρ l:=(rfl)
@[simp]theorem alw{x:PC}:AV.fD m (.p x)=true:=(rfl)
@[simp]theorem aha{i o:Nat}:AV.fD m (.obj i o)=decide (i<m):=(rfl)
@[simp]theorem ahb{i:Nat}{xs:List PC}:AV.fD m (.own i xs)=decide (i<m):=(rfl)
@[simp]theorem aef{xs:List PC}:AV.fD m (.full xs)=true:=(rfl)
@[simp]theorem aeg{i o n s:Nat}{c:Option Nat}:AV.fD m (.view i o n s c)=decide (i<m):=(rfl)
@[simp]theorem ahc{t:Bool}{xs:List AV}:AV.fD m (.agg t xs)=AV.fD.eM m xs:=(rfl)
@[simp]theorem ahd{f:Fn}{xs:List AV}:AV.fD m (.lJ f xs)=AV.fD.eM m xs:=(rfl)
@[simp]theorem ahe{f:Fn}{xs:List AV}:AV.fD m (.mE f xs)=AV.fD.eM m xs:=(rfl)
@[simp]theorem ahf{t:TypeId}{x:AV}:AV.fD m (.mW t x)=x.fD m:=(rfl)
@[simp]theorem aeh:AV.fD.eM m []=true:=(rfl)
@[simp]theorem aas{x:AV}{l:List AV}:AV.fD.eM m (x::l)=(x.fD m&&AV.fD.eM m l):=(rfl)
end
def rnG(i:Nat):Option Nat->Nat
 |some j=>j
 |none=>i
@[simp]theorem alx{rn:List (Nat×Nat)}{i:Nat}:uM rn i=rnG i (lk i rn):=by unfold uM rnG;cases lk i rn<;>rfl
@[simp]theorem aei{i j:Nat}:rnG i (some j)=j:=(rfl)
@[simp]theorem aej{i:Nat}:rnG i none=i:=(rfl)
@[simp]theorem aek{ρ:Nat->Nat}{m:Nat}{bx:List (Nat×Ob)}:pV ρ m bx []=True:=(rfl)
@[simp]theorem aat{ρ:Nat->Nat}{m:Nat}{bx:List (Nat×Ob)}{i:Nat}{el:TypeId}{sz:Nat}{xs:List AV}{l:List (Nat×Ob)}:pV ρ m bx ((i,⟨el,sz,xs⟩)::l)=(i<m/\AV.fD.eM m xs=true/\O9 (lk (ρ i) bx) ⟨el,sz,AV.ren.dm ρ xs⟩/\pV ρ m bx l):=(rfl)
@[simp]theorem aau{el Uq:TypeId}{sz sz':Nat}{xs ys:List AV}:O9 (some ⟨el,sz,xs⟩) ⟨Uq,sz',ys⟩=(el=Uq/\sz=sz'/\ys<+:xs):=(rfl)
@[congr]theorem X_{a b:Option Ob}{o:Ob}(h:a=b):O9 a o=O9 b o:=by rw[h]
@[simp]theorem ael{ρ:Nat->Nat}{m:Nat}{rw:List (Nat×TypeId×Nat)}:EF ρ m rw []=True:=(rfl)
@[simp]theorem aav{ρ:Nat->Nat}{m:Nat}{rw:List (Nat×TypeId×Nat)}{i:Nat}{r:TypeId×Nat}{l:List (Nat×TypeId×Nat)}:EF ρ m rw ((i,r)::l)=(i<m/\lk (ρ i) rw=some r/\EF ρ m rw l):=(rfl)
@[simp]theorem aem{α:Type}{ρ:Nat->Nat}:kQ ρ ([]:List (Nat×α))=True:=(rfl)
@[simp]theorem aaw{α:Type}{ρ:Nat->Nat}{i:Nat}{r:α}{l:List (Nat×α)}:kQ ρ ((i,r)::l)=(kQ.uy ρ i l/\kQ ρ l):=(rfl)
@[simp]theorem aax{α:Type}{ρ:Nat->Nat}{i:Nat}:kQ.uy ρ i ([]:List (Nat×α))=True:=(rfl)
@[simp]theorem X'{α:Type}{ρ:Nat->Nat}{i j:Nat}{r:α}{l:List (Nat×α)}:kQ.uy ρ i ((j,r)::l)=((i=j\/ρ i≠ρ j)/\kQ.uy ρ i l):=(rfl)
@[simp]theorem ahg{fC:Nat}{rn:List (Nat×Nat)}{tb aM:Tb}:qm fC rn tb aM=((∀p∈rn,fC<=p.1)/\fC<=aM.nx/\pV (uM rn) aM.nx tb.bx aM.bx/\EF (uM rn) aM.nx tb.rw aM.rw/\kQ (uM rn) aM.bx/\kQ (uM rn) aM.rw):=(rfl)
@[simp]theorem az{fC:Nat}{rs zs:List AV}{tb aM:Tb}:DU fC rs aM zs tb=∃rn,qm fC rn tb aM/\toAll zs (AV.ren.dm (uM rn) rs)/\AV.fD.eM aM.nx rs=true:=(rfl)
section
variable{P:Program}{cx:Cx}{Q:Exit->AS->Prop}{st:AS}{c:Code}
def leN(fC:Nat)(st:AS)(l:List (Nat×AV))(tb:Tb):Prop:=∃rn,qm fC rn st.tb tb/\Td rn tb.nx st.sl l
def rX{α:Type}(cx:Cx)(C:α->Prop)(S:α->List (Nat×AV))(T:α->Tb)(μ:α->Nat)(m:Nat)(Q:Exit->AS->Prop):Exit->AS->Prop:=fun e st'=>match e with
 | .normal=>∃a',C a'/\μ a'<m/\leN cx.fC st' (S a') (T a')
 |e=>Q e st'
section
variable{α:Type}{C:α->Prop}{S:α->List (Nat×AV)}{T:α->Tb}{μ:α->Nat}{m:Nat}
@[simp]theorem ahh:rX cx C S T μ m Q .normal st=∃a',C a'/\μ a'<m/\leN cx.fC st (S a') (T a'):=(rfl)
@[simp]theorem ahi{i:Nat}:rX cx C S T μ m Q (.exit i) st=Q (.exit i) st:=(rfl)
@[simp]theorem ahj:rX cx C S T μ m Q .ret st=Q .ret st:=(rfl)
end
theorem aB{fC:Nat}{l:List (Nat×AV)}{tb:Tb}(rn:List (Nat×Nat))(h:qm fC rn st.tb tb/\Td rn tb.nx st.sl l):leN fC st l tb:=⟨rn,h⟩
theorem ak{fC:Nat}{l:List (Nat×AV)}{tb:Tb}(h:qm fC [] st.tb tb/\Td [] tb.nx st.sl l):leN fC st l tb:=⟨[],h⟩
theorem aL{α:Type}(C:α->Prop)(S:α->List (Nat×AV))(T:α->Tb)(μ:α->Nat)(a0:α)(hc:C a0)(ND:AS)(hst:st.le cx.fC ND)(h0:leN cx.fC ND (S a0) (T a0))(h:∀a,C a->aw P cx c (Km (S a) (T a)) (rX cx C S T μ (μ a) Q)):aw P cx (.loop c) st Q:=by
 obtain⟨rn,h1,h2⟩:=h0;refine⟨fun n st'=>∃a,C a/\μ a=n/\st'=Km (S a) (T a),fun n=>rX cx C S T μ n Q,μ a0,⟨_,hst.trans (kM rn h1 h2),a0,hc,rfl,rfl⟩,?_,?_⟩
 ·rintro n _ ⟨a,ha,rfl,rfl⟩;exact h a ha
 ·intro n e st' hq;cases e with
  |normal=>obtain⟨a',h1,h2,rn,h3,h4⟩:=hq;exact⟨_,_,h2,kM rn h3 h4,a',h1,rfl,rfl⟩
  |_=>exact hq
theorem bg{α:Type}(C:α->Prop)(S:α->List (Nat×AV))(μ:α->Nat)(a0:α)(hc:C a0)(h0:leN cx.fC st (S a0) ⟨[],[],cx.fC⟩)(h:∀a,C a->aw P cx c (Km (S a) ⟨[],[],cx.fC⟩) (rX cx C S (fun _=>⟨[],[],cx.fC⟩) μ (μ a) Q)):aw P cx (.loop c) st Q:=aL C S (fun _=>⟨[],[],cx.fC⟩) μ a0 hc st (AS.le_refl _ _) h0 h
end
end Go.Av
namespace Go.Av
open Go.Proofs Go.Proofs.Tryz
@[simp]theorem agY:bL prog 3=some false/\aO prog 3=some 1/\Av.isSome prog 3=true/\bG prog 3=some [.sc (.int .i64 0)]/\Av.intOf prog 3=some .i64/\bL prog 4=some false/\aO prog 4=some 1/\isBool prog 4=true/\bL prog 5=some false/\aO prog 5=some 1/\Av.isSome prog 5=true/\bG prog 5=some [.sc (.int .u8 0)]/\Av.intOf prog 5=some .u8/\bL prog 9=some false/\aO prog 9=some 1/\isStr prog 9=true/\bG prog 9=some [.str []]/\Av.intOf prog 9=none/\bL prog 22=some false/\aO prog 22=some 1/\isStr prog 22=false/\bG prog 22=some [.nil]/\aH prog 22=some 1/\cU prog 22=some (5,1,1):=by(repeat' apply And.intro)<;>kernel_rfl
@[simp]theorem Uy:dR prog 22=true/\Av.intOf prog 22=none/\vZ prog 24=true/\bL prog 27=some true/\aO prog 27=some 3/\bG prog 27=some [.sc (.int .i64 0),.sc (.int .i64 0),.sc (.int .i64 0)]/\bu prog 27=true/\di prog 27 0=some (0,1,false)/\di prog 27 1=some (1,1,false)/\di prog 27 2=some (2,1,false)/\bL prog 28=some false/\aO prog 28=some 1/\vZ prog 28=true/\bL prog 29=some false/\aO prog 29=some 1/\bG prog 29=some [.sc (.int .i64 0)]/\bL prog 31=some false/\aO prog 31=some 1/\vZ prog 31=true/\bL prog 32=some false/\aO prog 32=some 1/\vZ prog 32=true/\bL prog 34=some true/\aO prog 34=some 2:=by(repeat' apply And.intro)<;>kernel_rfl
@[simp]theorem ac_:bG prog 34=some [.sc (.int .i64 0),.sc (.int .i64 0)]/\bu prog 34=true/\aR prog 34 0=some (0,1)/\aR prog 34 1=some (1,1)/\di prog 34 0=some (0,1,false)/\di prog 34 1=some (1,1,false)/\bG prog 37=some [.nil]/\bu prog 37=true/\aO prog 38=some 1/\cU prog 38=some (37,1,24)/\bL prog 40=some false/\aO prog 40=some 1/\aH prog 40=some 1/\cU prog 40=some (9,1,16)/\Av.intOf prog 40=none/\bL prog 42=some true/\aO prog 42=some 5/\bG prog 42=some [.str [],.str [],.sc (.int .i64 0),.str [],.sc (.int .i64 0)]/\bu prog 42=true/\aR prog 42 2=some (2,1)/\aR prog 42 3=some (3,1)/\aR prog 42 4=some (4,1)/\di prog 42 0=some (0,1,false)/\di prog 42 1=some (1,1,false):=by(repeat' apply And.intro)<;>kernel_rfl
@[simp]theorem ac':di prog 42 2=some (2,1,false)/\di prog 42 3=some (3,1,false)/\di prog 42 4=some (4,1,false)/\bL prog 43=some false/\aO prog 43=some 1/\aH prog 43=some 2/\cU prog 43=some (139,2,32)/\Av.intOf prog 43=none/\bG prog 45=some [.sc (.int .i64 0),.sc (.int .i64 0)]/\bu prog 45=true/\aR prog 45 0=some (0,1)/\aR prog 45 1=some (1,1)/\di prog 45 0=some (0,1,false)/\di prog 45 1=some (1,1,false)/\bL prog 46=some false/\aO prog 46=some 1/\Av.isSome prog 46=true/\Av.intOf prog 46=some .u32/\bL prog 47=some false/\aO prog 47=some 1/\aH prog 47=some 2/\cU prog 47=some (157,2,16)/\Av.intOf prog 47=none/\bL prog 49=some true:=by(repeat' apply And.intro)<;>kernel_rfl
@[simp]theorem aac:aO prog 49=some 15/\bG prog 49=some [.str [],.nil,.str [],.str [],.str [],.sc (.int .i64 0),.str [],.sc (.int .i64 0),.nil,.sc (.int .i64 0),.sc (.int .i64 0),.sc (.int .i64 0),.sc (.int .i64 0),.sc (.int .u32 0),.nil]/\bu prog 49=true/\aR prog 49 0=some (0,1)/\aR prog 49 1=some (1,1)/\aR prog 49 2=some (2,1)/\aR prog 49 3=some (3,5)/\aR prog 49 4=some (8,1)/\aR prog 49 5=some (9,2)/\di prog 49 0=some (0,1,false)/\di prog 49 1=some (1,1,false)/\di prog 49 2=some (2,1,false)/\di prog 49 3=some (3,5,true)/\di prog 49 4=some (8,1,false)/\di prog 49 5=some (9,2,true)/\di prog 49 6=some (11,1,false)/\di prog 49 7=some (12,1,false)/\di prog 49 8=some (13,1,false)/\di prog 49 9=some (14,1,false)/\bu prog 53=true/\di prog 53 0=some (0,1,false)/\di prog 53 1=some (1,1,false)/\di prog 53 2=some (2,2,true)/\di prog 53 3=some (4,1,false):=by(repeat' apply And.intro)<;>kernel_rfl
@[simp]theorem ada:di prog 53 5=some (6,1,false)/\bL prog 64=some false/\aH prog 64=some 1/\bG prog 66=some [.nil,.sc (.int .i64 0),.sc (.int .i64 0)]/\bu prog 66=true/\aR prog 66 1=some (1,1):=by(repeat' apply And.intro)<;>kernel_rfl
@[simp]theorem afF:di prog 66 0=some (0,1,false)/\di prog 66 1=some (1,1,false)/\di prog 66 2=some (2,1,false)/\aH prog 78=some 15/\bL prog 82=some false/\aO prog 82=some 1/\aH prog 82=some 3/\cU prog 82=some (198,3,32)/\Av.intOf prog 82=none/\bL prog 87=some false/\aO prog 87=some 1/\aH prog 87=some 1/\cU prog 87=some (3,1,8)/\Av.intOf prog 87=none/\bL prog 91=some false/\aO prog 91=some 1/\bL prog 93=some false/\aO prog 93=some 1/\bG prog 93=some [.nil]/\aH prog 93=some 1/\cU prog 93=some (22,1,24)/\Av.intOf prog 93=none/\bL prog 139=some true/\aO prog 139=some 2:=by(repeat' apply And.intro)<;>kernel_rfl
@[simp]theorem abN:bG prog 139=some [.str [],.str []]/\bu prog 139=true/\aR prog 139 0=some (0,1)/\aR prog 139 1=some (1,1)/\di prog 139 0=some (0,1,false)/\di prog 139 1=some (1,1,false)/\bG prog 141=some [.sc (.pointer none),.str [],.nil,.str [],.str [],.str [],.sc (.int .i64 0),.str [],.sc (.int .i64 0),.nil,.sc (.int .i64 0),.sc (.int .i64 0),.sc (.int .i64 0),.sc (.int .i64 0),.sc (.int .u32 0),.nil,.nil,.sc (.bool false),.sc (.bool false)]/\bu prog 141=true/\aR prog 141 0=some (0,1)/\aR prog 141 1=some (1,15)/\di prog 141 0=some (0,1,false)/\di prog 141 1=some (1,15,true)/\di prog 141 2=some (16,1,false)/\di prog 141 3=some (17,1,false)/\di prog 141 4=some (18,1,false)/\bL prog 146=some true/\aO prog 146=some 3/\bG prog 146=some [.sc (.pointer none),.sc (.int .i64 0),.sc (.int .i64 0)]/\bu prog 146=true/\aR prog 146 0=some (0,1)/\aR prog 146 1=some (1,2)/\di prog 146 0=some (0,1,false)/\di prog 146 1=some (1,2,true)/\bL prog 147=some false:=by(repeat' apply And.intro)<;>kernel_rfl
@[simp]theorem Zz:aO prog 147=some 1/\bL prog 148=some false/\aO prog 148=some 1/\bL prog 149=some false/\aO prog 149=some 1/\aH prog 149=some 4/\cU prog 149=some (159,4,56)/\Av.intOf prog 149=none/\bG prog 151=some [.sc (.pointer none),.sc (.int .i64 0),.sc (.int .i64 0),.sc (.pointer none),.sc (.int .i64 0),.sc (.pointer none),.sc (.pointer none),.nil,.sc (.int .i64 0),.nil,.sc (.bool false)]/\bu prog 151=true/\aR prog 151 0=some (0,3)/\aR prog 151 8=some (10,1)/\di prog 151 0=some (0,3,true)/\di prog 151 1=some (3,1,false)/\di prog 151 2=some (4,1,false)/\di prog 151 3=some (5,1,false)/\di prog 151 4=some (6,1,false)/\di prog 151 5=some (7,1,false)/\di prog 151 6=some (8,1,false)/\di prog 151 7=some (9,1,false)/\di prog 151 8=some (10,1,false)/\bL prog 157=some true/\aO prog 157=some 2/\bG prog 157=some [.sc (.int .i64 0),.sc (.int .i64 0)]:=by(repeat' apply And.intro)<;>kernel_rfl
@[simp]theorem Ub:bu prog 157=true/\aR prog 157 0=some (0,1)/\aR prog 157 1=some (1,1)/\di prog 157 0=some (0,1,false)/\di prog 157 1=some (1,1,false)/\bL prog 159=some true/\aO prog 159=some 4:=by(repeat' apply And.intro)<;>kernel_rfl
@[simp]theorem aae:bG prog 159=some [.str [],.sc (.int .i64 0),.sc (.int .i64 0),.nil]/\bu prog 159=true/\aR prog 159 0=some (0,1)/\aR prog 159 1=some (1,1)/\aR prog 159 2=some (2,1)/\aR prog 159 3=some (3,1)/\di prog 159 0=some (0,1,false)/\di prog 159 1=some (1,1,false)/\di prog 159 2=some (2,1,false)/\di prog 159 3=some (3,1,false)/\aO prog 166=some 3/\bG prog 166=some [.sc (.int .i64 0),.nil,.sc (.int .i64 0)]/\bu prog 166=true/\aR prog 166 2=some (2,1)/\di prog 166 0=some (0,1,false)/\di prog 166 1=some (1,1,false)/\di prog 166 2=some (2,1,false)/\bL prog 167=some false/\aO prog 167=some 1/\aH prog 167=some 64/\cU prog 167=some (172,64,64)/\bL prog 168=some false/\aO prog 168=some 1/\aH prog 168=some 65:=by(repeat' apply And.intro)<;>kernel_rfl
@[simp]theorem adB:cU prog 168=some (174,65,72)/\bG prog 170=some [.sc (.int .i64 0),.nil,.sc (.int .i64 0),.nil,.nil,.nil]/\bu prog 170=true/\aR prog 170 0=some (0,3)/\aR prog 170 1=some (3,1)/\aR prog 170 2=some (4,1)/\di prog 170 0=some (0,3,true)/\di prog 170 1=some (3,1,false)/\di prog 170 2=some (4,1,false)/\di prog 170 3=some (5,1,false)/\bL prog 172=some true/\aO prog 172=some 64/\bL prog 174=some true/\aO prog 174=some 65/\bu prog 174=true/\aR prog 174 0=some (0,1)/\aR prog 174 1=some (1,64)/\di prog 174 0=some (0,1,false)/\di prog 174 1=some (1,64,true)/\bL prog 178=some true/\aO prog 178=some 2/\bG prog 178=some [.sc (.int .i64 0),.sc (.int .i64 0)]/\bu prog 178=true/\aR prog 178 0=some (0,1):=by(repeat' apply And.intro)<;>kernel_rfl
@[simp]theorem Sq:aR prog 178 1=some (1,1)/\di prog 178 0=some (0,1,false)/\di prog 178 1=some (1,1,false)/\bL prog 189=some false/\bG prog 198=some [.sc (.int .i64 0),.str [],.sc (.bool false)]/\bu prog 198=true/\aR prog 198 0=some (0,1)/\aR prog 198 1=some (1,1)/\di prog 198 2=some (2,1,false)/\Av.isSome prog 240=true/\Av.intOf prog 240=some .u64/\bL prog 247=some false/\aO prog 247=some 1/\bL prog 261=some true/\aO prog 261=some 3/\bG prog 261=some [.sc (.pointer none),.sc (.int .i64 0),.sc (.int .i64 0)]/\bu prog 261=true/\aR prog 261 0=some (0,1)/\aR prog 261 1=some (1,1)/\aR prog 261 2=some (2,1)/\di prog 261 0=some (0,1,false)/\di prog 261 1=some (1,1,false)/\di prog 261 2=some (2,1,false)/\bL prog 263=some true:=by(repeat' apply And.intro)<;>kernel_rfl
@[simp]theorem W4:aO prog 263=some 3/\bG prog 263=some [.sc (.int .i64 0),.sc (.int .i64 0),.sc (.int .i64 0)]/\bu prog 263=true/\aR prog 263 0=some (0,1)/\aR prog 263 1=some (1,1)/\aR prog 263 2=some (2,1)/\di prog 263 0=some (0,1,false)/\di prog 263 1=some (1,1,false)/\di prog 263 2=some (2,1,false)/\bL prog 266=some false/\aO prog 266=some 1/\aH prog 266=some 2/\cU prog 266=some (364,2,32)/\bG prog 268=some [.sc (.pointer none),.sc (.int .i64 0),.sc (.int .i64 0),.sc (.int .i64 0),.sc (.int .i64 0),.sc (.int .i64 0),.sc (.int .i64 0),.sc (.int .i64 0),.sc (.int .i64 0),.sc (.bool false),.nil,.sc (.int .i64 0)]/\bu prog 268=true/\aR prog 268 0=some (0,3)/\aR prog 268 1=some (3,3)/\aR prog 268 2=some (6,1)/\aR prog 268 3=some (7,1)/\aR prog 268 4=some (8,1)/\di prog 268 0=some (0,3,true)/\di prog 268 1=some (3,3,true)/\di prog 268 2=some (6,1,false)/\di prog 268 3=some (7,1,false):=by(repeat' apply And.intro)<;>kernel_rfl
@[simp]theorem aaf:di prog 268 4=some (8,1,false)/\di prog 268 5=some (9,1,false)/\di prog 268 6=some (10,1,false)/\di prog 268 7=some (11,1,false)/\bL prog 272=some false/\aO prog 272=some 1/\bG prog 272=some [.nil]/\aH prog 272=some 2/\cU prog 272=some (157,2,16)/\Av.intOf prog 272=none/\bG prog 274=some [.sc (.int .i64 0),.nil,.nil,.nil]/\bu prog 274=true/\aR prog 274 0=some (0,1)/\aR prog 274 1=some (1,1)/\di prog 274 0=some (0,1,false)/\di prog 274 1=some (1,1,false)/\di prog 274 2=some (2,1,false)/\di prog 274 3=some (3,1,false)/\Av.isSome prog 276=true/\isIface prog 276=false/\bG prog 278=some [.sc (.pointer none),.nil,.nil]/\bu prog 278=true/\aR prog 278 0=some (0,1)/\di prog 278 0=some (0,1,false):=by(repeat' apply And.intro)<;>kernel_rfl
@[simp]theorem aag:di prog 278 1=some (1,1,false)/\di prog 278 2=some (2,1,false)/\aH prog 282=some 2/\cU prog 282=some (286,2,24)/\bL prog 286=some true/\aO prog 286=some 2/\bG prog 286=some [.str [],.sc (.int .i64 0)]/\bu prog 286=true/\aR prog 286 0=some (0,1)/\aR prog 286 1=some (1,1)/\di prog 286 0=some (0,1,false)/\di prog 286 1=some (1,1,false):=by(repeat' apply And.intro)<;>kernel_rfl
@[simp]theorem XL:aH prog 334=some 5/\cU prog 334=some (343,5,72)/\bG prog 339=some [.sc (.pointer none),.nil]/\bu prog 339=true/\aR prog 339 0=some (0,1)/\di prog 339 0=some (0,1,false)/\di prog 339 1=some (1,1,false)/\bL prog 341=some true/\aO prog 341=some 3/\bG prog 341=some [.sc (.bool false),.nil,.nil]/\bu prog 341=true/\aR prog 341 0=some (0,1)/\aR prog 341 1=some (1,1)/\aR prog 341 2=some (2,1)/\di prog 341 0=some (0,1,false)/\di prog 341 1=some (1,1,false)/\di prog 341 2=some (2,1,false)/\bL prog 343=some true/\aO prog 343=some 5/\bG prog 343=some [.sc (.bool false),.nil,.nil,.sc (.int .i64 0),.sc (.int .i64 0)]/\bu prog 343=true/\aR prog 343 0=some (0,3)/\aR prog 343 1=some (3,1)/\aR prog 343 2=some (4,1):=by(repeat' apply And.intro)<;>kernel_rfl
@[simp]theorem aah:di prog 343 0=some (0,3,true)/\di prog 343 1=some (3,1,false)/\di prog 343 2=some (4,1,false)/\bG prog 359=some [.nil]/\bu prog 359=true/\aR prog 359 0=some (0,1)/\di prog 359 0=some (0,1,false)/\bL prog 364=some true/\aO prog 364=some 2/\bG prog 364=some [.sc (.int .i64 0),.nil]/\bu prog 364=true/\aR prog 364 0=some (0,1)/\aR prog 364 1=some (1,1)/\di prog 364 0=some (0,1,false)/\di prog 364 1=some (1,1,false)/\aH prog 367=some 1/\cU prog 367=some (91,1,8)/\bL prog 369=some false/\aO prog 369=some 1/\bG prog 371=some [.sc .nilIface,.sc (.int .i64 0)]/\bu prog 371=true/\aR prog 371 0=some (0,1)/\aR prog 371 1=some (1,1)/\di prog 371 0=some (0,1,false):=by(repeat' apply And.intro)<;>kernel_rfl
@[simp]theorem aai:di prog 371 1=some (1,1,false)/\bG prog 374=some [.sc (.pointer none),.nil,.sc (.int .i64 0)]/\bu prog 374=true/\aR prog 374 0=some (0,1)/\aR prog 374 2=some (2,1)/\di prog 374 0=some (0,1,false)/\di prog 374 1=some (1,1,false)/\di prog 374 2=some (2,1,false)/\bG prog 408=some [.nil]/\bu prog 408=true/\aR prog 408 0=some (0,1)/\di prog 408 0=some (0,1,false)/\aH prog 464=some 1/\cU prog 464=some (93,1,24)/\aO prog 474=some 256/\bG prog 511=some [.nil,.sc (.bool false)]/\bu prog 511=true/\aR prog 511 0=some (0,1)/\di prog 511 0=some (0,1,false)/\di prog 511 1=some (1,1,false):=by(repeat' apply And.intro)<;>kernel_rfl
end Go.Av

namespace Go.Av
open Go.RowKit
section
variable{P:Program}{f:FuncId}{xs:List AV}{tb aM rK:Tb}{r r':AV}
def RLe(r:AV)(tb:Tb)(r':AV)(aM:Tb):Prop:=∀(w0:World) (M0:Mem) (F:Nat->Prop) (g:G) (w:World) (v:Value),aQ w0 M0 F tb g w->aX g v r->∃g',g.le g'/\aQ w0 M0 F aM g' w/\aX g' v r'
theorem qa(h:aE P f xs tb r aM)(hr:RLe r aM r' rK):aE P f xs tb r' rK:=by
 refine⟨h.1,fun g w vs F hw hvs=>(h.2 g w vs F hw hvs).mono ?_⟩;rintro e w' ⟨v,g',rfl,h1,h2,h3⟩;obtain⟨Ez,h4,h5,h6⟩:=hr _ _ _ _ _ _ h2 h3;exact⟨v,Ez,rfl,h1.trans h4,h5,h6⟩
theorem O8{el:TypeId}{s:Nat}(h:isNone r):RLe r tb (.view tb.nx 0 0 s none) (tb.aS ⟨el,s,[]⟩):=by
 intro w0 M0 F g w v hw hv;obtain⟨ad,rfl,uV⟩:∃ad,v= .slice ad 0 0/\(ad=none\/∃a',ad=some a'):=by
  unfold isNone at h;split at h
  ·cases hv with
   |full hr=>cases hr with
    |cX=>exact⟨none,rfl,.inl rfl⟩
    |rH a=>exact⟨_,rfl,.inr ⟨_,rfl⟩⟩
    |sl hn _ _ _ _ _ _ hs=>have:=hs.length;simp at this;rw[this]at hn;simp at hn;subst hn;exact⟨_,rfl,.inr ⟨_,rfl⟩⟩
  ·have:=aZ hv;cases this;exact⟨none,rfl,.inl rfl⟩
  ·exact h.elim
 refine⟨_,hw.mD 0 0,hw.CD el s,?_⟩;have:=aX.view (g:=g.dw tb.nx 0 0) (id:=tb.nx) (b:=0) (c:=0) (o:=0) (n:=0) (s:=s) (a:=ad) (m:=none) (by simp[G.dw]) (by omega) (by unfold maxLen;omega) (.void rfl uV) (by simp);simpa using this
theorem fG{el:TypeId}{s:Nat}(h:aE P f xs tb r aM)(hr:isNone r):aE P f xs tb (.view aM.nx 0 0 s none) (aM.aS ⟨el,s,[]⟩):=qa h (O8 hr)
theorem GM{g:G}{vs:List Value}{ys:List PC}(h:cJ g.M vs ys):aJ g vs (ys.map .p):=jZ h
theorem kH{pre post:List AV}{id n s:Nat}{bx:List (Nat×Ob)}{rw:List (Nat×TypeId×Nat)}{nx:Nat}(hc:dP P f)(h1:∀c,n<=c->0<c->c<=maxLen->aE P f (pre++ .view id 0 n s (some c)::post) ⟨bx,rw,nx⟩ r aM)(h2:n=0->aE P f (pre++ .full []::post) ⟨del id bx,rw,nx⟩ r aM):aE P f (pre++ .view id 0 n s none::post) ⟨bx,rw,nx⟩ r aM:=by
 refine⟨hc,fun g w vs F hw hvs=>?_⟩;obtain⟨us,ws,rfl,hu,VX⟩:=aJ.split pre hvs;cases VX with
 |cons h hs=>
  cases h with
  |view e h3 h4 h5 hm=>
   rename_i b c ad;cases h5 with
   |void h0 uV=>
    subst h0;have hn:n=0:=by omega
    subst hn;refine(h2 rfl).2 g w _ F (hw.cD id) (hu.append (.cons ?_ hs));rcases uV with rfl|⟨a',rfl⟩
    ·exact .full (n:=0) .cX
    ·exact .full (n:=0) (.rH a')
   |real off hp ha ho=>
    exact(h1 c (by omega) hp h4).2 g w _ F hw (hu.append (.cons (.view e h3 h4 (.real off hp ha ho) (fun k hk=>by injection hk)) hs))
theorem bI{xs:List PC}{r:AV}{y:PC}(h:aE P f (xs.map .p) ⟨[],[],0⟩ r aM)(hy:cQ aM.bx 4 r y):aq P f xs y:=by
 refine⟨h.1,fun M w vs hH hvs=>?_⟩;have hw:aQ w M (fun _=>False) ⟨[],[],0⟩ ⟨M,fun _=>none,fun _=>none⟩ w:=by
  refine⟨hH,sA.refl _ _,fun _ _ _=>rfl,Mem.le_refl _,?_,?_,?_,?_,?_,?_⟩
  ·intro i o e;simp[lk]at e
  ·intro i el sz e;simp[lk]at e
  ·intro i j o p b c b' c' e;simp[lk]at e
  ·intro i j o p u v b e;simp[lk]at e
  ·intro i j o p b c v e;simp[lk]at e
  ·intro i _;exact⟨rfl,rfl⟩
 refine(h.2 ⟨M,fun _=>none,fun _=>none⟩ w vs (fun _=>False) hw (GM (g:=⟨M,fun _=>none,fun _=>none⟩) hvs)).mono ?_;rintro e w' ⟨v,g',rfl,hle,hS,hr⟩;have hold:∀b o v,M b o=some v->b<w.heap.size:=fun b o v e=>hH.lt e;have hMo:∀b,b<w.heap.size->g'.M b=M b:=fun b hb=>hS.old b hb (fun h=>h);refine⟨v,fun b o=>if b<w.heap.size then M b o else w'.cell? ⟨b,o,none⟩,rfl,vo hS ?_ ?_ 4 v r y hr hy,?_,?_,?_,?_⟩
 ·intro b o v e;show(if b<w.heap.size then _ else _)=_;split
  ·rename_i hb;rw[<-hMo b hb];exact e
  ·exact hS.holds b o v e
 ·intro id ob b c hl hg hc o v e;obtain⟨cur,f2,_⟩:=(hS.boxes id ob hl).real hg hc;rcases f2 with f2|f2
  ·show(if b<w.heap.size then _ else _)=_;rw[if_neg (by omega)];exact e
  ·exact f2.elim
 ·refine⟨?_,hH.g.mono fun b o v e=>by
   show(if b<w.heap.size then _ else _)=_;rw[if_pos (hold b o v e)];exact e⟩
  intro b o v e;have e:(if b<w.heap.size then M b o else w'.cell? ⟨b,o,none⟩)=some v:=e;split at e
  ·rename_i hb;rw[<-hMo b hb]at e;exact hS.holds b o v e
  ·exact e
 ·intro b o v e;show(if b<w.heap.size then _ else _)=_;rw[if_pos (hold b o v e)];exact e
 ·intro b hb;funext o;show(if b<w.heap.size then _ else _)=_;rw[if_pos hb]
 ·exact⟨hS.keep.os,hS.keep.tape,hS.keep.output,hS.keep.size,fun k hk=>hS.keep.block k hk (fun h=>h)⟩
theorem qR{pre post:List AV}{ys:List PC}(hc:dP P f)(h1:ys=[]->aE P f (pre++ .p .nil::post) tb r aM)(h2:aE P f (pre++ .nn ys::post) tb r aM):aE P f (pre++ .p (.sl ys)::post) tb r aM:=by
 refine⟨hc,fun g w vs F hw hvs=>?_⟩;obtain⟨us,ws,rfl,hu,VX⟩:=aJ.split pre hvs;cases VX with
 |cons h hs=>
  have h:=aZ h;cases h with
  |cX=>exact(h1 rfl).2 g w _ F hw (hu.append (.cons (.p .nil) hs))
  |rH a=>exact h2.2 g w _ F hw (hu.append (.cons (.nn (.rH a)) hs))
  |sl a1 a2 a3 a4 a5 a6 a7 a8=>exact h2.2 g w _ F hw (hu.append (.cons (.nn (.sl a1 a2 a3 a4 a5 a6 a7 a8)) hs))
end
@[simp]theorem LH{k:Nat}:((k:Int)<0)=False:=by simp only[eq_iff_iff,iff_false];omega
@[simp]theorem ak6{n:Nat}:(n=n+1+1)=False:=by simp only[eq_iff_iff,iff_false];omega
@[simp]theorem ak7{n:Nat}:(n+1+1=n)=False:=by simp only[eq_iff_iff,iff_false];omega
@[simp]theorem ak8{n:Nat}:(n<n+1+1)=True:=by simp only[eq_iff_iff,iff_true];omega
@[simp]theorem ak9{n:Nat}:(n<=n+1+1)=True:=by simp only[eq_iff_iff,iff_true];omega
@[simp]theorem ak_{n:Nat}:(n=n+1+1+1)=False:=by simp only[eq_iff_iff,iff_false];omega
@[simp]theorem ak'{n:Nat}:(n+1+1+1=n)=False:=by simp only[eq_iff_iff,iff_false];omega
@[simp]theorem ala{n:Nat}:(n<n+1+1+1)=True:=by simp only[eq_iff_iff,iff_true];omega
@[simp]theorem alb{n:Nat}:(n<=n+1+1+1)=True:=by simp only[eq_iff_iff,iff_true];omega
@[simp]theorem alc{n:Nat}:(n=n+1+1+1+1)=False:=by simp only[eq_iff_iff,iff_false];omega
@[simp]theorem ald{n:Nat}:(n+1+1+1+1=n)=False:=by simp only[eq_iff_iff,iff_false];omega
@[simp]theorem ale{n:Nat}:(n<n+1+1+1+1)=True:=by simp only[eq_iff_iff,iff_true];omega
@[simp]theorem alf{n:Nat}:(n<=n+1+1+1+1)=True:=by simp only[eq_iff_iff,iff_true];omega
@[simp]theorem alg{n:Nat}:(n=n+1+1+1+1+1)=False:=by simp only[eq_iff_iff,iff_false];omega
@[simp]theorem alh{n:Nat}:(n+1+1+1+1+1=n)=False:=by simp only[eq_iff_iff,iff_false];omega
@[simp]theorem ali{n:Nat}:(n<n+1+1+1+1+1)=True:=by simp only[eq_iff_iff,iff_true];omega
@[simp]theorem alj{n:Nat}:(n<=n+1+1+1+1+1)=True:=by simp only[eq_iff_iff,iff_true];omega
@[simp]theorem alk{n:Nat}:(n=n+1+1+1+1+1+1)=False:=by simp only[eq_iff_iff,iff_false];omega
@[simp]theorem alm{n:Nat}:(n+1+1+1+1+1+1=n)=False:=by simp only[eq_iff_iff,iff_false];omega
@[simp]theorem aln{n:Nat}:(n<n+1+1+1+1+1+1)=True:=by simp only[eq_iff_iff,iff_true];omega
@[simp]theorem alo{n:Nat}:(n<=n+1+1+1+1+1+1)=True:=by simp only[eq_iff_iff,iff_true];omega
@[simp]theorem alp{n:Nat}:(n=n+1+1+1+1+1+1+1)=False:=by simp only[eq_iff_iff,iff_false];omega
@[simp]theorem alq{n:Nat}:(n+1+1+1+1+1+1+1=n)=False:=by simp only[eq_iff_iff,iff_false];omega
@[simp]theorem alr{n:Nat}:(n<n+1+1+1+1+1+1+1)=True:=by simp only[eq_iff_iff,iff_true];omega
@[simp]theorem als{n:Nat}:(n<=n+1+1+1+1+1+1+1)=True:=by simp only[eq_iff_iff,iff_true];omega
section
variable{ρ:Nat->Nat}{m:Nat}
@[simp]theorem U5{a b:List AV}:AV.ren.dm ρ (a++b)=AV.ren.dm ρ a++AV.ren.dm ρ b:=by
 induction a with
 |nil=>rfl
 |cons x a ih=>simp[AV.ren.dm,ih]
theorem qE(l:List AV):AV.ren.dm ρ l=l.map (AV.ren ρ):=by
 induction l with
 |nil=>rfl
 |cons x a ih=>simp[AV.ren.dm,ih]
@[simp]theorem aam{l:List AV}{k:Nat}:AV.ren.dm ρ (l.take k)=(AV.ren.dm ρ l).take k:=by simp[qE]
@[simp]theorem aan{l:List AV}{k:Nat}:AV.ren.dm ρ (l.drop k)=(AV.ren.dm ρ l).drop k:=by simp[qE]
@[simp]theorem ad9{l:List AV}{k:Nat}{x:AV}:AV.ren.dm ρ (l.set k x)=(AV.ren.dm ρ l).set k (x.ren ρ):=by simp[qE]
@[simp]theorem X6{l:List PC}:AV.ren.dm ρ (l.map .p)=l.map .p:=by
 induction l with
 |nil=>rfl
 |cons x a ih=>simp[ih]
@[simp]theorem S7{α:Type}{f:α->PC}{l:List α}:AV.ren.dm ρ (l.map fun x=> .p (f x))=l.map fun x=> .p (f x):=by
 induction l with
 |nil=>rfl
 |cons x a ih=>simp[ih]
@[simp]theorem ag3{α:Type}{f:α->PC}{l:List α}:AV.ren.dm ρ (l.map (AV.p∘f))=l.map (AV.p∘f):=S7 (f:=f)
@[simp]theorem Sj{α:Type}{f:α->PC}{l:List α}:AV.fD.eM m (l.map (AV.p∘f))=true:=by
 induction l with
 |nil=>rfl
 |cons x a ih=>simp[ih]
@[simp]theorem U6{a b:List AV}:AV.fD.eM m (a++b)=(AV.fD.eM m a&&AV.fD.eM m b):=by
 induction a with
 |nil=>simp
 |cons x a ih=>simp[ih,Bool.and_assoc]
theorem EC(l:List AV):AV.fD.eM m l=l.all (AV.fD m):=by
 induction l with
 |nil=>rfl
 |cons x a ih=>simp[ih]
@[simp]theorem aao{l:List AV}{k:Nat}(h:AV.fD.eM m l=true):AV.fD.eM m (l.take k)=true:=by
 rw[EC]at*;exact List.all_eq_true.2 fun x hx=>List.all_eq_true.1 h x (jH hx)
@[simp]theorem aap{l:List AV}{k:Nat}(h:AV.fD.eM m l=true):AV.fD.eM m (l.drop k)=true:=by
 rw[EC]at*;exact List.all_eq_true.2 fun x hx=>List.all_eq_true.1 h x (List.mem_of_mem_drop hx)
@[simp]theorem X7{l:List PC}:AV.fD.eM m (l.map .p)=true:=by
 induction l with
 |nil=>rfl
 |cons x a ih=>simp[ih]
@[simp]theorem ag4{α:Type}{f:α->PC}{l:List α}:AV.fD.eM m (l.map fun x=> .p (f x))=true:=by
 induction l with
 |nil=>rfl
 |cons x a ih=>simp[ih]
end
def ga:PC->List PC
 | .agg false xs=>xs
 |x=>[x]
theorem ED(x:PC):aU x=(ga x).map .p:=by
 cases x with
 |agg b l=>cases b<;>rfl
 |_=>rfl
@[simp]theorem sZ{xs:List PC}:xs.flatMap aU=(xs.flatMap ga).map .p:=by
 induction xs with
 |nil=>rfl
 |cons x xs ih=>simp[ih,ED]
@[simp]theorem S8{v:Value}:ga (.sc v)=[.sc v]:=(rfl)
@[simp]theorem ad_{l:List PC}:ga (.agg false l)=l:=(rfl)
theorem oe{xs:List PC}{s:Nat}(h:∀x∈xs,x.width=s):(xs.flatMap ga).length=xs.length*s:=by
 have:=vC (s:=s) xs h;simpa using this
section
variable{P:Program}{f:FuncId}{xs:List AV}{tb aM rK:Tb}{r r':AV}
theorem Iq{id n s:Nat}{m:Option Nat}{ob:Ob}{ys:List PC}(hl:lk id tb.bx=some ob)(hsz:ob.sz=s)(hs:0<s)(hx:n*s<=ob.xs.length)(hc:ob.xs.take (n*s)=ys.flatMap aU)(hy:ys.length=n)(hw':∀y∈ys,y.width=s)(ht:∀y∈ys,cw y=true):RLe (.view id 0 n s m) tb (.p (.sl ys)) ⟨(tb.cD id).bx,tb.rw,tb.nx+1⟩:=by
 intro w0 M0 F g w v hw hv;subst hsz;cases hv with
 |view e h3 h4 h5 hm=>
  rename_i b c au;have hdel:∀i p,lk i (tb.cD id).bx=some p->lk i tb.bx=some p:=fun i p h=>by
   simp only[Tb.cD,cu]at h;split at h
   ·cases h
   ·exact h
  cases h5 with
  |void hz uV=>
   subst hz;have hn0:n=0:=by omega
   subst hn0;have:ys=[]:=mB hy;subst this;refine⟨g,G.le_refl g,hw.sub hdel (fun _ _ h=>h) (Nat.le_succ _),?_⟩;rcases uV with rfl|⟨a',rfl⟩
   ·exact .p .cX
   ·exact .p (.rH a')
  |real off g_ had h5=>
   subst had;obtain rfl:off=0:=by have:=h5 (.inr rfl);simpa using this
   obtain⟨N,k1,k2,k3⟩:=hw.xC hl e g_ hs (by omega) hx hc hy hw' ht;refine⟨_,?_,k2.sub (fun i p h=>h) (fun i p h=>?_) (Nat.le_refl _),.p k3⟩
   ·exact⟨k1,fun _ _ h=>h,fun i p h=>by have:=hw.oc h;simp only[G.cY,G.with];rw[if_neg (by omega)];exact h⟩
   ·simp only[Tb.bU,Tb.cD,a_];split
    ·rename_i hi;subst hi;obtain⟨v',q1,_⟩:=hw.rows tb.nx p.1 p.2 h;have:=hw.oc q1;omega
    ·exact h
theorem sY{id n s:Nat}{m:Option Nat}{ob:Ob}{ys:List PC}(h:aE P f xs tb (.view id 0 n s m) aM)(hl:lk id aM.bx=some ob)(hsz:ob.sz=s)(hs:0<s)(hx:n*s<=ob.xs.length)(hc:ob.xs.take (n*s)=ys.flatMap aU)(hy:ys.length=n)(hw':∀y∈ys,y.width=s)(ht:∀y∈ys,cw y=true):aE P f xs tb (.p (.sl ys)) ⟨(aM.cD id).bx,aM.rw,aM.nx+1⟩:=qa h (Iq hl hsz hs hx hc hy hw' ht)
end
theorem ry{g:G}{x:AV}:∀{ys:List AV} {vs:List Value} (j:Nat) (v:Value),vs[j]?=some v->aJ g vs ys->aX g v x->aJ g vs (ys.set j x)
 |[],_,_,_,_,hs,_=>by simpa using hs
 |y::ys,_,j,v,hv,.cons h hs,hn=>by
  cases j with
  |zero=>simp at hv;subst hv;exact .cons hn hs
  |succ j=>simp at hv;exact .cons h (ry j v hv hs hn)
section
variable{w0:World}{M0:Mem}{F:Nat->Prop}{tb:Tb}{g:G}{w:World}
theorem aQ.VM(h1:aQ w0 M0 F tb g w){id j:Nat}(el s:Nat){ob:Ob}(hl:lk id tb.bx=some ob)(hj:ob.xs[j]?=some (.p .nil)):aQ w0 M0 F ((tb.aS ⟨el,s,[]⟩).aP id {ob with xs:=ob.xs.set j (.view tb.nx 0 0 s none)}) (g.dw tb.nx 0 0) w:=by
 obtain⟨b,c,f1,fr,f0⟩:=h1.boxes id ob hl;have y8:ob.xs≠[]:=fun hz=>by rw[hz]at hj;simp at hj
 have g_:0<c:=Nat.pos_of_ne_zero fun hz=>y8 (f0 hz);obtain⟨cur,f2,f3,⟨tt,fz,f4,fo⟩,f5,f6,f7,f8,f9⟩:=fr g_;have hid:id<tb.nx:=h1.AF f1;obtain⟨u,hu,hr⟩:=f8.get hj;have hz:=aZ hr;have hle:=h1.mD 0 0;have gQ:=h1.CD el s;have hl':lk id (tb.aS ⟨el,s,[]⟩).bx=some ob:=by
  simp only[Tb.aS,lk];rw[if_neg (by omega)];exact hl
 have hv:aX (g.dw tb.nx 0 0) u (.view tb.nx 0 0 s none):=by
  cases hz;have:=aX.view (g:=g.dw tb.nx 0 0) (id:=tb.nx) (b:=0) (c:=0) (o:=0) (n:=0) (s:=s) (a:=none) (m:=none) (by simp[G.dw]) (by omega) (by unfold maxLen;omega) (.void rfl (.inl rfl)) (by simp);simpa using this
 have key:=gQ.aP (o':={ob with xs:=ob.xs.set j (.view tb.nx 0 0 s none)}) (cur':=cur) hl' (show(g.dw tb.nx 0 0).ob id=some (b,c)from hle.ob _ _ f1) g_ f4 rfl rfl rfl (by simpa using f7) (by
  simp only[List.length_set];exact ry j _ hu (f8.mono hle) hv) (by simpa using f9)
 have hw:w.setRow b cur=w:=setRow_self f4;rw[hw]at key;exact key
end
section
variable{w0:World}{M0:Mem}{F:Nat->Prop}{tb:Tb}{g:G}{w:World}
theorem aQ.VN(h1:aQ w0 M0 F tb g w){id j:Nat}{x y:AV}{ob:Ob}(hl:lk id tb.bx=some ob)(hj:ob.xs[j]?=some x)(hxy:x.to y):aQ w0 M0 F (tb.aP id {ob with xs:=ob.xs.set j y}) g w:=by
 obtain⟨b,c,f1,fr,f0⟩:=h1.boxes id ob hl;have y8:ob.xs≠[]:=fun hz=>by rw[hz]at hj;simp at hj
 have g_:0<c:=Nat.pos_of_ne_zero fun hz=>y8 (f0 hz);obtain⟨cur,f2,f3,⟨tt,fz,f4,fo⟩,f5,f6,f7,f8,f9⟩:=fr g_;obtain⟨u,hu,hr⟩:=f8.get hj;have key:=h1.aP (o':={ob with xs:=ob.xs.set j y}) (cur':=cur) hl f1 g_ f4 rfl rfl rfl (by simpa using f7) (by
  simp only[List.length_set];exact ry j _ hu f8 (C3 x hr hxy)) (by simpa using f9)
 have hw:w.setRow b cur=w:=setRow_self f4;rw[hw]at key;exact key
end
theorem MR{fC:Nat}{st:AS}(id j:Nat)(x y:AV)(ob:Ob)(hl:lk id st.tb.bx=some ob)(hj:ob.xs[j]?=some x)(hxy:x.to y):st.le fC ⟨st.sl,st.tb.aP id {ob with xs:=ob.xs.set j y}⟩:=by
 rintro fr a w hf ⟨g,h0,h1,h2,h3,h4⟩;exact⟨_,h0,h1.VN hl hj hxy,h2,h3,h4⟩
theorem mI{P:Program}{f:FuncId}{xs:List AV}{tb aM:Tb}{r:AV}{id j:Nat}{x:AV}(y:AV){ob:Ob}(h:aE P f xs tb r aM)(hl:lk id aM.bx=some ob)(hj:ob.xs[j]?=some x)(hxy:x.to y):aE P f xs tb r (aM.aP id {ob with xs:=ob.xs.set j y}):=qa h fun _ _ _ g _ _ hw hv=>⟨g,G.le_refl g,hw.VN hl hj hxy,hv⟩
theorem zj{fC:Nat}{st:AS}(id j el s:Nat)(ob:Ob)(hl:lk id st.tb.bx=some ob)(hj:ob.xs[j]?=some (.p .nil)):st.le fC ⟨st.sl,(st.tb.aS ⟨el,s,[]⟩).aP id {ob with xs:=ob.xs.set j (.view st.tb.nx 0 0 s none)}⟩:=by
 rintro fr a w hf ⟨g,h0,h1,h2,h3,h4⟩;exact⟨_,h0.trans (h1.mD 0 0),h1.VM el s hl hj,fun t=>(h2 t).mono (h1.mD 0 0),h3,h4⟩
section
variable{P:Program}{f:FuncId}{xs:List AV}{tb aM:Tb}{r:AV}
theorem Lp{id j:Nat}{el s:Nat}{ob:Ob}(hl:lk id tb.bx=some ob)(hj:ob.xs[j]?=some (.p .nil)):RLe r tb r ((tb.aS ⟨el,s,[]⟩).aP id {ob with xs:=ob.xs.set j (.view tb.nx 0 0 s none)}):=by
 intro w0 M0 F g w v hw hv;exact⟨_,hw.mD 0 0,hw.VM el s hl hj,hv.mono (hw.mD 0 0)⟩
theorem oa{id j:Nat}(el s:Nat){ob:Ob}(h:aE P f xs tb r aM)(hl:lk id aM.bx=some ob)(hj:ob.xs[j]?=some (.p .nil)):aE P f xs tb r ((aM.aS ⟨el,s,[]⟩).aP id {ob with xs:=ob.xs.set j (.view aM.nx 0 0 s none)}):=qa h (Lp hl hj)
end
mutual
theorem CG{rn:List (Nat×Nat)}{nx:Nat}(h:∀p∈rn,nx<=p.1):∀(x:AV),x.fD nx=true->x.ren (uM rn)=x
 | .p _,_=>rfl
 | .obj i o,hx=>by simp only[AV.fD,decide_eq_true_eq]at hx;simp only[AV.ren];rw[mH h hx]
 | .own i o,hx=>by simp only[AV.fD,decide_eq_true_eq]at hx;simp only[AV.ren];rw[mH h hx]
 | .full _,_=>rfl
 | .nn _,_=>rfl
 | .view i o n s c,hx=>by simp only[AV.fD,decide_eq_true_eq]at hx;simp only[AV.ren];rw[mH h hx]
 | .agg t xs,hx=>by simp only[AV.fD]at hx;simp only[AV.ren];rw[lq h xs hx]
 | .lJ f xs,hx=>by simp only[AV.fD]at hx;simp only[AV.ren];rw[lq h xs hx]
 | .mE f xs,hx=>by simp only[AV.fD]at hx;simp only[AV.ren];rw[lq h xs hx]
 | .mW t x,hx=>by simp only[AV.fD]at hx;simp only[AV.ren];rw[CG h x hx]
 | .any,_=>rfl
theorem lq{rn:List (Nat×Nat)}{nx:Nat}(h:∀p∈rn,nx<=p.1):∀(xs:List AV),AV.fD.eM nx xs=true->AV.ren.dm (uM rn) xs=xs
 |[],_=>rfl
 |x::l,hx=>by
  simp only[AV.fD.eM,Bool.and_eq_true]at hx;simp only[AV.ren.dm];rw[CG h x hx.1,lq h l hx.2]
end
mutual
theorem Fp{m n:Nat}(h:m<=n):∀(x:AV),x.fD m=true->x.fD n=true
 | .p _,_=>rfl
 | .obj i o,hx=>by simp only[AV.fD,decide_eq_true_eq]at hx⊢;omega
 | .own i o,hx=>by simp only[AV.fD,decide_eq_true_eq]at hx⊢;omega
 | .full _,_=>rfl
 | .nn _,_=>rfl
 | .view i o n s c,hx=>by simp only[AV.fD,decide_eq_true_eq]at hx⊢;omega
 | .agg t xs,hx=>by simp only[AV.fD]at hx⊢;exact mQ h xs hx
 | .lJ f xs,hx=>by simp only[AV.fD]at hx⊢;exact mQ h xs hx
 | .mE f xs,hx=>by simp only[AV.fD]at hx⊢;exact mQ h xs hx
 | .mW t x,hx=>by simp only[AV.fD]at hx⊢;exact Fp h x hx
 | .any,_=>rfl
theorem mQ{m n:Nat}(h:m<=n):∀(xs:List AV),AV.fD.eM m xs=true->AV.fD.eM n xs=true
 |[],_=>rfl
 |x::l,hx=>by
  simp only[AV.fD.eM,Bool.and_eq_true]at hx⊢;exact⟨Fp h x hx.1,mQ h l hx.2⟩
end
@[simp]theorem VO{xs:List PC}:aU (.agg false xs)=xs.map .p:=(rfl)
@[simp]theorem afO{t:Bool}{xs l:List AV}:dV (.agg t xs::l)=none:=(rfl)
@[simp]theorem afP{i o:Nat}{l:List AV}:dV (.obj i o::l)=none:=(rfl)
@[simp]theorem abR{i o n s:Nat}{c:Option Nat}{l:List AV}:dV (.view i o n s c::l)=none:=(rfl)
@[simp]theorem afQ{f:Fn}{xs:List AV}{l:List AV}:dV (.lJ f xs::l)=none:=(rfl)
@[simp]theorem afR{f:Fn}{xs:List AV}{l:List AV}:dV (.mE f xs::l)=none:=(rfl)
theorem yg{P:Program}{f:FuncId}{r:AV}{aM:Tb}{pre post:List AV}{id n s:Nat}{bx:List (Nat×Ob)}{rw:List (Nat×TypeId×Nat)}{nx:Nat}(hc:dP P f)(h1:∀c,n<=c->0<c->c<=maxLen->aE P f (pre++ .view id 0 n s (some c)::post) ⟨bx,rw,nx⟩ r aM)(h2:n=0->aE P f (pre++ .p (.sl [])::post) ⟨bx,rw,nx⟩ r aM):aE P f (pre++ .view id 0 n s none::post) ⟨bx,rw,nx⟩ r aM:=by
 refine⟨hc,fun g w vs F hw hvs=>?_⟩;obtain⟨us,ws,rfl,hu,VX⟩:=aJ.split pre hvs;cases VX with
 |cons h hs=>
  cases h with
  |view e h3 h4 h5 hm=>
   rename_i b c ad;cases h5 with
   |void h0 uV=>
    subst h0;have hn:n=0:=by omega
    subst hn;refine(h2 rfl).2 g w _ F hw (hu.append (.cons ?_ hs));rcases uV with rfl|⟨a',rfl⟩
    ·exact .p .cX
    ·exact .p (.rH a')
   |real off hp ha ho=>
    exact(h1 c (by omega) hp h4).2 g w _ F hw (hu.append (.cons (.view e h3 h4 (.real off hp ha ho) (fun k hk=>by injection hk)) hs))
end Go.Av
namespace Go.Av
open Go.RowKit
def gN:List Nat->Nat->Nat->Nat
 |[],n,i=>n+i
 |j::_,_,0=>j
 |_::l,n,i+1=>gN l n i
def EY:List Nat->Nat->Nat->Option Nat
 |[],n,j=>if n<=j then some (j-n)else none
 |i::l,n,j=>if j=i then some 0 else(EY l n j).map (·+1)
theorem o_:∀(l:List Nat) (n i:Nat),l.length<=i->gN l n i=n+(i-l.length)
 |[],n,i,_=>by simp[gN]
 |_::l,n,0,h=>by simp at h
 |_::l,n,i+1,h=>by
  simp only[List.length_cons]at h⊢;rw[gN,o_ l n i (by omega)];omega
theorem PJ:∀(l:List Nat) (n i:Nat),i<l.length->gN l n i∈l
 |[],n,i,h=>by simp at h
 |j::l,n,0,h=>by simp[gN]
 |j::l,n,i+1,h=>by
  simp only[List.length_cons]at h;exact List.mem_cons_of_mem _ (PJ l n i (by omega))
theorem uE:∀(l:List Nat) (n:Nat),l.Nodup->(∀j∈l,j<n)->∀i,EY l n (gN l n i)=some i
 |[],n,_,_,i=>by simp[gN,EY]
 |j::l,n,hn,hl,0=>by simp[gN,EY]
 |j::l,n,hn,hl,i+1=>by
  have hn:=List.nodup_cons.1 hn;have ih:=uE l n hn.2 (fun k hk=>hl k (List.mem_cons_of_mem _ hk)) i;have hne:gN l n i≠j:=by
   rcases Nat.lt_or_ge i l.length with h|h
   ·intro e;exact hn.1 (e▸PJ l n i h)
   ·rw[o_ l n i h];have:=hl j (by simp);omega
  show(if gN l n i=j then some 0 else(EY l n (gN l n i)).map (·+1))=some (i+1);rw[if_neg hne,ih];rfl
theorem C0:∀(l:List Nat) (n j i:Nat),EY l n j=some i->gN l n i=j
 |[],n,j,i,h=>by
  simp only[EY]at h;split at h
  ·injection h with h;subst h;simp only[gN];omega
  ·cases h
 |k::l,n,j,i,h=>by
  simp only[EY]at h;split at h
  ·rename_i e;injection h with h;subst h;subst e;rfl
  ·cases h2:EY l n j with
   |none=>rw[h2]at h;cases h
   |some i'=>rw[h2]at h;simp at h;subst h;exact C0 l n j i' h2
def eI(ρ:Nat->Nat):List (Nat×Ob)->List (Nat×Ob)
 |[]=>[]
 |(i,o)::l=>(ρ i,{o with xs:=AV.ren.dm ρ o.xs})::eI ρ l
def kC(ρ:Nat->Nat):List (Nat×TypeId×Nat)->List (Nat×TypeId×Nat)
 |[]=>[]
 |(i,r)::l=>(ρ i,r)::kC ρ l
def Tb.ren(ρ:Nat->Nat)(tb:Tb):Tb:=⟨eI ρ tb.bx,kC ρ tb.rw,ρ tb.nx⟩
theorem qG{ρ:Nat->Nat}(hρ:∀i j,ρ i=ρ j->i=j){i:Nat}{o:Ob}:∀{l:List (Nat×Ob)},lk i l=some o->lk (ρ i) (eI ρ l)=some {o with xs:=AV.ren.dm ρ o.xs}
 |[],h=>by simp[lk]at h
 |(j,p)::l,h=>by
  simp only[lk]at h;simp only[eI,lk];split at h
  ·rename_i e;subst e;injection h with h;subst h;rw[if_pos rfl]
  ·rename_i e;rw[if_neg (fun h=>e (hρ _ _ h))];exact qG hρ h
theorem qH{ρ:Nat->Nat}(hρ:∀i j,ρ i=ρ j->i=j){i:Nat}{o:TypeId×Nat}:∀{l:List (Nat×TypeId×Nat)},lk i l=some o->lk (ρ i) (kC ρ l)=some o
 |[],h=>by simp[lk]at h
 |(j,p)::l,h=>by
  simp only[lk]at h;simp only[kC,lk];split at h
  ·rename_i e;subst e;injection h with h;subst h;rw[if_pos rfl]
  ·rename_i e;rw[if_neg (fun h=>e (hρ _ _ h))];exact qH hρ h
theorem Bt{ρ:Nat->Nat}{j:Nat}{q:Ob}:∀{l:List (Nat×Ob)},lk j (eI ρ l)=some q->∃i o,j=ρ i/\q={o with xs:=AV.ren.dm ρ o.xs}/\(∀hρ:∀i j,ρ i=ρ j->i=j,lk i l=some o)
 |[],h=>by simp[eI]at h
 |(k,p)::l,h=>by
  simp only[eI,lk]at h;split at h
  ·rename_i e;injection h with h;exact⟨k,p,e,h.symm,fun _=>by simp[lk]⟩
  ·rename_i e;obtain⟨i,o,h1,h2,h3⟩:=Bt h;refine⟨i,o,h1,h2,fun hρ=>?_⟩;simp only[lk];rw[if_neg (fun e'=>e (by rw[h1,e']))];exact h3 hρ
theorem Bu{ρ:Nat->Nat}{j:Nat}{q:TypeId×Nat}:∀{l:List (Nat×TypeId×Nat)},lk j (kC ρ l)=some q->∃i,j=ρ i/\(∀hρ:∀i j,ρ i=ρ j->i=j,lk i l=some q)
 |[],h=>by simp[kC]at h
 |(k,p)::l,h=>by
  simp only[kC,lk]at h;split at h
  ·rename_i e;injection h with h;subst h;exact⟨k,e,fun _=>by simp[lk]⟩
  ·rename_i e;obtain⟨i,h1,h3⟩:=Bu h;refine⟨i,h1,fun hρ=>?_⟩;simp only[lk];rw[if_neg (fun e'=>e (by rw[h1,e']))];exact h3 hρ
def G.pull(g:G)(ρ:Nat->Nat):G:=⟨g.M,fun i=>g.ob (ρ i),fun i=>g.rv (ρ i)⟩
mutual
theorem Bv{g:G}{ρ:Nat->Nat}:∀{v:Value} (x:AV),aX g v (x.ren ρ)->aX (g.pull ρ) v x
 |v,.p y,h=>by simp only[AV.ren]at h;cases h with|p h1=>exact .p h1
 |v,.obj id off,h=>by simp only[AV.ren]at h;cases h with|obj e=>exact .obj e
 |v,.own id xs,h=>by simp only[AV.ren]at h;cases h with|own e hr=>exact .own e hr
 |v,.full xs,h=>by simp only[AV.ren]at h;cases h with|full hr=>exact .full hr
 |v,.nn xs,h=>by simp only[AV.ren]at h;cases h with|nn hr=>exact .nn hr
 |v,.view id o n s c,h=>by simp only[AV.ren]at h;cases h with|view e h1 h2 h3 h4=>exact .view (g:=g.pull ρ) e h1 h2 h3 h4
 |v,.agg t xs,h=>by
  simp only[AV.ren]at h;cases h with
  |agg hs h1=>exact .agg (jo xs hs) h1
  |qi hs=>exact .qi (jo xs hs)
 |v,.lJ f xs,h=>by
  simp only[AV.ren]at h;cases h with
  |lJ hs=>exact .lJ (jo xs hs)
 |v,.mE f xs,h=>by
  simp only[AV.ren]at h;cases h with
  |mE hs=>exact .mE (jo xs hs)
 |v,.mW t x,h=>by
  simp only[AV.ren]at h;cases h with
  |mW h1=>exact .mW (Bv x h1)
 |v,.any,_=> .any v
theorem jo{g:G}{ρ:Nat->Nat}:∀{vs:List Value} (xs:List AV),aJ g vs (AV.ren.dm ρ xs)->aJ (g.pull ρ) vs xs
 |_,[],h=>by simp only[AV.ren.dm]at h;cases h;exact .nil
 |_,x::xs,h=>by
  simp only[AV.ren.dm]at h;cases h with|cons h1 hs=>exact .cons (Bv x h1) (jo xs hs)
end
structure TW(g' Ez:G)(ρ:Nat->Nat):Prop where
 M:Ez.M=g'.M
 ob:∀i,Ez.ob (ρ i)=g'.ob i
 rv:∀i,Ez.rv (ρ i)=g'.rv i
mutual
theorem vM{g' Ez:G}{ρ:Nat->Nat}(hp:TW g' Ez ρ):∀{v:Value} (x:AV),aX g' v x->aX Ez v (x.ren ρ)
 |v,.p y,h=>by cases h with|p h1=>exact .p (hp.M▸h1)
 |v,.obj id off,h=>by cases h with|obj e=>exact .obj ((hp.ob _).trans e)
 |v,.own id xs,h=>by cases h with|own e hr=>exact .own ((hp.rv _).trans e) (hp.M▸hr)
 |v,.full xs,h=>by cases h with|full hr=>exact .full (hp.M▸hr)
 |v,.nn xs,h=>by cases h with|nn hr=>exact .nn (hp.M▸hr)
 |v,.view id o n s c,h=>by cases h with|view e h1 h2 h3 h4=>exact .view ((hp.ob _).trans e) h1 h2 h3 h4
 |v,.agg t xs,h=>by
  cases h with
  |agg hs h1=>exact .agg (kR hp xs hs) h1
  |qi hs=>exact .qi (kR hp xs hs)
 |v,.lJ f xs,h=>by
  cases h with
  |lJ hs=>exact .lJ (kR hp xs hs)
 |v,.mE f xs,h=>by
  cases h with
  |mE hs=>exact .mE (kR hp xs hs)
 |v,.mW t x,h=>by
  cases h with
  |mW h1=>exact .mW (vM hp x h1)
 |v,.any,_=> .any v
theorem kR{g' Ez:G}{ρ:Nat->Nat}(hp:TW g' Ez ρ):∀{vs:List Value} (xs:List AV),aJ g' vs xs->aJ Ez vs (AV.ren.dm ρ xs)
 |_,[],h=>by cases h;exact .nil
 |_,x::xs,h=>by cases h with|cons h1 hs=>exact .cons (vM hp x h1) (kR hp xs hs)
end
section
variable{w0:World}{M0:Mem}{F:Nat->Prop}{tb:Tb}{g:G}{w:World}
theorem aQ.pull{ρ:Nat->Nat}(hρ:∀i j,ρ i=ρ j->i=j)(hge:∀i,tb.nx<=i->ρ tb.nx<=ρ i)(h:aQ w0 M0 F (tb.ren ρ) g w):aQ w0 M0 F tb (g.pull ρ) w:=by
 refine⟨h.holds,h.keep,h.old,h.Dm,fun i o e=>?_,fun i el sz e=>?_,fun i j o p b c b' c' ei ej hij e1 e2 p1 p2=>?_,fun i j r s u v b ei ej hij e1 e2 e3=>?_,fun i j o r b c v ei ej e1 e2 p1=>?_,fun i hi=>?_⟩
 ·obtain⟨b,c,f1,fr,f0⟩:=h.boxes _ _ (qG hρ e);refine⟨b,c,f1,fun hp=>?_,fun hz=>?_⟩
  ·obtain⟨cur,f2,f3,f4,f5,f6,f7,f8,f9⟩:=fr hp;simp only[gb]at f7 f8;exact⟨cur,f2,f3,f4,f5,f6,f7,jo _ f8,f9⟩
  ·have:=congrArg List.length (f0 hz);simp only[gb]at this;exact mB this
 ·obtain⟨v,f1,f2⟩:=h.rows _ _ _ (qH hρ e);exact⟨v,f1,f2⟩
 ·exact h.f_ _ _ _ _ b c b' c' (qG hρ ei) (qG hρ ej) (fun e=>hij (hρ _ _ e)) e1 e2 p1 p2
 ·exact h.ia _ _ _ _ u v b (qH hρ ei) (qH hρ ej) (fun e=>hij (hρ _ _ e)) e1 e2 e3
 ·exact h.fj _ _ _ _ b c v (qG hρ ei) (qH hρ ej) e1 e2 p1
 ·exact h.fresh (ρ i) (hge i hi)
theorem aQ.push{g' Ez:G}{ρ:Nat->Nat}(hρ:∀i j,ρ i=ρ j->i=j)(hp:TW g' Ez ρ)(hge:∀j,ρ tb.nx<=j->∃i,tb.nx<=i/\j=ρ i)(h:aQ w0 M0 F tb g' w):aQ w0 M0 F (tb.ren ρ) Ez w:=by
 have hM:=hp.M;have AJ:∀{j q},lk j (tb.ren ρ).bx=some q->∃i o,j=ρ i/\q={o with xs:=AV.ren.dm ρ o.xs}/\lk i tb.bx=some o:=fun e=>by
  obtain⟨i,o,h1,h2,h3⟩:=Bt e;exact⟨i,o,h1,h2,h3 hρ⟩
 have hrw:∀{j q},lk j (tb.ren ρ).rw=some q->∃i,j=ρ i/\lk i tb.rw=some q:=fun e=>by
  obtain⟨i,h1,h3⟩:=Bu e;exact⟨i,h1,h3 hρ⟩
 refine⟨hM▸h.holds,h.keep,hM▸h.old,hM▸h.Dm,fun i o e=>?_,fun i el sz e=>?_,fun i j o p b c b' c' ei ej hij e1 e2 p1 p2=>?_,fun i j r s u v b ei ej hij e1 e2 e3=>?_,fun i j o r b c v ei ej e1 e2 p1=>?_,fun j hj=>?_⟩
 ·obtain⟨i',o',rfl,rfl,k⟩:=AJ e;obtain⟨b,c,f1,fr,f0⟩:=h.boxes _ _ k;refine⟨b,c,(hp.ob _).trans f1,fun hp'=>?_,fun hz=>by simp only[f0 hz];rfl⟩;obtain⟨cur,f2,f3,f4,f5,f6,f7,f8,f9⟩:=fr hp';refine⟨cur,f2,fun off=>by rw[hM];exact f3 off,f4,f5,f6,by simpa only[gb]using f7,?_,f9⟩;simp only[gb];exact kR hp _ f8
 ·obtain⟨i',rfl,k⟩:=hrw e;obtain⟨v,f1,f2⟩:=h.rows _ _ _ k;exact⟨v,(hp.rv _).trans f1,by rw[hM];exact f2⟩
 ·obtain⟨i',o',rfl,rfl,ki⟩:=AJ ei;obtain⟨j',p',rfl,rfl,kj⟩:=AJ ej;exact h.f_ _ _ _ _ b c b' c' ki kj (fun e=>hij (by rw[e])) ((hp.ob _).symm.trans e1) ((hp.ob _).symm.trans e2) p1 p2
 ·obtain⟨i',rfl,ki⟩:=hrw ei;obtain⟨j',rfl,kj⟩:=hrw ej;exact h.ia _ _ _ _ u v b ki kj (fun e=>hij (by rw[e])) ((hp.rv _).symm.trans e1) ((hp.rv _).symm.trans e2) e3
 ·obtain⟨i',o',rfl,rfl,ki⟩:=AJ ei;obtain⟨j',rfl,kj⟩:=hrw ej;exact h.fj _ _ _ _ b c v ki kj ((hp.ob _).symm.trans e1) ((hp.rv _).symm.trans e2) p1
 ·obtain⟨i,h1,rfl⟩:=hge j hj;rw[hp.ob,hp.rv];exact h.fresh i h1
end
theorem CY{P:Program}{f:FuncId}{xs:List AV}{r:AV}{tb aM:Tb}(h:aE P f xs tb r aM)(rn:List Nat)(n:Nat)(hl:rn.length=tb.nx)(hm:tb.nx<=aM.nx)(hnd:rn.Nodup)(hlt:∀j∈rn,j<n):aE P f (AV.ren.dm (gN rn n) xs) (tb.ren (gN rn n)) (r.ren (gN rn n)) (aM.ren (gN rn n)):=by
 have inj:∀i j,gN rn n i=gN rn n j->i=j:=fun i j e=>by
  have h1:=uE rn n hnd hlt i;rw[e,uE rn n hnd hlt j]at h1;injection h1 with h1;exact h1.symm
 have FF:gN rn n tb.nx=n:=by rw[o_ _ _ _ (by omega)];omega
 refine⟨h.1,fun g w vs F hw hvs=>?_⟩;have afm:=hw.pull (tb:=tb) inj (fun i hi=>by rw[FF,o_ _ _ _ (by omega)];omega);refine(h.2 (g.pull (gN rn n)) w vs F afm (jo _ hvs)).mono ?_;rintro e w' ⟨v,g',rfl,h1,h2,h3⟩
 let Ez:G:=⟨g'.M,fun j=>match EY rn n j with|some i=>g'.ob i|none=>g.ob j,fun j=>match EY rn n j with|some i=>g'.rv i|none=>g.rv j⟩
 have hp:TW g' Ez (gN rn n):=⟨rfl,fun i=>by show(match EY rn n (gN rn n i)with|some i=>g'.ob i|none=>g.ob _)=_;rw[uE rn n hnd hlt i],fun i=>by show(match EY rn n (gN rn n i)with|some i=>g'.rv i|none=>g.rv _)=_;rw[uE rn n hnd hlt i]⟩;refine⟨v,Ez,rfl,⟨h1.M,fun j p e=>?_,fun j p e=>?_⟩,h2.push inj hp ?_,vM hp _ h3⟩
 ·show(match EY rn n j with|some i=>g'.ob i|none=>g.ob j)=_;cases hj:EY rn n j with
  |none=>exact e
  |some i=>exact h1.ob i p (by show g.ob (gN rn n i)=_;rw[C0 _ _ _ _ hj];exact e)
 ·show(match EY rn n j with|some i=>g'.rv i|none=>g.rv j)=_;cases hj:EY rn n j with
  |none=>exact e
  |some i=>exact h1.rv i p (by show g.rv (gN rn n i)=_;rw[C0 _ _ _ _ hj];exact e)
 ·intro j hj;rw[o_ _ _ _ (by omega)]at hj;refine⟨rn.length+(j-n),by omega,?_⟩;rw[o_ _ _ _ (by omega)];omega
@[simp]theorem ahW{n i:Nat}:gN [] n i=n+i:=(rfl)
@[simp]theorem afn{j n:Nat}{l:List Nat}:gN (j::l) n 0=j:=(rfl)
@[simp]theorem afo{j n i:Nat}{l:List Nat}:gN (j::l) n (i+1)=gN l n i:=(rfl)
@[simp]theorem abK{ρ:Nat->Nat}:eI ρ []=[]:=(rfl)
@[simp]theorem Zh{ρ:Nat->Nat}{i sz:Nat}{el:TypeId}{xs:List AV}{l:List (Nat×Ob)}:eI ρ ((i,⟨el,sz,xs⟩)::l)=(ρ i,⟨el,sz,AV.ren.dm ρ xs⟩)::eI ρ l:=(rfl)
@[simp]theorem TX{ρ:Nat->Nat}{l m:List (Nat×Ob)}:eI ρ (l++m)=eI ρ l++eI ρ m:=by
 induction l with
 |nil=>rfl
 |cons x l ih=>obtain⟨i,o⟩:=x;simp[eI,ih]
@[simp]theorem abL{ρ:Nat->Nat}:kC ρ []=[]:=(rfl)
@[simp]theorem Zi{ρ:Nat->Nat}{i:Nat}{r:TypeId×Nat}{l:List (Nat×TypeId×Nat)}:kC ρ ((i,r)::l)=(ρ i,r)::kC ρ l:=(rfl)
@[simp]theorem afp{ρ:Nat->Nat}{bx:List (Nat×Ob)}{rw:List (Nat×TypeId×Nat)}{nx:Nat}:Tb.ren ρ ⟨bx,rw,nx⟩=⟨eI ρ bx,kC ρ rw,ρ nx⟩:=(rfl)
section
variable{P:Program}{tb:Tb}{kt:AV->Tb->Prop}
theorem bq{gf:FuncId}{ys l:List AV}{ts ts':Tb}{r:AV}(rn:List Nat)(h:aE P gf ys ts r ts')(hs:rn.length=ts.nx/\ts.nx<=ts'.nx/\rn.Nodup/\∀j∈rn,j<tb.nx)(hl:toAll l (AV.ren.dm (gN rn tb.nx) ys))(hb:ay tb.bx (eI (gN rn tb.nx) ts.bx))(hr:ay tb.rw (kC (gN rn tb.nx) ts.rw))(hk:kt (r.ren (gN rn tb.nx)) (tb.merge (ts.ren (gN rn tb.nx)) (ts'.ren (gN rn tb.nx)))):nL P gf [] l tb kt:=aA (CY h rn tb.nx hs.1 hs.2.1 hs.2.2.1 hs.2.2.2) hl hb hr (by show gN rn tb.nx ts.nx=tb.nx;rw[o_ _ _ _ (by omega)];omega) hk
end
theorem jI{P:Program}{tb:Tb}{kt:AV->Tb->Prop}{gf:FuncId}{ys l:List AV}{ts ts':Tb}{r:AV}(rn:List Nat)(h:aE P gf ys ts r ts')(hk:kt (r.ren (gN rn tb.nx)) (tb.merge (ts.ren (gN rn tb.nx)) (ts'.ren (gN rn tb.nx))))(hs:rn.length=ts.nx/\ts.nx<=ts'.nx/\rn.Nodup/\∀j∈rn,j<tb.nx:=by simp)(hl:toAll l (AV.ren.dm (gN rn tb.nx) ys):=by simp)(hb:ay tb.bx (eI (gN rn tb.nx) ts.bx):=by simp)(hr:ay tb.rw (kC (gN rn tb.nx) ts.rw):=by simp):nL P gf [] l tb kt:=bq rn h hs hl hb hr hk
theorem Da{P:Program}{tb:Tb}{kt:AV->Tb->Prop}{gf:FuncId}{ys l:List AV}{ts ts':Tb}{r:AV}(rn:List Nat)(h:aE P gf ys ts r ts')(hk:kt (r.ren (gN rn tb.nx)) (tb.merge (ts.ren (gN rn tb.nx)) (ts'.ren (gN rn tb.nx))))(hs:rn.length=ts.nx/\ts.nx<=ts'.nx/\rn.Nodup/\∀j∈rn,j<tb.nx:=by simp)(hl:toAll l (AV.ren.dm (gN rn tb.nx) ys):=by simp)(hb:ay tb.bx (eI (gN rn tb.nx) ts.bx):=by simp[ay])(hr:ay tb.rw (kC (gN rn tb.nx) ts.rw):=by simp):nL P gf [] l tb kt:=bq rn h hs hl hb hr hk
end Go.Av
namespace Go.Av
open Go.Proofs Go.Proofs.Tryz
theorem mixed:prog.follows .mixedOrders=true:=by kernel_rfl
@[simp]theorem alu{x y:UInt8}:((x.toNat:Int) !=(y.toNat:Int))=(x !=y):=by
 rw[Bool.eq_iff_iff];simp[<-UInt8.toNat_inj];omega
theorem ah{f:FuncId}{fn:Func}{c:Code}{xs rs:List AV}{r:AV}{tb aM:Tb}(md:List Nat)(cls:List (Nat×List (Nat×Cls)))(lab:List (Nat×Nat))(hf:prog.funcs[f]?=some fn)(hb:fn.body=some c)(h:aw prog ⟨md,cls,lab,tb.nx,[]⟩ c (me xs tb) (tP prog fn (DU tb.nx rs aM)))(hnm:(fn.name=="runtime.NumGoroutine")=false:=by kernel_rfl)(hk:codeOk cls [] fn.ntmps c=true:=by kernel_rfl)(hr:r=vX rs:=by rfl)(hx:xs.length<=fn.ntmps:=by exact Nat.le_of_ble_eq_true rfl):aE prog f xs tb r aM:=Bk md cls lab mixed hf hb hnm hk hx hr h
theorem ai{f:FuncId}{fn:Func}{c:Code}{xs ys:List PC}{r:PC}(md:List Nat)(cls:List (Nat×List (Nat×Cls)))(lab:List (Nat×Nat))(hf:prog.funcs[f]?=some fn)(hb:fn.body=some c)(h:aw prog ⟨md,cls,lab,0,[]⟩ c (me (xs.map .p) ⟨[],[],0⟩) (tP prog fn (Em ys)))(hnm:(fn.name=="runtime.NumGoroutine")=false:=by kernel_rfl)(hk:codeOk cls [] fn.ntmps c=true:=by kernel_rfl)(hr:r=Bd ys:=by rfl)(hx:xs.length<=fn.ntmps:=by exact Nat.le_of_ble_eq_true rfl):aq prog f xs r:=zm md cls lab mixed hf hb hnm hk hx hr h
end Go.Av
namespace Go.Av
theorem Dn{A V:List AV}{z:AV}{n m i:Nat}(hA:A.length=n)(hV:V.length=m)(hi:i<=n):List.take (i+m) (bB (i+m) (List.take i (bB i (List.take i A++List.replicate (n+m-i) z))++(V++List.drop (i+m) (bB i (List.take i A++List.replicate (n+m-i) z)))))++(List.take (n-i) (List.drop i A)++List.drop (i+m+(n-i)) (bB (i+m) (List.take i (bB i (List.take i A++List.replicate (n+m-i) z))++(V++List.drop (i+m) (bB i (List.take i A++List.replicate (n+m-i) z))))))=List.take i A++(V++List.drop i A):=by
 have l1:(List.take i A).length=i:=by simp;omega
 rw[eU (k:=i) (by simp;omega)];have e1:List.take i (List.take i A++List.replicate (n+m-i) z)=List.take i A:=List.take_left' l1;have e2:List.drop (i+m) (List.take i A++List.replicate (n+m-i) z)=List.replicate (n-i) z:=by
  rw[<-List.drop_drop,List.drop_left' l1,List.drop_replicate];congr 1;omega
 rw[e1,e2];have l2:(List.take i A++V).length=i+m:=by simp;omega
 rw[eU (k:=i+m) (by simp;omega)];rw[<-List.append_assoc (List.take i A) V,List.take_left' l2,<-List.drop_drop,List.drop_left' l2];have e3:List.drop (n-i) (List.replicate (n-i) z)=[]:=List.drop_of_length_le (by simp);have e4:List.take (n-i) (List.drop i A)=List.drop i A:=fY (by simp;omega);rw[e3,e4,List.append_nil,List.append_assoc]
theorem Dp{A V:List AV}{n m i k:Nat}(hA:A.length=n)(hV:V.length=m)(hi:i<=n)(hk:k=n-i):List.take i (bB i (List.take (i+m) (bB (i+m) A)++(List.take k (List.drop i (bB (i+m) A))++List.drop (i+m+k) (bB (i+m) A))))++(V++List.drop (i+m) (bB i (List.take (i+m) (bB (i+m) A)++(List.take k (List.drop i (bB (i+m) A))++List.drop (i+m+k) (bB (i+m) A)))))=List.take i A++(V++List.drop i A):=by
 subst hk;have l1:(List.take (i+m) (bB (i+m) A)).length=i+m:=by rw[List.length_take,eN];omega
 have hp:bB (i+m) A=A++List.replicate (i+m-n) .any:=by unfold bB;rw[hA]
 rw[eU (k:=i) (by rw[dU,l1];omega)];rw[List.drop_left' l1];have e1:List.take i (List.take (i+m) (bB (i+m) A)++(List.take (n-i) (List.drop i (bB (i+m) A))++List.drop (i+m+(n-i)) (bB (i+m) A)))=List.take i A:=by
  rw[List.take_append_of_le_length (by omega),List.take_take,Nat.min_eq_left (by omega),hp,List.take_append_of_le_length (by omega)]
 have e2:List.take (n-i) (List.drop i (bB (i+m) A))=List.drop i A:=by
  rw[hp,List.drop_append_of_le_length (by omega)];exact List.take_left' (by simp;omega)
 have e3:List.drop (i+m+(n-i)) (bB (i+m) A)=[]:=List.drop_of_length_le (by rw[eN];omega);rw[e1,e2,e3,List.append_nil]
theorem KQ{Q V S R:List AV}{i m k:Nat}(hP:Q.length=i)(hV:V.length=m)(hS:S.length=k)(hR:R.length=m+k):List.take (i+m) (bB (i+m) (List.take i (bB i (Q++R))++(V++List.drop (i+m) (bB i (Q++R)))))++(S++List.drop (i+m+k) (bB (i+m) (List.take i (bB i (Q++R))++(V++List.drop (i+m) (bB i (Q++R))))))=Q++(V++S):=by
 rw[eU (k:=i) (by simp;omega)];rw[List.take_left' hP];have e2:List.drop (i+m) (Q++R)=List.drop m R:=by rw[<-List.drop_drop,List.drop_left' hP]
 rw[e2];have l2:(Q++V).length=i+m:=by simp;omega
 rw[eU (k:=i+m) (by simp;omega)];rw[<-List.append_assoc Q V,List.take_left' l2,<-List.drop_drop,List.drop_left' l2];have e3:List.drop k (List.drop m R)=[]:=List.drop_of_length_le (by simp;omega);rw[e3,List.append_nil,List.append_assoc]
theorem KR{A V:List AV}{n m i j k:Nat}(hA:A.length=n)(hV:V.length=m)(hi:i<=n)(hj:j<=n)(hij:j<i+m)(hk:k=n-j):List.take i (bB i (List.take (i+m) (bB (i+m) A)++(List.take k (List.drop j (bB (i+m) A))++List.drop (i+m+k) (bB (i+m) A))))++(V++List.drop (i+m) (bB i (List.take (i+m) (bB (i+m) A)++(List.take k (List.drop j (bB (i+m) A))++List.drop (i+m+k) (bB (i+m) A)))))=List.take i A++(V++List.drop j A):=by
 subst hk;have l1:(List.take (i+m) (bB (i+m) A)).length=i+m:=by rw[List.length_take,eN];omega
 have hp:bB (i+m) A=A++List.replicate (i+m-n) .any:=by unfold bB;rw[hA]
 rw[eU (k:=i) (by rw[dU,l1];omega)];rw[List.drop_left' l1];have e1:∀R,List.take i (List.take (i+m) (bB (i+m) A)++R)=List.take i A:=fun R=>by
  rw[List.take_append_of_le_length (by omega),List.take_take,Nat.min_eq_left (by omega),hp,List.take_append_of_le_length (by omega)]
 have e2:List.take (n-j) (List.drop j (bB (i+m) A))=List.drop j A:=by
  rw[hp,List.drop_append_of_le_length (by omega)];exact List.take_left' (by simp;omega)
 have e3:List.drop (i+m+(n-j)) (bB (i+m) A)=[]:=List.drop_of_length_le (by rw[eN];omega);rw[e1,e2,e3,List.append_nil]
theorem G0{A V:List AV}{n m i j k:Nat}(hA:A.length=n)(hV:V.length=m)(hj:j<=n)(hij:i+m<=j)(hk:k=n-j)(R:List AV):List.take (i+m+k) (List.take (i+m) (List.take i A++(V++List.drop (i+m) A))++(List.take k (List.drop j (List.take i A++(V++List.drop (i+m) A)))++R))=List.take i A++(V++List.drop j A):=by
 subst hk;have l1:(List.take i A++V).length=i+m:=by simp;omega
 rw[<-List.append_assoc (List.take i A) V,List.take_left' l1];have e1:List.drop j (List.take i A++V++List.drop (i+m) A)=List.drop j A:=by
  have:j=(i+m)+(j-(i+m)):=by omega
  rw[this,<-List.drop_drop,List.drop_left' l1,List.drop_drop]
 rw[e1,fY (l:=List.drop j A) (by simp;omega),<-List.append_assoc];rw[List.take_left' (by rw[dU,l1,List.length_drop];omega),List.append_assoc]
theorem Cr{A R:List AV}{n i j k:Nat}(hA:A.length=n)(hij:i<=j)(hj:j<=n)(hk:k=i+(n-j)):List.take k (List.take i A++(List.take (n-j) (List.drop j A)++R))=List.take i A++List.drop j A:=by
 subst hk;have l1:(List.take i A).length=i:=by simp;omega
 have e4:List.take (n-j) (List.drop j A)=List.drop j A:=fY (by simp;omega);rw[e4,<-List.append_assoc];exact List.take_left' (by rw[dU,l1,List.length_drop];omega)
end Go.Av
