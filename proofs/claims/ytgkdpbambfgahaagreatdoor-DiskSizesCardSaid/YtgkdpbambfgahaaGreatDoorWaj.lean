/- DiskSizes, part 10: an abstract interpreter over a program's form, with the proof that it is sound; it holds for any program that the model takes. -/
import Derived.Test.YtgkdpbambfgahaaGreatDoorWai
import Derived.Test.YtgkdpbambfgahaaGreatDoorProg
import Derived.KernelRfl
set_option linter.all false
set_option maxRecDepth 100000
set_option maxHeartbeats 64000000
namespace Go.Av
open Go.RowKit
@[simp]theorem ahC:r_ []=fun _=> .any:=(rfl)
@[simp]theorem acp{k:Nat}{v:AV}{l:List (Nat×AV)}:r_ ((k,v)::l)=rF (r_ l) k v:=(rfl)
@[simp]theorem XT{k:Nat}:iD [] k=fun _=> .any:=(rfl)
@[simp]theorem Uy{k:Nat}{x:AV}{l:List AV}:iD (x::l) k=rF (iD l (k+1)) k x:=(rfl)
@[simp]theorem ahD{xs:List AV}{tb:Tb}:lM xs tb=⟨iD xs 0,tb⟩:=(rfl)
@[simp]theorem akQ{rn:List (Nat×Nat)}{m:Nat}{f:Nat->AV}:RQ rn m f []=True:=(rfl)
@[simp]theorem ahE{rn:List (Nat×Nat)}{m:Nat}{f:Nat->AV}{k:Nat}{v:AV}{l:List (Nat×AV)}:RQ rn m f ((k,v)::l)=((f k).to (v.cH (sP rn))/\v.e_ m=true/\RQ rn m f l):=(rfl)
section
variable{ρ:Nat->Nat}{m:Nat}
@[simp]theorem ape{x:PC}:AV.cH ρ (.p x)= .p x:=(rfl)
@[simp]theorem akR{i o:Nat}:AV.cH ρ (.obj i o)= .obj (ρ i) o:=(rfl)
@[simp]theorem akS{i:Nat}{xs:List PC}:AV.cH ρ (.own i xs)= .own (ρ i) xs:=(rfl)
@[simp]theorem ahF{xs:List PC}:AV.cH ρ (.full xs)= .full xs:=(rfl)
@[simp]theorem ahG{i o n s:Nat}{c:Option Nat}:AV.cH ρ (.view i o n s c)= .view (ρ i) o n s c:=(rfl)
@[simp]theorem akT{t:Bool}{xs:List AV}:AV.cH ρ (.agg t xs)= .agg t (AV.cH.dA ρ xs):=(rfl)
@[simp]theorem akU{f:Fn}{xs:List AV}:AV.cH ρ (.jZ f xs)= .jZ f (AV.cH.dA ρ xs):=(rfl)
@[simp]theorem akV{f:Fn}{xs:List AV}:AV.cH ρ (.kG f xs)= .kG f (AV.cH.dA ρ xs):=(rfl)
@[simp]theorem akW{t:TypeId}{x:AV}:AV.cH ρ (.kV t x)= .kV t (x.cH ρ):=(rfl)
@[simp]theorem ahH:AV.cH.dA ρ []=[]:=(rfl)
@[simp]theorem acq{x:AV}{l:List AV}:AV.cH.dA ρ (x::l)=x.cH ρ::AV.cH.dA ρ l:=(rfl)
@[simp]theorem apf{x:PC}:AV.e_ m (.p x)=true:=(rfl)
@[simp]theorem akX{i o:Nat}:AV.e_ m (.obj i o)=decide (i<m):=(rfl)
@[simp]theorem akY{i:Nat}{xs:List PC}:AV.e_ m (.own i xs)=decide (i<m):=(rfl)
@[simp]theorem ahI{xs:List PC}:AV.e_ m (.full xs)=true:=(rfl)
@[simp]theorem ahJ{i o n s:Nat}{c:Option Nat}:AV.e_ m (.view i o n s c)=decide (i<m):=(rfl)
@[simp]theorem akZ{t:Bool}{xs:List AV}:AV.e_ m (.agg t xs)=AV.e_.eE m xs:=(rfl)
@[simp]theorem ak0{f:Fn}{xs:List AV}:AV.e_ m (.jZ f xs)=AV.e_.eE m xs:=(rfl)
@[simp]theorem ak1{f:Fn}{xs:List AV}:AV.e_ m (.kG f xs)=AV.e_.eE m xs:=(rfl)
@[simp]theorem ak2{t:TypeId}{x:AV}:AV.e_ m (.kV t x)=x.e_ m:=(rfl)
@[simp]theorem ahK:AV.e_.eE m []=true:=(rfl)
@[simp]theorem acr{x:AV}{l:List AV}:AV.e_.eE m (x::l)=(x.e_ m&&AV.e_.eE m l):=(rfl)
end
def rnG(i:Nat):Option Nat->Nat
 |some j=>j
 |none=>i
@[simp]theorem apg{rn:List (Nat×Nat)}{i:Nat}:sP rn i=rnG i (lk i rn):=by unfold sP rnG;cases lk i rn<;>rfl
@[simp]theorem ahL{i j:Nat}:rnG i (some j)=j:=(rfl)
@[simp]theorem ahM{i:Nat}:rnG i none=i:=(rfl)
@[simp]theorem ahN{ρ:Nat->Nat}{m:Nat}{bx:List (Nat×Ob)}:nX ρ m bx []=True:=(rfl)
@[simp]theorem acs{ρ:Nat->Nat}{m:Nat}{bx:List (Nat×Ob)}{i:Nat}{el:TypeId}{sz:Nat}{xs:List AV}{l:List (Nat×Ob)}:nX ρ m bx ((i,⟨el,sz,xs⟩)::l)=(i<m/\AV.e_.eE m xs=true/\MK (lk (ρ i) bx) ⟨el,sz,AV.cH.dA ρ xs⟩/\nX ρ m bx l):=(rfl)
@[simp]theorem acu{el Tx:TypeId}{sz sz':Nat}{xs ys:List AV}:MK (some ⟨el,sz,xs⟩) ⟨Tx,sz',ys⟩=(el=Tx/\sz=sz'/\ys<+:xs):=(rfl)
@[congr]theorem XU{a b:Option Ob}{o:Ob}(h:a=b):MK a o=MK b o:=by rw[h]
@[simp]theorem ahO{ρ:Nat->Nat}{m:Nat}{rw:List (Nat×TypeId×Nat)}:CL ρ m rw []=True:=(rfl)
@[simp]theorem acv{ρ:Nat->Nat}{m:Nat}{rw:List (Nat×TypeId×Nat)}{i:Nat}{r:TypeId×Nat}{l:List (Nat×TypeId×Nat)}:CL ρ m rw ((i,r)::l)=(i<m/\lk (ρ i) rw=some r/\CL ρ m rw l):=(rfl)
@[simp]theorem ahP{α:Type}{ρ:Nat->Nat}:jy ρ ([]:List (Nat×α))=True:=(rfl)
@[simp]theorem acw{α:Type}{ρ:Nat->Nat}{i:Nat}{r:α}{l:List (Nat×α)}:jy ρ ((i,r)::l)=(jy.sy ρ i l/\jy ρ l):=(rfl)
@[simp]theorem acy{α:Type}{ρ:Nat->Nat}{i:Nat}:jy.sy ρ i ([]:List (Nat×α))=True:=(rfl)
@[simp]theorem XV{α:Type}{ρ:Nat->Nat}{i j:Nat}{r:α}{l:List (Nat×α)}:jy.sy ρ i ((j,r)::l)=((i=j\/ρ i≠ρ j)/\jy.sy ρ i l):=(rfl)
@[simp]theorem ak3{eW:Nat}{rn:List (Nat×Nat)}{tb aO:Tb}:oz eW rn tb aO=((∀p∈rn,eW<=p.1)/\eW<=aO.nx/\nX (sP rn) aO.nx tb.bx aO.bx/\CL (sP rn) aO.nx tb.rw aO.rw/\jy (sP rn) aO.bx/\jy (sP rn) aO.rw):=(rfl)
@[simp]theorem aD{eW:Nat}{rs zs:List AV}{tb aO:Tb}:Ed eW rs aO zs tb=∃rn,oz eW rn tb aO/\toAll zs (AV.cH.dA (sP rn) rs)/\AV.e_.eE aO.nx rs=true:=(rfl)
section
variable{P:Program}{cx:Cx}{Q:Exit->AS->Prop}{st:AS}{c:Code}
def leN(eW:Nat)(st:AS)(l:List (Nat×AV))(tb:Tb):Prop:=∃rn,oz eW rn st.tb tb/\RQ rn tb.nx st.sl l
def pX{α:Type}(cx:Cx)(C:α->Prop)(S:α->List (Nat×AV))(T:α->Tb)(μ:α->Nat)(m:Nat)(Q:Exit->AS->Prop):Exit->AS->Prop:=fun e st'=>match e with
 | .normal=>∃a',C a'/\μ a'<m/\leN cx.eW st' (S a') (T a')
 |e=>Q e st'
section
variable{α:Type}{C:α->Prop}{S:α->List (Nat×AV)}{T:α->Tb}{μ:α->Nat}{m:Nat}
@[simp]theorem ak4:pX cx C S T μ m Q .normal st=∃a',C a'/\μ a'<m/\leN cx.eW st (S a') (T a'):=(rfl)
@[simp]theorem ak5{i:Nat}:pX cx C S T μ m Q (.exit i) st=Q (.exit i) st:=(rfl)
@[simp]theorem ak6:pX cx C S T μ m Q .ret st=Q .ret st:=(rfl)
end
theorem aE{eW:Nat}{l:List (Nat×AV)}{tb:Tb}(rn:List (Nat×Nat))(h:oz eW rn st.tb tb/\RQ rn tb.nx st.sl l):leN eW st l tb:=⟨rn,h⟩
theorem aA{eW:Nat}{l:List (Nat×AV)}{tb:Tb}(h:oz eW [] st.tb tb/\RQ [] tb.nx st.sl l):leN eW st l tb:=⟨[],h⟩
theorem aN{α:Type}(C:α->Prop)(S:α->List (Nat×AV))(T:α->Tb)(μ:α->Nat)(a0:α)(hc:C a0)(Lr:AS)(hst:st.le cx.eW Lr)(h0:leN cx.eW Lr (S a0) (T a0))(h:∀a,C a->aw P cx c (Ig (S a) (T a)) (pX cx C S T μ (μ a) Q)):aw P cx (.loop c) st Q:=by
 obtain⟨rn,h1,h2⟩:=h0;refine⟨fun n st'=>∃a,C a/\μ a=n/\st'=Ig (S a) (T a),fun n=>pX cx C S T μ n Q,μ a0,⟨_,hst.trans (jt rn h1 h2),a0,hc,rfl,rfl⟩,?_,?_⟩
 ·rintro n _ ⟨a,ha,rfl,rfl⟩;exact h a ha
 ·intro n e st' hq;cases e with
  |normal=>obtain⟨a',h1,h2,rn,h3,h4⟩:=hq;exact⟨_,_,h2,jt rn h3 h4,a',h1,rfl,rfl⟩
  |_=>exact hq
theorem bW{α:Type}(C:α->Prop)(S:α->List (Nat×AV))(μ:α->Nat)(a0:α)(hc:C a0)(h0:leN cx.eW st (S a0) ⟨[],[],cx.eW⟩)(h:∀a,C a->aw P cx c (Ig (S a) ⟨[],[],cx.eW⟩) (pX cx C S (fun _=>⟨[],[],cx.eW⟩) μ (μ a) Q)):aw P cx (.loop c) st Q:=aN C S (fun _=>⟨[],[],cx.eW⟩) μ a0 hc st (AS.le_refl _ _) h0 h
end
end Go.Av
namespace Go.Av
open Go.Proofs
@[simp]theorem aky:bR Tryz.prog 3=some false:=by kernel_rfl
@[simp]theorem afJ:aP Tryz.prog 3=some 1:=by kernel_rfl
@[simp]theorem aac:Av.isSome Tryz.prog 3=true:=by kernel_rfl
@[simp]theorem akz:bJ Tryz.prog 3=some [.sc (.int .i64 0)]:=by kernel_rfl
@[simp]theorem afK:Av.intOf Tryz.prog 3=some .i64:=by kernel_rfl
@[simp]theorem akA:bR Tryz.prog 4=some false:=by kernel_rfl
@[simp]theorem afL:aP Tryz.prog 4=some 1:=by kernel_rfl
@[simp]theorem akB:bR Tryz.prog 5=some false:=by kernel_rfl
@[simp]theorem afM:aP Tryz.prog 5=some 1:=by kernel_rfl
@[simp]theorem aad:Av.isSome Tryz.prog 5=true:=by kernel_rfl
@[simp]theorem akC:bJ Tryz.prog 5=some [.sc (.int .u8 0)]:=by kernel_rfl
@[simp]theorem afN:Av.intOf Tryz.prog 5=some .u8:=by kernel_rfl
@[simp]theorem akD:bR Tryz.prog 9=some false:=by kernel_rfl
@[simp]theorem afO:aP Tryz.prog 9=some 1:=by kernel_rfl
@[simp]theorem afP:isStr Tryz.prog 9=true:=by kernel_rfl
@[simp]theorem akE:bJ Tryz.prog 9=some [.str []]:=by kernel_rfl
@[simp]theorem afQ:Av.intOf Tryz.prog 9=none:=by kernel_rfl
@[simp]theorem afR:bR Tryz.prog 22=some false:=by kernel_rfl
@[simp]theorem aae:aP Tryz.prog 22=some 1:=by kernel_rfl
@[simp]theorem aaf:isStr Tryz.prog 22=false:=by kernel_rfl
@[simp]theorem afS:bJ Tryz.prog 22=some [.nil]:=by kernel_rfl
@[simp]theorem aag:aJ Tryz.prog 22=some 1:=by kernel_rfl
@[simp]theorem akF:cV Tryz.prog 22=some (5,1,1):=by kernel_rfl
@[simp]theorem TE:dL Tryz.prog 22=true:=by kernel_rfl
@[simp]theorem aah:Av.intOf Tryz.prog 22=none:=by kernel_rfl
@[simp]theorem aai:uB Tryz.prog 24=true:=by kernel_rfl
@[simp]theorem afT:bR Tryz.prog 27=some true:=by kernel_rfl
@[simp]theorem aaj:aP Tryz.prog 27=some 3:=by kernel_rfl
@[simp]theorem afU:bJ Tryz.prog 27=some [.sc (.int .i64 0),.sc (.int .i64 0),.sc (.int .i64 0)]:=by kernel_rfl
@[simp]theorem TF:bu Tryz.prog 27=true:=by kernel_rfl
@[simp]theorem TG:aS Tryz.prog 27 2=some (2,1):=by kernel_rfl
@[simp]theorem afV:dc Tryz.prog 27 0=some (0,1,false):=by kernel_rfl
@[simp]theorem afW:dc Tryz.prog 27 1=some (1,1,false):=by kernel_rfl
@[simp]theorem afX:dc Tryz.prog 27 2=some (2,1,false):=by kernel_rfl
@[simp]theorem afY:bR Tryz.prog 28=some false:=by kernel_rfl
@[simp]theorem aak:aP Tryz.prog 28=some 1:=by kernel_rfl
@[simp]theorem aal:uB Tryz.prog 28=true:=by kernel_rfl
@[simp]theorem afZ:bR Tryz.prog 29=some false:=by kernel_rfl
@[simp]theorem aam:aP Tryz.prog 29=some 1:=by kernel_rfl
@[simp]theorem af0:bJ Tryz.prog 29=some [.sc (.int .i64 0)]:=by kernel_rfl
@[simp]theorem af1:bR Tryz.prog 31=some false:=by kernel_rfl
@[simp]theorem aan:aP Tryz.prog 31=some 1:=by kernel_rfl
@[simp]theorem aao:uB Tryz.prog 31=true:=by kernel_rfl
@[simp]theorem af2:bR Tryz.prog 32=some false:=by kernel_rfl
@[simp]theorem aap:aP Tryz.prog 32=some 1:=by kernel_rfl
@[simp]theorem aaq:uB Tryz.prog 32=true:=by kernel_rfl
@[simp]theorem af3:bR Tryz.prog 34=some true:=by kernel_rfl
@[simp]theorem aar:aP Tryz.prog 34=some 2:=by kernel_rfl
@[simp]theorem af4:bJ Tryz.prog 34=some [.sc (.int .i64 0),.sc (.int .i64 0)]:=by kernel_rfl
@[simp]theorem TH:bu Tryz.prog 34=true:=by kernel_rfl
@[simp]theorem TI:aS Tryz.prog 34 0=some (0,1):=by kernel_rfl
@[simp]theorem TJ:aS Tryz.prog 34 1=some (1,1):=by kernel_rfl
@[simp]theorem af5:dc Tryz.prog 34 0=some (0,1,false):=by kernel_rfl
@[simp]theorem af6:dc Tryz.prog 34 1=some (1,1,false):=by kernel_rfl
@[simp]theorem af7:bJ Tryz.prog 37=some [.nil]:=by kernel_rfl
@[simp]theorem TK:bu Tryz.prog 37=true:=by kernel_rfl
@[simp]theorem aas:aP Tryz.prog 38=some 1:=by kernel_rfl
@[simp]theorem akG:cV Tryz.prog 38=some (37,1,24):=by kernel_rfl
@[simp]theorem af8:bR Tryz.prog 40=some false:=by kernel_rfl
@[simp]theorem aat:aP Tryz.prog 40=some 1:=by kernel_rfl
@[simp]theorem aau:aJ Tryz.prog 40=some 1:=by kernel_rfl
@[simp]theorem akH:cV Tryz.prog 40=some (9,1,16):=by kernel_rfl
@[simp]theorem aav:Av.intOf Tryz.prog 40=none:=by kernel_rfl
@[simp]theorem af9:bR Tryz.prog 42=some true:=by kernel_rfl
@[simp]theorem aaw:aP Tryz.prog 42=some 5:=by kernel_rfl
@[simp]theorem af_:bJ Tryz.prog 42=some [.str [],.str [],.sc (.int .i64 0),.str [],.sc (.int .i64 0)]:=by kernel_rfl
@[simp]theorem TL:bu Tryz.prog 42=true:=by kernel_rfl
@[simp]theorem TM:aS Tryz.prog 42 2=some (2,1):=by kernel_rfl
@[simp]theorem TN:aS Tryz.prog 42 3=some (3,1):=by kernel_rfl
@[simp]theorem TO:aS Tryz.prog 42 4=some (4,1):=by kernel_rfl
@[simp]theorem af':dc Tryz.prog 42 0=some (0,1,false):=by kernel_rfl
@[simp]theorem aga:dc Tryz.prog 42 1=some (1,1,false):=by kernel_rfl
@[simp]theorem agb:dc Tryz.prog 42 2=some (2,1,false):=by kernel_rfl
@[simp]theorem agc:dc Tryz.prog 42 3=some (3,1,false):=by kernel_rfl
@[simp]theorem agd:dc Tryz.prog 42 4=some (4,1,false):=by kernel_rfl
@[simp]theorem age:bR Tryz.prog 43=some false:=by kernel_rfl
@[simp]theorem aax:aP Tryz.prog 43=some 1:=by kernel_rfl
@[simp]theorem aay:aJ Tryz.prog 43=some 2:=by kernel_rfl
@[simp]theorem akI:cV Tryz.prog 43=some (139,2,32):=by kernel_rfl
@[simp]theorem aaz:Av.intOf Tryz.prog 43=none:=by kernel_rfl
@[simp]theorem agf:bJ Tryz.prog 45=some [.sc (.int .i64 0),.sc (.int .i64 0)]:=by kernel_rfl
@[simp]theorem TP:bu Tryz.prog 45=true:=by kernel_rfl
@[simp]theorem TQ:aS Tryz.prog 45 0=some (0,1):=by kernel_rfl
@[simp]theorem TR:aS Tryz.prog 45 1=some (1,1):=by kernel_rfl
@[simp]theorem agh:dc Tryz.prog 45 0=some (0,1,false):=by kernel_rfl
@[simp]theorem agi:dc Tryz.prog 45 1=some (1,1,false):=by kernel_rfl
@[simp]theorem agj:bR Tryz.prog 46=some false:=by kernel_rfl
@[simp]theorem aaA:aP Tryz.prog 46=some 1:=by kernel_rfl
@[simp]theorem V2:Av.isSome Tryz.prog 46=true:=by kernel_rfl
@[simp]theorem aaB:Av.intOf Tryz.prog 46=some .u32:=by kernel_rfl
@[simp]theorem agk:bR Tryz.prog 47=some false:=by kernel_rfl
@[simp]theorem aaC:aP Tryz.prog 47=some 1:=by kernel_rfl
@[simp]theorem aaD:aJ Tryz.prog 47=some 2:=by kernel_rfl
@[simp]theorem akJ:cV Tryz.prog 47=some (157,2,16):=by kernel_rfl
@[simp]theorem aaE:Av.intOf Tryz.prog 47=none:=by kernel_rfl
@[simp]theorem agl:bR Tryz.prog 49=some true:=by kernel_rfl
@[simp]theorem aaF:aP Tryz.prog 49=some 15:=by kernel_rfl
@[simp]theorem agm:bJ Tryz.prog 49=some [.str [],.nil,.str [],.str [],.str [],.sc (.int .i64 0),.str [],.sc (.int .i64 0),.nil,.sc (.int .i64 0),.sc (.int .i64 0),.sc (.int .i64 0),.sc (.int .i64 0),.sc (.int .u32 0),.nil]:=by kernel_rfl
@[simp]theorem TS:bu Tryz.prog 49=true:=by kernel_rfl
@[simp]theorem TT:aS Tryz.prog 49 0=some (0,1):=by kernel_rfl
@[simp]theorem TU:aS Tryz.prog 49 1=some (1,1):=by kernel_rfl
@[simp]theorem TV:aS Tryz.prog 49 2=some (2,1):=by kernel_rfl
@[simp]theorem TW:aS Tryz.prog 49 3=some (3,5):=by kernel_rfl
@[simp]theorem TX:aS Tryz.prog 49 4=some (8,1):=by kernel_rfl
@[simp]theorem TY:aS Tryz.prog 49 5=some (9,2):=by kernel_rfl
@[simp]theorem agn:dc Tryz.prog 49 0=some (0,1,false):=by kernel_rfl
@[simp]theorem ago:dc Tryz.prog 49 1=some (1,1,false):=by kernel_rfl
@[simp]theorem agp:dc Tryz.prog 49 2=some (2,1,false):=by kernel_rfl
@[simp]theorem agq:dc Tryz.prog 49 3=some (3,5,true):=by kernel_rfl
@[simp]theorem agr:dc Tryz.prog 49 4=some (8,1,false):=by kernel_rfl
@[simp]theorem ags:dc Tryz.prog 49 5=some (9,2,true):=by kernel_rfl
@[simp]theorem agt:dc Tryz.prog 49 6=some (11,1,false):=by kernel_rfl
@[simp]theorem agu:dc Tryz.prog 49 7=some (12,1,false):=by kernel_rfl
@[simp]theorem agv:dc Tryz.prog 49 8=some (13,1,false):=by kernel_rfl
@[simp]theorem agw:dc Tryz.prog 49 9=some (14,1,false):=by kernel_rfl
@[simp]theorem T0:bu Tryz.prog 53=true:=by kernel_rfl
@[simp]theorem agx:dc Tryz.prog 53 0=some (0,1,false):=by kernel_rfl
@[simp]theorem agy:dc Tryz.prog 53 1=some (1,1,false):=by kernel_rfl
@[simp]theorem agz:dc Tryz.prog 53 2=some (2,2,true):=by kernel_rfl
@[simp]theorem agA:dc Tryz.prog 53 3=some (4,1,false):=by kernel_rfl
@[simp]theorem agB:dc Tryz.prog 53 5=some (6,1,false):=by kernel_rfl
@[simp]theorem agC:bR Tryz.prog 64=some false:=by kernel_rfl
@[simp]theorem aaG:aJ Tryz.prog 64=some 1:=by kernel_rfl
@[simp]theorem agD:bJ Tryz.prog 66=some [.nil,.sc (.int .i64 0),.sc (.int .i64 0)]:=by kernel_rfl
@[simp]theorem T3:bu Tryz.prog 66=true:=by kernel_rfl
@[simp]theorem T4:aS Tryz.prog 66 1=some (1,1):=by kernel_rfl
@[simp]theorem ai1:dc Tryz.prog 66 0=some (0,1,false):=by kernel_rfl
@[simp]theorem ai2:dc Tryz.prog 66 1=some (1,1,false):=by kernel_rfl
@[simp]theorem ai3:dc Tryz.prog 66 2=some (2,1,false):=by kernel_rfl
@[simp]theorem ai4:bR Tryz.prog 82=some false:=by kernel_rfl
@[simp]theorem adM:aP Tryz.prog 82=some 1:=by kernel_rfl
@[simp]theorem adN:aJ Tryz.prog 82=some 3:=by kernel_rfl
@[simp]theorem alK:cV Tryz.prog 82=some (198,3,32):=by kernel_rfl
@[simp]theorem adO:Av.intOf Tryz.prog 82=none:=by kernel_rfl
@[simp]theorem ai5:bR Tryz.prog 87=some false:=by kernel_rfl
@[simp]theorem adP:aP Tryz.prog 87=some 1:=by kernel_rfl
@[simp]theorem adQ:aJ Tryz.prog 87=some 1:=by kernel_rfl
@[simp]theorem alL:cV Tryz.prog 87=some (3,1,8):=by kernel_rfl
@[simp]theorem adR:Av.intOf Tryz.prog 87=none:=by kernel_rfl
@[simp]theorem ai6:bR Tryz.prog 91=some false:=by kernel_rfl
@[simp]theorem adS:aP Tryz.prog 91=some 1:=by kernel_rfl
@[simp]theorem ai7:bR Tryz.prog 93=some false:=by kernel_rfl
@[simp]theorem adT:aP Tryz.prog 93=some 1:=by kernel_rfl
@[simp]theorem ai8:bJ Tryz.prog 93=some [.nil]:=by kernel_rfl
@[simp]theorem adU:aJ Tryz.prog 93=some 1:=by kernel_rfl
@[simp]theorem alM:cV Tryz.prog 93=some (22,1,24):=by kernel_rfl
@[simp]theorem adV:Av.intOf Tryz.prog 93=none:=by kernel_rfl
@[simp]theorem adW:bR Tryz.prog 139=some true:=by kernel_rfl
@[simp]theorem Zj:aP Tryz.prog 139=some 2:=by kernel_rfl
@[simp]theorem adX:bJ Tryz.prog 139=some [.str [],.str []]:=by kernel_rfl
@[simp]theorem SX:bu Tryz.prog 139=true:=by kernel_rfl
@[simp]theorem SY:aS Tryz.prog 139 0=some (0,1):=by kernel_rfl
@[simp]theorem SZ:aS Tryz.prog 139 1=some (1,1):=by kernel_rfl
@[simp]theorem adY:dc Tryz.prog 139 0=some (0,1,false):=by kernel_rfl
@[simp]theorem adZ:dc Tryz.prog 139 1=some (1,1,false):=by kernel_rfl
@[simp]theorem ad0:bJ Tryz.prog 141=some [.sc (.pointer none),.str [],.nil,.str [],.str [],.str [],.sc (.int .i64 0),.str [],.sc (.int .i64 0),.nil,.sc (.int .i64 0),.sc (.int .i64 0),.sc (.int .i64 0),.sc (.int .i64 0),.sc (.int .u32 0),.nil,.nil,.sc (.bool false),.sc (.bool false)]:=by kernel_rfl
@[simp]theorem S0:bu Tryz.prog 141=true:=by kernel_rfl
@[simp]theorem S2:aS Tryz.prog 141 0=some (0,1):=by kernel_rfl
@[simp]theorem S3:aS Tryz.prog 141 1=some (1,15):=by kernel_rfl
@[simp]theorem ad1:dc Tryz.prog 141 0=some (0,1,false):=by kernel_rfl
@[simp]theorem ad2:dc Tryz.prog 141 1=some (1,15,true):=by kernel_rfl
@[simp]theorem ad3:dc Tryz.prog 141 2=some (16,1,false):=by kernel_rfl
@[simp]theorem ad4:dc Tryz.prog 141 3=some (17,1,false):=by kernel_rfl
@[simp]theorem ad5:dc Tryz.prog 141 4=some (18,1,false):=by kernel_rfl
@[simp]theorem ad6:bR Tryz.prog 146=some true:=by kernel_rfl
@[simp]theorem Zk:aP Tryz.prog 146=some 3:=by kernel_rfl
@[simp]theorem ad7:bJ Tryz.prog 146=some [.sc (.pointer none),.sc (.int .i64 0),.sc (.int .i64 0)]:=by kernel_rfl
@[simp]theorem S4:bu Tryz.prog 146=true:=by kernel_rfl
@[simp]theorem S5:aS Tryz.prog 146 0=some (0,1):=by kernel_rfl
@[simp]theorem S6:aS Tryz.prog 146 1=some (1,2):=by kernel_rfl
@[simp]theorem ad8:dc Tryz.prog 146 0=some (0,1,false):=by kernel_rfl
@[simp]theorem ad9:dc Tryz.prog 146 1=some (1,2,true):=by kernel_rfl
@[simp]theorem ad_:bR Tryz.prog 147=some false:=by kernel_rfl
@[simp]theorem Zl:aP Tryz.prog 147=some 1:=by kernel_rfl
@[simp]theorem ad':bR Tryz.prog 148=some false:=by kernel_rfl
@[simp]theorem Zm:aP Tryz.prog 148=some 1:=by kernel_rfl
@[simp]theorem aea:bR Tryz.prog 149=some false:=by kernel_rfl
@[simp]theorem Zn:aP Tryz.prog 149=some 1:=by kernel_rfl
@[simp]theorem Zo:aJ Tryz.prog 149=some 4:=by kernel_rfl
@[simp]theorem ai9:cV Tryz.prog 149=some (159,4,56):=by kernel_rfl
@[simp]theorem Zp:Av.intOf Tryz.prog 149=none:=by kernel_rfl
@[simp]theorem aeb:bJ Tryz.prog 151=some [.sc (.pointer none),.sc (.int .i64 0),.sc (.int .i64 0),.sc (.pointer none),.sc (.int .i64 0),.sc (.pointer none),.sc (.pointer none),.nil,.sc (.int .i64 0),.nil,.sc (.bool false)]:=by kernel_rfl
@[simp]theorem S7:bu Tryz.prog 151=true:=by kernel_rfl
@[simp]theorem S8:aS Tryz.prog 151 0=some (0,3):=by kernel_rfl
@[simp]theorem S9:aS Tryz.prog 151 8=some (10,1):=by kernel_rfl
@[simp]theorem aec:dc Tryz.prog 151 0=some (0,3,true):=by kernel_rfl
@[simp]theorem aed:dc Tryz.prog 151 1=some (3,1,false):=by kernel_rfl
@[simp]theorem aee:dc Tryz.prog 151 2=some (4,1,false):=by kernel_rfl
@[simp]theorem aef:dc Tryz.prog 151 3=some (5,1,false):=by kernel_rfl
@[simp]theorem aeg:dc Tryz.prog 151 4=some (6,1,false):=by kernel_rfl
@[simp]theorem aeh:dc Tryz.prog 151 5=some (7,1,false):=by kernel_rfl
@[simp]theorem aei:dc Tryz.prog 151 6=some (8,1,false):=by kernel_rfl
@[simp]theorem aej:dc Tryz.prog 151 7=some (9,1,false):=by kernel_rfl
@[simp]theorem aek:dc Tryz.prog 151 8=some (10,1,false):=by kernel_rfl
@[simp]theorem ael:bR Tryz.prog 157=some true:=by kernel_rfl
@[simp]theorem Zq:aP Tryz.prog 157=some 2:=by kernel_rfl
@[simp]theorem aem:bJ Tryz.prog 157=some [.sc (.int .i64 0),.sc (.int .i64 0)]:=by kernel_rfl
@[simp]theorem S_:bu Tryz.prog 157=true:=by kernel_rfl
@[simp]theorem ai_:DQ Tryz.prog 157=some [(0,3),(1,3)]:=by kernel_rfl
@[simp]theorem aen:v_ Tryz.prog 157=true:=by kernel_rfl
@[simp]theorem Ta:aS Tryz.prog 157 0=some (0,1):=by kernel_rfl
@[simp]theorem Tc:aS Tryz.prog 157 1=some (1,1):=by kernel_rfl
@[simp]theorem aeo:dc Tryz.prog 157 0=some (0,1,false):=by kernel_rfl
@[simp]theorem aep:dc Tryz.prog 157 1=some (1,1,false):=by kernel_rfl
@[simp]theorem aeq:bR Tryz.prog 159=some true:=by kernel_rfl
@[simp]theorem Zr:aP Tryz.prog 159=some 4:=by kernel_rfl
@[simp]theorem aaI:bJ Tryz.prog 159=some [.str [],.sc (.int .i64 0),.sc (.int .i64 0),.nil]:=by kernel_rfl
@[simp]theorem P4:bu Tryz.prog 159=true:=by kernel_rfl
@[simp]theorem P5:aS Tryz.prog 159 0=some (0,1):=by kernel_rfl
@[simp]theorem P6:aS Tryz.prog 159 1=some (1,1):=by kernel_rfl
@[simp]theorem P7:aS Tryz.prog 159 2=some (2,1):=by kernel_rfl
@[simp]theorem P8:aS Tryz.prog 159 3=some (3,1):=by kernel_rfl
@[simp]theorem aaJ:dc Tryz.prog 159 0=some (0,1,false):=by kernel_rfl
@[simp]theorem aaK:dc Tryz.prog 159 1=some (1,1,false):=by kernel_rfl
@[simp]theorem aaL:dc Tryz.prog 159 2=some (2,1,false):=by kernel_rfl
@[simp]theorem aaM:dc Tryz.prog 159 3=some (3,1,false):=by kernel_rfl
@[simp]theorem Wx:aP Tryz.prog 166=some 3:=by kernel_rfl
@[simp]theorem aaN:bJ Tryz.prog 166=some [.sc (.int .i64 0),.nil,.sc (.int .i64 0)]:=by kernel_rfl
@[simp]theorem P9:bu Tryz.prog 166=true:=by kernel_rfl
@[simp]theorem P_:aS Tryz.prog 166 2=some (2,1):=by kernel_rfl
@[simp]theorem aaO:dc Tryz.prog 166 0=some (0,1,false):=by kernel_rfl
@[simp]theorem aaP:dc Tryz.prog 166 1=some (1,1,false):=by kernel_rfl
@[simp]theorem aaQ:dc Tryz.prog 166 2=some (2,1,false):=by kernel_rfl
@[simp]theorem aaR:bR Tryz.prog 167=some false:=by kernel_rfl
@[simp]theorem Wy:aP Tryz.prog 167=some 1:=by kernel_rfl
@[simp]theorem Wz:aJ Tryz.prog 167=some 64:=by kernel_rfl
@[simp]theorem ag4:cV Tryz.prog 167=some (172,64,64):=by kernel_rfl
@[simp]theorem aaS:bR Tryz.prog 168=some false:=by kernel_rfl
@[simp]theorem WA:aP Tryz.prog 168=some 1:=by kernel_rfl
@[simp]theorem WB:aJ Tryz.prog 168=some 65:=by kernel_rfl
@[simp]theorem ag5:cV Tryz.prog 168=some (174,65,72):=by kernel_rfl
@[simp]theorem aaT:bJ Tryz.prog 170=some [.sc (.int .i64 0),.nil,.sc (.int .i64 0),.nil,.nil,.nil]:=by kernel_rfl
@[simp]theorem Qa:bu Tryz.prog 170=true:=by kernel_rfl
@[simp]theorem Qb:aS Tryz.prog 170 0=some (0,3):=by kernel_rfl
@[simp]theorem Qc:aS Tryz.prog 170 1=some (3,1):=by kernel_rfl
@[simp]theorem Qd:aS Tryz.prog 170 2=some (4,1):=by kernel_rfl
@[simp]theorem aaU:dc Tryz.prog 170 0=some (0,3,true):=by kernel_rfl
@[simp]theorem aaV:dc Tryz.prog 170 1=some (3,1,false):=by kernel_rfl
@[simp]theorem aaW:dc Tryz.prog 170 2=some (4,1,false):=by kernel_rfl
@[simp]theorem aaX:dc Tryz.prog 170 3=some (5,1,false):=by kernel_rfl
@[simp]theorem aaY:bR Tryz.prog 172=some true:=by kernel_rfl
@[simp]theorem WC:aP Tryz.prog 172=some 64:=by kernel_rfl
@[simp]theorem aaZ:bR Tryz.prog 174=some true:=by kernel_rfl
@[simp]theorem WD:aP Tryz.prog 174=some 65:=by kernel_rfl
@[simp]theorem Qe:bu Tryz.prog 174=true:=by kernel_rfl
@[simp]theorem Qf:aS Tryz.prog 174 0=some (0,1):=by kernel_rfl
@[simp]theorem Qg:aS Tryz.prog 174 1=some (1,64):=by kernel_rfl
@[simp]theorem aa0:dc Tryz.prog 174 0=some (0,1,false):=by kernel_rfl
@[simp]theorem aa1:dc Tryz.prog 174 1=some (1,64,true):=by kernel_rfl
@[simp]theorem aa2:bR Tryz.prog 178=some true:=by kernel_rfl
@[simp]theorem WE:aP Tryz.prog 178=some 2:=by kernel_rfl
@[simp]theorem aa3:bJ Tryz.prog 178=some [.sc (.int .i64 0),.sc (.int .i64 0)]:=by kernel_rfl
@[simp]theorem Qh:bu Tryz.prog 178=true:=by kernel_rfl
@[simp]theorem Qi:aS Tryz.prog 178 0=some (0,1):=by kernel_rfl
@[simp]theorem Qj:aS Tryz.prog 178 1=some (1,1):=by kernel_rfl
@[simp]theorem aa4:dc Tryz.prog 178 0=some (0,1,false):=by kernel_rfl
@[simp]theorem aa5:dc Tryz.prog 178 1=some (1,1,false):=by kernel_rfl
@[simp]theorem aa6:bR Tryz.prog 189=some false:=by kernel_rfl
@[simp]theorem aa7:bJ Tryz.prog 198=some [.sc (.int .i64 0),.str [],.sc (.bool false)]:=by kernel_rfl
@[simp]theorem Qk:bu Tryz.prog 198=true:=by kernel_rfl
@[simp]theorem Ql:aS Tryz.prog 198 0=some (0,1):=by kernel_rfl
@[simp]theorem Qm:aS Tryz.prog 198 1=some (1,1):=by kernel_rfl
@[simp]theorem aa8:dc Tryz.prog 198 2=some (2,1,false):=by kernel_rfl
@[simp]theorem Ud:Av.isSome Tryz.prog 240=true:=by kernel_rfl
@[simp]theorem WG:Av.intOf Tryz.prog 240=some .u64:=by kernel_rfl
@[simp]theorem aa9:bR Tryz.prog 247=some false:=by kernel_rfl
@[simp]theorem WH:aP Tryz.prog 247=some 1:=by kernel_rfl
@[simp]theorem aa_:bR Tryz.prog 261=some true:=by kernel_rfl
@[simp]theorem WI:aP Tryz.prog 261=some 3:=by kernel_rfl
@[simp]theorem aa':bJ Tryz.prog 261=some [.sc (.pointer none),.sc (.int .i64 0),.sc (.int .i64 0)]:=by kernel_rfl
@[simp]theorem Qn:bu Tryz.prog 261=true:=by kernel_rfl
@[simp]theorem Qo:aS Tryz.prog 261 0=some (0,1):=by kernel_rfl
@[simp]theorem Qp:aS Tryz.prog 261 1=some (1,1):=by kernel_rfl
@[simp]theorem Qq:aS Tryz.prog 261 2=some (2,1):=by kernel_rfl
@[simp]theorem abb:dc Tryz.prog 261 0=some (0,1,false):=by kernel_rfl
@[simp]theorem abd:dc Tryz.prog 261 1=some (1,1,false):=by kernel_rfl
@[simp]theorem abe:dc Tryz.prog 261 2=some (2,1,false):=by kernel_rfl
@[simp]theorem abf:bR Tryz.prog 263=some true:=by kernel_rfl
@[simp]theorem WJ:aP Tryz.prog 263=some 3:=by kernel_rfl
@[simp]theorem abg:bJ Tryz.prog 263=some [.sc (.int .i64 0),.sc (.int .i64 0),.sc (.int .i64 0)]:=by kernel_rfl
@[simp]theorem Qr:bu Tryz.prog 263=true:=by kernel_rfl
@[simp]theorem Qs:aS Tryz.prog 263 0=some (0,1):=by kernel_rfl
@[simp]theorem Qt:aS Tryz.prog 263 1=some (1,1):=by kernel_rfl
@[simp]theorem Qu:aS Tryz.prog 263 2=some (2,1):=by kernel_rfl
@[simp]theorem abh:dc Tryz.prog 263 0=some (0,1,false):=by kernel_rfl
@[simp]theorem abi:dc Tryz.prog 263 1=some (1,1,false):=by kernel_rfl
@[simp]theorem abj:dc Tryz.prog 263 2=some (2,1,false):=by kernel_rfl
@[simp]theorem abk:bR Tryz.prog 266=some false:=by kernel_rfl
@[simp]theorem WK:aP Tryz.prog 266=some 1:=by kernel_rfl
@[simp]theorem WL:aJ Tryz.prog 266=some 2:=by kernel_rfl
@[simp]theorem ag6:cV Tryz.prog 266=some (364,2,32):=by kernel_rfl
@[simp]theorem abl:bJ Tryz.prog 268=some [.sc (.pointer none),.sc (.int .i64 0),.sc (.int .i64 0),.sc (.int .i64 0),.sc (.int .i64 0),.sc (.int .i64 0),.sc (.int .i64 0),.sc (.int .i64 0),.sc (.int .i64 0),.sc (.bool false),.nil,.sc (.int .i64 0)]:=by kernel_rfl
@[simp]theorem Qv:bu Tryz.prog 268=true:=by kernel_rfl
@[simp]theorem Qw:aS Tryz.prog 268 0=some (0,3):=by kernel_rfl
@[simp]theorem Qx:aS Tryz.prog 268 1=some (3,3):=by kernel_rfl
@[simp]theorem Qy:aS Tryz.prog 268 2=some (6,1):=by kernel_rfl
@[simp]theorem Qz:aS Tryz.prog 268 3=some (7,1):=by kernel_rfl
@[simp]theorem QA:aS Tryz.prog 268 4=some (8,1):=by kernel_rfl
@[simp]theorem abm:dc Tryz.prog 268 0=some (0,3,true):=by kernel_rfl
@[simp]theorem abn:dc Tryz.prog 268 1=some (3,3,true):=by kernel_rfl
@[simp]theorem abo:dc Tryz.prog 268 2=some (6,1,false):=by kernel_rfl
@[simp]theorem abp:dc Tryz.prog 268 3=some (7,1,false):=by kernel_rfl
@[simp]theorem abq:dc Tryz.prog 268 4=some (8,1,false):=by kernel_rfl
@[simp]theorem abr:dc Tryz.prog 268 5=some (9,1,false):=by kernel_rfl
@[simp]theorem abt:dc Tryz.prog 268 6=some (10,1,false):=by kernel_rfl
@[simp]theorem abu:dc Tryz.prog 268 7=some (11,1,false):=by kernel_rfl
@[simp]theorem abv:bR Tryz.prog 272=some false:=by kernel_rfl
@[simp]theorem WM:aP Tryz.prog 272=some 1:=by kernel_rfl
@[simp]theorem abw:bJ Tryz.prog 272=some [.nil]:=by kernel_rfl
@[simp]theorem WN:aJ Tryz.prog 272=some 2:=by kernel_rfl
@[simp]theorem ag7:cV Tryz.prog 272=some (157,2,16):=by kernel_rfl
@[simp]theorem WO:Av.intOf Tryz.prog 272=none:=by kernel_rfl
@[simp]theorem abx:bJ Tryz.prog 274=some [.sc (.int .i64 0),.nil,.nil,.nil]:=by kernel_rfl
@[simp]theorem QB:bu Tryz.prog 274=true:=by kernel_rfl
@[simp]theorem QC:aS Tryz.prog 274 0=some (0,1):=by kernel_rfl
@[simp]theorem QD:aS Tryz.prog 274 1=some (1,1):=by kernel_rfl
@[simp]theorem aby:dc Tryz.prog 274 0=some (0,1,false):=by kernel_rfl
@[simp]theorem abz:dc Tryz.prog 274 1=some (1,1,false):=by kernel_rfl
@[simp]theorem abA:dc Tryz.prog 274 2=some (2,1,false):=by kernel_rfl
@[simp]theorem abB:dc Tryz.prog 274 3=some (3,1,false):=by kernel_rfl
@[simp]theorem Ue:Av.isSome Tryz.prog 276=true:=by kernel_rfl
@[simp]theorem QE:isIface Tryz.prog 276=false:=by kernel_rfl
@[simp]theorem abC:bJ Tryz.prog 278=some [.sc (.pointer none),.nil,.nil]:=by kernel_rfl
@[simp]theorem QF:bu Tryz.prog 278=true:=by kernel_rfl
@[simp]theorem QG:aS Tryz.prog 278 0=some (0,1):=by kernel_rfl
@[simp]theorem abD:dc Tryz.prog 278 0=some (0,1,false):=by kernel_rfl
@[simp]theorem abE:dc Tryz.prog 278 1=some (1,1,false):=by kernel_rfl
@[simp]theorem abF:dc Tryz.prog 278 2=some (2,1,false):=by kernel_rfl
@[simp]theorem WQ:aJ Tryz.prog 282=some 2:=by kernel_rfl
@[simp]theorem ag8:cV Tryz.prog 282=some (286,2,24):=by kernel_rfl
@[simp]theorem abG:bR Tryz.prog 286=some true:=by kernel_rfl
@[simp]theorem WR:aP Tryz.prog 286=some 2:=by kernel_rfl
@[simp]theorem abH:bJ Tryz.prog 286=some [.str [],.sc (.int .i64 0)]:=by kernel_rfl
@[simp]theorem QH:bu Tryz.prog 286=true:=by kernel_rfl
@[simp]theorem QI:aS Tryz.prog 286 0=some (0,1):=by kernel_rfl
@[simp]theorem QJ:aS Tryz.prog 286 1=some (1,1):=by kernel_rfl
@[simp]theorem abI:dc Tryz.prog 286 0=some (0,1,false):=by kernel_rfl
@[simp]theorem abJ:dc Tryz.prog 286 1=some (1,1,false):=by kernel_rfl
@[simp]theorem Xv:aJ Tryz.prog 334=some 5:=by kernel_rfl
@[simp]theorem aho:cV Tryz.prog 334=some (343,5,72):=by kernel_rfl
@[simp]theorem abK:bJ Tryz.prog 339=some [.sc (.pointer none),.nil]:=by kernel_rfl
@[simp]theorem Ra:bu Tryz.prog 339=true:=by kernel_rfl
@[simp]theorem Rb:aS Tryz.prog 339 0=some (0,1):=by kernel_rfl
@[simp]theorem abL:dc Tryz.prog 339 0=some (0,1,false):=by kernel_rfl
@[simp]theorem abM:dc Tryz.prog 339 1=some (1,1,false):=by kernel_rfl
@[simp]theorem abN:bR Tryz.prog 341=some true:=by kernel_rfl
@[simp]theorem Xw:aP Tryz.prog 341=some 3:=by kernel_rfl
@[simp]theorem abO:bJ Tryz.prog 341=some [.sc (.bool false),.nil,.nil]:=by kernel_rfl
@[simp]theorem Rc:bu Tryz.prog 341=true:=by kernel_rfl
@[simp]theorem Rd:aS Tryz.prog 341 0=some (0,1):=by kernel_rfl
@[simp]theorem Re:aS Tryz.prog 341 1=some (1,1):=by kernel_rfl
@[simp]theorem Rf:aS Tryz.prog 341 2=some (2,1):=by kernel_rfl
@[simp]theorem abP:dc Tryz.prog 341 0=some (0,1,false):=by kernel_rfl
@[simp]theorem abQ:dc Tryz.prog 341 1=some (1,1,false):=by kernel_rfl
@[simp]theorem abR:dc Tryz.prog 341 2=some (2,1,false):=by kernel_rfl
@[simp]theorem abS:bR Tryz.prog 343=some true:=by kernel_rfl
@[simp]theorem Xx:aP Tryz.prog 343=some 5:=by kernel_rfl
@[simp]theorem abT:bJ Tryz.prog 343=some [.sc (.bool false),.nil,.nil,.sc (.int .i64 0),.sc (.int .i64 0)]:=by kernel_rfl
@[simp]theorem Rg:bu Tryz.prog 343=true:=by kernel_rfl
@[simp]theorem Rh:aS Tryz.prog 343 0=some (0,3):=by kernel_rfl
@[simp]theorem Ri:aS Tryz.prog 343 1=some (3,1):=by kernel_rfl
@[simp]theorem Rj:aS Tryz.prog 343 2=some (4,1):=by kernel_rfl
@[simp]theorem abU:dc Tryz.prog 343 0=some (0,3,true):=by kernel_rfl
@[simp]theorem abV:dc Tryz.prog 343 1=some (3,1,false):=by kernel_rfl
@[simp]theorem abW:dc Tryz.prog 343 2=some (4,1,false):=by kernel_rfl
@[simp]theorem abX:bJ Tryz.prog 359=some [.nil]:=by kernel_rfl
@[simp]theorem Rk:bu Tryz.prog 359=true:=by kernel_rfl
@[simp]theorem Rl:aS Tryz.prog 359 0=some (0,1):=by kernel_rfl
@[simp]theorem abY:dc Tryz.prog 359 0=some (0,1,false):=by kernel_rfl
@[simp]theorem abZ:bR Tryz.prog 364=some true:=by kernel_rfl
@[simp]theorem Xy:aP Tryz.prog 364=some 2:=by kernel_rfl
@[simp]theorem ab0:bJ Tryz.prog 364=some [.sc (.int .i64 0),.nil]:=by kernel_rfl
@[simp]theorem Rm:bu Tryz.prog 364=true:=by kernel_rfl
@[simp]theorem Rn:aS Tryz.prog 364 0=some (0,1):=by kernel_rfl
@[simp]theorem Ro:aS Tryz.prog 364 1=some (1,1):=by kernel_rfl
@[simp]theorem ab1:dc Tryz.prog 364 0=some (0,1,false):=by kernel_rfl
@[simp]theorem ab2:dc Tryz.prog 364 1=some (1,1,false):=by kernel_rfl
@[simp]theorem Xz:aJ Tryz.prog 367=some 1:=by kernel_rfl
@[simp]theorem ahp:cV Tryz.prog 367=some (91,1,8):=by kernel_rfl
@[simp]theorem ab3:bR Tryz.prog 369=some false:=by kernel_rfl
@[simp]theorem XA:aP Tryz.prog 369=some 1:=by kernel_rfl
@[simp]theorem ab4:bJ Tryz.prog 371=some [.sc .nilIface,.sc (.int .i64 0)]:=by kernel_rfl
@[simp]theorem Rp:bu Tryz.prog 371=true:=by kernel_rfl
@[simp]theorem Rq:aS Tryz.prog 371 0=some (0,1):=by kernel_rfl
@[simp]theorem Rr:aS Tryz.prog 371 1=some (1,1):=by kernel_rfl
@[simp]theorem ab5:dc Tryz.prog 371 0=some (0,1,false):=by kernel_rfl
@[simp]theorem ab6:dc Tryz.prog 371 1=some (1,1,false):=by kernel_rfl
@[simp]theorem ab7:bJ Tryz.prog 374=some [.sc (.pointer none),.nil,.sc (.int .i64 0)]:=by kernel_rfl
@[simp]theorem Rs:bu Tryz.prog 374=true:=by kernel_rfl
@[simp]theorem Rt:aS Tryz.prog 374 0=some (0,1):=by kernel_rfl
@[simp]theorem Ru:aS Tryz.prog 374 2=some (2,1):=by kernel_rfl
@[simp]theorem ab8:dc Tryz.prog 374 0=some (0,1,false):=by kernel_rfl
@[simp]theorem ab9:dc Tryz.prog 374 1=some (1,1,false):=by kernel_rfl
@[simp]theorem ab_:dc Tryz.prog 374 2=some (2,1,false):=by kernel_rfl
@[simp]theorem ab':bJ Tryz.prog 408=some [.nil]:=by kernel_rfl
@[simp]theorem Rv:bu Tryz.prog 408=true:=by kernel_rfl
@[simp]theorem Rw:aS Tryz.prog 408 0=some (0,1):=by kernel_rfl
@[simp]theorem acd:dc Tryz.prog 408 0=some (0,1,false):=by kernel_rfl
@[simp]theorem XB:aJ Tryz.prog 464=some 1:=by kernel_rfl
@[simp]theorem ahq:cV Tryz.prog 464=some (93,1,24):=by kernel_rfl
@[simp]theorem XC:aP Tryz.prog 474=some 256:=by kernel_rfl
@[simp]theorem ace:bJ Tryz.prog 511=some [.nil,.sc (.bool false)]:=by kernel_rfl
@[simp]theorem Rx:bu Tryz.prog 511=true:=by kernel_rfl
@[simp]theorem Ry:aS Tryz.prog 511 0=some (0,1):=by kernel_rfl
@[simp]theorem acf:dc Tryz.prog 511 0=some (0,1,false):=by kernel_rfl
@[simp]theorem acg:dc Tryz.prog 511 1=some (1,1,false):=by kernel_rfl
end Go.Av

namespace Go.Av
open Go.RowKit
section
variable{P:Program}{f:FuncId}{xs:List AV}{tb aO pO:Tb}{r r':AV}
def RLe(r:AV)(tb:Tb)(r':AV)(aO:Tb):Prop:=∀(w0:World) (M0:Mem) (F:Nat->Prop) (g:G) (w:World) (v:Value),aR w0 M0 F tb g w->aZ g v r->∃g',g.le g'/\aR w0 M0 F aO g' w/\aZ g' v r'
theorem oo(h:aI P f xs tb r aO)(hr:RLe r aO r' pO):aI P f xs tb r' pO:=by
 refine⟨h.1,fun g w vs F hw hvs=>(h.2 g w vs F hw hvs).mono ?_⟩;rintro e w' ⟨v,g',rfl,h1,h2,h3⟩;obtain⟨CI,h4,h5,h6⟩:=hr _ _ _ _ _ _ h2 h3;exact⟨v,CI,rfl,h1.trans h4,h5,h6⟩
theorem MJ{el:TypeId}{s:Nat}(h:isNone r):RLe r tb (.view tb.nx 0 0 s none) (tb.aT ⟨el,s,[]⟩):=by
 intro w0 M0 F g w v hw hv;obtain⟨ad,rfl,s_⟩:∃ad,v= .slice ad 0 0/\(ad=none\/∃a',ad=some a'):=by
  unfold isNone at h;split at h
  ·cases hv with
   |full hr=>cases hr with
    |dg=>exact⟨none,rfl,.inl rfl⟩
    |p_ a=>exact⟨_,rfl,.inr ⟨_,rfl⟩⟩
    |sl hn _ _ _ _ _ _ hs=>have:=hs.length;simp at this;rw[this]at hn;simp at hn;subst hn;exact⟨_,rfl,.inr ⟨_,rfl⟩⟩
  ·have:=bf hv;cases this;exact⟨none,rfl,.inl rfl⟩
  ·exact h.elim
 refine⟨_,hw.kF 0 0,hw.AU el s,?_⟩;have:=aZ.view (g:=g.di tb.nx 0 0) (id:=tb.nx) (b:=0) (c:=0) (o:=0) (n:=0) (s:=s) (a:=ad) (m:=none) (by simp[G.di]) (by omega) (by unfold maxLen;omega) (.void rfl s_) (by simp);simpa using this
theorem fU{el:TypeId}{s:Nat}(h:aI P f xs tb r aO)(hr:isNone r):aI P f xs tb (.view aO.nx 0 0 s none) (aO.aT ⟨el,s,[]⟩):=oo h (MJ hr)
theorem EI{g:G}{vs:List Value}{ys:List PC}(h:cP g.M vs ys):aL g vs (ys.map .p):=ja h
theorem jm{pre post:List AV}{id n s:Nat}{bx:List (Nat×Ob)}{rw:List (Nat×TypeId×Nat)}{nx:Nat}(hc:dV P f)(h1:∀c,n<=c->0<c->c<=maxLen->aI P f (pre++ .view id 0 n s (some c)::post) ⟨bx,rw,nx⟩ r aO)(h2:n=0->aI P f (pre++ .full []::post) ⟨del id bx,rw,nx⟩ r aO):aI P f (pre++ .view id 0 n s none::post) ⟨bx,rw,nx⟩ r aO:=by
 refine⟨hc,fun g w vs F hw hvs=>?_⟩;obtain⟨us,ws,rfl,hu,Vm⟩:=aL.split pre hvs;cases Vm with
 |cons h hs=>
  cases h with
  |view e h3 h4 h5 hm=>
   rename_i b c ad;cases h5 with
   |void h0 s_=>
    subst h0;have hn:n=0:=by omega
    subst hn;refine(h2 rfl).2 g w _ F (hw.cE id) (hu.append (.cons ?_ hs));rcases s_ with rfl|⟨a',rfl⟩
    ·exact .full (n:=0) .dg
    ·exact .full (n:=0) (.p_ a')
   |real off hp ha ho=>
    exact(h1 c (by omega) hp h4).2 g w _ F hw (hu.append (.cons (.view e h3 h4 (.real off hp ha ho) (fun k hk=>by injection hk)) hs))
theorem bN{xs:List PC}{r:AV}{y:PC}(h:aI P f (xs.map .p) ⟨[],[],0⟩ r aO)(hy:cQ aO.bx 4 r y):aB P f xs y:=by
 refine⟨h.1,fun M w vs hH hvs=>?_⟩;have hw:aR w M (fun _=>False) ⟨[],[],0⟩ ⟨M,fun _=>none,fun _=>none⟩ w:=by
  refine⟨hH,qn.refl _ _,fun _ _ _=>rfl,Mem.le_refl _,?_,?_,?_,?_,?_,?_⟩
  ·intro i o e;simp[lk]at e
  ·intro i el sz e;simp[lk]at e
  ·intro i j o p b c b' c' e;simp[lk]at e
  ·intro i j o p u v b e;simp[lk]at e
  ·intro i j o p b c v e;simp[lk]at e
  ·intro i _;exact⟨rfl,rfl⟩
 refine(h.2 ⟨M,fun _=>none,fun _=>none⟩ w vs (fun _=>False) hw (EI (g:=⟨M,fun _=>none,fun _=>none⟩) hvs)).mono ?_;rintro e w' ⟨v,g',rfl,hle,hS,hr⟩;have hold:∀b o v,M b o=some v->b<w.heap.size:=fun b o v e=>hH.lt e;have hMo:∀b,b<w.heap.size->g'.M b=M b:=fun b hb=>hS.old b hb (fun h=>h);refine⟨v,fun b o=>if b<w.heap.size then M b o else w'.cell? ⟨b,o,none⟩,rfl,tM hS ?_ ?_ 4 v r y hr hy,?_,?_,?_,?_⟩
 ·intro b o v e;show(if b<w.heap.size then _ else _)=_;split
  ·rename_i hb;rw[<-hMo b hb];exact e
  ·exact hS.holds b o v e
 ·intro id ob b c hl hg hc o v e;obtain⟨cur,f2,_⟩:=(hS.boxes id ob hl).real hg hc;rcases f2 with f2|f2
  ·show(if b<w.heap.size then _ else _)=_;rw[if_neg (by omega)];exact e
  ·exact f2.elim
 ·refine⟨?_,hH.g.mono fun b o v e=>by
   show(if b<w.heap.size then _ else _)=_;rw[if_pos (hold b o v e)];exact e⟩
  intro b o v e;have e:(if b<w.heap.size then M b o else w'.cell? ⟨b,o,none⟩)=some v:=e;split at e
  ·rename_i hb;rw[<-hMo b hb]at e;exact hS.holds b o v e
  ·exact e
 ·intro b o v e;show(if b<w.heap.size then _ else _)=_;rw[if_pos (hold b o v e)];exact e
 ·intro b hb;funext o;show(if b<w.heap.size then _ else _)=_;rw[if_pos hb]
 ·exact⟨hS.keep.os,hS.keep.tape,hS.keep.output,hS.keep.size,fun k hk=>hS.keep.block k hk (fun h=>h)⟩
theorem qZ{pre post:List AV}{ys:List PC}(hc:dV P f)(h1:ys=[]->aI P f (pre++ .p .nil::post) tb r aO)(h2:aI P f (pre++ .nn ys::post) tb r aO):aI P f (pre++ .p (.sl ys)::post) tb r aO:=by
 refine⟨hc,fun g w vs F hw hvs=>?_⟩;obtain⟨us,ws,rfl,hu,Vm⟩:=aL.split pre hvs;cases Vm with
 |cons h hs=>
  have h:=bf h;cases h with
  |dg=>exact(h1 rfl).2 g w _ F hw (hu.append (.cons (.p .nil) hs))
  |p_ a=>exact h2.2 g w _ F hw (hu.append (.cons (.nn (.p_ a)) hs))
  |sl a1 a2 a3 a4 a5 a6 a7 a8=>exact h2.2 g w _ F hw (hu.append (.cons (.nn (.sl a1 a2 a3 a4 a5 a6 a7 a8)) hs))
end
@[simp]theorem Js{k:Nat}:((k:Int)<0)=False:=by simp only[eq_iff_iff,iff_false];omega
@[simp]theorem aoS{n:Nat}:(n=n+1+1)=False:=by simp only[eq_iff_iff,iff_false];omega
@[simp]theorem aoT{n:Nat}:(n+1+1=n)=False:=by simp only[eq_iff_iff,iff_false];omega
@[simp]theorem aoU{n:Nat}:(n<n+1+1)=True:=by simp only[eq_iff_iff,iff_true];omega
@[simp]theorem aoV{n:Nat}:(n<=n+1+1)=True:=by simp only[eq_iff_iff,iff_true];omega
@[simp]theorem aoW{n:Nat}:(n=n+1+1+1)=False:=by simp only[eq_iff_iff,iff_false];omega
@[simp]theorem aoX{n:Nat}:(n+1+1+1=n)=False:=by simp only[eq_iff_iff,iff_false];omega
@[simp]theorem aoY{n:Nat}:(n<n+1+1+1)=True:=by simp only[eq_iff_iff,iff_true];omega
@[simp]theorem aoZ{n:Nat}:(n<=n+1+1+1)=True:=by simp only[eq_iff_iff,iff_true];omega
@[simp]theorem ao0{n:Nat}:(n=n+1+1+1+1)=False:=by simp only[eq_iff_iff,iff_false];omega
@[simp]theorem ao1{n:Nat}:(n+1+1+1+1=n)=False:=by simp only[eq_iff_iff,iff_false];omega
@[simp]theorem ao2{n:Nat}:(n<n+1+1+1+1)=True:=by simp only[eq_iff_iff,iff_true];omega
@[simp]theorem ao3{n:Nat}:(n<=n+1+1+1+1)=True:=by simp only[eq_iff_iff,iff_true];omega
@[simp]theorem ao4{n:Nat}:(n=n+1+1+1+1+1)=False:=by simp only[eq_iff_iff,iff_false];omega
@[simp]theorem ao5{n:Nat}:(n+1+1+1+1+1=n)=False:=by simp only[eq_iff_iff,iff_false];omega
@[simp]theorem ao6{n:Nat}:(n<n+1+1+1+1+1)=True:=by simp only[eq_iff_iff,iff_true];omega
@[simp]theorem ao7{n:Nat}:(n<=n+1+1+1+1+1)=True:=by simp only[eq_iff_iff,iff_true];omega
@[simp]theorem ao8{n:Nat}:(n=n+1+1+1+1+1+1)=False:=by simp only[eq_iff_iff,iff_false];omega
@[simp]theorem ao9{n:Nat}:(n+1+1+1+1+1+1=n)=False:=by simp only[eq_iff_iff,iff_false];omega
@[simp]theorem ao_{n:Nat}:(n<n+1+1+1+1+1+1)=True:=by simp only[eq_iff_iff,iff_true];omega
@[simp]theorem ao'{n:Nat}:(n<=n+1+1+1+1+1+1)=True:=by simp only[eq_iff_iff,iff_true];omega
@[simp]theorem apa{n:Nat}:(n=n+1+1+1+1+1+1+1)=False:=by simp only[eq_iff_iff,iff_false];omega
@[simp]theorem apb{n:Nat}:(n+1+1+1+1+1+1+1=n)=False:=by simp only[eq_iff_iff,iff_false];omega
@[simp]theorem apc{n:Nat}:(n<n+1+1+1+1+1+1+1)=True:=by simp only[eq_iff_iff,iff_true];omega
@[simp]theorem apd{n:Nat}:(n<=n+1+1+1+1+1+1+1)=True:=by simp only[eq_iff_iff,iff_true];omega
section
variable{ρ:Nat->Nat}{m:Nat}
@[simp]theorem Uw{a b:List AV}:AV.cH.dA ρ (a++b)=AV.cH.dA ρ a++AV.cH.dA ρ b:=by
 induction a with
 |nil=>rfl
 |cons x a ih=>simp[AV.cH.dA,ih]
theorem oN(l:List AV):AV.cH.dA ρ l=l.map (AV.cH ρ):=by
 induction l with
 |nil=>rfl
 |cons x a ih=>simp[AV.cH.dA,ih]
@[simp]theorem ack{l:List AV}{k:Nat}:AV.cH.dA ρ (l.take k)=(AV.cH.dA ρ l).take k:=by simp[oN]
@[simp]theorem acm{l:List AV}{k:Nat}:AV.cH.dA ρ (l.drop k)=(AV.cH.dA ρ l).drop k:=by simp[oN]
@[simp]theorem ahA{l:List AV}{k:Nat}{x:AV}:AV.cH.dA ρ (l.set k x)=(AV.cH.dA ρ l).set k (x.cH ρ):=by simp[oN]
@[simp]theorem XQ{l:List PC}:AV.cH.dA ρ (l.map .p)=l.map .p:=by
 induction l with
 |nil=>rfl
 |cons x a ih=>simp[ih]
@[simp]theorem RI{α:Type}{f:α->PC}{l:List α}:AV.cH.dA ρ (l.map fun x=> .p (f x))=l.map fun x=> .p (f x):=by
 induction l with
 |nil=>rfl
 |cons x a ih=>simp[ih]
@[simp]theorem akO{α:Type}{f:α->PC}{l:List α}:AV.cH.dA ρ (l.map (AV.p∘f))=l.map (AV.p∘f):=RI (f:=f)
@[simp]theorem PY{α:Type}{f:α->PC}{l:List α}:AV.e_.eE m (l.map (AV.p∘f))=true:=by
 induction l with
 |nil=>rfl
 |cons x a ih=>simp[ih]
@[simp]theorem Ux{a b:List AV}:AV.e_.eE m (a++b)=(AV.e_.eE m a&&AV.e_.eE m b):=by
 induction a with
 |nil=>simp
 |cons x a ih=>simp[ih,Bool.and_assoc]
theorem CJ(l:List AV):AV.e_.eE m l=l.all (AV.e_ m):=by
 induction l with
 |nil=>rfl
 |cons x a ih=>simp[ih]
@[simp]theorem acn{l:List AV}{k:Nat}(h:AV.e_.eE m l=true):AV.e_.eE m (l.take k)=true:=by
 rw[CJ]at*;exact List.all_eq_true.2 fun x hx=>List.all_eq_true.1 h x (List.mem_of_mem_take hx)
@[simp]theorem aco{l:List AV}{k:Nat}(h:AV.e_.eE m l=true):AV.e_.eE m (l.drop k)=true:=by
 rw[CJ]at*;exact List.all_eq_true.2 fun x hx=>List.all_eq_true.1 h x (List.mem_of_mem_drop hx)
@[simp]theorem XR{l:List PC}:AV.e_.eE m (l.map .p)=true:=by
 induction l with
 |nil=>rfl
 |cons x a ih=>simp[ih]
@[simp]theorem akP{α:Type}{f:α->PC}{l:List α}:AV.e_.eE m (l.map fun x=> .p (f x))=true:=by
 induction l with
 |nil=>rfl
 |cons x a ih=>simp[ih]
end
def gu:PC->List PC
 | .agg false xs=>xs
 |x=>[x]
theorem CK(x:PC):aV x=(gu x).map .p:=by
 cases x with
 |agg b l=>cases b<;>rfl
 |_=>rfl
@[simp]theorem qR{xs:List PC}:xs.flatMap aV=(xs.flatMap gu).map .p:=by
 induction xs with
 |nil=>rfl
 |cons x xs ih=>simp[ih,CK]
@[simp]theorem RJ{v:Value}:gu (.sc v)=[.sc v]:=(rfl)
@[simp]theorem ahB{l:List PC}:gu (.agg false l)=l:=(rfl)
theorem mm{xs:List PC}{s:Nat}(h:∀x∈xs,x.width=s):(xs.flatMap gu).length=xs.length*s:=by
 have:=tW (s:=s) xs h;simpa using this
section
variable{P:Program}{f:FuncId}{xs:List AV}{tb aO pO:Tb}{r r':AV}
theorem AP{id n s:Nat}{m:Option Nat}{ob:Ob}{ys:List PC}(hl:lk id tb.bx=some ob)(hsz:ob.sz=s)(hs:0<s)(hx:n*s<=ob.xs.length)(hc:ob.xs.take (n*s)=ys.flatMap aV)(hy:ys.length=n)(hw':∀y∈ys,y.width=s)(ht:∀y∈ys,cF y=true):RLe (.view id 0 n s m) tb (.p (.sl ys)) ⟨(tb.cE id).bx,tb.rw,tb.nx+1⟩:=by
 intro w0 M0 F g w v hw hv;subst hsz;cases hv with
 |view e h3 h4 h5 hm=>
  rename_i b c au;have YV:∀i p,lk i (tb.cE id).bx=some p->lk i tb.bx=some p:=fun i p h=>by
   simp only[Tb.cE,cD]at h;split at h
   ·cases h
   ·exact h
  cases h5 with
  |void hz s_=>
   subst hz;have hn0:n=0:=by omega
   subst hn0;have:ys=[]:=List.eq_nil_of_length_eq_zero hy;subst this;refine⟨g,G.le_refl g,hw.sub YV (fun _ _ h=>h) (Nat.le_succ _),?_⟩;rcases s_ with rfl|⟨a',rfl⟩
   ·exact .p .dg
   ·exact .p (.p_ a')
  |real off gH had h5=>
   subst had;obtain rfl:off=0:=by have:=h5 (.inr rfl);simpa using this
   obtain⟨N,k1,k2,k3⟩:=hw.vr hl e gH hs (by omega) hx hc hy hw' ht;refine⟨_,?_,k2.sub (fun i p h=>h) (fun i p h=>?_) (Nat.le_refl _),.p k3⟩
   ·exact⟨k1,fun _ _ h=>h,fun i p h=>by have:=hw.mh h;simp only[G.cX,G.with];rw[if_neg (by omega)];exact h⟩
   ·simp only[Tb.bX,Tb.cE,bg];split
    ·rename_i hi;subst hi;obtain⟨v',q1,_⟩:=hw.rows tb.nx p.1 p.2 h;have:=hw.mh q1;omega
    ·exact h
theorem qQ{id n s:Nat}{m:Option Nat}{ob:Ob}{ys:List PC}(h:aI P f xs tb (.view id 0 n s m) aO)(hl:lk id aO.bx=some ob)(hsz:ob.sz=s)(hs:0<s)(hx:n*s<=ob.xs.length)(hc:ob.xs.take (n*s)=ys.flatMap aV)(hy:ys.length=n)(hw':∀y∈ys,y.width=s)(ht:∀y∈ys,cF y=true):aI P f xs tb (.p (.sl ys)) ⟨(aO.cE id).bx,aO.rw,aO.nx+1⟩:=oo h (AP hl hsz hs hx hc hy hw' ht)
end
theorem pF{g:G}{x:AV}:∀{ys:List AV} {vs:List Value} (j:Nat) (v:Value),vs[j]?=some v->aL g vs ys->aZ g v x->aL g vs (ys.set j x)
 |[],_,_,_,_,hs,_=>by simpa using hs
 |y::ys,_,j,v,hv,.cons h hs,hn=>by
  cases j with
  |zero=>simp at hv;subst hv;exact .cons hn hs
  |succ j=>simp at hv;exact .cons h (pF j v hv hs hn)
section
variable{w0:World}{M0:Mem}{F:Nat->Prop}{tb:Tb}{g:G}{w:World}
theorem aR.Vc(h1:aR w0 M0 F tb g w){id j:Nat}(el s:Nat){ob:Ob}(hl:lk id tb.bx=some ob)(hj:ob.xs[j]?=some (.p .nil)):aR w0 M0 F ((tb.aT ⟨el,s,[]⟩).aQ id {ob with xs:=ob.xs.set j (.view tb.nx 0 0 s none)}) (g.di tb.nx 0 0) w:=by
 obtain⟨b,c,f1,fr,f0⟩:=h1.boxes id ob hl;have xA:ob.xs≠[]:=fun hz=>by rw[hz]at hj;simp at hj
 have gH:0<c:=Nat.pos_of_ne_zero fun hz=>xA (f0 hz);obtain⟨cur,f2,f3,⟨tt,fz,f4,fo⟩,f5,f6,f7,f8,f9⟩:=fr gH;have hid:id<tb.nx:=h1.yU f1;obtain⟨u,hu,hr⟩:=f8.get hj;have hz:=bf hr;have hle:=h1.kF 0 0;have gD:=h1.AU el s;have hl':lk id (tb.aT ⟨el,s,[]⟩).bx=some ob:=by
  simp only[Tb.aT,lk];rw[if_neg (by omega)];exact hl
 have hv:aZ (g.di tb.nx 0 0) u (.view tb.nx 0 0 s none):=by
  cases hz;have:=aZ.view (g:=g.di tb.nx 0 0) (id:=tb.nx) (b:=0) (c:=0) (o:=0) (n:=0) (s:=s) (a:=none) (m:=none) (by simp[G.di]) (by omega) (by unfold maxLen;omega) (.void rfl (.inl rfl)) (by simp);simpa using this
 have key:=gD.aQ (o':={ob with xs:=ob.xs.set j (.view tb.nx 0 0 s none)}) (cur':=cur) hl' (show(g.di tb.nx 0 0).ob id=some (b,c)from hle.ob _ _ f1) gH f4 rfl rfl rfl (by simpa using f7) (by
  simp only[List.length_set];exact pF j _ hu (f8.mono hle) hv) (by simpa using f9)
 have hw:w.setRow b cur=w:=setRow_self f4;rw[hw]at key;exact key
end
section
variable{w0:World}{M0:Mem}{F:Nat->Prop}{tb:Tb}{g:G}{w:World}
theorem aR.Vd(h1:aR w0 M0 F tb g w){id j:Nat}{x y:AV}{ob:Ob}(hl:lk id tb.bx=some ob)(hj:ob.xs[j]?=some x)(hxy:x.to y):aR w0 M0 F (tb.aQ id {ob with xs:=ob.xs.set j y}) g w:=by
 obtain⟨b,c,f1,fr,f0⟩:=h1.boxes id ob hl;have xA:ob.xs≠[]:=fun hz=>by rw[hz]at hj;simp at hj
 have gH:0<c:=Nat.pos_of_ne_zero fun hz=>xA (f0 hz);obtain⟨cur,f2,f3,⟨tt,fz,f4,fo⟩,f5,f6,f7,f8,f9⟩:=fr gH;obtain⟨u,hu,hr⟩:=f8.get hj;have key:=h1.aQ (o':={ob with xs:=ob.xs.set j y}) (cur':=cur) hl f1 gH f4 rfl rfl rfl (by simpa using f7) (by
  simp only[List.length_set];exact pF j _ hu f8 (Bh x hr hxy)) (by simpa using f9)
 have hw:w.setRow b cur=w:=setRow_self f4;rw[hw]at key;exact key
end
theorem KH{eW:Nat}{st:AS}(id j:Nat)(x y:AV)(ob:Ob)(hl:lk id st.tb.bx=some ob)(hj:ob.xs[j]?=some x)(hxy:x.to y):st.le eW ⟨st.sl,st.tb.aQ id {ob with xs:=ob.xs.set j y}⟩:=by
 rintro fr a w hf ⟨g,h0,h1,h2,h3,h4⟩;exact⟨_,h0,h1.Vd hl hj hxy,h2,h3,h4⟩
theorem kI{P:Program}{f:FuncId}{xs:List AV}{tb aO:Tb}{r:AV}{id j:Nat}{x:AV}(y:AV){ob:Ob}(h:aI P f xs tb r aO)(hl:lk id aO.bx=some ob)(hj:ob.xs[j]?=some x)(hxy:x.to y):aI P f xs tb r (aO.aQ id {ob with xs:=ob.xs.set j y}):=oo h fun _ _ _ g _ _ hw hv=>⟨g,G.le_refl g,hw.Vd hl hj hxy,hv⟩
theorem xM{eW:Nat}{st:AS}(id j el s:Nat)(ob:Ob)(hl:lk id st.tb.bx=some ob)(hj:ob.xs[j]?=some (.p .nil)):st.le eW ⟨st.sl,(st.tb.aT ⟨el,s,[]⟩).aQ id {ob with xs:=ob.xs.set j (.view st.tb.nx 0 0 s none)}⟩:=by
 rintro fr a w hf ⟨g,h0,h1,h2,h3,h4⟩;exact⟨_,h0.trans (h1.kF 0 0),h1.Vc el s hl hj,fun t=>(h2 t).mono (h1.kF 0 0),h3,h4⟩
section
variable{P:Program}{f:FuncId}{xs:List AV}{tb aO:Tb}{r:AV}
theorem Jc{id j:Nat}{el s:Nat}{ob:Ob}(hl:lk id tb.bx=some ob)(hj:ob.xs[j]?=some (.p .nil)):RLe r tb r ((tb.aT ⟨el,s,[]⟩).aQ id {ob with xs:=ob.xs.set j (.view tb.nx 0 0 s none)}):=by
 intro w0 M0 F g w v hw hv;exact⟨_,hw.kF 0 0,hw.Vc el s hl hj,hv.mono (hw.kF 0 0)⟩
theorem me{id j:Nat}(el s:Nat){ob:Ob}(h:aI P f xs tb r aO)(hl:lk id aO.bx=some ob)(hj:ob.xs[j]?=some (.p .nil)):aI P f xs tb r ((aO.aT ⟨el,s,[]⟩).aQ id {ob with xs:=ob.xs.set j (.view aO.nx 0 0 s none)}):=oo h (Jc hl hj)
end
mutual
theorem AY{rn:List (Nat×Nat)}{nx:Nat}(h:∀p∈rn,nx<=p.1):∀(x:AV),x.e_ nx=true->x.cH (sP rn)=x
 | .p _,_=>rfl
 | .obj i o,hx=>by simp only[AV.e_,decide_eq_true_eq]at hx;simp only[AV.cH];rw[kH h hx]
 | .own i o,hx=>by simp only[AV.e_,decide_eq_true_eq]at hx;simp only[AV.cH];rw[kH h hx]
 | .full _,_=>rfl
 | .nn _,_=>rfl
 | .view i o n s c,hx=>by simp only[AV.e_,decide_eq_true_eq]at hx;simp only[AV.cH];rw[kH h hx]
 | .agg t xs,hx=>by simp only[AV.e_]at hx;simp only[AV.cH];rw[jN h xs hx]
 | .jZ f xs,hx=>by simp only[AV.e_]at hx;simp only[AV.cH];rw[jN h xs hx]
 | .kG f xs,hx=>by simp only[AV.e_]at hx;simp only[AV.cH];rw[jN h xs hx]
 | .kV t x,hx=>by simp only[AV.e_]at hx;simp only[AV.cH];rw[AY h x hx]
 | .any,_=>rfl
theorem jN{rn:List (Nat×Nat)}{nx:Nat}(h:∀p∈rn,nx<=p.1):∀(xs:List AV),AV.e_.eE nx xs=true->AV.cH.dA (sP rn) xs=xs
 |[],_=>rfl
 |x::l,hx=>by
  simp only[AV.e_.eE,Bool.and_eq_true]at hx;simp only[AV.cH.dA];rw[AY h x hx.1,jN h l hx.2]
end
mutual
theorem Dn{m n:Nat}(h:m<=n):∀(x:AV),x.e_ m=true->x.e_ n=true
 | .p _,_=>rfl
 | .obj i o,hx=>by simp only[AV.e_,decide_eq_true_eq]at hx⊢;omega
 | .own i o,hx=>by simp only[AV.e_,decide_eq_true_eq]at hx⊢;omega
 | .full _,_=>rfl
 | .nn _,_=>rfl
 | .view i o n s c,hx=>by simp only[AV.e_,decide_eq_true_eq]at hx⊢;omega
 | .agg t xs,hx=>by simp only[AV.e_]at hx⊢;exact kP h xs hx
 | .jZ f xs,hx=>by simp only[AV.e_]at hx⊢;exact kP h xs hx
 | .kG f xs,hx=>by simp only[AV.e_]at hx⊢;exact kP h xs hx
 | .kV t x,hx=>by simp only[AV.e_]at hx⊢;exact Dn h x hx
 | .any,_=>rfl
theorem kP{m n:Nat}(h:m<=n):∀(xs:List AV),AV.e_.eE m xs=true->AV.e_.eE n xs=true
 |[],_=>rfl
 |x::l,hx=>by
  simp only[AV.e_.eE,Bool.and_eq_true]at hx⊢;exact⟨Dn h x hx.1,kP h l hx.2⟩
end
@[simp]theorem Ve{xs:List PC}:aV (.agg false xs)=xs.map .p:=(rfl)
@[simp]theorem ajm{t:Bool}{xs l:List AV}:dR (.agg t xs::l)=none:=(rfl)
@[simp]theorem ajn{i o:Nat}{l:List AV}:dR (.obj i o::l)=none:=(rfl)
@[simp]theorem aeu{i o n s:Nat}{c:Option Nat}{l:List AV}:dR (.view i o n s c::l)=none:=(rfl)
@[simp]theorem ajo{f:Fn}{xs:List AV}{l:List AV}:dR (.jZ f xs::l)=none:=(rfl)
@[simp]theorem ajp{f:Fn}{xs:List AV}{l:List AV}:dR (.kG f xs::l)=none:=(rfl)
theorem DR{P:Program}{f:FuncId}{r:AV}{aO:Tb}{pre post:List AV}{id n s:Nat}{bx:List (Nat×Ob)}{rw:List (Nat×TypeId×Nat)}{nx:Nat}(hc:dV P f)(h1:∀c,n<=c->0<c->c<=maxLen->aI P f (pre++ .view id 0 n s (some c)::post) ⟨bx,rw,nx⟩ r aO)(h2:n=0->aI P f (pre++ .p (.sl [])::post) ⟨bx,rw,nx⟩ r aO):aI P f (pre++ .view id 0 n s none::post) ⟨bx,rw,nx⟩ r aO:=by
 refine⟨hc,fun g w vs F hw hvs=>?_⟩;obtain⟨us,ws,rfl,hu,Vm⟩:=aL.split pre hvs;cases Vm with
 |cons h hs=>
  cases h with
  |view e h3 h4 h5 hm=>
   rename_i b c ad;cases h5 with
   |void h0 s_=>
    subst h0;have hn:n=0:=by omega
    subst hn;refine(h2 rfl).2 g w _ F hw (hu.append (.cons ?_ hs));rcases s_ with rfl|⟨a',rfl⟩
    ·exact .p .dg
    ·exact .p (.p_ a')
   |real off hp ha ho=>
    exact(h1 c (by omega) hp h4).2 g w _ F hw (hu.append (.cons (.view e h3 h4 (.real off hp ha ho) (fun k hk=>by injection hk)) hs))
end Go.Av
namespace Go.Av
open Go.RowKit
def jR:List Nat->Nat->Nat->Nat
 |[],n,i=>n+i
 |j::_,_,0=>j
 |_::l,n,i+1=>jR l n i
def CZ:List Nat->Nat->Nat->Option Nat
 |[],n,j=>if n<=j then some (j-n)else none
 |i::l,n,j=>if j=i then some 0 else(CZ l n j).map (·+1)
theorem nj:∀(l:List Nat) (n i:Nat),l.length<=i->jR l n i=n+(i-l.length)
 |[],n,i,_=>by simp[jR]
 |_::l,n,0,h=>by simp at h
 |_::l,n,i+1,h=>by
  simp only[List.length_cons]at h⊢;rw[jR,nj l n i (by omega)];omega
theorem Np:∀(l:List Nat) (n i:Nat),i<l.length->jR l n i∈l
 |[],n,i,h=>by simp at h
 |j::l,n,0,h=>by simp[jR]
 |j::l,n,i+1,h=>by
  simp only[List.length_cons]at h;exact List.mem_cons_of_mem _ (Np l n i (by omega))
theorem sG:∀(l:List Nat) (n:Nat),l.Nodup->(∀j∈l,j<n)->∀i,CZ l n (jR l n i)=some i
 |[],n,_,_,i=>by simp[jR,CZ]
 |j::l,n,hn,hl,0=>by simp[jR,CZ]
 |j::l,n,hn,hl,i+1=>by
  have hn:=List.nodup_cons.1 hn;have ih:=sG l n hn.2 (fun k hk=>hl k (List.mem_cons_of_mem _ hk)) i;have hne:jR l n i≠j:=by
   rcases Nat.lt_or_ge i l.length with h|h
   ·intro e;exact hn.1 (e▸Np l n i h)
   ·rw[nj l n i h];have:=hl j (by simp);omega
  show(if jR l n i=j then some 0 else(CZ l n (jR l n i)).map (·+1))=some (i+1);rw[if_neg hne,ih];rfl
theorem Bd:∀(l:List Nat) (n j i:Nat),CZ l n j=some i->jR l n i=j
 |[],n,j,i,h=>by
  simp only[CZ]at h;split at h
  ·injection h with h;subst h;simp only[jR];omega
  ·cases h
 |k::l,n,j,i,h=>by
  simp only[CZ]at h;split at h
  ·rename_i e;injection h with h;subst h;subst e;rfl
  ·cases h2:CZ l n j with
   |none=>rw[h2]at h;cases h
   |some i'=>rw[h2]at h;simp at h;subst h;exact Bd l n j i' h2
def fI(ρ:Nat->Nat):List (Nat×Ob)->List (Nat×Ob)
 |[]=>[]
 |(i,o)::l=>(ρ i,{o with xs:=AV.cH.dA ρ o.xs})::fI ρ l
def lQ(ρ:Nat->Nat):List (Nat×TypeId×Nat)->List (Nat×TypeId×Nat)
 |[]=>[]
 |(i,r)::l=>(ρ i,r)::lQ ρ l
def Tb.cH(ρ:Nat->Nat)(tb:Tb):Tb:=⟨fI ρ tb.bx,lQ ρ tb.rw,ρ tb.nx⟩
theorem oP{ρ:Nat->Nat}(hρ:∀i j,ρ i=ρ j->i=j){i:Nat}{o:Ob}:∀{l:List (Nat×Ob)},lk i l=some o->lk (ρ i) (fI ρ l)=some {o with xs:=AV.cH.dA ρ o.xs}
 |[],h=>by simp[lk]at h
 |(j,p)::l,h=>by
  simp only[lk]at h;simp only[fI,lk];split at h
  ·rename_i e;subst e;injection h with h;subst h;rw[if_pos rfl]
  ·rename_i e;rw[if_neg (fun h=>e (hρ _ _ h))];exact oP hρ h
theorem oQ{ρ:Nat->Nat}(hρ:∀i j,ρ i=ρ j->i=j){i:Nat}{o:TypeId×Nat}:∀{l:List (Nat×TypeId×Nat)},lk i l=some o->lk (ρ i) (lQ ρ l)=some o
 |[],h=>by simp[lk]at h
 |(j,p)::l,h=>by
  simp only[lk]at h;simp only[lQ,lk];split at h
  ·rename_i e;subst e;injection h with h;subst h;rw[if_pos rfl]
  ·rename_i e;rw[if_neg (fun h=>e (hρ _ _ h))];exact oQ hρ h
theorem zF{ρ:Nat->Nat}{j:Nat}{q:Ob}:∀{l:List (Nat×Ob)},lk j (fI ρ l)=some q->∃i o,j=ρ i/\q={o with xs:=AV.cH.dA ρ o.xs}/\(∀hρ:∀i j,ρ i=ρ j->i=j,lk i l=some o)
 |[],h=>by simp[fI]at h
 |(k,p)::l,h=>by
  simp only[fI,lk]at h;split at h
  ·rename_i e;injection h with h;exact⟨k,p,e,h.symm,fun _=>by simp[lk]⟩
  ·rename_i e;obtain⟨i,o,h1,h2,h3⟩:=zF h;refine⟨i,o,h1,h2,fun hρ=>?_⟩;simp only[lk];rw[if_neg (fun e'=>e (by rw[h1,e']))];exact h3 hρ
theorem zG{ρ:Nat->Nat}{j:Nat}{q:TypeId×Nat}:∀{l:List (Nat×TypeId×Nat)},lk j (lQ ρ l)=some q->∃i,j=ρ i/\(∀hρ:∀i j,ρ i=ρ j->i=j,lk i l=some q)
 |[],h=>by simp[lQ]at h
 |(k,p)::l,h=>by
  simp only[lQ,lk]at h;split at h
  ·rename_i e;injection h with h;subst h;exact⟨k,e,fun _=>by simp[lk]⟩
  ·rename_i e;obtain⟨i,h1,h3⟩:=zG h;refine⟨i,h1,fun hρ=>?_⟩;simp only[lk];rw[if_neg (fun e'=>e (by rw[h1,e']))];exact h3 hρ
def G.pull(g:G)(ρ:Nat->Nat):G:=⟨g.M,fun i=>g.ob (ρ i),fun i=>g.rv (ρ i)⟩
mutual
theorem zH{g:G}{ρ:Nat->Nat}:∀{v:Value} (x:AV),aZ g v (x.cH ρ)->aZ (g.pull ρ) v x
 |v,.p y,h=>by simp only[AV.cH]at h;cases h with|p h1=>exact .p h1
 |v,.obj id off,h=>by simp only[AV.cH]at h;cases h with|obj e=>exact .obj e
 |v,.own id xs,h=>by simp only[AV.cH]at h;cases h with|own e hr=>exact .own e hr
 |v,.full xs,h=>by simp only[AV.cH]at h;cases h with|full hr=>exact .full hr
 |v,.nn xs,h=>by simp only[AV.cH]at h;cases h with|nn hr=>exact .nn hr
 |v,.view id o n s c,h=>by simp only[AV.cH]at h;cases h with|view e h1 h2 h3 h4=>exact .view (g:=g.pull ρ) e h1 h2 h3 h4
 |v,.agg t xs,h=>by
  simp only[AV.cH]at h;cases h with
  |agg hs h1=>exact .agg (iF xs hs) h1
  |o4 hs=>exact .o4 (iF xs hs)
 |v,.jZ f xs,h=>by
  simp only[AV.cH]at h;cases h with
  |jZ hs=>exact .jZ (iF xs hs)
 |v,.kG f xs,h=>by
  simp only[AV.cH]at h;cases h with
  |kG hs=>exact .kG (iF xs hs)
 |v,.kV t x,h=>by
  simp only[AV.cH]at h;cases h with
  |kV h1=>exact .kV (zH x h1)
 |v,.any,_=> .any v
theorem iF{g:G}{ρ:Nat->Nat}:∀{vs:List Value} (xs:List AV),aL g vs (AV.cH.dA ρ xs)->aL (g.pull ρ) vs xs
 |_,[],h=>by simp only[AV.cH.dA]at h;cases h;exact .nil
 |_,x::xs,h=>by
  simp only[AV.cH.dA]at h;cases h with|cons h1 hs=>exact .cons (zH x h1) (iF xs hs)
end
structure SH(g' CI:G)(ρ:Nat->Nat):Prop where
 M:CI.M=g'.M
 ob:∀i,CI.ob (ρ i)=g'.ob i
 rv:∀i,CI.rv (ρ i)=g'.rv i
mutual
theorem uk{g' CI:G}{ρ:Nat->Nat}(hp:SH g' CI ρ):∀{v:Value} (x:AV),aZ g' v x->aZ CI v (x.cH ρ)
 |v,.p y,h=>by cases h with|p h1=>exact .p (hp.M▸h1)
 |v,.obj id off,h=>by cases h with|obj e=>exact .obj ((hp.ob _).trans e)
 |v,.own id xs,h=>by cases h with|own e hr=>exact .own ((hp.rv _).trans e) (hp.M▸hr)
 |v,.full xs,h=>by cases h with|full hr=>exact .full (hp.M▸hr)
 |v,.nn xs,h=>by cases h with|nn hr=>exact .nn (hp.M▸hr)
 |v,.view id o n s c,h=>by cases h with|view e h1 h2 h3 h4=>exact .view ((hp.ob _).trans e) h1 h2 h3 h4
 |v,.agg t xs,h=>by
  cases h with
  |agg hs h1=>exact .agg (jz hp xs hs) h1
  |o4 hs=>exact .o4 (jz hp xs hs)
 |v,.jZ f xs,h=>by
  cases h with
  |jZ hs=>exact .jZ (jz hp xs hs)
 |v,.kG f xs,h=>by
  cases h with
  |kG hs=>exact .kG (jz hp xs hs)
 |v,.kV t x,h=>by
  cases h with
  |kV h1=>exact .kV (uk hp x h1)
 |v,.any,_=> .any v
theorem jz{g' CI:G}{ρ:Nat->Nat}(hp:SH g' CI ρ):∀{vs:List Value} (xs:List AV),aL g' vs xs->aL CI vs (AV.cH.dA ρ xs)
 |_,[],h=>by cases h;exact .nil
 |_,x::xs,h=>by cases h with|cons h1 hs=>exact .cons (uk hp x h1) (jz hp xs hs)
end
section
variable{w0:World}{M0:Mem}{F:Nat->Prop}{tb:Tb}{g:G}{w:World}
theorem aR.pull{ρ:Nat->Nat}(hρ:∀i j,ρ i=ρ j->i=j)(hge:∀i,tb.nx<=i->ρ tb.nx<=ρ i)(h:aR w0 M0 F (tb.cH ρ) g w):aR w0 M0 F tb (g.pull ρ) w:=by
 refine⟨h.holds,h.keep,h.old,h.BD,fun i o e=>?_,fun i el sz e=>?_,fun i j o p b c b' c' ei ej hij e1 e2 p1 p2=>?_,fun i j r s u v b ei ej hij e1 e2 e3=>?_,fun i j o r b c v ei ej e1 e2 p1=>?_,fun i hi=>?_⟩
 ·obtain⟨b,c,f1,fr,f0⟩:=h.boxes _ _ (oP hρ e);refine⟨b,c,f1,fun hp=>?_,fun hz=>?_⟩
  ·obtain⟨cur,f2,f3,f4,f5,f6,f7,f8,f9⟩:=fr hp;simp only[fJ]at f7 f8;exact⟨cur,f2,f3,f4,f5,f6,f7,iF _ f8,f9⟩
  ·have:=congrArg List.length (f0 hz);simp only[fJ]at this;exact List.eq_nil_of_length_eq_zero this
 ·obtain⟨v,f1,f2⟩:=h.rows _ _ _ (oQ hρ e);exact⟨v,f1,f2⟩
 ·exact h.fG _ _ _ _ b c b' c' (oP hρ ei) (oP hρ ej) (fun e=>hij (hρ _ _ e)) e1 e2 p1 p2
 ·exact h.gJ _ _ _ _ u v b (oQ hρ ei) (oQ hρ ej) (fun e=>hij (hρ _ _ e)) e1 e2 e3
 ·exact h.eX _ _ _ _ b c v (oP hρ ei) (oQ hρ ej) e1 e2 p1
 ·exact h.fresh (ρ i) (hge i hi)
theorem aR.push{g' CI:G}{ρ:Nat->Nat}(hρ:∀i j,ρ i=ρ j->i=j)(hp:SH g' CI ρ)(hge:∀j,ρ tb.nx<=j->∃i,tb.nx<=i/\j=ρ i)(h:aR w0 M0 F tb g' w):aR w0 M0 F (tb.cH ρ) CI w:=by
 have hM:=hp.M;have yY:∀{j q},lk j (tb.cH ρ).bx=some q->∃i o,j=ρ i/\q={o with xs:=AV.cH.dA ρ o.xs}/\lk i tb.bx=some o:=fun e=>by
  obtain⟨i,o,h1,h2,h3⟩:=zF e;exact⟨i,o,h1,h2,h3 hρ⟩
 have hrw:∀{j q},lk j (tb.cH ρ).rw=some q->∃i,j=ρ i/\lk i tb.rw=some q:=fun e=>by
  obtain⟨i,h1,h3⟩:=zG e;exact⟨i,h1,h3 hρ⟩
 refine⟨hM▸h.holds,h.keep,hM▸h.old,hM▸h.BD,fun i o e=>?_,fun i el sz e=>?_,fun i j o p b c b' c' ei ej hij e1 e2 p1 p2=>?_,fun i j r s u v b ei ej hij e1 e2 e3=>?_,fun i j o r b c v ei ej e1 e2 p1=>?_,fun j hj=>?_⟩
 ·obtain⟨i',o',rfl,rfl,k⟩:=yY e;obtain⟨b,c,f1,fr,f0⟩:=h.boxes _ _ k;refine⟨b,c,(hp.ob _).trans f1,fun hp'=>?_,fun hz=>by simp only[f0 hz];rfl⟩;obtain⟨cur,f2,f3,f4,f5,f6,f7,f8,f9⟩:=fr hp';refine⟨cur,f2,fun off=>by rw[hM];exact f3 off,f4,f5,f6,by simpa only[fJ]using f7,?_,f9⟩;simp only[fJ];exact jz hp _ f8
 ·obtain⟨i',rfl,k⟩:=hrw e;obtain⟨v,f1,f2⟩:=h.rows _ _ _ k;exact⟨v,(hp.rv _).trans f1,by rw[hM];exact f2⟩
 ·obtain⟨i',o',rfl,rfl,ki⟩:=yY ei;obtain⟨j',p',rfl,rfl,kj⟩:=yY ej;exact h.fG _ _ _ _ b c b' c' ki kj (fun e=>hij (by rw[e])) ((hp.ob _).symm.trans e1) ((hp.ob _).symm.trans e2) p1 p2
 ·obtain⟨i',rfl,ki⟩:=hrw ei;obtain⟨j',rfl,kj⟩:=hrw ej;exact h.gJ _ _ _ _ u v b ki kj (fun e=>hij (by rw[e])) ((hp.rv _).symm.trans e1) ((hp.rv _).symm.trans e2) e3
 ·obtain⟨i',o',rfl,rfl,ki⟩:=yY ei;obtain⟨j',rfl,kj⟩:=hrw ej;exact h.eX _ _ _ _ b c v ki kj ((hp.ob _).symm.trans e1) ((hp.rv _).symm.trans e2) p1
 ·obtain⟨i,h1,rfl⟩:=hge j hj;rw[hp.ob,hp.rv];exact h.fresh i h1
end
theorem Bb{P:Program}{f:FuncId}{xs:List AV}{r:AV}{tb aO:Tb}(h:aI P f xs tb r aO)(rn:List Nat)(n:Nat)(hl:rn.length=tb.nx)(hm:tb.nx<=aO.nx)(hnd:rn.Nodup)(hlt:∀j∈rn,j<n):aI P f (AV.cH.dA (jR rn n) xs) (tb.cH (jR rn n)) (r.cH (jR rn n)) (aO.cH (jR rn n)):=by
 have inj:∀i j,jR rn n i=jR rn n j->i=j:=fun i j e=>by
  have h1:=sG rn n hnd hlt i;rw[e,sG rn n hnd hlt j]at h1;injection h1 with h1;exact h1.symm
 have DA:jR rn n tb.nx=n:=by rw[nj _ _ _ (by omega)];omega
 refine⟨h.1,fun g w vs F hw hvs=>?_⟩;have aiK:=hw.pull (tb:=tb) inj (fun i hi=>by rw[DA,nj _ _ _ (by omega)];omega);refine(h.2 (g.pull (jR rn n)) w vs F aiK (iF _ hvs)).mono ?_;rintro e w' ⟨v,g',rfl,h1,h2,h3⟩
 let CI:G:=⟨g'.M,fun j=>match CZ rn n j with|some i=>g'.ob i|none=>g.ob j,fun j=>match CZ rn n j with|some i=>g'.rv i|none=>g.rv j⟩
 have hp:SH g' CI (jR rn n):=⟨rfl,fun i=>by show(match CZ rn n (jR rn n i)with|some i=>g'.ob i|none=>g.ob _)=_;rw[sG rn n hnd hlt i],fun i=>by show(match CZ rn n (jR rn n i)with|some i=>g'.rv i|none=>g.rv _)=_;rw[sG rn n hnd hlt i]⟩;refine⟨v,CI,rfl,⟨h1.M,fun j p e=>?_,fun j p e=>?_⟩,h2.push inj hp ?_,uk hp _ h3⟩
 ·show(match CZ rn n j with|some i=>g'.ob i|none=>g.ob j)=_;cases hj:CZ rn n j with
  |none=>exact e
  |some i=>exact h1.ob i p (by show g.ob (jR rn n i)=_;rw[Bd _ _ _ _ hj];exact e)
 ·show(match CZ rn n j with|some i=>g'.rv i|none=>g.rv j)=_;cases hj:CZ rn n j with
  |none=>exact e
  |some i=>exact h1.rv i p (by show g.rv (jR rn n i)=_;rw[Bd _ _ _ _ hj];exact e)
 ·intro j hj;rw[nj _ _ _ (by omega)]at hj;refine⟨rn.length+(j-n),by omega,?_⟩;rw[nj _ _ _ (by omega)];omega
@[simp]theorem alJ{n i:Nat}:jR [] n i=n+i:=(rfl)
@[simp]theorem aiL{j n:Nat}{l:List Nat}:jR (j::l) n 0=j:=(rfl)
@[simp]theorem aiM{j n i:Nat}{l:List Nat}:jR (j::l) n (i+1)=jR l n i:=(rfl)
@[simp]theorem adJ{ρ:Nat->Nat}:fI ρ []=[]:=(rfl)
@[simp]theorem Y2{ρ:Nat->Nat}{i sz:Nat}{el:TypeId}{xs:List AV}{l:List (Nat×Ob)}:fI ρ ((i,⟨el,sz,xs⟩)::l)=(ρ i,⟨el,sz,AV.cH.dA ρ xs⟩)::fI ρ l:=(rfl)
@[simp]theorem SI{ρ:Nat->Nat}{l m:List (Nat×Ob)}:fI ρ (l++m)=fI ρ l++fI ρ m:=by
 induction l with
 |nil=>rfl
 |cons x l ih=>obtain⟨i,o⟩:=x;simp[fI,ih]
@[simp]theorem adK{ρ:Nat->Nat}:lQ ρ []=[]:=(rfl)
@[simp]theorem Y3{ρ:Nat->Nat}{i:Nat}{r:TypeId×Nat}{l:List (Nat×TypeId×Nat)}:lQ ρ ((i,r)::l)=(ρ i,r)::lQ ρ l:=(rfl)
@[simp]theorem aiN{ρ:Nat->Nat}{bx:List (Nat×Ob)}{rw:List (Nat×TypeId×Nat)}{nx:Nat}:Tb.cH ρ ⟨bx,rw,nx⟩=⟨fI ρ bx,lQ ρ rw,ρ nx⟩:=(rfl)
section
variable{P:Program}{tb:Tb}{kt:AV->Tb->Prop}
theorem ak{gf:FuncId}{ys l:List AV}{ts ts':Tb}{r:AV}(rn:List Nat)(h:aI P gf ys ts r ts')(hs:rn.length=ts.nx/\ts.nx<=ts'.nx/\rn.Nodup/\∀j∈rn,j<tb.nx)(hl:toAll l (AV.cH.dA (jR rn tb.nx) ys))(hb:ay tb.bx (fI (jR rn tb.nx) ts.bx))(hr:ay tb.rw (lQ (jR rn tb.nx) ts.rw))(hk:kt (r.cH (jR rn tb.nx)) (tb.merge (ts.cH (jR rn tb.nx)) (ts'.cH (jR rn tb.nx)))):uR P gf [] l tb kt:=az (Bb h rn tb.nx hs.1 hs.2.1 hs.2.2.1 hs.2.2.2) hl hb hr (by show jR rn tb.nx ts.nx=tb.nx;rw[nj _ _ _ (by omega)];omega) hk
end
end Go.Av
namespace Go.Av
open Go.Proofs
theorem mixed:Tryz.prog.follows .mixedOrders=true:=by kernel_rfl
theorem QgQ{f:FuncId}{fn:Func}{c:Code}{xs rs:List AV}{r:AV}{tb aO:Tb}(md:List Nat)(cls:List (Nat×List (Nat×iw)))(lab:List (Nat×Nat))(hf:Tryz.prog.funcs[f]?=some fn)(hb:fn.body=some c)(hx:xs.length<=fn.ntmps)(h:aw Tryz.prog ⟨md,cls,lab,tb.nx,[]⟩ c (lM xs tb) (ve Tryz.prog fn (Ed tb.nx rs aO)))(hnm:(fn.name=="runtime.NumGoroutine")=false:=by kernel_rfl)(hk:codeOk cls [] fn.ntmps c=true:=by kernel_rfl)(hr:r=wQ rs:=by rfl):aI Tryz.prog f xs tb r aO:=aj md cls lab mixed hf hb hnm hk hx hr h
theorem QpQ{f:FuncId}{fn:Func}{c:Code}{xs ys:List PC}{r:PC}(md:List Nat)(cls:List (Nat×List (Nat×iw)))(lab:List (Nat×Nat))(hf:Tryz.prog.funcs[f]?=some fn)(hb:fn.body=some c)(hx:xs.length<=fn.ntmps)(h:aw Tryz.prog ⟨md,cls,lab,0,[]⟩ c (lM (xs.map .p) ⟨[],[],0⟩) (ve Tryz.prog fn (Gl ys)))(hnm:(fn.name=="runtime.NumGoroutine")=false:=by kernel_rfl)(hk:codeOk cls [] fn.ntmps c=true:=by kernel_rfl)(hr:r=CD ys:=by rfl):aB Tryz.prog f xs r:=aq md cls lab mixed hf hb hnm hk hx hr h
end Go.Av
