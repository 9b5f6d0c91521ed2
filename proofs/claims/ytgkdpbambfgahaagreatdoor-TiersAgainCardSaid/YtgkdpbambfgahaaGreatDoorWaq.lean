/- TiersAgain, part 17: what functions compute, and its plain law; no condition. -/
import Derived.Test.YtgkdpbambfgahaaGreatDoorWap
import Derived.ProofKit
import Derived.OpenShut
import Derived.Carry
import Derived.SizedLaws
import Derived.Handed
import Derived.Lib.LaidU8
import Derived.MakeChecks
set_option linter.all false
set_option maxRecDepth 100000
set_option maxHeartbeats 64000000
namespace Go.aL
open Go.Av
structure Sm where
 s:St
 e:cS
 rest:aF
 ended:Bool
 kept:Bool
def Lv(e:cS):Bool:=e.right&&(decide (e.order=0)&&(decide (e.size=0)&&(decide (e.sum=0)&&decide (e.body=[]))))
end Go.aL
namespace Go.Av
open Go.Proofs Go.Proofs.Tryz Go.aL
def xR(l:eL):List PC:=l.flatMap λx=>[PC.int x.1,PC.int x.2]
def eF(l:eL):Ob:=⟨157,2,(xR l).map .p⟩
def fC(o d:Nat)(w:Sm):Ob:=⟨141,19,[.obj o 0,.p (.str w.e.uri),.p (.sl (w.e.names.map PC.str)),.p (.str w.e.var),.p (.str w.e.st.m),.p (.str w.e.st.t),.p (.int w.e.st.st),.p (.str w.e.st.r),.p (.int w.e.st.mi),.p (.sl (w.e.fields.map oL)),.p (.int w.e.asked),.p (.int w.e.got),.p (.int w.e.order),.p (.int w.e.size),.p (kR w.e.sum),.view d 0 w.e.body.length 2 none,.p (cK w.rest),.p (.bool w.ended),.p (.bool w.kept)]⟩
@[reducible]def smO(b u:Nat)(w:Sm):Ob:=fC (b+6) (u+10) w
def fm(b u:Nat)(w:Sm):List (Nat×Ob):=(b+7,smO b u w)::(u+10,eF w.e.body)::aH b u w.s
def CX(xs:List (aF))(hb:xs.length<=1000000000000):cq 55 [.sl (xs.map PC.str)] (.sl (xs.map PC.str)):=by
 have hw:∀x∈xs.map PC.str,x.width=1:=by intro y hy;obtain⟨x,_,rfl⟩:=bE.1 hy;rfl
 have ht:∀x∈xs.map PC.str,cE x=true:=by intro y hy;obtain⟨x,_,rfl⟩:=bE.1 hy;rfl
 have h:=NF 0 (xs.map PC.str) hw ht (U hb);have e:(xs.map PC.str).flatMap bA=((xs.map PC.str).flatMap fM).map AV.p:=by
  induction xs with
  |nil=>rfl
  |cons c l ih=>simp[fM,bA]
 have e2:((xs.map PC.str).flatMap fM).length=xs.length:=by
  clear h hw ht e hb
  induction xs with
  |nil=>rfl
  |cons c l ih=>simp[fM]
 have hp:=nO h (ob:=⟨9,1,((xs.map PC.str).flatMap fM).map .p⟩) (ys:=xs.map PC.str) H rfl O H (by rw[e];exact gv H) rfl hw ht;exact bF (xs:=[_]) hp ⟨_,rfl,.inl rfl⟩
def agM:eE prog 56:=⟨Tryz.f56,func56,bp,bp⟩
def aaU(nx:Nat)(xs:List PC)(hw:∀x∈xs,x.width=2)(ht:∀x∈xs,cE x=true)(hb:xs.length<=1000000000000):bN 56 [.p (.sl xs)] ⟨[],[],nx⟩ (.view nx 0 xs.length 2 none) ⟨[(nx,⟨139,2,(xs.flatMap fM).map .p⟩)],[],nx+1⟩:=by
 refine qM (pre:=[]) (post:=[]) agM ?_ ?_
 .rintro rfl;refine eT (r:= .p .nil) (a_:=⟨[],[],nx⟩) (el:=139) (s:=2) ?_ trivial;refine aq [.p .nil] [7] [] [] func56 rfl ?_;simp[results56];exact⟨[],H⟩
 .refine aq [_] [7] [] [] func56 rfl ?_;simp[results56];refine⟨hw,ht,O,O,[],?_⟩;simp
def CY(xs:List Fd)(hb:xs.length<=1000000000000):cq 56 [.sl (xs.map oL)] (.sl (xs.map oL)):=by
 have hw:∀x∈xs.map oL,x.width=2:=by intro y hy;obtain⟨x,_,rfl⟩:=bE.1 hy;rfl
 have ht:∀x∈xs.map oL,cE x=true:=by intro y hy;obtain⟨x,_,rfl⟩:=bE.1 hy;rfl
 have h:=aaU 0 (xs.map oL) hw ht (U hb);have e:(xs.map oL).flatMap bA=((xs.map oL).flatMap fM).map AV.p:=by
  clear h hw ht hb
  induction xs with
  |nil=>rfl
  |cons c l ih=>rw[dB,cU,cU,jB,ih];rfl
 have e2:((xs.map oL).flatMap fM).length=xs.length*2:=by
  clear h hw ht e hb
  induction xs with
  |nil=>rfl
  |cons c l ih=>rw[dB,cU,mo,ih];simp[fM];omega
 have hp:=nO h (ob:=⟨139,2,((xs.map oL).flatMap fM).map .p⟩) (ys:=xs.map oL) H rfl O (by simp[e2]) (by rw[e];exact gv (by simp[e2])) H hw ht;exact bF (xs:=[_]) hp ⟨_,rfl,.inl rfl⟩
abbrev PF(e:cS):PC:= .agg false [.str e.uri,.sl (e.names.map PC.str),.str e.var,.str e.st.m,.str e.st.t,.int e.st.st,.str e.st.r,.int e.st.mi,.sl (e.fields.map oL),.int e.asked,.int e.got,.int e.order,.int e.size,kR e.sum,.nil]
def aaV(s:St)(e:cS):Sm:=⟨s,e,[],false,false⟩
def aaW(s:St)(e:cS)(he:e.Ok)(hg:Lv e=true):bN 12 [.obj 6 0,.p (PF e)] ⟨aH 0 7 s,cH 7,17⟩ (.agg true [.obj 17 0,.p (.int 0)]) ⟨(17,fC 6 18 (aaV s e))::(18,eF [])::aH 0 7 s,cH 7,19⟩:=by
 unfold Lv at hg;simp only[bG,eZ]at hg;obtain⟨g1,g2,g3,g4,g5⟩:=hg;have hR:cq 54 [.agg false [.str e.uri,.sl (e.names.map PC.str),.str e.var,.str e.st.m,.str e.st.t,.int e.st.st,.str e.st.r,.int e.st.mi,.sl (e.fields.map oL),.int e.asked,.int e.got,.int e.order,.int e.size,kR e.sum,.sl []]] (.bool true):=by
  have:=AH e he;have e2:fK e= .agg false [.str e.uri,.sl (e.names.map PC.str),.str e.var,.str e.st.m,.str e.st.t,.int e.st.st,.str e.st.r,.int e.st.mi,.sl (e.fields.map oL),.int e.asked,.int e.got,.int e.order,.int e.size,kR e.sum,.sl []]:=by
   simp[fK,g5]
  rw[g1,e2]at this;exact this
 have Y0:=CX e.names (by have:=he.nl;omega);have Pq:=CY e.fields (by have:=he.fl;omega);have key:bN 12 [.obj 6 0,.p (PF e)] ⟨aH 0 7 s,cH 7,17⟩ (.agg true [.obj 17 0,.p (.int 0)]) ⟨(17,⟨141,19,[.obj 6 0,.p (.str e.uri),.p (.sl (e.names.map PC.str)),.p (.str e.var),.p (.str e.st.m),.p (.str e.st.t),.p (.int e.st.st),.p (.str e.st.r),.p (.int e.st.mi),.p (.sl (e.fields.map oL)),.p (.int e.asked),.p (.int e.got),.p (.int 0),.p (.int 0),.p (kR 0),.p .nil,.p .nil,.p (.bool false),.p (.bool false)]⟩)::aH 0 7 s,cH 7,18⟩:=by
  refine aq [_,_] [3,41] [(3,[(1,.r 1),(2,.w [1]),(4,.r 1),(5,.w [1]),(7,.s 1 []),(9,.s 1 [])])] [(1,17)] func12 rfl ?_;simp[aH];refine cm hR ?_;simp[g2,g3,g4];refine cm Y0 ?_;simp;refine cm Pq ?_;simp[-az,results12];exact⟨[(17,18)],by simp[aj,ak,aR,aM,aJ,aP]⟩
 have k2:=mI (id:=17) (j:=16) (x:= .p .nil) (.p (cK [])) key rfl rfl (.inr (.inl ⟨.nil,rfl,.inr rfl⟩));have k3:=mJ (id:=17) (j:=15) 157 2 k2 rfl rfl;refine uW k3 _ ?_ ?_ ?_ ?_
 .simp[aA,aH,fC,aaV,eF,xR,g2,g3,g4,g5,Tb.aY,Tb.bD,del]
 .simp[aA,Tb.aY,Tb.bD]
 .simp[aH]
 .simp[Tb.aY,Tb.bD]
def xQ{P:Program}{tb:Tb}{kt:AV->Tb->Prop}{gf:FuncId}{ys l:List AV}{ts ts':Tb}{r:AV}(rn:List Nat)(h:dm P gf ys ts r ts')(hk:kt (r.cp (fh rn tb.nx)) (tb.merge (ts.cp (fh rn tb.nx)) (ts'.cp (fh rn tb.nx))))(hs:rn.length=ts.nx/\ts.nx<=ts'.nx/\rn.Nodup/\∀j∈rn,j<tb.nx:=by simp)(hl:toAll l (AV.cp.eu (fh rn tb.nx) ys):=by simp)(hb:aA tb.bx (fD (fh rn tb.nx) ts.bx):=by simp[aA,aH,aj,ak,aR,aM,aJ,aP,fm,fC,eF])(hr:aA tb.rw (jj (fh rn tb.nx) ts.rw):=by simp[aA,ak]):jN P gf [] l tb kt:=aD rn h hs hl hb hr hk
def o7{P:Program}{tb:Tb}{kt:AV->Tb->Prop}{gf:FuncId}{ys l:List AV}{ts ts':Tb}{r:AV}(h:dm P gf ys ts r ts')(hn:ts.nx=tb.nx)(hk:kt r (tb.merge ts ts'))(hl:toAll l ys:=by simp)(hb:aA tb.bx ts.bx:=by simp[aA,aH,aj,ak,aR,aM,aJ,aP,fm,fC,eF])(hr:aA tb.rw ts.rw:=by simp[aA]):jN P gf [] l tb kt:=aN h hl hb hr hn hk
end Go.Av
namespace Go.Av
open Go.RowKit Go.ChangeShapes Go.WideShapes Go.ChangeAt
section
variable{P:Program}
def W5(P:Program)(t:TypeId)(S:PC->Prop):Prop:=∀(H1:Type) (enc:TypeId×Value->H1) (W:World) (fuel:Nat) (cs:List Value) (r:DataW H1×List MemPlace),DataW.trod enc P W 0 (λ_=>true) true fuel t cs=some r->(∀n∈r.1.weights P t,n<=reachBytes)->∃u x,u.cells.toList=cs/\jc (ou W) u x/\S x/\cE x=true/\(∀c∈cs,c.oneCell'=true)
abbrev RdC(P:Program)(t:TypeId)(S:PC->Prop):Prop:=W5 P t S
def W5.c{t:TypeId}{S:PC->Prop}(h:W5 P t S):RdC P t S:=h
def W5.mono{t:TypeId}{S S':PC->Prop}(h:W5 P t S)(hS:∀x,S x->S' x):W5 P t S':=λH1 enc W fuel cs r hr hw0=>by
 obtain⟨u,x,h1,h2,h3,h4⟩:=h H1 enc W fuel cs r hr hw0
 grind
def RdC.mono{t:TypeId}{S S':PC->Prop}(h:RdC P t S)(hS:∀x,S x->S' x):RdC P t S':=W5.mono h hS
def ahk{t:TypeId}{k:IntKind}(ht:P.underlying t=some (.int k)):W5 P t (λx=>∃n,x= .sc (.int k n)/\(Lit.int k n).wf=true):=λH1 enc W fuel cs r hr hw0=>by
 obtain⟨n,rfl,_,hw⟩:=DataW.trod_int ht hr;exact⟨.int k n,.sc (.int k n),rfl,.sc _ rfl,⟨n,rfl,hw⟩,rfl,H⟩
def W6{w:World}{base:Nat}{a:Addr}{n:Nat}{cs:List Value}(h:w.cells? base a n=some cs):cs.length=n/\∀i,i<n->w.cell? (a.add i)=cs[i]?:=by
 unfold World.cells? at h;split at h
 .exact⟨by simpa using mapM_some_length h,λi hi=>mapM_some_get h i i (by grind)⟩
 grind
theorem Dx{a:Addr}(h:a.spot=none):a=⟨a.block,a.off,none⟩:=by cases a;grind
def add_plain{a:Addr}(h:a.spot=none)(i:Nat):a.add i=⟨a.block,a.off+i,none⟩:=by
 grind [Addr.add,Dx]
theorem Mj{w:World}{a:Addr}{v:Value}(h:w.cell? a=some v):a.spot=none:=by
 unfold World.cell? at h;split at h
 all_goals simp_all
theorem OC{H1:Type}{e:TypeId}:∀{ds:List (DataW H1)} {d:DataW H1},d∈ds->∀n∈d.weights P e,n∈DataW.weightsAll P e ds
 |x::ds,d,h,n,hn=>by
  simp only[DataW.weightsAll,lD];rcases fF.1 h with rfl|h
  .grind
  .exact .inr (OC h n hn)
theorem JU{e:TypeId}{S:PC->Prop}(he:W5 P e S)(hz:0<P.cellsOf e){H1:Type}{enc:TypeId×Value->H1}{W:World}{m:Nat}{a:Addr}(ha:a.spot=none):∀(n:Nat),(∀i,i<n->∃y,(W.cells? 0 (a.add (i*P.cellsOf e)) (P.cellsOf e)).bind (DataW.trod enc P W 0 (λ_=>true) true m e)=some y/\∀n∈y.1.weights P e,n<=reachBytes)->∃us xs,us.length=n/\dh (ou W) us xs/\(∀u∈us,u.cells.size=P.cellsOf e)/\(∀v∈cellsOf us,v.oneCell'=true)/\At (ou W) a.block a.off (cellsOf us)/\(cellsOf us).length=n*P.cellsOf e/\(∀x∈xs,S x)
 |0,_=>⟨[],[],rfl,.nil,H,by simp[cellsOf],λj v h=>by simp[cellsOf]at h,by simp[cellsOf],H⟩
 |n+1,h=>by
  obtain⟨us,xs,h1,h2,h3,h4,h5,h6,h7⟩:=JU he hz ha n λi hi=>h i O;obtain⟨y,hy,NT⟩:=h n O;cases hc:W.cells? 0 (a.add (n*P.cellsOf e)) (P.cellsOf e)with
  |none=>grind
  |some cs=>
   rw[hc]at hy;obtain⟨u,x,k1,k2,k3,_,k4⟩:=he H1 enc W m cs y hy NT;obtain⟨c1,c2⟩:=W6 hc;have hsz:u.cells.size=P.cellsOf e:=by grind
   have hcell:cellsOf (us++[u])=cellsOf us++cs:=by simp[cellsOf,k1]
   refine⟨us++[u],xs++[x],by grind,h2.append (.cons k2 .nil),?_,?_,?_,?_,?_⟩
   .grind
   .grind
   .rw[hcell];intro j v hj;rw[List.getElem?_append]at hj;split at hj
    .exact h5 j v hj
    .rename_i hlt;have hj':j-(cellsOf us).length<P.cellsOf e:=by
      grind
     have:=c2 _ hj';rw[hj,add_plain ha,add_plain (a:=⟨a.block,a.off+n*P.cellsOf e,none⟩) rfl]at this;show W.cell? ⟨a.block,a.off+j,none⟩=some v
     grind
   all_goals grind
theorem Al{w:World}{base:Nat}{a:Addr}{n k:Nat}{cs:List Value}(hn:0<n)(hk:k=0)(h:w.cells? base (a.add k) n=some cs):a.spot=none:=by
 subst hk;obtain⟨h1,h2⟩:=W6 h
 grind [Addr.add,Mj]
def W7{t e:TypeId}{S:PC->Prop}(ht:P.underlying t=some (.slice e))(hz:0<P.cellsOf e)(he:W5 P e S):RdC P t (λx=>∃xs,x= .sl xs/\xs.length<=maxLen/\∀y∈xs,S y):=λH1 enc W fuel cs r hr hw0=>by
 rcases DataW.trod_slice ht hr with⟨rfl,_⟩|⟨a,len,cap,elems,rest,n,rfl,rfl,rfl,_,hl,hc,hlen,hel,hsp,_⟩
 .exact⟨.slice none 0 0,.sl [],rfl,.dX,⟨[],rfl,H,H⟩,rfl,H⟩
 .by_cases h0:cap=0
  .subst h0;obtain rfl:len=0:=O;exact⟨.slice (some a) 0 0,.sl [],rfl,.ug a,⟨[],rfl,H,H⟩,rfl,H⟩
  have ha:a.spot=none:=by
   rcases oq len with hz0|hp
   .obtain⟨RO,Kb⟩:=hsp rfl;have:=Kb 0 O;rw[n_ O]at this;cases Yb:W.cells? 0 (a.add ((len+0)*P.cellsOf e)) (P.cellsOf e)with
    |none=>grind
    |some cs=>grind [Al]
   .have:=hel 0 hp;rw[n_ O]at this;cases Yb:W.cells? 0 (a.add (0*P.cellsOf e)) (P.cellsOf e)with
    |none=>grind
    |some cs=>grind [Al]
  obtain⟨us,xs,h1,h2,h3,h4,h5,_,h7⟩:=JU (H1:=H1) (enc:=enc) (W:=W) (m:=n) he hz ha len λi hi=>⟨elems[i]'O,by grind,λn' hn=>hw0 n' (by
   show n'∈DataW.weights P t (.slice (elems.map (·.1)) (rest.map (·.1)));unfold DataW.weights;rw[ht];simp only[fF,lD];exact .inr (.inl (OC (bE.2 ⟨_,bB O,rfl⟩) n' hn)))⟩
  refine⟨.slice (some a) len cap,.sl xs,rfl,?_,⟨xs,rfl,by rw[<-h2.length,h1];omega,h7⟩,rfl,H⟩;rw[Dx ha];exact .sl h1 hl hc hz h3 h4 h5 h2
def ahl(P:Program):List Field->Nat->List (PC->Prop)->Prop
 |[],_,[]=>True
 |f::fs,o,S::Ss=>f.offset=o/\RdC P f.type S/\ahl P fs (o+P.cellsOf f.type) Ss
 |_,_,_=>False
def Ro(P:Program):List Field->Nat->Nat
 |[],o=>o
 |f::fs,o=>Ro P fs (o+P.cellsOf f.type)
theorem Ml{M:Mem}{u:Value}{x:PC}(h:jc M u x)(hn:cE x=true)(h1:∀c∈u.cells.toList,c.oneCell'=true):dh M u.cells.toList (fM x):=by
 cases h with
 |agg hs _=>exact hs
 |sE _=>simp_all
 |sc _ h1=>cases u<;>first|exact .cons (.sc _ rfl) .nil|cases h1
 |nil=>exact .cons .nil .nil
 |dX=>exact .cons .dX .nil
 |ug a=>exact .cons (.ug a) .nil
 |sl a b c d e f g i=>exact .cons (.sl a b c d e f g i) .nil
 |ref a b=>exact .cons (.ref a b) .nil
 |fn a=>exact .cons (.fn a) .nil
theorem E6{H1:Type}{enc:TypeId×Value->H1}{W:World}{m:Nat}{cs:List Value}:∀(fs:List Field) (o:Nat) (Ss:List (PC->Prop)),ahl P fs o Ss->Ro P fs o=cs.length->(∀f∈fs,∃y,DataW.trod enc P W 0 (λ_=>true) true m f.type ((cs.drop f.offset).take (P.cellsOf f.type))=some y/\∀n∈y.1.weights P f.type,n<=reachBytes)->∃ys,j_ (λS y=>S y) Ss ys/\dh (ou W) (cs.drop o) (ys.flatMap fM)/\∀c∈cs.drop o,c.oneCell'=true
 |[],o,[],_,ht,_=>by
  have:cs.drop o=[]:=by grind [Ro]
  exact⟨[],trivial,by rw[this];exact .nil,by grind⟩
 |f::fs,o,S::Ss,⟨h1,h2,h3⟩,ht,hy=>by
  obtain⟨ys,k1,k2,k3⟩:=E6 fs _ Ss h3 (by grind [Ro]) λg hg=>hy g (by grind);obtain⟨y,hf,hfw⟩:=hy f H;rw[h1]at hf;obtain⟨u,x,j1,j2,j3,j4,j5⟩:=h2 H1 enc W m _ y hf hfw;have e:cs.drop o=(cs.drop o).take (P.cellsOf f.type)++cs.drop (o+P.cellsOf f.type):=by
   rw[<-oy,eO]
  refine⟨x::ys,⟨j3,k1⟩,?_,?_⟩
  all_goals grind [dh.append,Ml]
 |[],_,_::_,h,_,_=>h.elim
 |_::_,_,[],h,_,_=>h.elim
def Rp{t:TypeId}{fs:Array Field}{Ss:List (PC->Prop)}(ht:P.underlying t=some (.struct fs))(htot:Ro P fs.toList 0=P.cellsOf t)(hfs:ahl P fs.toList 0 Ss):RdC P t (λx=>∃ys,x= .agg false (ys.flatMap fM)/\j_ (λS y=>S y) Ss ys):=λH1 enc W fuel cs r hr hw0=>by
 obtain⟨xs,n,rfl,rfl,hl,hn,hall⟩:=DataW.trod_struct ht hr;obtain⟨ys,k1,k2,k3⟩:=E6 (H1:=H1) (enc:=enc) (W:=W) (m:=n) fs.toList 0 Ss hfs (by rw[htot,hl]) λf hf=>by
  obtain⟨i,hi⟩:=List.getElem?_of_mem hf;have:=hall i f (by grind);have qz:i<xs.length:=by grind
  refine⟨xs[i],by grind,λn' hn=>hw0 n' ?_⟩;show n'∈DataW.weights P t (.agg (xs.map (·.1)));unfold DataW.weights;rw[ht];exact DataW.weights_mem_each (j:=i) (by grind) (by grind) n' hn
 refine⟨.agg cs.toArray,.agg false (ys.flatMap fM),by simp[Value.cells],.agg (by grind) (by grind),⟨ys,rfl,k1⟩,rfl,by grind⟩
def RdV(P:Program)(t:TypeId)(S:PC->Prop):Prop:=∀(H1:Type) (enc:TypeId×Value->H1) (W:World) (base:Nat) (v:Value) (d:DataW H1) (p:List MemPlace),Value.okWide P W .any base t v->DataW.Trod enc P W 0 (λ_=>true) true t v d p->(∀n∈d.weights P t,n<=reachBytes)->∃x,jc (ou W) v x/\S x
def Rq{t:TypeId}{fs:Array Field}{S:PC->Prop}(ht:P.underlying t=some (.struct fs))(h:RdC P t S)(hS:∀x,S x->∃xs,x= .agg false xs):RdV P t S:=λH1 enc W base v d p hv hd hw0=>by
 unfold Value.okWide at hv;rw[ht]at hv;obtain⟨cs,rfl,_,ts,_,_,hrow⟩:=hv;obtain⟨fuel,hf⟩:=hd;obtain⟨u,x,h1,h2,h3,_⟩:=h H1 enc W fuel _ _ hf hw0;obtain⟨xs,rfl⟩:=hS x h3;refine⟨_,?_,h3⟩;cases h2 with
 |agg hs ho=>
  have:Value.agg cs= .agg _:=dg Value.agg (Array.toList_inj.1 (show cs.toList=_ from h1.symm));rw[this];exact .agg hs ho
def ahm{t:TypeId}{S:PC->Prop}(ht:∀fs,P.underlying t≠some (.struct fs))(ht':∀n e,P.underlying t≠some (.array n e))(h:RdC P t S)(hS:∀x,S x->∀b xs,x≠ .agg b xs):RdV P t S:=λH1 enc W base v d p hv hd hw0=>by
 have hv':Cell.okWide P W .any base t v:=by
  grind [Value.okWide]
 obtain⟨fuel,hf⟩:=hd;have hag:v.cells=#[v]:=by
  cases v<;>try rfl
  exfalso;unfold Cell.okWide at hv';split at hv'<;>first|(simp_all;done)|skip
  unfold Cell.ok at hv'
  grind
 rw[hag]at hf;obtain⟨u,x,h1,h2,h3,_,_⟩:=h H1 enc W fuel _ _ hf hw0;refine⟨x,?_,h3⟩;have:u=v:=by
  cases u<;>first|(simpa[Value.cells]using h1)|skip
  cases h2 with
  |agg _ _=>grind
  |sc _ hh=>simp_all
 grind
theorem rds{H1:Type}{enc:TypeId×Value->H1}{W:World}{base:Nat}:∀{ts:List TypeId} {Ss:List (PC->Prop)} {vs:List Value} {ds:List (DataW H1)} {p:List MemPlace},j_ (λt S=>RdV P t S) ts Ss->(∀(j:Nat) t v,ts[j]?=some t->vs[j]?=some v->Value.okWide P W .any base t v)->DataW.TrodAll enc P W 0 (λ_=>true) true ts vs ds p->(∀n∈DataW.weightsEach P ts ds,n<=reachBytes)->∃xs,dh (ou W) vs xs/\j_ (λS x=>S x) Ss xs
 |[],[],vs,ds,p,_,_,h,_=>by obtain⟨rfl,rfl,rfl⟩:=trodAll_nil h;exact⟨[],.nil,trivial⟩
 |t::ts,S::Ss,vs,ds,p,hR,hv,h,hw0=>by
  obtain⟨v,vs',d,ds',p1,q,rfl,rfl,rfl,h1,h2⟩:=trodAll_cons h;obtain⟨x,k1,k2⟩:=hR.1 H1 enc W base v d p1 (hv 0 t v rfl rfl) h1 (λn hn=>hw0 n (by grind [DataW.weightsEach]));obtain⟨xs,k3,k4⟩:=rds hR.2 (λj t v ht hj=>hv (j+1) t v (by grind) (by grind)) h2 (λn hn=>hw0 n (by grind [DataW.weightsEach]));exact⟨x::xs,.cons k1 k3,k2,k4⟩
 |[],_::_,_,_,_,h,_,_,_=>h.elim
 |_::_,[],_,_,_,h,_,_,_=>h.elim
theorem uG{H1:Type}{enc:TypeId×Value->H1}(hl:laidOutB P=true){W W':World}(hb:Below W.heap.size W W'){sp:Nat->Bool}:∀{ts:List TypeId} {vs:List Value} {ds:List (DataW H1)} {p:List MemPlace},(ts.all λt=>P.readableRec t&&decide (t<P.types.size))=true->DataW.TrodAll enc P W 0 (λ_=>true) true ts vs ds p->(∀x∈p,x.block<W.heap.size)->(∀x∈p,sp x.block=true)->DataW.TrodAll enc P W' 0 sp true ts vs ds p
 |[],vs,ds,p,_,h,_,_=>by obtain⟨rfl,rfl,rfl⟩:=trodAll_nil h;rfl
 |t::ts,vs,ds,p,hr,h,hlt,hsp=>by
  obtain⟨v,vs',d,ds',p1,q,rfl,rfl,rfl,h1,h2⟩:=trodAll_cons h;simp only[yE,bG,eZ]at hr;exact trodAll_cons_mk (WideElems.Trod_stays hl hr.1.1 hr.1.2 h1 (λx hx=>hb.same (hlt x (by grind))) (λx hx=>hsp x (by grind))) (uG hl hb (by grind) h2 (λx hx=>hlt x (by grind)) (λx hx=>hsp x (by grind)))
theorem W8{S:PC->Prop}{xs:List PC}(h:j_ (λ(S:PC->Prop) x=>S x) [S] xs):∃x,xs=[x]/\S x:=by
 cases xs with
 |nil=>exact h.elim
 |cons x xs=>cases xs with
  |nil=>exact⟨x,rfl,h.1⟩
  |cons y xs=>exact h.2.elim
theorem Hj{S:PC->Prop}{Ss:List (PC->Prop)}{xs:List PC}(h:j_ (λ(S:PC->Prop) x=>S x) (S::Ss) xs):∃x ys,xs=x::ys/\S x/\j_ (λ(S:PC->Prop) x=>S x) Ss ys:=by
 cases xs with
 |nil=>exact h.elim
 |cons x xs=>exact⟨x,xs,rfl,h.1,h.2⟩
theorem ahn{S T:PC->Prop}{xs:List PC}(h:j_ (λ(S:PC->Prop) x=>S x) [S,T] xs):∃x y,xs=[x,y]/\S x/\T y:=by
 grind [Hj,W8]
def aex{S T U1:PC->Prop}{xs:List PC}(h:j_ (λ(S:PC->Prop) x=>S x) [S,T,U1] xs):∃x y z,xs=[x,y,z]/\S x/\T y/\U1 z:=by
 grind [Hj,ahn]
def FN{f:FuncId}{fn:Func}{s:ChangeSpec}{Ss:List (PC->Prop)}{tr:TypeId}{apart fresh handsOn again:Bool}(hl:laidOutB P=true)(hr:(fn.params.toList.all λt=>P.readableRec t&&decide (t<P.types.size))=true)(hres:fn.resultTypes=#[tr])(htr:P.underlying tr=some .bool)(hvars:s.vars=[])(hR:j_ (λt S=>RdV P t S) fn.params.toList Ss)(hspec:∀(H1:Type) (ds:List (DataW H1)),ds.length=fn.params.size->s.fn H1 ds={results:=[.lit (.bool true)],args:=ds})(hp:∀xs,j_ (λS x=>S x) Ss xs->nc P f xs (.bool true))(H1:Type)(enc:TypeId×Value->H1)(W:World)(base:Nat)(args:Array Value)(ds gs:List (DataW H1))(before:List MemPlace)(hval:∀(j:Nat) t v,fn.params[j]?=some t->args[j]?=some v->Value.okWide P W .any base t v)(hW:DataW.Whole enc P fn.params.toList s.vars apart W args.toList ds gs before)(hg:GOk (ou W))(hwt:∀n∈DataW.weightsEach P fn.params.toList ds,n<=reachBytes):Calls P f args W λe W'=>∃v,e= .returned v/\s.post enc P fn apart fresh handsOn again W args v W':=by
 have hW':=hW;obtain⟨p,q,hA,hV,rfl,hfz,hnd⟩:=hW;rw[hvars]at hV;obtain⟨rfl,rfl⟩:=trodVars_none hV;have hlt:∀x∈p,x.block<W.heap.size:=λx hx=>hW'.lt x (by grind);obtain⟨xs,k1,k2⟩:=rds hR (λj t v ht hj=>hval j t v (by grind) (by grind)) hA hwt;have hlen:ds.length=fn.params.size:=by
  have:∀{ts:List TypeId} {vs:List Value} {ds:List (DataW H1)} {p:List MemPlace},DataW.TrodAll enc P W 0 (λ_=>true) true ts vs ds p->ds.length=ts.length:=by
   intro ts
   induction ts with
   |nil=>grind [trodAll_nil]
   |cons t ts ih=>grind [trodAll_cons]
  grind
 refine((hp xs k2).2 (ou W) W args.toList ⟨λ_ _ _ h=>h,hg⟩ k1).mono λe W'=>?_;rintro⟨v,N,rfl,hv,_,_,_,hb⟩;obtain rfl:v= .bool true:=by cases hv;rfl
 refine⟨_,rfl,?_⟩;have hsp:=hspec H1 (ds++[]) (by grind);have hold:∀x∈p++[],(λb=>decide (b<W.heap.size)) x.block=true:=λx hx=>by grind
 have adQ:∀(b:Nat) (sp:Nat->Bool) (hd:Bool),DataW.TrodAll enc P W' b sp hd fn.resultTypes.toList ((Value.bool true).resultList fn.resultTypes.size) (s.fn H1 (ds++[])).results []:=λb sp hd=>by
  rw[hsp,hres];exact trodAll_cons_mk (shut_bool htr true) trodAll_mk0
 have W9:∀sp:Nat->Bool,(∀x∈p++[],sp x.block=true)->DataW.TrodAll enc P W' 0 sp true fn.params.toList args.toList (s.fn H1 (ds++[])).args p:=λsp h=>by
  grind [uG]
 have hv0:∀sp:Nat->Bool,DataW.TrodVars enc P W' sp s.vars (s.fn H1 (ds++[])).vars []:=λsp=>by rw[hsp,hvars];rfl
 refine⟨ds,[],p++[],[],p,[],hW',adQ _ _ _,W9 _ hold,hv0 _,World.keptBut_mono (λx hx=>⟨hx,Or.inr (by grind)⟩) (hb.frame (·∈p++[])),λ_=>?_⟩;refine⟨ok_one O rfl (okWide_bool_mk htr true),_,_,([]++p)++[],⟨[]++p,[],trodAll_append (W9 _ (λ_ _=>rfl)) (adQ _ _ _),hv0 _,rfl,?_,?_⟩,?_⟩
 .intro b off hx;have hx':MemPlace.cell b off∈p:=by grind
  rw[hb.frozen (p:=⟨b,off,none⟩) (hlt _ hx')];exact hfz b off (by grind)
 all_goals grind
end
end Go.Av
namespace Go.Av
open Go.Proofs Go.Proofs.Tryz Go.aL Go.ChangeShapes Go.WideShapes Go.ChangeAt Go.RowKit
def amU(x:PC):Prop:=∃n:Int,x= .int n/\-9223372036854775808<=n/\n<=9223372036854775807
def aj5:laidOutB prog=true:=bp
def HT{W:World}{l:List (String×DataW Unit)}(h:laidMet prog l W)(hm:("icehouse/crc.half",Go.Lib.tabData .u32 (nK.map λn:Nat=>(n:Int)))∈l):GOk (ou W):=by
 obtain⟨g,t,cs,fuel,p,hg,ht,aqc,hd⟩:=Go.Lib.laidMet.reads h hm;have hg0:prog.globalNamed "icehouse/crc.half"=some 0:=bp;obtain rfl:=KB (hg0.symm.trans hg);have ht0:(prog.globals[0]?).map (·.type)=some 241:=bp;obtain rfl:=KB (ht0.symm.trans ht);have hu:prog.underlying 241=some (.array 16 46):=bp;have he:prog.underlying 46=some (.int .u32):=bp;have hcs:=Go.Lib.cells_of_tab hu he bp bp hd;intro j n hj;have hlen:j<nK.length:=(KY.1 hj).1;have hc:cs[j]?=some (.int .u32 (n:Int)):=by
  have:=dg (λl=>l[j]?) hcs;simp only[sO,hj,Option.map_some,Array.getElem?_toList]at this;exact this
 have:=World.var?_cell hg0 aqc j;unfold ou;rw[this];exact hc
end Go.Av
namespace Go.cD
end Go.cD
namespace Go.Av
open Go.Proofs Go.Proofs.Tryz Go.cD
@[reducible]def uS(n:Nd):PC:=dU n.lf n.ks n.vs
def YF(key:Key)(v:Int):cq 237 [.str key,.int v] (.bool (rV key v)):=by
 refine ay [_] func237 rfl ?_;by_cases c1:key=[]
 .subst c1;simp[rV,results237]
 have h1:1<=key.length:=by cases key with|nil=>exact absurd rfl c1|cons=>simp
 have hne:(key !=[])=true:=U c1;by_cases c2:key.length<=100
 .have eY:(key.length:Int)<=100:=O;by_cases c3:0<=v
  .by_cases c4:v<=1099511627775
   .have uy:v<1099511627776:=O;simp[hne,c2,eY,c3,c4,uy,h1,rV,results237]
   .have uy:¬v<1099511627776:=O;simp[hne,c2,eY,c3,c4,uy,h1,rV,results237]
  .simp[hne,c2,eY,c3,h1,rV,results237]
 .have eY:¬(key.length:Int)<=100:=O;simp[hne,c2,eY,h1,rV,results237]
def aks(n:Nd):cq 272 [uS n] (.bool (Gn n)):=by
 refine ay [_] func272 rfl ?_;by_cases c:n.lf=true
 .simp[c,Gn,results272];omega
 .have c':n.lf=false:=U c;obtain⟨lf,ks,vs⟩:=n;simp only at c';subst c';cases ks with
  |nil=>simp[Gn,results272]
  |cons k ks=>
   have:¬((ks.length:Int)+1<1):=O;simp[Gn,this,results272]
theorem Io:∀(ks:List Key),chn ks->Gp ks=true
 |[],_=>rfl
 |[_],_=>rfl
 |a::b::l,h=>by simp only[Gp,bG];exact⟨h.1,Io (b::l) h.2⟩
def Lp(n:Nd):jy n.lf n.ks n.vs=true↔Right n:=by
 constructor
 .intro h;have hc:=yW h;simp only[jy,bG,eZ,gX,si,vb]at h;obtain⟨⟨⟨⟨h1,h2⟩,h3⟩,h4⟩,h5⟩:=h;refine⟨(Cq _).1 (Io _ hc.1),λk hk=>?_,λv hv=>?_,h1,by simpa[r9]using h2,λhl=>?_⟩
  .obtain⟨i,hi,rfl⟩:=xW hk;have:=h4 i hi;simp only[kB,bG,eZ,u6,n_ hi,rf]at this;exact this.1
  .have:=h5 v hv;simpa[vB,vOk]using this
  .rcases h3 with h3|h3
   .rw[hl]at h3;cases h3
   .exact h3
 .intro h;simp only[jy,bG,eZ,gX,si,vb];refine⟨⟨⟨⟨h.len,by simpa[r9]using h.form⟩,?_⟩,λi hi=>?_⟩,λv hv=>by have:=h.vals v hv;simpa[vB,vOk]using this⟩
  .cases hl:n.lf with
   |true=>exact .inl rfl
   |false=>exact .inr (h.inner hl)
  .have hk:=h.keys _ (bB hi);simp only[kB,bG,eZ,u6,n_ hi,rf,vb,ri];refine⟨hk,?_⟩;rcases oq i with h0|h0
   .exact .inl h0
   .right;rw[n_ O];exact Zh h.ris O hi
def qc(n:Nd):jy n.lf n.ks n.vs=rB n:=by rw[uO,Lp,jv]
def lB(v:Int):Prop:=-9223372036854775808<=v/\v<=9223372036854775807
def aeR(n:Nd)(key:Key)(hk:n.ks.length<=1000000):cq 315 [uS n,.str key] (.int (eI n key:Nat)):=YP n.lf n.ks n.vs key O
def Tk(n:Nd)(key:Key)(hk:n.ks.length<=1000000):cq 239 [uS n,.str key] (.tp [.int (b_ n key:Nat),.bool (rY n key)]):=aeC n.lf n.ks n.vs key O
structure jY(n:Nd):Prop where
 ks:n.ks.length<=500
 vs:n.vs.length<=500
 keys:∀k∈n.ks,k.length<=1000000
def Zi{n:Nd}(h:jY n):jY (kE n):=by
 unfold kE;split
 .exact⟨by have:=h.ks;simp[Ul];omega,by have:=h.vs;simp[Ul];omega,λk hk=>h.keys k (oa hk)⟩
 .exact h
def Zj{n:Nd}(h:jY n):jY (oN n):=by
 unfold oN;split
 .exact⟨by have:=h.ks;simp[Um];omega,by have:=h.vs;simp[Um];omega,λk hk=>h.keys k (fq hk)⟩
 .exact⟨H,H,H⟩
def splitB(n:Nd)(hn:jY n)(h4:4<n.ks.length):cq 323 [uS n] (.tp [uS (kE n),.str (ym n),uS (oN n)]):=by
 have h:=Zk n.lf n.ks n.vs (by have:=hn.ks;omega) (by have:=hn.vs;omega);have e:yX n.lf n.ks n.vs= .tp [uS (kE n),.str (ym n),uS (oN n)]:=by
  unfold yX kE oN ym MG r9;by_cases c:(n.vs.length==n.ks.length+(if n.lf then 0 else 1))=true
  .rw[c];have:decide (2<=n.ks.length)=true:=by simp;omega
   simp only[this,Bool.and_true,cr];rfl
  .have c':(n.vs.length==n.ks.length+(if n.lf then 0 else 1))=false:=Bool.eq_false_iff.2 c;rw[c'];simp
 rwa[e]at h
def Ln(n:Nd)(c:Nat)(p:Int)(hn:jY n)(hc:c<n.vs.length):cq 327 [uS n,.int c,.int p] (uS (gq n c p)):=by
 have h2:=hn.vs;have kW:=Cr 2 (n.vs.map PC.int) H H (by simp;omega);refine bF (xs:=[_,_,_]) (r:= .agg false [.p (.bool n.lf),.p (.sl (n.ks.map PC.str)),.view 0 0 n.vs.length 1 none]) (a_:=⟨[(0,⟨3,1,((n.vs.set c p).map PC.int).map .p⟩)],[],1⟩) ?_ ?_
 .refine aq [_] [3] [] [] func327 rfl ?_;simp;refine aN kW H trivial trivial rfl ?_;have ec:(n.vs.map PC.int).flatMap fM=n.vs.map PC.int:=by
   induction n.vs with
   |nil=>rfl
   |cons x l ih=>simp[ih]
  have sc:List.take c (n.vs.map (AV.p∘PC.int))++AV.p (PC.int p)::List.drop (c+1) (n.vs.map (AV.p∘PC.int))=(n.vs.map (AV.p∘PC.int)).set c (AV.p (PC.int p)):=by
   rw[BX,ai (U hc)]
  have ls:AV.ja.iA 1 ((n.vs.map (AV.p∘PC.int)).set c (AV.p (PC.int p)))=true:=by
   rw[show(n.vs.map (AV.p∘PC.int)).set c (AV.p (PC.int p))=(n.vs.set c p).map (AV.p∘PC.int) by simp];exact Zl
  simp[ec,hc,sc,results327];exact⟨O,[(0,2)],by simp[ls]⟩
 .obtain⟨V,hV⟩:=mH (n.vs.set c p);have hl:V.length=n.vs.length:=by rw[hV,vh]
  have e:gq n c p=⟨n.lf,n.ks,V⟩:=by rw[hV];rfl
  rw[e,<-hV,<-hl];simp[dA,j_,tkI]
def Tl(n:Nd)(i:Nat)(key:Key)(us:List Int)(hn:jY n)(hu:us.length<=1000)(hf:MG n=true)(hi:i<=n.ks.length):cq 242 [uS n,.int i,.str key,.sl (us.map PC.int)] (uS (gj n i key us)):=by
 have h:=Un n.lf n.ks n.vs i key us (by have:=hn.ks;omega) (by have:=hn.vs;omega) O;have ok:xd n.lf n.ks n.vs i=true:=by
  unfold xd r9;have hf':=hf;unfold MG at hf';rw[hf'];simp;omega
 unfold Nl Nn at h;rw[ok]at h;simp only[cr,qS]at h;simpa[gj]using h
def aew(n:Nd)(i:Nat)(hn:jY n)(hf:MG n=true)(hi:i<n.ks.length):cq 240 [uS n,.int i] (uS (gV n i)):=by
 have h:=Uo n.lf n.ks n.vs i (by have:=hn.ks;omega) (by have:=hn.vs;omega);have ok:xe n.lf n.ks n.vs i=true:=by
  unfold xe r9;have hf':=hf;unfold MG at hf';rw[hf'];simp;omega
 unfold Np Nq at h;rw[ok]at h;simp only[cr,qS]at h;simpa[gV,bh]using h
structure Ao(x:Step):Prop where
 rt:Right x.n
 Uk:x.n.lf=false
 c:x.c<=x.n.ks.length
 p:lB x.p
def gD{n:Nd}(h:Right n):jY n:=by
 have h1:=h.len;have h2:=h.form;exact⟨O,by rw[h2];split<;>omega,λk hk=>by have:=(h.keys k hk).2;omega⟩
def sJ{n:Nd}(h:Right n):MG n=true:=by unfold MG;rw[h.form];simp
def wI{n:Nd}{i:Nat}{key:Key}{us:List Int}(h:jY n)(hk:key.length<=1000000)(hk2:n.ks.length<=100)(zJ:n.vs.length<=100)(hu:us.length<=100):jY (gj n i key us):=by
 refine⟨by simp[gj];omega,by simp[gj];split<;>omega,λk hk'=>?_⟩;simp only[gj,lD,fF]at hk';rcases hk' with hk'|rfl|hk'
 .exact h.keys k (oa hk')
 .exact hk
 .exact h.keys k (fq hk')
end Go.Av
namespace Go.aL
open Go.Av
open Go.cD (Nd rB jU)
def Hx{b:Nat}{D:bt}(h:fJ b D)(a:Int):fJ b (iN D a).1/\(iN D a).1.kept=D.kept/\(iN D a).1.now=D.now:=by
 have h1:=h.read a 8;have h2:(D.read a 8).1.kept=D.kept/\(D.read a 8).1.now=D.now:=by
  unfold bt.read;split
  .split<;>(unfold bt.next;split<;>simp)
  .simp
 unfold iN;split<;>exact⟨h1,h2⟩
theorem gR.dev{t:Nat}{s:St}(h:gR t s){t':Nat}(ht:t<=t'){D:bt}(hD:fJ (t'*t') D)(hk:D.kept.length=s.D.kept.length):gR t' {s with D:=D}:={h.up ht with D:=hD,sz:=by simp only[hk];exact h.sz,OX:=by simp only[hk];exact h.OX}
structure lN(t:Nat)(c:Cs):Prop where
 s:gR t c.s
 saved:c.saved.length<=t
 sav:∀p∈c.saved,0<=p/\p<=65536
 old:c.old.length<=t
 olb:∀p∈c.old,-9223372036854775808<=p/\p<=9223372036854775807
def lN.up{t t':Nat}{c:Cs}(h:lN t c)(ht:t<=t'):lN t' c:=⟨h.s.up ht,cT h.saved ht,h.sav,cT h.old ht,h.olb⟩
theorem lN.ld{t:Nat}{c:Cs}(h:lN t c)(p:Int):lN t (c.ld p).1:=by
 have key:lN t (c.dev (iN c.s.D (x7 c.s.jn (p-1))).1):=by
  obtain⟨h1,h2,_⟩:=Hx h.s.D (x7 c.s.jn (p-1));exact{h with s:=h.s.dev (aX _) h1 (by rw[h2])}
 unfold Cs.ld;split
 .exact h
 .split
  .split<;>exact key
  .exact key
def lN.dr{t:Nat}{c:Cs}(h:lN t c)(p:Int):lN (t+1) (c.dr p):=by
 have h':=h.up (Fq t 1);refine⟨h'.s,h'.saved,h'.sav,by have:=h.old;simp[Cs.dr];omega,λq hq=>?_⟩;simp only[Cs.dr,lD,gK]at hq;rcases hq with hq|rfl
 .exact h.olb q hq
 .exact tF _
def OY(b:aF):(oe b).2.1.length<=b.length/\-9223372036854775808<=(oe b).2.2/\(oe b).2.2<=9223372036854775807:=by
 have ho:(fN b).1.length<=b.length:=by
  unfold fN;split
  .simp
  .split
   .simp
   .simp
 unfold oe;split
 .simp
 .simp only;split
  .simp
  .simp;omega
def OZ{b:Nat}{D:bt}(h:fJ b D)(a:Int):(iN D a).2.2.1.length<=4194304:=by
 obtain⟨r1,r2⟩:=Go.Av.D9 D b h a 8;unfold iN;split
 .have h1:=(OY (D.read a 8).2.1.flatten).1;rw[Go.Av.Hy _ r1]at h1;simp only;omega
 .simp
end Go.aL
namespace Go.Av
open Go.Proofs Go.Proofs.Tryz Go.aL
open Go.cD (Nd rB jU)
def X9(b:aF)(hb:b.length<=9223372036854775807):cq 431 [cK b] (.tp [uS (vY b).1,.int (vY b).2]):=by
 have h:=SE b hb;unfold upP at h;unfold vY;by_cases c:Bv (jt (b,false) 1).1 (x8 (jt (jt (b,false) 1).2 1).1 (jt (jt (b,false) 1).2 1).2).1 (RF (jt (b,false) 1).1 (jt (jt (b,false) 1).2 1).1 (x8 (jt (jt (b,false) 1).2 1).1 (jt (jt (b,false) 1).2 1).2).2).1 (RF (jt (b,false) 1).1 (jt (jt (b,false) 1).2 1).1 (x8 (jt (jt (b,false) 1).2 1).1 (jt (jt (b,false) 1).2 1).2).2).2=true
 .rw[ai c]at h⊢;exact h
 .rw[ah c]at h⊢;exact h
def X_(t:Nat)(c:Cs)(h:lN t c)(p:Int)(hp:-9223372036854775808<=p/\p<=9223372036854775807):bN 428 [.obj 7 0,.p (.int p)] ⟨nj 0 8 c,nJ 8,20⟩ (.agg true [.p (uS (c.ld p).2.1),.p (.int (c.ld p).2.2)]) ⟨nj 0 20 (c.ld p).1,nJ 20,32⟩:=by
 generalize hZ:c.ld p=Z;unfold Cs.ld at hZ;refine aq [_,_] [] [(3,[(3,.r 1),(7,.r 2),(11,.r 1),(14,.r 2),(15,.w [1,2]),(20,.w [1,2])])] [(1,7),(2,6)] func428 rfl ?_;by_cases c1:p<1
 .rw[ai (.inl c1)]at hZ;rw[<-hZ];simp[-az,aH,nj,pJ,aj,ak,aR,aM,aJ,aP,c1,jU,results428];exact⟨[(20,8),(21,9),(22,10),(23,11),(24,12),(25,13),(26,14),(27,15),(28,16),(29,17),(30,18),(31,19)],H⟩
 by_cases c2:c.s.pn<p
 .rw[ai (.inr c2)]at hZ;rw[<-hZ];simp[-az,aH,nj,pJ,aj,ak,aR,aM,aJ,aP,c1,c2,jU,results428];exact⟨[(20,8),(21,9),(22,10),(23,11),(24,12),(25,13),(26,14),(27,15),(28,16),(29,17),(30,18),(31,19)],H⟩
 rw[ah O]at hZ;have SF:=h.s.pn;have hjn:=h.s.jn;have w1:IntKind.i64.wrap (p-1)=p-1:=aG;have w2:IntKind.i64.wrap ((p-1)*8)=(p-1)*8:=aG;have w3:IntKind.i64.wrap (1+c.s.jn+(p-1)*8)=1+c.s.jn+(p-1)*8:=aG;have RG:=Bw c.s.jn c.s.pn O;have hrd:=SG c.s.D (t*t) h.s.D (1+c.s.jn+(p-1)*8) O;have uk:=OZ h.s.D (x7 c.s.jn (p-1));rw[show 1+c.s.jn+(p-1)*8=x7 c.s.jn (p-1)from rfl]at hrd;generalize hR:iN c.s.D (x7 c.s.jn (p-1))=R at hrd hZ uk;obtain⟨D',kind,b,e⟩:=R;simp only at hrd hZ uk;have hU:=X9 b O;generalize hUe:vY b=U1 at hU hZ;obtain⟨n,e2⟩:=U1;simp only at hU hZ;simp[aH,nj,pJ,aj,ak,aR,aM,aJ,aP,c1,c2];refine jf [0] RG ?_;simp[w1,w2,w3];refine aD [0,1,2,8] hrd H (by simp[x7]) (by simp[aA,ak]) (by simp[aA]) ?_;by_cases c3:e=0
 .subst c3;rw[ai rfl]at hZ;simp[ak];refine cm hU ?_;by_cases c4:e2=0
  .subst c4;rw[ai rfl]at hZ;rw[<-hZ];simp[-az,Cs.dev,results428];exact⟨[(20,21),(21,9),(22,10),(23,11),(24,12),(25,13),(26,14),(27,15),(28,16),(29,17),(30,18),(31,19)],H⟩
  .rw[ah c4]at hZ;rw[<-hZ];have uy:(e2 !=0)=true:=U c4;simp[-az,Cs.dev,results428,uy,jU];exact⟨[(20,21),(21,9),(22,10),(23,11),(24,12),(25,13),(26,14),(27,15),(28,16),(29,17),(30,18),(31,19)],H⟩
 .rw[ah c3]at hZ;rw[<-hZ];have mg:(e !=0)=true:=U c3;simp[-az,Cs.dev,ak,results428,mg,jU];exact⟨[(20,21),(21,9),(22,10),(23,11),(24,12),(25,13),(26,14),(27,15),(28,16),(29,17),(30,18),(31,19)],H⟩
def YK(t:Nat)(c:Cs)(h:lN t c)(ht:t<=30000)(p:Int):bN 427 [.obj 7 0,.p (.int p)] ⟨nj 0 8 c,nJ 8,20⟩ (.agg true []) ⟨nj 0 20 (c.dr p),nJ 20,32⟩:=by
 have ho:=h.old;refine aC [] func427 rfl ?_;simp[-az,aH,nj,pJ,aj,ak,aR,aM,aJ,aP,results427];exact⟨O,O,[(20,8),(21,9),(22,10),(23,11),(24,12),(25,13),(26,14),(27,15),(28,16),(29,17),(30,18),(31,20)],by simp[Cs.dr]⟩
def wO(M:Mp)(k:Int):(∀p (hp:p<M.F.length),p<M.run k->¬k<=(M.F[p].2:Int))/\∀h:M.run k<M.F.length,k<=(M.F[M.run k].2:Int):=by
 unfold Mp.run;obtain⟨h1,h2⟩:=Go.cD.YL (λe:Ext=>!decide (k<=(e.2:Int))) M.F;refine⟨λp hp hlt=>?_,λh=>?_⟩
 .have:=h1 M.F[p] (List.mem_take_iff_getElem.2 ⟨p,O,rfl⟩);simpa using this
 .have:=h2 h;simpa using this
def Ay(m f r w nx:Nat)(h:RD m f r w nx)(M:Mp)(hM:mh M)(k:Nat)(hk:1<=k)(hr:M.run k<M.F.length):bN 227 [.obj m 0,.p (.int k)] ⟨cP m f r w M.n M.F M.R M.W,[],nx⟩ (.agg true [.p (dO (M.take k).2.1),.p (.bool true)]) ⟨cP m nx (nx+1) w M.n (M.take k).1.F (M.take k).1.R (M.take k).1.W,[],nx+2⟩:=by
 obtain⟨h1,h2⟩:=wO M k;have hc:=ad8 m f r w nx M.n h M.F M.R M.W k (M.run k) (hM.F.RP hM.n) (hM.R.RP hM.n) hk hr (by have:=h2 hr;omega) (λp hp hlt=>by have:=h1 p hp hlt;omega);have e:M.take k=({M with F:=jo M.F (M.F[M.run k].1,k),R:=gu M.R (M.F[M.run k].1,k)},((M.F[M.run k].1:Int),(k:Int)),true):=by
  unfold Mp.take;rw[ai ⟨O,hr⟩];simp[hr]
 rw[e];exact hc
def TE(m f r w nx:Nat)(h:RD m f r w nx)(M:Mp)(hM:mh M)(k:Int)(hr:¬(1<=k/\M.run k<M.F.length)):bN 227 [.obj m 0,.p (.int k)] ⟨cP m f r w M.n M.F M.R M.W,[],nx⟩ (.agg true [.p (dO (0,0)),.p (.bool false)]) ⟨cP m f r w M.n M.F M.R M.W,[],nx⟩:=by
 obtain⟨h1,h2⟩:=wO M k;refine ad5 m f r w nx M.n h M.F M.R M.W k (hM.F.RP hM.n) ?_;by_cases c:k<1
 .exact .inl c
 .right;intro e he;obtain⟨i,hi,rfl⟩:=xW he;exact h1 i hi O
end Go.Av
namespace Go.aL
open Go.Av
theorem mh.take{M:Mp}(h:mh M)(k:Int):mh (M.take k).1/\(M.take k).1.n=M.n/\0<=(M.take k).2.1.1/\(M.take k).2.1.1<=M.n/\((M.take k).2.2=true->1<=k/\(M.take k).2.1.1+k<=M.n/\(M.take k).2.1.2=k):=by
 unfold Mp.take;split
 .rename_i c;obtain⟨c1,c2⟩:=c;obtain⟨h1,h2⟩:=wO M k;have hk:=h2 c2;have hmem:=bB c2;have Bi:=h.F.top _ hmem;have hg:M.F.getD (M.run k) (0,0)=M.F[M.run k]:=by simp[c2]
  rw[hg];obtain⟨e,he⟩:∃e:Go.Av.Ext,(M.F[M.run k].1,k.toNat)=e:=⟨_,rfl⟩;have e1:e.1=M.F[M.run k].1:=by rw[<-he]
  have e2:e.2=k.toNat:=by rw[<-he]
  have hin:∀s,mF e s->mem M.F s:=λs hs=>⟨_,hmem,by unfold mF at*;omega⟩;have hh:hasB M.F e=true:=(qw h.F.nr e O).2 hin;obtain⟨q1,q2⟩:=h.F.cut (e:=e) O hh;have hm:vR M.R e=false:=by
   cases hc:vR M.R e with
   |false=>rfl
   |true=>
    obtain⟨s,hs,hm⟩:=(sd h.R.nr e O).1 hc;exact absurd hm (h.fr s (hin s hs))
  obtain⟨p1,p2⟩:=h.R.put (e:=e) O hm O;rw[he];refine⟨⟨h.n,q1,p1,h.W,λs hs hm=>?_,λs hs=>h.fw s ((q2 s).1 hs).1⟩,rfl,H,by simp;omega,λ_=>⟨c1,by simp;omega,rfl⟩⟩;rcases(p2 s).1 hm with hm|hm
  .exact h.fr s ((q2 s).1 hs).1 hm
  .exact((q2 s).1 hs).2 hm
 .exact⟨h,rfl,H,H,H⟩
def J2{b:Nat}{D:bt}(h:fJ b D)(a kind:Int)(l:aF):fJ (b+8) (lK D a kind l).1/\(lK D a kind l).1.kept=D.kept:=by
 unfold lK;split
 .have h1:=h.write a (b9 (kH kind l).1);rw[Go.Av.dJ]at h1;have:=Go.Av.yS kind l;exact⟨h1.up O,fA _ _ _⟩
 .exact⟨h.up O,rfl⟩
def lN.sv{t:Nat}{c:Cs}(h:lN t c)(n:Go.cD.Nd):lN (t+8) (c.sv n).1:=by
 unfold Cs.sv;split
 .split
  .obtain⟨m1,m2,m3,m4,m5⟩:=h.s.sl.take 1;obtain⟨p1,p2⟩:=J2 h.s.D (x7 c.s.jn (c.s.sl.take 1).2.1.1) 1 (nh n.lf n.ks n.vs);have e8:=sq8 t;have hd:=h.s.dev (t':=t+8) O (p1.up O) (by rw[p2]);have hn:=h.s.sl.n;refine⟨{hd with sl:=m1,MS:=by simp only[m2];exact h.s.MS},by have:=h.saved;simp;omega,λp hp=>?_,by have:=h.old;simp;omega,h.olb⟩;simp only[lD,gK]at hp;rcases hp with hp|rfl
   .exact h.sav p hp
   .exact⟨m3,O⟩
  .exact h.up O
 .exact h.up O
end Go.aL
namespace Go.Av
open Go.Proofs Go.Proofs.Tryz Go.aL
open Go.cD (Nd rB jU)
def E8(n:Nd)(h:rB n=true):(nh n.lf n.ks n.vs).length<=500:=by
 have hr:jy n.lf n.ks n.vs=true:=by rw[qc];exact h
 obtain⟨hc,k4,hf,Ra⟩:=yW hr;have hv:n.vs.length<=5:=by
  have:n.vs.length=n.ks.length+(if n.lf then 0 else 1):=by simpa[r9]using hf
  split at this<;>omega
 have h1:=zE Ra k4;have h2:=zD hv;simp only[nh,oJ,mo,cF,fQ];omega
def ZT(t:Nat)(c:Cs)(h:lN t c)(ht:t<=30000)(n:Nd)(hk:n.ks.length<=1000)(hv:n.vs.length<=1000):bN 429 [.obj 7 0,.p (uS n)] ⟨nj 0 8 c,nJ 8,20⟩ (.agg true [.p (.int (c.sv n).2.1),.p (.int (c.sv n).2.2)]) ⟨nj 0 20 (c.sv n).1,nJ 20,32⟩:=by
 generalize hZ:c.sv n=Z;unfold Cs.sv at hZ;refine aq [_,_] [] [(7,[(4,.r 1),(6,.r 2),(8,.f [1,2]),(11,.s 1 [2])]),(8,[(1,.r 2),(6,.r 1),(10,.r 3),(14,.r 1),(17,.r 3),(18,.w [1,2,3]),(20,.r 2),(25,.w [1,2,3])])] [(1,7),(2,22),(3,6)] func429 rfl ?_;by_cases c1:rB n=true
 .rw[ai c1]at hZ;have hp:=ag_ n.lf n.ks n.vs (by rw[qc];exact c1) O O;have hpl:=E8 n c1;have hm:=h.s.sl.take 1;have oO:=h.s.MS;have SF:=h.s.pn;have hjn:=h.s.jn;have DC:=h.saved;have htt:=Uc ht;generalize hPB:nh n.lf n.ks n.vs=PB at hp hpl hZ;by_cases c2:c.s.sl.run 1<c.s.sl.F.length
  .have hT:=Ay 4 10 11 12 20 (by constructor<;>omega) c.s.sl h.s.sl 1 O c2;have c3:(c.s.sl.take 1).2.2=true:=by unfold Mp.take;rw[ai ⟨O,c2⟩]
   simp only[Int.cast_ofNat_Int]at hT;generalize hTe:c.s.sl.take 1=T at hT hm hZ c3;obtain⟨M',⟨a,k⟩,ok⟩:=T;simp only at hT hm hZ c3;subst c3;rw[ai rfl]at hZ;obtain⟨m1,m2,m3,m4,m5⟩:=hm;have w1:IntKind.i64.wrap (a*8)=a*8:=aG;have w2:IntKind.i64.wrap (1+c.s.jn+a*8)=x7 c.s.jn a:=aG;have w3:IntKind.i64.wrap (a+1)=a+1:=aG;have hw:=Rg c.s.D (t*t) h.s.D (x7 c.s.jn a) 1 (by unfold x7;omega) O O [PB] (by simp;omega) H;simp only[jz,qW,gL]at hw;generalize hW:lK c.s.D (x7 c.s.jn a) 1 PB=W at hw hZ;have RG:=Bw c.s.jn c.s.pn O;simp[aH,nj,pJ,aj,ak,aR,aM,aJ,aP];refine cm hp ?_;simp;refine aN hT H (by simp[aA]) (by simp[aA]) rfl ?_;simp;refine⟨O,O,?_⟩;refine jf [0] RG ?_;simp[w1,w2,w3];refine wu [0,1,2,8] hw ?_;rw[<-hZ];simp[-az,ak,results429];exact⟨[(20,24),(21,9),(22,20),(23,21),(24,12),(25,13),(26,14),(27,15),(28,16),(29,17),(30,23),(31,19)],by simp[m2]⟩
  .have hT:=TE 4 10 11 12 20 (by constructor<;>omega) c.s.sl h.s.sl 1 O;have c3:(c.s.sl.take 1).2.2=false:=by unfold Mp.take;rw[ah O]
   rw[c3,ah H]at hZ;rw[<-hZ];simp[aH,nj,pJ,aj,ak,aR,aM,aJ,aP];refine cm hp ?_;simp;refine aN hT H (by simp[aA]) (by simp[aA]) rfl ?_;simp[-az,results429];exact⟨[(20,8),(21,9),(22,10),(23,11),(24,12),(25,13),(26,14),(27,15),(28,16),(29,17),(30,18),(31,19)],H⟩
 .rw[ah c1]at hZ;rw[<-hZ];have hp:=XT n.lf n.ks n.vs (by rw[qc];simpa using c1) O O;simp[aH,nj,pJ,aj,ak,aR,aM,aJ,aP];refine cm hp ?_;simp[-az,results429];exact⟨[(20,8),(21,9),(22,10),(23,11),(24,12),(25,13),(26,14),(27,15),(28,16),(29,17),(30,18),(31,19)],H⟩
end Go.Av
namespace Go.aL
open Go.Av
def Na{α:Type}{p:α->Bool}{l:List α}(h:(!l.any p)=true):∀x∈l,p x=false:=λx hx=>by
 rw[sj]at h;cases hp:p x with
 |false=>rfl
 |true=>rw[Kt.2 ⟨x,hx,hp⟩]at h;cases h
def mh.gG{m:Mp}(h:mh m)(es:eL):mh (m.gG es)/\(m.gG es).n=m.n:=by
 refine⟨?_,rfl⟩;unfold Mp.gG;by_cases c:fH m.n m.F m.W es=true
 .rw[ai c];unfold fH at c;simp only[bG]at c;obtain⟨c1,c2⟩:=c;obtain⟨r1,r2,r3⟩:=mR es [] pz c1;have hf:=Na c2;have hno:∀e∈es.map toE,vR m.F e=false/\vR m.W e=false:=λe he=>by simpa using hf e he
  have hp:=pX h.W (es:=es.map toE) (λe he=>⟨(r2 e he).1,(r2 e he).2.1,λs hs hm=>by
   have:=(sd h.W.nr e (r2 e he).1).2 ⟨s,hs,hm⟩;rw[(hno e he).2]at this;cases this⟩) r3 _ (aX _)
  rw[eH]at hp;refine⟨h.n,h.F,h.R,hp.1,h.fr,λs hs hm=>?_⟩;rcases(hp.2.1 s).1 hm with hm|⟨e,he,hi⟩
  .exact h.fw s hs hm
  .have:=(sd h.F.nr e (r2 e he).1).2 ⟨s,hi,hs⟩;rw[(hno e he).1]at this;cases this
 .rw[ah c];exact h
def mh.hold{m:Mp}(h:mh m)(es:eL):mh (m.hold es).1/\(m.hold es).1.n=m.n:=by
 refine⟨?_,rfl⟩;unfold Mp.hold;by_cases c:kg m.n m.F es=true
 .simp only[c,cr];unfold kg at c;simp only[bG]at c;obtain⟨c1,c2⟩:=c;obtain⟨r1,r2,r3⟩:=mR es [] pz c1;have hf:=Na c2;have hh:∀e∈es.map toE,hasB m.F e=true:=λe he=>by simpa using hf e he
  have hp:=B4 h.F (es:=es.map toE) (λe he=>⟨(r2 e he).1,(qw h.F.nr e (r2 e he).1).1 (hh e he)⟩) r3 _ (aX _);rw[eH]at hp;exact⟨h.n,hp.1,h.R,h.W,λs hs=>h.fr s ((hp.2.1 s).1 hs).1,λs hs=>h.fw s ((hp.2.1 s).1 hs).1⟩
 .have c':kg m.n m.F es=false:=U c;simp only[c',dZ,dc];exact h
def jL{m:Mp}(h:mh m):∀(l:List Int),mh (cn m l)/\(cn m l).n=m.n:=by
 intro l
 induction l generalizing m with
 |nil=>exact⟨h,rfl⟩
 |cons p l ih=>
  obtain⟨h1,h2⟩:=h.gG [(p,1)];obtain⟨h3,h4⟩:=ih h1;exact⟨h3,h4.trans h2⟩
def GB(m:Mp)(l:List Int)(p:Int):cn m (l++[p])=(cn m l).gG [(p,1)]:=by simp[cn]
def CJ(m:Mp)(l:List Int):(cn m l).F=m.F/\(cn m l).R=m.R/\(cn m l).n=m.n:=by
 induction l generalizing m with
 |nil=>exact⟨rfl,rfl,rfl⟩
 |cons p l ih=>exact ih (m.gG [(p,1)])
end Go.aL
namespace Go.Av
open Go.Proofs Go.Proofs.Tryz Go.aL
def tY(s:St)(hs:mh s.sl)(l:List Int)(hl:l.length<=1000000):bN 236 [.obj 6 0,.p (.sl (l.map PC.int))] ⟨aH 0 7 s,cH 7,17⟩ (.agg true []) ⟨aH 0 17 {s with sl:=cn s.sl l},cH 17,27⟩:=by
 refine aC [] func236 rfl ?_;simp[aH,aj,ak,aR,aM,aJ,aP];refine aS (λk:Nat=>k<=l.length) (λk=>[(0,.obj 6 0),(6,.p (.sl (l.map PC.int))),(7,.p (.int l.length)),(8,.p (.int k))]) (λk=>⟨[(0,aj 0 7 s.D),(1,ak s.D.kept),(2,ak s.D.now),(3,iB 0 8 s.J),(4,iy s.sl.n 9 10 17 s.sl.F s.sl.R (cn s.sl (l.take k)).W),(5,aR 12 s.rm),(6,aM 0 7 s),(9,cI s.sl.F),(10,cI s.sl.R),(17,cI (cn s.sl (l.take k)).W),(12,cI s.rm.F),(13,cI s.rm.R),(14,cI s.rm.W),(15,aJ s.ix),(16,aP s.dR)],cH 7,18⟩) (λk=>l.length-k) 0 H _ (AS.le_refl _ _) (aE [(17,11)] (by simp[aj,ak,aR,aM,aJ,aP,cn])) ?_;intro k hk;by_cases ck:k<l.length
 .have wk:=ju k;obtain⟨g1,g2⟩:=jL hs (l.take k);obtain⟨f1,f2,f3⟩:=CJ s.sl (l.take k);have hg:=Ga 4 9 10 17 18 (cn s.sl (l.take k)).n (by constructor<;>omega) g1.n _ _ _ g1.F g1.R g1.W [(l[k],1)] H;rw[f1,f2,f3]at hg;have hsn:cn s.sl (l.take (k+1))=(cn s.sl (l.take k)).gG [(l[k],1)]:=by rw[kG ck,GB]
  have hW:(cn s.sl (l.take (k+1))).W=if fH s.sl.n s.sl.F (cn s.sl (l.take k)).W [(l[k],1)]=true then([(l[k],1)].map toE).foldl gu (cn s.sl (l.take k)).W else(cn s.sl (l.take k)).W:=by
   rw[hsn];simp only[Mp.gG,f1,f3]
  rw[<-hW]at hg;simp[ck,aj,ak,aR,aM,aJ,aP];refine aN hg H (by simp[aA]) (by simp[aA]) rfl ?_;simp[wk];exact⟨k+1,O,O,aE [(17,18)] H⟩
 .obtain rfl:k=l.length:=O;obtain⟨f1,f2,f3⟩:=CJ s.sl l;simp[-az,aj,ak,aR,aM,aJ,aP,results236];exact⟨[(17,7),(18,8),(19,9),(20,10),(21,17),(22,12),(23,13),(24,14),(25,15),(26,16)],by simp[f1,f2,f3]⟩
end Go.Av
namespace Go.aL
open Go.Av
def Sm.longer(w:Sm):Sm×Bool:=match w.e.body.getLast? with
 |none=>(w,false)
 |some x=>({w with s:={w.s with rm:=(w.s.rm.hold [(x.1+x.2,1)]).1},e:={w.e with body:=if(w.s.rm.hold [(x.1+x.2,1)]).2=true then w.e.body.dropLast++[(x.1,x.2+1)]else w.e.body}},(w.s.rm.hold [(x.1+x.2,1)]).2)
structure WOk(t:Nat)(w:Sm):Prop where
 s:gR t w.s
 bl:w.e.body.length<=8
 bo:∀e∈w.e.body,0<=e.1/\e.1<=65536/\1<=e.2/\e.2<=65536
end Go.aL
namespace Go.Av
open Go.Proofs Go.Proofs.Tryz Go.aL
def qH(a b:eL):xR (a++b)=xR a++xR b:=by simp[xR]
@[simp]def Zb(l:eL):(xR l).length=l.length*2:=by
 induction l with
 |nil=>rfl
 |cons x l ih=>show(xR ([x]++l)).length=_;rw[qH,mo,ih];simp[xR];omega
def D_(t:Nat)(w:Sm)(h:WOk t w):bN 224 [.obj 7 0] ⟨fm 0 8 w,cH 8,19⟩ (.p (.bool w.longer.2)) ⟨fm 0 19 w.longer.1,cH 19,30⟩:=by
 generalize hZ:w.longer=Z;unfold Sm.longer at hZ;refine aq [_] [] [(5,[(3,.r 1),(6,.r 2),(10,.r 3),(14,.r 3),(18,.w [1,2,3])])] [(1,7),(2,6),(3,18)] func224 rfl ?_;rcases uK w.e.body with hb|⟨l,x,hb⟩
 .rw[hb]at hZ;simp only[FL]at hZ;rw[<-hZ];simp[-az,fm,fC,eF,aH,aj,ak,aR,aM,aJ,aP,hb,results224];exact⟨[(19,8),(20,9),(21,10),(22,11),(23,12),(24,13),(25,14),(26,15),(27,16),(28,17),(29,18)],H⟩
 .rw[xU]at hb;have hx:=h.bo x (by rw[hb];simp);have uk:=h.bl;rw[hb]at uk;simp only[mo,cF,fQ]at uk;have hh:=aeG 5 13 14 15 19 w.s.rm.n (by constructor<;>omega) h.s.rm.n _ _ _ h.s.rm.F h.s.rm.R h.s.rm.W [(x.1+x.2,1)] H;have w1:IntKind.i64.wrap (((l.length+1:Nat):Int)-1)=(l.length:Int):=by rw[aG];omega
  have bd1:xR [x]=[PC.int x.1,PC.int x.2]:=rfl;have w1':IntKind.i64.wrap (l.length:Int)=(l.length:Int):=aG;have cnz:((l.length:Int)+1==0)=false:=by simp;omega
  have w2:IntKind.i64.wrap (x.1+x.2)=x.1+x.2:=aG;have w3:IntKind.i64.wrap (x.2+1)=x.2+1:=aG;rw[hb]at hZ;simp only[List.getLast?_append,List.getLast?_singleton,Option.some_or,BQ]at hZ;simp[fm,fC,eF,aH,aj,ak,aR,aM,aJ,aP,hb,qH,bd1,w1',cnz,w2];refine⟨O,?_⟩;refine o7 hh rfl ?_;have hm:w.s.rm.hold [(x.1+x.2,1)]=({w.s.rm with F:=if kg w.s.rm.n w.s.rm.F [(x.1+x.2,1)]=true then([(x.1+x.2,1)].map toE).foldl jo w.s.rm.F else w.s.rm.F},kg w.s.rm.n w.s.rm.F [(x.1+x.2,1)]):=rfl;rw[hm]at hZ;cases hq:kg w.s.rm.n w.s.rm.F [(x.1+x.2,1)]with
  |false=>
   rw[hq]at hZ;simp only[dZ,dc]at hZ;rw[<-hZ];simp[-az,qH,bd1,results224];exact⟨[(19,8),(20,9),(21,10),(22,11),(23,12),(24,19),(25,14),(26,15),(27,16),(28,17),(29,18)],H⟩
  |true=>
   rw[hq]at hZ;simp only[cr]at hZ;rw[<-hZ];have bd2:xR [(x.1,x.2+1)]=[PC.int x.1,PC.int (x.2+1)]:=rfl;have ht:List.take (l.length*2+1) (List.map AV.p (xR l)++[AV.p (PC.int x.1),AV.p (PC.int x.2)])=List.map AV.p (xR l)++[AV.p (PC.int x.1)]:=by
    rw[BZ,gv H];simp
   have hd:List.drop (l.length*2+1+1) (List.map AV.p (xR l)++[AV.p (PC.int x.1),AV.p (PC.int x.2)])=[]:=gM H;simp[-az,qH,bd2,w3,ht,hd,results224];exact⟨[(19,8),(20,9),(21,10),(22,11),(23,12),(24,19),(25,14),(26,15),(27,16),(28,17),(29,18)],H⟩
end Go.Av
namespace Go.aL
open Go.Av
def mC(l:eL):Int:=match l.getLast? with
 |none=>0
 |some x=>x.1+x.2-1
def Sm.cG(w:Sm):Sm×Int×Int:=if w.longer.2=true then(w.longer.1,mC w.longer.1.e.body,0)else if w.e.body.length=8 then(w,0,30)else({w with s:={w.s with rm:=(w.s.rm.take 1).1},e:={w.e with body:=w.e.body++[(w.s.rm.take 1).2.1]}},mC (w.e.body++[(w.s.rm.take 1).2.1]),0)
def Ea{w:Sm}(h:w.longer.2=false):w.longer.1=w:=by
 unfold Sm.longer at h⊢;split
 .rfl
 .rename_i x hx;rw[hx]at h;simp only at h;simp only[h,dZ,dc];unfold Mp.hold at h⊢;simp only at h;simp only[h,dZ,dc]
end Go.aL
namespace Go.Av
open Go.Proofs Go.Proofs.Tryz Go.aL
def Z3(w:Sm)(hF:xP w.s.rm.F)(hp:0<xV w.s.rm.F):bN 226 [.obj 19 0] ⟨(19,⟨28,1,[.obj 7 0]⟩)::fm 0 8 w,cH 8,20⟩ (.p (.bool true)) ⟨(19,⟨28,1,[.obj 7 0]⟩)::fm 0 8 w,cH 8,20⟩:=by
 have hf:=Ff 5 13 14 15 20 w.s.rm.n (by constructor<;>omega) w.s.rm.F w.s.rm.R w.s.rm.W hF;refine aC [_] func226 rfl ?_;simp[fm,fC,eF,aH,aj,ak,aR,aM,aJ,aP];refine o7 hf rfl ?_;simp[-az,hp,results226];exact⟨[],H⟩
end Go.Av
namespace Go.Av
open Go.Proofs Go.aL
end Go.Av
namespace Go.aL
open Go.Av
def Sm.dev(w:Sm)(D:bt):Sm:={w with s:={w.s with D:=D}}
def Sm.one(w:Sm)(x:dY):Sm×Int:=if w.cG.2.2=0 then(w.cG.1.dev (w.cG.1.s.D.write (cY w.cG.1.s.jn w.cG.1.s.pn+w.cG.2.1) [x]).1,(w.cG.1.s.D.write (cY w.cG.1.s.jn w.cG.1.s.pn+w.cG.2.1) [x]).2)else(w.cG.1,w.cG.2.2)
def ZF{l:eL}(h:∀x∈l,0<=x.1/\x.1<=65536/\0<=x.2/\x.2<=65537):-1<=mC l/\mC l<=200000:=by
 unfold mC;split
 .omega
 .rename_i x hx;have:=h x (List.mem_of_getLast? hx);omega
end Go.aL
namespace Go.Av
open Go.Proofs Go.aL
end Go.Av
namespace Go.aL
open Go.Av
def Sm.cnt(w:Sm)(b:aF):Sm:={w with e:={w.e with size:=w.e.size+b.length,sum:=m8 w.e.sum b}}
end Go.aL
namespace Go.Av
open Go.Proofs Go.aL
end Go.Av
namespace Go.Av
open Go.Proofs Go.Proofs.Tryz Go.aL
theorem MI(n:Nat):∀(a k d:Nat),wJ a n k d<=d+a
 |0,k,d=>by unfold wJ;omega
 |a+1,k,d=>by
  unfold wJ;split
  .have:=MI n a (k*2) (d+1);omega
  .omega
def HV(n:Nat):depth n<=n+2:=by
 have:=MI n (n+1) 1 1;unfold depth;omega
def YH(s:St)(hF:xP s.sl.F)(hl:s.ix.length<=1000000)(hp:4*depth s.ix.length+4<=xV s.sl.F):bN 228 [.obj 17 0] ⟨(17,⟨32,1,[.obj 6 0]⟩)::aH 0 7 s,cH 7,18⟩ (.p (.bool true)) ⟨(17,⟨32,1,[.obj 6 0]⟩)::aH 0 7 s,cH 7,18⟩:=by
 have hf:=Ff 4 9 10 11 18 s.sl.n (by constructor<;>omega) s.sl.F s.sl.R s.sl.W hF;have hd:=MJ s hl;have FO:=HV s.ix.length;generalize hde:depth s.ix.length=d at hd FO hp;have w1:IntKind.i64.wrap (4*(d:Int))=4*d:=aG;have w2:IntKind.i64.wrap (4*(d:Int)+4)=4*d+4:=aG;have c1:¬((xV s.sl.F:Int)<4*(d:Int)+4):=O;have c2:4*(d:Int)+4<=(xV s.sl.F:Int):=O;refine aq [_] [] [(1,[(0,.r 1),(3,.r 2),(4,.w [1,2]),(5,.r 1),(6,.w [1,2])])] [(1,17),(2,6)] func228 rfl ?_;simp[aH,aj,ak,aR,aM,aJ,aP];refine o7 hf rfl ?_;simp;refine xQ [0,1,2,3,4,5,6,7,8,9,10,11,12,13,14,15,16] hd ?_;simp[-az,w1,w2,c2,aM,aJ,results228];exact⟨[],H⟩
end Go.Av
namespace Go.aL
open Go.Av
open Go.cD (Nd rB jU)
theorem lN.tl{t:Nat}{c:Cs}(h:lN t c)(p:Int):lN t (bM.tl c p).1:=by
 have:=h.ld p;unfold Go.cD.dG.tl;split
 .split<;>exact this
 .exact this
end Go.aL
namespace Go.Av
open Go.Proofs Go.Proofs.Tryz Go.aL
open Go.cD (Nd rB jU Right jv)
def alN:Dk prog 276 "Load"=some 428:=bp
def Et:Dk prog 276 "Save"=some 429:=bp
def akE:Dk prog 276 "Drop"=some 427:=bp
@[reducible]def eJ(root:Int):Ob:=⟨371,2,[.o_ 276 (.obj 7 0),.p (.int root)]⟩
@[reducible]def rN(u:Nat)(l:List Nat):List Nat:=0::1::2::3::4::5::6::7::u::(u+1)::(u+2)::(u+3)::(u+4)::(u+5)::(u+6)::(u+7)::(u+8)::(u+9)::(u+10)::(u+11)::l
@[reducible]def dD(v u:Nat)(l:List (Nat×Nat)):List (Nat×Nat):=(v,u)::(v+1,u+1)::(v+2,u+2)::(v+3,u+3)::(v+4,u+4)::(v+5,u+5)::(v+6,u+6)::(v+7,u+7)::(v+8,u+8)::(v+9,u+9)::(v+10,u+10)::(v+11,u+11)::l
def WA(t:Nat)(c:Cs)(h:lN t c)(p:Int)(hp:lB p):bN 428 [.obj 7 0,.p (.int p)] ⟨iY.B 0 8 c,nJ 8,20⟩ (.agg true [.p (uS (bM.ld c p).2.1),.p (.int (bM.ld c p).2.2)]) ⟨iY.B 0 20 (bM.ld c p).1,nJ 20,32⟩:=X_ t c h p hp
def Jq(b:aF):rB (vY b).1=true\/(vY b).1=jU:=by
 unfold vY;split
 .rename_i h;left;simp only[Bv,bG]at h;rw[<-qc];exact h.2
 .exact .inr rfl
def L5(c:Cs)(p:Int):rB (bM.ld c p).2.1=true\/(bM.ld c p).2.1=jU:=by
 show rB (c.ld p).2.1=true\/(c.ld p).2.1=jU;unfold Cs.ld;split
 .exact .inr rfl
 .split
  .split
   .exact Jq _
   .exact .inr rfl
  .exact .inr rfl
def ag2{n:Nd}(h:rB n=true\/n=jU):n.ks.length<=4/\n.vs.length<=5:=by
 rcases h with h|rfl
 .have h:=(jv n).1 h;have h1:=h.len;have h2:=h.form;exact⟨h1,by rw[h2];split<;>omega⟩
 .simp[jU]
def NL(t:Nat)(c:Cs)(h:lN t c)(root p:Int)(hp:lB p):bN 314 [.obj 20 0,.p (.int p)] ⟨iY.B 0 8 c++[(20,eJ root)],nJ 8,21⟩ (.agg true [.p (uS (bM.tl c p).2.1),.p (.int (bM.tl c p).2.2)]) ⟨iY.B 0 21 (bM.tl c p).1++[(20,eJ root)],nJ 21,33⟩:=by
 generalize hZ:bM.tl c p=Z;unfold Go.cD.dG.tl at hZ;have hl:=WA t c h p hp;have sx:=ag2 (L5 c p);generalize hR:bM.ld c p=R at hl hZ sx;obtain⟨c',n,e⟩:=R;simp only at hl hZ sx;have hr:=vU n.lf n.ks n.vs O O;rw[qc]at hr;refine aC [_,_] func314 rfl ?_;simp[eJ,alN];refine k9 (rN 8 []) hl H H H H ?_;by_cases c1:e=0
 .subst c1;rw[ai rfl]at hZ;simp;refine cm hr ?_;by_cases c2:rB n=true
  .rw[ai c2]at hZ;rw[<-hZ];simp[-az,c2,results314];exact⟨dD 21 22 [],H⟩
  .rw[ah c2]at hZ;rw[<-hZ];have eY:rB n=false:=U c2;simp[-az,eY,jU,results314];exact⟨dD 21 22 [],H⟩
 .rw[ah c1]at hZ;rw[<-hZ];have jR:(e !=0)=true:=U c1;simp[-az,jR,jU,results314];exact⟨dD 21 22 [],H⟩
end Go.Av
namespace Go.Av
open Go.Proofs Go.Proofs.Tryz Go.aL
open Go.cD (Nd rB jU Right jv Step eI Key)
@[reducible]def sI(x:Step):PC:= .agg false [.bool x.n.lf,.sl (x.n.ks.map PC.str),.sl (x.n.vs.map PC.int),.int x.p,.int x.c]
def xj(c:Cs)(p:Int):((bM.tl c p).2.2=0/\Right (bM.tl c p).2.1)\/(bM.tl c p).2.1=jU/\(bM.tl c p).2.2≠0:=by
 unfold Go.cD.dG.tl;by_cases h:(bM.ld c p).2.2=0
 .rw[ai h];by_cases h2:rB (bM.ld c p).2.1=true
  .rw[ai h2];exact .inl ⟨rfl,(jv _).1 h2⟩
  .rw[ah h2];right;simp
 .rw[ah h];exact .inr ⟨rfl,h⟩
theorem KV{t:Nat}(key:Key):∀(f:Nat) {c:Cs} (dP:Int) (out:List Step),lN t c->lN t (bM.way key f c dP out).1
 |0,c,dP,out,h=>by unfold Go.cD.dG.way;split<;>exact h
 |f+1,c,dP,out,h=>by
  unfold Go.cD.dG.way;split
  .exact h
  .split
   .split
    .exact h.tl dP
    .exact KV key f _ _ (h.tl dP)
   .exact h.tl dP
def Tj(t:Nat)(c:Cs)(h:lN t c)(root:Int)(hroot:lB root)(key:Key):bN 238 [.obj 20 0,.p (.str key)] ⟨iY.B 0 8 c++[(20,eJ root)],nJ 8,21⟩ (.agg true [.p (.sl ((bM.way key 40 c root []).2.1.map sI)),.p (.int (bM.way key 40 c root []).2.2)]) ⟨iY.B 0 21 (bM.way key 40 c root []).1++[(20,eJ root)],nJ 21,33⟩:=by
 generalize hZ:bM.way key 40 c root []=Z;refine aq [_,_] [] [(9,[(0,.r 1),(2,.r 1),(6,.w [1]),(7,.s 2 [1])])] [(1,46),(2,47)] func238 rfl ?_;simp[eJ];refine aS (λy:Cs×Int×Nat×List Step=>bM.way key y.2.2.1 y.1 y.2.1 y.2.2.2=Z/\y.2.2.1+y.2.2.2.length=40/\lB y.2.1/\lN t y.1) (λy=>[(0,.obj 20 0),(1,.p (.str key)),(6,.own 33 (y.2.2.2.map sI)),(7,.p (.int y.2.1))]) (λy=>⟨iY.B 0 21 y.1++[(20,eJ root)],nJ 21++[(33,343,5)],34⟩) (λy=>y.2.2.1) (c,root,40,[]) ⟨hZ,rfl,hroot,h⟩ _ (Ci 6 343 5 [] (.inr ⟨rfl,H⟩)) (aE (dD 21 8 [(33,21)]) H) ?_;rintro⟨c1,dP,f,out⟩ ⟨g1,g2,g3,g4⟩;simp only at g1 g2 g3 g4;by_cases c0:dP=0
 .subst c0;have e:bM.way key f c1 0 out=(c1,out,0):=by unfold Go.cD.dG.way;cases f<;>rfl
  rw[e]at g1;simp[-az,<-g1,results238];exact⟨dD 21 21 [],H⟩
 have c0':(dP !=0)=true:=U c0;cases f with
 |zero=>
  have e:bM.way key 0 c1 dP out=(c1,[],10):=by unfold Go.cD.dG.way;rw[ah c0]
  rw[e]at g1;have c2:(40:Int)<=(out.length:Int):=O;simp[-az,c0',c2,<-g1,results238];exact⟨dD 21 21 [],H⟩
 |succ f=>
  have c2:¬(40:Int)<=(out.length:Int):=O;have hl:=NL t c1 g4 root dP g3;have hcs:=xj c1 dP;have hok:=g4.tl dP;unfold Go.cD.dG.way at g1;rw[ah c0]at g1;generalize hR:bM.tl c1 dP=R at hl hcs g1 hok;obtain⟨c',n,e⟩:=R;simp only at hl hcs g1 hok;simp[c0',c2];refine jf (rN 21 [20]) hl ?_;rcases hcs with⟨rfl,d2⟩|⟨rfl,d2⟩
  .rw[ai rfl]at g1;simp;refine aZ (aeR n key (by have:=d2.len;omega)) ?_;have kW:=Go.cD.tU n key;have h4:=d2.len;have hfm:=d2.form;by_cases c3:n.lf=true
   .rw[ai c3]at g1;simp[-az,c3,<-g1,results238];exact⟨O,O,dD 21 34 [],by simp[c3]⟩
   .have mg:n.lf=false:=U c3;rw[ah c3]at g1;rw[mg]at hfm;simp only[dZ,dc]at hfm;have hci:eI n key<n.vs.length:=O;have Qd:=d2.vals n.vs[eI n key] (bB hci);have hgd:n.vs.getD (eI n key) 0=n.vs[eI n key]:=by rw[u6,n_ hci];rfl
    rw[hgd]at g1;simp[mg,hci];exact⟨O,O,c',n.vs[eI n key],f,out++[⟨n,dP,eI n key⟩],⟨g1,by simp;omega,⟨by have:=Qd.1;omega,by have:=Qd.2;omega⟩,hok⟩,O,aE (dD 21 34 [(33,48)]) (by simp[mg])⟩
  .rw[ah d2]at g1;have d3':(e !=0)=true:=U d2;simp[-az,d3',<-g1,results238];exact⟨dD 21 34 [],H⟩
end Go.Av
namespace Go.aL
open Go.Av
open Go.cD (Nd rB jU kE oN ym Key)
def lN.Zf{t:Nat}{c:Cs}(h:lN t c)(n:Nd):lN (t+8) (bM.sv c n).1:=h.sv n
def lN.put{t:Nat}{c:Cs}(h:lN t c)(n:Nd):lN (t+16) (bM.put c n).1:=by
 unfold Go.cD.dG.put;split
 .exact(h.Zf n).up O
 .split
  .exact((h.Zf (kE n)).Zf (oN n)).up O
  .exact(h.Zf (kE n)).up O
def Lz{t:Nat}{c:Cs}(h:lN t c):∀(l:List Int),lN (t+l.length) (bM.gB c l):=by
 intro l
 induction l generalizing t c with
 |nil=>exact h
 |cons p l ih=>
  have:=ih (h.dr p);rw[show t+(p::l).length=t+1+l.length by simp;omega];exact this
end Go.aL
namespace Go.Av
open Go.Proofs Go.Proofs.Tryz Go.aL
open Go.cD (Nd rB jU Right jv Step eI Key kE oN ym)
@[reducible]def jJ(q:Nat)(old:List Int):Ob:=⟨339,2,[.obj 20 0,.own q (old.map PC.int)]⟩
def qb(t:Nat)(c:Cs)(h:lN t c)(ht:t<=30000)(n:Nd)(hn:jY n):bN 429 [.obj 7 0,.p (uS n)] ⟨iY.B 0 8 c,nJ 8,20⟩ (.agg true [.p (.int (bM.sv c n).2.1),.p (.int (bM.sv c n).2.2)]) ⟨iY.B 0 20 (bM.sv c n).1,nJ 20,32⟩:=ZT t c h ht n (by have:=hn.ks;omega) (by have:=hn.vs;omega)
def U4(t:Nat)(c:Cs)(h:lN t c)(ht:t<=30000)(p:Int):bN 427 [.obj 7 0,.p (.int p)] ⟨iY.B 0 8 c,nJ 8,20⟩ (.agg true []) ⟨iY.B 0 20 (bM.dr c p),nJ 20,32⟩:=YK t c h ht p
def yp(t:Nat)(c:Cs)(h:lN t c)(ht:t+8<=30000)(root:Int)(old:List Int)(n:Nd)(hn:jY n):bN 241 [.obj 21 0,.p (uS n)] ⟨iY.B 0 8 c++[(20,eJ root),(21,jJ 22 old)],nJ 8++[(22,3,1)],23⟩ (.agg true [.p (.sl ((bM.put c n).2.1.map PC.int)),.p (.str (bM.put c n).2.2.1),.p (.int (bM.put c n).2.2.2)]) ⟨iY.B 0 23 (bM.put c n).1++[(20,eJ root),(21,jJ 22 old)],nJ 23++[(22,3,1)],35⟩:=by
 generalize hZ:bM.put c n=Z;unfold Go.cD.dG.put at hZ;refine aq [_,_,_] [] [(2,[(3,.r 1),(6,.r 2),(8,.w [1,2])]),(5,[(3,.r 1),(6,.r 2),(7,.r 3),(8,.w [1,2,3,4])]),(8,[(3,.r 1),(6,.r 2),(7,.r 4),(8,.w [1,2,3,4])])] [(1,21),(2,20),(3,23),(4,24)] func241 rfl ?_;by_cases c1:n.ks.length<=4
 .rw[ai c1]at hZ;have hs:=qb t c h O n hn;generalize hR:bM.sv c n=R at hs hZ;have jR:(n.ks.length:Int)<=4:=O;simp[eJ,jJ,jR,Et];refine k9 (rN 8 []) hs H H H H ?_;rw[<-hZ];simp[-az,results241];exact⟨[],H⟩
 .rw[ah c1]at hZ;have jR:¬(n.ks.length:Int)<=4:=O;have hs:=qb t c h O (kE n) (Zi hn);have hok:=h.Zf (kE n);have hsp:=splitB n hn O;generalize hR:bM.sv c (kE n)=R at hs hZ hok;obtain⟨c',p,e⟩:=R;simp only at hs hZ hok;simp[eJ,jJ,jR];refine cm hsp ?_;simp[Et];refine k9 (rN 8 []) hs H H H H ?_;by_cases c2:e=0
  .subst c2;rw[ai rfl]at hZ;have zH:=qb (t+8) c' hok ht (oN n) (Zj hn);generalize wH:bM.sv c' (oN n)=R2 at zH hZ;obtain⟨c'',p2,e2⟩:=R2;simp only at zH hZ;simp[Et];refine k9 (rN 25 []) zH H H H H ?_;rw[<-hZ];simp[-az,results241];exact⟨dD 23 37 [],H⟩
  .rw[ah c2]at hZ;have eY:(e !=0)=true:=U c2;rw[<-hZ];simp[-az,eY,results241];exact⟨dD 23 25 [],H⟩
def w_(t:Nat)(c:Cs)(h:lN t c)(root:Int)(old:List Int)(xS:old.length<=1000)(ht:t+1000<=30000)(p:Int):bN 328 [.obj 21 0,.p (.int p)] ⟨iY.B 0 8 c++[(20,eJ root),(21,jJ 22 old)],nJ 8++[(22,3,1)],23⟩ (.agg true []) ⟨iY.B 0 23 (bM.gB c old)++[(20,eJ p),(21,jJ 22 old)],nJ 23++[(22,3,1)],35⟩:=by
 refine aC [] func328 rfl ?_;simp[eJ,jJ];refine aS (λk:Nat=>k<=old.length) (λk=>[(0,.obj 21 0),(16,.own 22 (old.map PC.int)),(17,.p (.int old.length)),(18,.p (.int k))]) (λk=>⟨iY.B 0 23 (bM.gB c (old.take k))++[(20,eJ p),(21,jJ 22 old)],nJ 23++[(22,3,1)],35⟩) (λk=>old.length-k) 0 H _ (AS.le_refl _ _) (aE (dD 23 8 []) (by simp[Go.cD.dG.gB])) ?_;intro k hk;by_cases ck:k<old.length
 .have wk:=ju k;have hd:=Lz h (old.take k);have DU:=U4 _ _ hd (by simp;omega) old[k];have hsn:bM.dr (bM.gB c (old.take k)) old[k]=bM.gB c (old.take (k+1)):=by unfold Go.cD.dG.gB;rw[kG ck,qX];rfl
  rw[hsn]at DU;simp[ck,eJ,jJ,akE];refine k9 (rN 23 []) DU H H H H ?_;simp[wk];exact⟨k+1,O,O,aE (dD 23 35 []) H⟩
 .obtain rfl:k=old.length:=O;simp[-az,eJ,jJ,results328];exact⟨dD 23 23 [],H⟩
end Go.Av
