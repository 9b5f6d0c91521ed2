/- TiersAgain, part 22: what functions compute, and its plain law; no condition. -/
import Derived.Test.YtgkdpbambfgahaaGreatDoorWau
set_option linter.all false
set_option maxRecDepth 100000
set_option maxHeartbeats 64000000
namespace Go.aL
open Go.Av
def Sm.u9(w:Sm):Sm:={w with e:={w.e with order:=w.s.ord+1}}
def Sm.cM(w:Sm):Sm×Int:=eC (b9 w.rest) w
def Sm.kq(w:Sm):St×Bool×Int:=w.s.sA 1 w.u9.e
def Sm.zI(w:Sm):Sm×Bool×Int:=if w.kq.2.1=true then({w.u9 with s:={w.kq.1 with ord:=w.kq.1.ord+1},ended:=true,kept:=true},true,w.kq.2.2)else((w.u9.at w.kq.1).BV,false,w.kq.2.2)
def Sm.bq(w:Sm):Sm×Bool×Int:=if w.cM.2=0 then w.cM.1.zI else(w.cM.1.BV,false,w.cM.2)
end Go.aL
namespace Go.Av
open Go.Proofs Go.Proofs.Tryz Go.aL
def Zs{c:Nat}(hc:c<=15000)(w:Sm)(h:Bd c w.s)(hb:qG w.e.body)(he:w.ended=false)(hr:w.rest.length<=64)(aq_:0<=w.cM.1.s.ord/\w.cM.1.s.ord<=1000000)(UF:w.cM.2=0->0<=w.cM.1.kq.1.ord/\w.cM.1.kq.1.ord<=1000000)(vN:w.cM.1.ended=false)(hE:w.cM.2=0->RL w.cM.1.u9.e):bN 15 [.obj 7 0] ⟨fm 0 8 w,cH 8,19⟩ (.agg true [.p (.bool w.bq.2.1),.p (.int w.bq.2.2)]) ⟨zU 0 19 w.bq.1,cH 19,29⟩:=by
 have Dz:=vr w h hb w.rest O O;have hcn:(b9 w.rest).length<=1:=by rw[dJ];omega
 have hS:=sK (b9 w.rest) (c:=c) O h hb;generalize hZ:w.bq=Z;unfold Sm.bq at hZ;have e0:eC (b9 w.rest) w=w.cM:=rfl;rw[e0]at Dz hS;generalize w.cM=Y at*;obtain⟨w1,e⟩:=Y;simp only at*;obtain⟨h1,h2,h3⟩:=hS;have uk:=h3.bl;refine kQ (rs:=[_,_]) [] [(7,[(3,.r 1),(7,.r 1),(8,.w [1])])] [(1,7)] func15 rfl bp bp (by simp[ntmps15]) rfl ?_;refine iF mixed [(0,.obj 7 0)] ⟨fm 0 8 w,cH 8,19⟩ ?_ ?_
 .simp[fm,fC,zU,iT,eF,aH,aj,ak,aR,aM,aJ,aP];exact aB H
 refine iF mixed [(0,.obj 7 0)] ⟨fm 0 8 w,cH 8,19⟩ ?_ ?_
 .simp[fm,fC,zU,iT,eF,aH,aj,ak,aR,aM,aJ,aP,he];exact aB H
 refine iF mixed [(0,.obj 7 0),(4,.p (.int e))] ⟨fm 0 19 w1,cH 19,30⟩ ?_ ?_
 .simp[fm,fC,zU,iT,eF,aH,aj,ak,aR,aM,aJ,aP];refine aoC Dz rfl ?_;simp[fm,fC,zU,iT,eF,aH,aj,ak,aR,aM,aJ,aP];exact aB H
 refine qP (Nz 7 15 29 w1.e.body.length 2 none (fC 6 29 w1) (eF w1.e.body) (w1.e.body.map dO) rfl rfl O rfl rfl O (by simp[eF]) (by rw[AL];exact gv (by simp[eF])) H (by intro y hy;obtain⟨a,_,rfl⟩:=bE.1 hy;rfl) (by intro y hy;obtain⟨a,_,rfl⟩:=bE.1 hy;rfl)) ?_;by_cases c1:e=0
 rotate_left
 .rw[ah c1]at hZ;have hq:=NA w1 vN h2.lM.rm O;have jR:(e==0)=false:=U c1;generalize hQ:w1.BV=Q at hq hZ;rw[<-hZ];refine g_ mixed ?_;simp[fm,fC,zU,iT,eF,aH,aj,ak,aR,aM,aJ,aP,Tb.aY,Tb.cV,del,jR];refine rcF [0,1,2,3,4,5,6,7,19,20,21,22,23,24,25,26,27,28] hq ?_;simp[-az,fm,fC,zU,iT,eF,aH,aj,ak,aR,aM,aJ,aP,results15];exact⟨[(19,31),(20,32),(21,33),(22,34),(23,35),(24,36),(25,37),(26,38),(27,39),(28,40)],H⟩
 subst c1;rw[ai rfl]at hZ;have UF:=UF rfl;have hB:=(h1 rfl).up (d:=c+1) O;have nu:=aeV O hB 1 (hE rfl);have hPb:=(MT O hB 1 (hE rfl)).lM.rm;have e2:w1.s.sA 1 w1.u9.e=w1.kq:=rfl;rw[e2]at nu hPb;unfold Sm.zI at hZ;generalize w1.kq=P at*;obtain⟨p,b,d⟩:=P;unfold Sm.u9 at nu hZ;simp only at nu hPb hZ UF;have w2:IntKind.i64.wrap (w1.s.ord+1)=w1.s.ord+1:=aG;have w3:IntKind.i64.wrap (p.ord+1)=p.ord+1:=aG;refine g_ mixed ?_;simp[fm,fC,zU,iT,eF,aH,aj,ak,aR,aM,aJ,aP,Tb.aY,Tb.cV,del,w2];cases b
 .rw[ah H]at hZ;have hq:=NA (Sm.at {w1 with e:={w1.e with order:=w1.s.ord+1}} p) vN hPb (by show w1.e.body.length<=900;omega);generalize hQ:(Sm.at {w1 with e:={w1.e with order:=w1.s.ord+1}} p).BV=Q at hq hZ;unfold Sm.at at hq;rw[<-hZ];refine rcF [0,1,2,3,4,5,6,19,20,21,22,23,24,25,26,27,28] nu ?_;simp[fm,fC,zU,iT,eF,aH,aj,ak,aR,aM,aJ,aP];refine rcF [0,1,2,3,4,5,6,7,31,32,33,34,35,36,37,38,39,40] hq ?_;simp[-az,fm,fC,zU,iT,eF,aH,aj,ak,aR,aM,aJ,aP,w3,results15];exact⟨[(19,41),(20,42),(21,43),(22,44),(23,45),(24,46),(25,47),(26,48),(27,49),(28,50)],H⟩
 .rw[ai rfl]at hZ;rw[<-hZ];refine rcF [0,1,2,3,4,5,6,19,20,21,22,23,24,25,26,27,28] nu ?_;simp[-az,fm,fC,zU,iT,eF,aH,aj,ak,aR,aM,aJ,aP,w3,results15];exact⟨[(19,31),(20,32),(21,33),(22,34),(23,35),(24,36),(25,37),(26,38),(27,39),(28,40)],H⟩
end Go.Av
namespace Go.aL
open Go.Av
def pQ{r:Nat}{s:St}{es X:eL}{M:jV}(hm:mh s.rm)(h:kX r s (es++X) M):mL r s (s.back es) X M []:=by
 unfold St.back;split
 .rename_i e;subst e;exact mL.refl (U h)
 .refine⟨?_,by simp[pP],rfl,rfl,id,rfl,H⟩;have hg:=ic.gG hm (h.ap.perm (List.perm_append_comm_assoc _ _ _));refine h.room ?_;split
  .exact hg.commit (hm.gG es).1
  .exact hg
def S0{r c:Nat}(hc:c<=18000){s:St}{X:eL}{M:jV}(hB:Bd c s)(h:kX r s X M){e:cS}(hpl:e.pack.length<=8000):∃ds,mL r s (s.kK e).1 ((if(s.kK e).2.2=0 then[(s.kK e).2.1]else[])++X) M ds/\(∀i,1<=cnt X i->(s.kK e).1.D.now[r+i]?=s.D.now[r+i]?)/\((s.kK e).2.2=0->seg (s.kK e).1.D.now (r+(s.kK e).2.1.1.toNat) (fL e).length=fL e):=by
 have hn:=uV hpl;obtain⟨ds,d⟩:=FB (p:=kL (fL e)) O hB h;unfold St.kK St.yg St.BG St.FE St.yf;generalize fL e=L at*;by_cases c1:(s.o6 (kL L)).2=0
 .rw[ai c1];have D7:=tH O hB c1;have hy:=tG O hB c1;generalize(s.o6 (kL L)).1=u at*;unfold kL at hy;have qo:=D7.lM.rm;have hT:=qo.take L.length;have hrun:=Gh hn.1 hy;have Bx:(u.rm.take L.length).2.2=true:=by unfold Mp.take;rw[ai ⟨O,hrun⟩]
  obtain⟨q1,q2,q3⟩:=hT.2.2.2.2 Bx;have h0:=hT.2.2.1;obtain⟨a1,_⟩:=d.h.ap.taken qo Bx;generalize hx:(u.rm.take L.length).2.1=x at q2 q3 a1 h0⊢;have hr0:=d.h.r0;have ha:cY u.jn u.pn+x.1=((r+x.1.toNat:Nat):Int):=by rw[hr0];omega
  rw[ha];have h1:kX r {u with rm:=(u.rm.take L.length).1} ([x]++X) (M.KF ds):=d.h.room (a1.perm (by
   show(x::(Gi u.ix++X)).Perm (Gi u.ix++(x::X));exact List.perm_middle.symm))
  have hin:∀i,x.1.toNat<=i->i<x.1.toNat+L.length->AP x i=true:=λi h2 h3=>by
   unfold AP;simp only[bG,eZ];omega
  have hr:=kX.wr (s:={u with rm:=(u.rm.take L.length).1}) (X:=[x]++X) D7.lM.D D7.lM.ix h1 (p:=x.1.toNat) (l:=L) λi h2 h3=>by
   rw[gW,AQ,ai (hin i h2 h3)];omega
  have Kb:mL r u {u with rm:=(u.rm.take L.length).1,D:=(u.D.write (((r+x.1.toNat:Nat)):Int) L).1} ([x]++X) (M.KF ds) []:=⟨hr.h,hr.l,hr.ord,hr.bad,hr.left,hr.kl,hr.dk⟩;have hw:=yU D7.lM.D.len (a:=r+x.1.toNat) L;have hkeep:∀i,1<=cnt X i->(u.D.write (((r+x.1.toNat:Nat)):Int) L).1.now[r+i]?=s.D.now[r+i]?:=by
   intro i hi;rw[<-d.D.up (r+i) O];by_cases c:(u.D.write (((r+x.1.toNat:Nat)):Int) L).2=0
   .obtain⟨k1,k2⟩:=hw.ok c;rw[k2,yV k1];have hone:=h1.ap.one i;rw[gW,gW,AQ]at hone;split
    .rfl
    .split
     .rw[ai (hin i O O)]at hone;omega
     .rfl
   .rw[hw.no c]
  by_cases c2:(u.D.write (((r+x.1.toNat:Nat)):Int) L).2=0
  .rw[ai c2];refine⟨_,d.runs.trans Kb,hkeep,λ_=>?_⟩;obtain⟨k1,k2⟩:=hw.ok c2;show seg (u.D.write _ _).1.now _ _=_;rw[k2];exact mN k1
  .rw[ah c2,ah c2];have hb:=pQ (s:={u with rm:=(u.rm.take L.length).1,D:=(u.D.write (((r+x.1.toNat:Nat)):Int) L).1}) hT.1 hr.h;refine⟨_,d.runs.trans (Kb.trans hb),?_,λe0=>absurd e0 c2⟩;rw[(xb _ _).2.2.2.2.1];exact hkeep
 .rw[ah c1,ah c1];exact⟨ds,d.runs,λi _=>d.D.up _ O,λe0=>absurd e0 c1⟩
def KG(M:jV)(key:aF)(e:cS)(b:aF):(M.no key).put key e b=M.put key e b:=by
 funext x;unfold jV.put jV.no;split<;>rfl
def Nk{r:Nat}{u:St}{X:eL}{M:jV}{k:Kn}{e:cS}{b:aF}{A B:List Kn}(qz:u.ix=A++B)(hne:∀x∈u.ix,x.key≠k.key)(h:kX r u (k.exts++X) M)(hK:KD u.D.now r k e b):kX r {u with ix:=A++k::B} X (M.put k.key e b):=by
 refine⟨h.r0,h.J,h.jn,h.ap.perm ?_,λx hx=>?_,λkey hM=>?_⟩
 .show(Gi u.ix++(k.exts++X)).Perm (Gi (A++k::B)++X);rw[qz,AW,AW,Cl];simp only[cW];exact BW _ (List.perm_append_comm_assoc _ _ _)
 .have hx:x∈A++k::B:=hx;have hc:x=k\/x∈u.ix:=by rw[qz];simp at hx⊢;rcases hx with c|c|c<;>simp[c]
  rcases hc with rfl|c
  .exact⟨e,b,by unfold jV.put;rw[ai rfl],hK⟩
  .obtain⟨e',b',h1,h2⟩:=h.data x c;exact⟨e',b',by unfold jV.put;rw[ah (hne x c)];exact h1,h2⟩
 .unfold jV.put at hM;split at hM
  .rename_i hk;exact⟨k,H,hk.symm⟩
  .obtain⟨x,hx,hxk⟩:=h.keys key hM;rw[qz]at hx;exact⟨x,by show x∈A++k::B;simp at hx⊢;rcases hx with c|c<;>simp[c],hxk⟩
def SY{r:Nat}{u:St}{X:eL}{M:jV}{kind:Int}(hk2:kind≠2)(hm:mh u.rm)(hs:Ke u.ix){k:Kn}{e:cS}{b:aF}(h:kX r u (k.exts++X) M)(hK:KD u.D.now r k e b):kX r (u.rT kind k) X (M.put k.key e b):=by
 unfold St.rT;by_cases c1:qn u.ix k.key=true
 .rw[ai c1,ah hk2];obtain⟨hi,hk⟩:=tN c1;have ho:=Il hm hs h hi;have iG:u.ix.set (gO u.ix k.key) k=u.ix.take (gO u.ix k.key)++k::u.ix.drop (gO u.ix k.key+1):=by
   rw[BX,ai hi]
  have hne:∀x∈(u.Le (gO u.ix k.key)).ix,x.key≠k.key:=by
   intro x hx;have hsp:=Ik hi;have hs':=hs;unfold Ke at hs';rw[hsp,uI,uJ]at hs';obtain⟨_,⟨h2,_⟩,h3⟩:=hs';rw[<-hk];rcases lD.1 hx with hx|hx
   .have:=h3 x hx _ (K3 ..);intro e;rw[e,Go.cD.nV]at this;cases this
   .have:=h2 x hx;intro e;rw[e,Go.cD.nV]at this;cases this
  have hi2:=Nk (u:=u.Le (gO u.ix k.key)) (A:=u.ix.take (gO u.ix k.key)) (B:=u.ix.drop (gO u.ix k.key+1)) rfl hne ho hK;rw[hk,KG]at hi2;rw[iG];exact hi2
 .rw[ah c1];exact Nk (eO _ _).symm (Im hs (U c1)) h hK
structure O9(r:Nat)(s u:St)(X:eL)(M:jV)(kind:Int)(key:aF)(e:cS)(b:aF)(ds:List (aF)):Prop where
 h:kX r u X ((M.KF ds).put key e b)
 l:pP u=pP s++ds.map (λk=>((4:Int),k))++[(kind,key)]
 ord:u.ord=s.ord
 bad:u.D.bad=s.D.bad
 left:s.D.left=-1->u.D.left=-1
 kl:u.D.kept.length=s.D.kept.length
 dk:∀x∈ds,x.length<=1000
def mL.put{r:Nat}{s u v:St}{X Y:eL}{M:jV}{kind:Int}{key:aF}{e:cS}{b:aF}{a c:List (aF)}(h:mL r s u X M a)(k:O9 r u v Y (M.KF a) kind key e b c):O9 r s v Y M kind key e b (a++c):=⟨by rw[<-Fy];exact k.h,by rw[k.l,h.l];simp,k.ord.trans h.ord,k.bad.trans h.bad,λe=>k.left (h.left e),k.kl.trans h.kl,λx hx=>(lD.1 hx).elim (h.dk x) (k.dk x)⟩
def SW(u:St)(kind:Int)(k:Kn):(u.rT kind k).dR=u.dR/\(u.rT kind k).ord=u.ord/\(u.rT kind k).D=u.D:=by
 unfold St.rT;split
 .split<;>exact⟨rfl,rfl,rfl⟩
 .exact⟨rfl,rfl,rfl⟩
def SX{r c:Nat}(hc:c<=18000){s:St}(hB:Bd c s){X:eL}{M:jV}{kind:Int}(hk2:kind≠2){x:Int×Int}{k:Kn}{e:cS}{b:aF}(hk:KH k)(hx:k.exts=x::e.body)(h:kX r s (x::(e.body++X)) M)(hK:KD s.D.now r k e b):((s.BA kind x k).2.1=true->O9 r s (s.BA kind x k).1 X M kind k.key e b [])/\((s.BA kind x k).2.1≠true->mL r s (s.BA kind x k).1 (e.body++X) M []):=by
 obtain⟨t,h1,h2,h3⟩:=hB;have hT:=Fz h1 ⟨h2,O⟩ k;have qz:=KI s k;have hg:kX r (s.BB k).1 (x::(e.body++X)) M/\(s.BB k).1.dR=s.dR/\(s.BB k).1.ord=s.ord/\(s.BB k).1.ix=s.ix/\(s.BB k).1.rm=s.rm/\Out r s.D (s.BB k).1.D:=MC h1 O h (aec h1 h.r0 s.root k.key k.place) _;obtain⟨g1,g2,g3,_,_,g6⟩:=hg;unfold St.BA;rw[ah λq=>hk2 q.1];generalize s.BB k=T at*;by_cases ct:T.2.1=true
 .rw[ai ct];refine⟨λ_=>?_,λq=>absurd rfl q⟩;show O9 r s ((T.1.rT kind k).wrote kind T.2.2 k.key) X M kind k.key e b [];have iG:=SY hk2 hT.rm hT.RJ (k:=k) (e:=e) (b:=b) (X:=X) (M:=M) (by rw[hx];exact g1) (hK.same hk λi _=>g6.up _ O);have hs:=hT.rT (by rw[qz];omega) kind hk;have hw:=Ed hs.1.rm iG kind T.2.2 k.key;obtain⟨f1,f2,f3⟩:=SW T.1 kind k;have hl:pP (T.1.rT kind k)=pP s:=by unfold pP;rw[f1,g2]
  refine⟨hw.1,by rw[hw.2.1,hl];simp,hw.2.2.1.trans (f2.trans g3),?_,?_,?_,H⟩
  .rw[hw.2.2.2,f3];exact g6.bad
  .rw[hw.2.2.2,f3];exact g6.left
  .rw[hw.2.2.2,f3];exact g6.kl
 .rw[ah ct];refine⟨λq=>(by cases q),λ_=>?_⟩;show mL r s (T.1.back [x]) (e.body++X) M [];have r0:mL r s T.1 (x::(e.body++X)) M []:=⟨g1,by simp[pP,g2],g3,g6.bad,g6.left,g6.kl,H⟩;exact r0.trans (pQ (es:=[x]) hT.rm g1)
def Yi{e:cS}{x:Int×Int}(h2:0<=x.2/\x.2<=255):(e.kn x).exts=x::e.body:=by
 obtain⟨a,b⟩:=x;simp only at h2;show((a*256+b)/256,(a*256+b)%256)::e.body=(a,b)::e.body;rw[show(a*256+b)/256=a by omega,show(a*256+b)%256=b by omega]
def SZ{r c:Nat}(hc:c<=17000){s:St}(hB:Bd c s){X:eL}{M:jV}{kind:Int}(hk2:kind≠2){e:cS}{b:aF}(he:RL e)(h:kX r s (e.body++X) M)(hsz:e.size=b.length)(sx:e.sum=m8 0 b)(hoc:∃z,um s.D.now r e.body=b++List.replicate z 0):∃ds,((s.BD kind e).2.1=true->O9 r s (s.BD kind e).1 X M kind (e.uri++10::e.var) e b ds)/\((s.BD kind e).2.1≠true->mL r s (s.BD kind e).1 (e.body++X) M ds):=by
 obtain⟨ds,d,hkeep,aoh⟩:=S0 O hB h he.pl;obtain⟨h1,_⟩:=FA O hB (e:=e) he.pl;have hn:=uV he.pl;unfold St.BD;generalize s.kK e=Y at*;by_cases c1:Y.2.2=0
 .rw[ai c1]at d;rw[ai c1];obtain⟨g1,g2,g3,g4⟩:=h1 c1;have hrn:=g1.lM.rm.n;have hkk:=S2 he (x:=Y.2.1) O O;have hx:=Yi (e:=e) (x:=Y.2.1) O;have hr:(e.kn Y.2.1).gP=Y.2.1:=(List.cons.inj hx).1;obtain⟨z,hz⟩:=hoc;have ho:=sy (L:=s.D.now) (M:=Y.1.D.now) (r:=r) (λx hx=>by have:=he.body.bo x hx;omega) λi hi=>hkeep i (by rw[gW];exact cT hi (Fq ..));have hK:KD Y.1.D.now r (e.kn Y.2.1) e b:=⟨rfl,rfl,rfl,by rw[hr];exact g4,by rw[hr];exact aoh c1,hsz,sx,z,by rw[ho,hz]⟩;obtain⟨p1,p2⟩:=SX O g1 hk2 hkk hx d.h hK;exact⟨ds++[],λq=>d.put (p1 q),λq=>d.trans (p2 q)⟩
 .rw[ah c1]at d;rw[ah c1];exact⟨ds,λq=>(by cases q),λ_=>d⟩
def S3{r c:Nat}(hc:c<=17000){s:St}(hB:Bd c s){X:eL}{M:jV}{kind:Int}(hk2:kind≠2){e:cS}{b:aF}(he:RL e)(h:kX r s (e.body++X) M)(hsz:e.size=b.length)(sx:e.sum=m8 0 b)(hoc:∃z,um s.D.now r e.body=b++List.replicate z 0):∃ds,((s.sA kind e).2.1=true->O9 r s (s.sA kind e).1 X M kind (e.uri++10::e.var) e b ds)/\((s.sA kind e).2.1≠true->mL r s (s.sA kind e).1 (e.body++X) M ds):=by
 obtain⟨ds,d⟩:=FB (p:=dV) O hB h;unfold St.sA;by_cases c1:(s.o6 dV).2=0
 .rw[ai c1];obtain⟨z,hz⟩:=hoc;have ho:=sy (L:=s.D.now) (M:=(s.o6 dV).1.D.now) (r:=r) (l:=e.body) (λx hx=>by have:=he.body.bo x hx;omega) λi _=>d.D.up _ O;obtain⟨es,p1,p2⟩:=SZ hc (tH O hB c1) hk2 he d.h hsz sx ⟨z,by rw[ho,hz]⟩;exact⟨ds++es,λq=>d.runs.put (p1 q),λq=>d.runs.trans (p2 q)⟩
 .rw[ah c1];exact⟨ds,λq=>(by cases q),λ_=>d.runs⟩
theorem Yx(s:Nat)(a b:aF):m8 (m8 s a) b=m8 s (a++b):=by
 grind [m8,HN]
structure SD(r:Nat)(w:Sm)(e0:cS)(b:aF):Prop where
 e:∃l,w.e={e0 with size:=b.length,sum:=m8 0 b,body:=l}
 oc:um w.s.D.now r w.e.body=b.take (b.length/64*64)
 sum:mq w.e.body=((b.length/64:Nat):Int)
 rest:w.rest=b.drop (b.length/64*64)
 ended:w.ended=false
 kept:w.kept=false
def SD.write{r c:Nat}{w:Sm}{e0:cS}{a b:aF}{X:eL}{M:jV}(hw:HD c w b)(hs:SD r w e0 a)(h:kX r w.s (w.e.body++X) M):∃ds,((w.aQ b).2=0->mL r w.s (w.aQ b).1.s ((w.aQ b).1.e.body++X) M ds/\SD r (w.aQ b).1 e0 (a++b))/\((w.aQ b).2≠0->mL r w.s (w.aQ b).1.s X M ds):=by
 have hb:=hw.bn;have hr:=hw.rs;have hc:=hw.c;have hA:a.length/64*64<=a.length:=O;have e1:w.rest++b=(a++b).drop (a.length/64*64):=by rw[hs.rest,List.drop_append_of_le_length hA]
 have e2:(w.rest++b).length/64*64=(a++b).length/64*64-a.length/64*64:=by grind
 have e3:(w.rest++b).length/64*64<=(w.rest++b).length:=O;have hl:((w.rest++b).take ((w.rest++b).length/64*64)).length=(w.rest++b).length/64*64:=by grind
 have hn:(b9 ((w.rest++b).take ((w.rest++b).length/64*64))).length=(w.rest++b).length/64:=by grind [dJ]
 have hn2:(w.rest++b).length<=30064:=by grind
 obtain⟨ds,d,ho⟩:=yw (r:=r) (X:=X) (M:=M) (b9 ((w.rest++b).take ((w.rest++b).length/64*64))) (c:=c) O (w:=w.cnt b) hw.s hw.body h;have hf:=yx (b9 ((w.rest++b).take ((w.rest++b).length/64*64))) (w.cnt b);have hB:=(Fx hw).2.1.lM.rm;have hfl:=Kw (b:=(w.rest++b).take ((w.rest++b).length/64*64)) O;rw[hfl,hn]at ho;unfold Sm.aQ;have d:mL r w.s (w.got b).1.s ((w.got b).1.e.body++X) M ds:=d;have ho:(w.got b).2=0->um (w.got b).1.s.D.now r (w.got b).1.e.body=um w.s.D.now r w.e.body++(w.rest++b).take ((w.rest++b).length/64*64)/\mq (w.got b).1.e.body=mq w.e.body+(((w.rest++b).length/64:Nat):Int):=ho;have hf:Fix (w.cnt b) (w.got b).1:=hf;generalize w.got b=G at*;by_cases z:G.2=0
 .rw[ai z];refine⟨ds,λ_=>⟨d,?_⟩,λq=>absurd rfl q⟩;obtain⟨o1,o2⟩:=ho z;obtain⟨l0,he⟩:=hs.e;obtain⟨bd,hbd⟩:=hf.e;refine⟨⟨bd,?_⟩,?_,?_,?_,hf.ended.trans hs.ended,hf.kept.trans hs.kept⟩
  .grind [Sm.cnt,Yx]
  .show um G.1.s.D.now r G.1.e.body=_;have e4:a.take (a.length/64*64)=((a++b).take ((a++b).length/64*64)).take (a.length/64*64):=by
    grind
   rw[o1,hs.oc,e2,e1,<-xT,e4,eO]
  .show mq G.1.e.body=_;rw[o2,hs.sum]
   grind
  grind [List.drop_drop]
 .rw[ah z];exact⟨ds++[],λq=>absurd q z,λ_=>d.trans (pQ hB d.h)⟩
def SD.rl{r:Nat}{w:Sm}{e0:cS}{b:aF}(hs:SD r w e0 b):w.rest.length=b.length%64:=by rw[hs.rest,yz];omega
def cS.MB(e:cS)(o:Int)(b:aF)(l:eL):cS:={e with order:=o,size:=b.length,sum:=m8 0 b,body:=l}
def SD.tail{r c:Nat}{w:Sm}{e0:cS}{b:aF}{X:eL}{M:jV}(hB:Bd c w.s)(hc:c<=17000)(HB:qG w.e.body)(hs:SD r w e0 b)(h:kX r w.s (w.e.body++X) M):∃ds,mL r w.s w.cM.1.s (w.cM.1.e.body++X) M ds/\Bd (c+25) w.cM.1.s/\qG w.cM.1.e.body/\w.cM.1.ended=false/\w.cM.1.kept=false/\(∃o l,w.cM.1.e=e0.MB o b l)/\(w.cM.2=0->(∃l,w.cM.1.u9.e=e0.MB (w.s.ord+1) b l/\w.cM.1.e.body=l/\gF l b.length=true)/\Bd (c+1) w.cM.1.s/\∃z,um w.cM.1.s.D.now r w.cM.1.e.body=b++List.replicate z 0):=by
 have hrl:=hs.rl;have hn:(b9 w.rest).length<=1:=by rw[dJ];omega
 obtain⟨ds,d,ho⟩:=yw (r:=r) (X:=X) (M:=M) (b9 w.rest) (c:=c) O hB HB h;obtain⟨b1,b2,b3⟩:=sK (b9 w.rest) (c:=c) O hB HB;have hf:=yx (b9 w.rest) w;obtain⟨z,hz⟩:=Bo w.rest;have K0:=dJ w.rest;unfold Sm.cM;generalize eC (b9 w.rest) w=G at*;obtain⟨l0,he⟩:=hs.e;obtain⟨bd,hbd⟩:=hf.e;refine⟨ds,d,b2.up O,b3,hf.ended.trans hs.ended,hf.kept.trans hs.kept,⟨e0.order,bd,by rw[hbd,he];rfl⟩,λz0=>?_⟩;obtain⟨o1,o2⟩:=ho z0;have akd:G.1.e.body=bd:=by grind
 refine⟨⟨bd,?_,akd,?_⟩,(b1 z0).up O,z,?_⟩
 .unfold Sm.u9;simp only;rw[hbd,he,d.ord];rfl
 .have hr:=b2.lM.rm.n;unfold gF;rw[<-akd,bG,bG];refine⟨?_,U b3.bl,?_⟩
  .rw[gX];intro x hx;have:=d.h.ap.top x (by grind)
   grind [yA,wK]
  .rw[o2,hs.sum,K0,hrl]
   grind [Tr]
 .rw[o1,hs.oc,hz,hs.rest,<-cW,eO]
structure aos(r:Nat)(s u:St)(X:eL)(M:jV)(key:aF)(e:cS)(b:aF)(ds:List (aF)):Prop where
 h:kX r u X ((M.KF ds).put key e b)
 l:pP u=pP s++ds.map (λk=>((4:Int),k))++[(1,key)]
 ord:u.ord=s.ord+1
 bad:u.D.bad=s.D.bad
 left:s.D.left=-1->u.D.left=-1
 kl:u.D.kept.length=s.D.kept.length
 dk:∀x∈ds,x.length<=1000
def Bd.ord{c:Nat}{s:St}(h:Bd c s){o:Int}(ho:0<=o/\o<=1152921504606846976):Bd c {s with ord:=o}:=by
 obtain⟨t,q,h2,h3⟩:=h;exact⟨t,⟨q.D,q.J,q.jn,q.pn,q.sz,q.sl,q.rm,q.MS,q.OX,q.dR,q.RQ,q.ix,q.RJ,q.root,ho⟩,h2,h3⟩
structure ake(r c:Nat)(w:Sm)(e0:cS)(b:aF)(X:eL)(M:jV)(ds:List (aF)):Prop where
 bd:Bd (c+300) w.bq.1.s
 so:w.cM.1.s.ord=w.s.ord
 po:w.cM.2=0->w.cM.1.kq.1.ord=w.s.ord
 e:∃o l,qG l/\w.bq.1.e=e0.MB o b l
 kp:w.bq.1.kept=w.bq.2.1
 en:w.cM.1.ended=false
 y:w.bq.2.1=true->∃l,qG l/\gF l b.length=true/\w.bq.1.e=e0.MB (w.s.ord+1) b l/\aos r w.s w.bq.1.s X M (e0.uri++10::e0.var) (e0.MB (w.s.ord+1) b l) b ds
 n:w.bq.2.1≠true->mL r w.s w.bq.1.s X M ds
def SD.done{r c:Nat}{w:Sm}{e0:cS}{b:aF}{X:eL}{M:jV}(hB:Bd c w.s)(hc:c<=15000)(HB:qG w.e.body)(hs:SD r w e0 b)(h:kX r w.s (w.e.body++X) M)(ho:0<=w.s.ord/\w.s.ord<=1000000)(hE:∀l,qG l->gF l b.length=true->RL (e0.MB (w.s.ord+1) b l)):∃ds,ake r c w e0 b X M ds/\(w.cM.2=0->RL w.cM.1.u9.e):=by
 obtain⟨ds,d,hB2,aq7,hen,hkp,⟨o1,l1,vN⟩,hq⟩:=hs.tail hB O HB h;have Hl:w.cM.1.e.body=l1:=by rw[vN];rfl
 have hEE:w.cM.2=0->RL w.cM.1.u9.e:=λz=>by
  grind
 refine Exists.imp (λ_ q=>⟨q,hEE⟩) ?_;by_cases z:w.cM.2=0
 .have TJ:w.bq=w.cM.1.zI:=by grind [Sm.bq]
  obtain⟨⟨l,hl,Ft,hpl⟩,D7,hoc⟩:=hq z;have hE:=hEE z;have uk:qG l:=by grind
  have XC:w.cM.1.u9.e.body=w.cM.1.e.body:=rfl;obtain⟨es,p1,p2⟩:=S3 (r:=r) (kind:=1) O D7 (by decide) hE (X:=X) (M:=M.KF ds) (b:=b) (by rw[XC];exact d.h) (by rw[hl];rfl) (by rw[hl];rfl) (by grind);have hPb:=MT O D7 1 hE;have hdo:=d.ord;generalize hG:w.cM.1=G at*;have eP:G.s.sA 1 G.u9.e=G.kq:=rfl;rw[eP]at p1 p2 hPb;by_cases y:G.kq.2.1=true
  .have p:=d.put (p1 y);have hpo:G.kq.1.ord=w.s.ord:=p.ord;have eR:G.zI=({G.u9 with s:={G.kq.1 with ord:=G.kq.1.ord+1},ended:=true,kept:=true},true,G.kq.2.2):=by grind [Sm.zI]
   refine⟨ds++es,?_⟩;rw[hl]at p;refine⟨?_,by grind,λ_=>by grind,?_,?_,by grind,λ_=>?_,λq=>?_⟩
   .rw[TJ,eR];exact(hPb.ord O).up O
   .grind
   .grind
   .rw[TJ,eR];exact⟨l,uk,hpl,hl,⟨p.h.r0,p.h.J,p.h.jn,p.h.ap,p.h.data,p.h.keys⟩,p.l,by grind,p.bad,p.left,p.kl,p.dk⟩
   grind
  .have p:=d.trans (p2 y);have eR:G.zI=((G.u9.at G.kq.1).BV,false,G.kq.2.2):=by grind [Sm.zI]
   refine⟨(ds++es)++[],?_⟩;refine⟨?_,by grind,λ_=>by rw[hG];exact p.ord,?_,?_,by grind,λq=>?_,λ_=>?_⟩
   .rw[TJ,eR];exact(hPb.back _).up O
   .rw[TJ,eR];exact⟨_,l,uk,hl⟩
   .rw[TJ,eR];exact hkp
   .grind
   .rw[TJ,eR];exact p.trans (pQ hPb.lM.rm p.h)
 .have TJ:w.bq=(w.cM.1.BV,false,w.cM.2):=by grind [Sm.bq]
  refine⟨ds++[],?_⟩;refine⟨?_,d.ord,λq=>absurd q z,?_,?_,hen,λq=>?_,λ_=>?_⟩
  .rw[TJ];exact(hB2.back _).up O
  .rw[TJ];exact⟨o1,l1,by grind,vN⟩
  .rw[TJ];exact hkp
  .grind
  .rw[TJ];exact d.trans (pQ hB2.lM.rm d.h)
end Go.aL
namespace Go.aL
def fb(c:Nat):Nat:=if c%2=1 then(c/2)^^^3988292384 else c/2
def GI:Nat->Nat->Nat
 |0,c=>c
 |n+1,c=>fb (GI n c)
def Z4(a b:Nat):(a^^^b)%2=(a%2+b%2)%2:=by
 have h:=Nat.testBit_xor a b 0;simp only[Nat.testBit_zero]at h;have ha:=Nat.mod_two_eq_zero_or_one a;have hb:=Nat.mod_two_eq_zero_or_one b;have hc:=Nat.mod_two_eq_zero_or_one (a^^^b);rcases ha with ha|ha<;>rcases hb with hb|hb<;>rcases hc with hc|hc<;>simp[ha,hb,hc]at h⊢
def Vl(a b:Nat):(a^^^b)/2=(a/2)^^^(b/2):=by
 have h:=Nat.shiftRight_xor_distrib (a:=a) (b:=b) (i:=1);simpa[Nat.shiftRight_succ]using h
def afs(a b:Nat):fb (a^^^b)=fb a^^^fb b:=by
 unfold fb;rw[Z4,Vl];have ha:=Nat.mod_two_eq_zero_or_one a;have hb:=Nat.mod_two_eq_zero_or_one b;rcases ha with ha|ha<;>rcases hb with hb|hb<;>simp[ha,hb]
 .rw[Nat.xor_assoc]
 .rw[Nat.xor_assoc,Nat.xor_assoc,Nat.xor_comm 3988292384 (b/2)]
 .rw[Nat.xor_assoc,Nat.xor_comm 3988292384,Nat.xor_assoc,Nat.xor_self,Nat.xor_zero]
theorem NY:∀(n a b:Nat),GI n (a^^^b)=GI n a^^^GI n b
 |0,_,_=>rfl
 |n+1,a,b=>by unfold GI;rw[NY n,afs]
def Z5(a:Nat):a=(a/16*16)^^^(a%16):=by
 apply Nat.eq_of_testBit_eq;intro i;rw[Nat.testBit_xor,show(16:Nat)=2^4 from rfl,Nat.testBit_mul_two_pow,Nat.testBit_div_two_pow,Nat.testBit_mod_two_pow];by_cases h:4<=i
 .have h2:¬i<4:=O;rw[show i-4+4=i by omega];simp[h,h2]
 .have h2:i<4:=O;simp[h,h2]
def GJ(m:Nat):fb (2*m)=m:=by
 unfold fb;rw[if_neg O];omega
def afu(m:Nat):GI 4 (m*16)=m:=by
 show fb (fb (fb (fb (m*16))))=m;rw[show m*16=2*(2*(2*(2*m))) by omega,GJ,GJ,GJ,GJ]
def afv:∀r,r<16->GI 4 r=Go.Av.nK.getD r 0:=by decide
def fb4(a:Nat):GI 4 a=Pr a:=by
 unfold Pr
 conv=>lhs;rw[Z5 a]
 rw[NY,afu,afv _ (Nat.mod_lt _ O)]
theorem NZ(m:Nat):∀(n a:Nat),GI (n+m) a=GI n (GI m a)
 |0,a=>by rw[Nat.zero_add];rfl
 |n+1,a=>by rw[show n+1+m=(n+m)+1 by omega];unfold GI;rw[NZ m n]
def fb8(c:Nat)(x:UInt8):GI 8 (c^^^x.toNat)=Ia c x:=by
 unfold Ia;rw[show 8=4+4 from rfl,NZ,fb4,fb4]
def akL{c:Nat}(h:c<4294967296):fb c<4294967296:=by
 unfold fb;split
 .exact Nat.xor_lt_two_pow (n:=32) O O
 .omega
theorem Vm:∀(n:Nat) {c:Nat},c<4294967296->GI n c<4294967296
 |0,_,h=>h
 |n+1,_,h=>akL (Vm n h)
end Go.aL
namespace Go.Av
open Go.Proofs Go.Proofs.Tryz Go.aL
def afw(b:aF)(hb:b.length<=1000000000000):cq 202 [cK b] (kR (m8 0 b)):=by
 have h0:(4294967295:Nat)<4294967296:=O;refine ay [_] func202 rfl ?_;simp;refine bI (λk:Nat=>k<=b.length) (λk=>[(0,.p (cK b)),(4,.p (.int k)),(3,.p (kR (m9 4294967295 (b.take k))))]) (λk=>b.length-k) 0 H (aB (by simp[m9])) ?_;intro k hk;by_cases ck:k<b.length
 .have hC:m9 4294967295 (b.take k)<4294967296:=wU h0 _;generalize hCe:m9 4294967295 (b.take k)=C at hC;have hn:m9 4294967295 (b.take (k+1))=Ia C b[k]:=by rw[kG ck,Ek,hCe]
  generalize hx:b[k]=x at hn;have hxl:=x.toNat_lt;have wk:=ju k;have hw:IntKind.u32.wrap (x.toNat:Int)=(x.toNat:Int):=vl O;have afx:=zQ (a:=C) (b:=x.toNat) hC O;have hX:C^^^x.toNat<4294967296:=sP (n:=32) O O;simp[ck,eX,hCe,hx,hw,afx];refine bI (λj:Nat=>j<=8) (λj=>[(0,.p (cK b)),(4,.p (.int k)),(5,.p (.int j)),(3,.p (kR (GI j (C^^^x.toNat))))]) (λj=>8-j) 0 H (aB (by simp[GI])) ?_;intro j hj;by_cases cj:j<8
  .have cj':(j:Int)<8:=O;have wj:=ju j;have hY:=Vm j hX;have hS:GI (j+1) (C^^^x.toNat)=fb (GI j (C^^^x.toNat)):=rfl;generalize GI j (C^^^x.toNat)=Y at*;have t1:(Y:Int).tmod 2=((Y%2:Nat):Int):=by rw[sk O];omega
   have t2:(Y:Int).tdiv 2=((Y/2:Nat):Int):=by rw[FQ O];omega
   have u1:IntKind.u32.wrap ((Y%2:Nat):Int)=((Y%2:Nat):Int):=vl O;have u2:IntKind.u32.wrap ((Y/2:Nat):Int)=((Y/2:Nat):Int):=vl O;have u3:IntKind.u32.wrap ((Y:Int)/2)=(Y:Int)/2:=u2;have XF:=zQ (a:=Y/2) (b:=3988292384) O O;by_cases co:Y%2=1
   .have hfb:fb Y=(Y/2)^^^3988292384:=by unfold fb;rw[ai co]
    have c1:(((Y:Int)%2)==1)=true:=by
     have:(Y:Int)%2=1:=O;simp[this]
    have hx3:bits .xor .u32 ((Y:Int)/2) 3988292384=((fb Y:Nat):Int):=by rw[hfb,<-XF];congr 1
    simp[cj',t1,t2,u1,u2,c1,hx3];exact⟨j+1,O,O,aB (by simp[hS,wj,u3,hx3])⟩
   .have hfb:fb Y=Y/2:=by unfold fb;rw[ah co]
    have c1:(((Y:Int)%2)==1)=false:=by
     have:(Y:Int)%2=0:=O;simp[this]
    simp[cj',t1,t2,u1,u2,c1];exact⟨j+1,O,O,aB (by simp[hS,wj,hfb,u3])⟩
  .obtain rfl:j=8:=O;have e8:=fb8 C x;simp[e8];exact⟨k+1,O,O,aB (by simp[hn,wk])⟩
 .obtain rfl:k=b.length:=O;have hC:m9 4294967295 b<4294967296:=wU h0 _;have afx:=zQ (a:=m9 4294967295 b) (b:=4294967295) hC O;have hm:m8 0 b=m9 4294967295 b^^^4294967295:=by unfold m8;simp
  rw[hm];rw[eH];simp[results202];exact afx.symm
end Go.Av
namespace Go.aL
open Go.Av
structure Hd where
 key:aF
 e:cS
 b:aF
def Fo(l:List (aF×aF)):Nat:=(l.map λf=>f.1.length+f.2.length).sum
def Hd.cost(h:Hd):Nat:=64+h.key.length+h.b.length+Fo h.e.fields
def cO(l:List Hd):Nat:=(l.map Hd.cost).sum
structure dM where
 d_:Int
 share:Int
 aK:List Hd
 rest:List Hd
structure DE(h:Hd):Prop where
 key:h.key.length<=100000
 b:h.b.length<=2000000
 nl:h.e.names.length<=100000
 fl:h.e.fields.length<=100000
 fc:Fo h.e.fields<=100000000
 bl:h.e.body.length<=100000
structure DQ(c:dM):Prop where
 n:c.aK.length<=1000/\c.rest.length<=1000
 t:∀h∈c.aK,DE h
 r:∀h∈c.rest,DE h
end Go.aL
namespace Go.Av
open Go.Proofs Go.Proofs.Tryz Go.aL
abbrev k8(h:Hd):PC:= .agg false [.str h.key,.str h.e.uri,.sl (h.e.names.map PC.str),.str h.e.var,.str h.e.st.m,.str h.e.st.t,.int h.e.st.st,.str h.e.st.r,.int h.e.st.mi,.sl (h.e.fields.map oL),.int h.e.asked,.int h.e.got,.int h.e.order,.int h.e.size,kR h.e.sum,.sl (h.e.body.map dO),cK h.b]
def CW(h:Hd):List PC:=[.str h.key,.str h.e.uri,.sl (h.e.names.map PC.str),.str h.e.var,.str h.e.st.m,.str h.e.st.t,.int h.e.st.st,.str h.e.st.r,.int h.e.st.mi,.sl (h.e.fields.map oL),.int h.e.asked,.int h.e.got,.int h.e.order,.int h.e.size,kR h.e.sum,.sl (h.e.body.map dO),cK h.b]
def yM(l:List Hd):List PC:=l.flatMap CW
def qh(x:Hd)(l:List Hd):yM (x::l)=CW x++yM l:=rfl
def Ge(a b:List Hd):yM (a++b)=yM a++yM b:=by simp[yM]
@[simp]def am4(l:List Hd):(yM l).length=l.length*17:=by
 induction l with
 |nil=>rfl
 |cons x l ih=>rw[qh,mo,ih];simp[CW];omega
def aad(l:List Hd):(l.map k8).flatMap bA=(yM l).map AV.p:=by
 induction l with
 |nil=>rfl
 |cons x l ih=>rw[dB,cU,ih,qh,jB];rfl
theorem T5:∀(l:List Hd) (i:Nat),(yM l).take (i*17)=yM (l.take i)
 |[],i=>by simp[yM]
 |x::l,0=>by simp[yM]
 |x::l,i+1=>by
  have hx:(CW x).length=17:=rfl;rw[qh,BZ,hx,gv O,show(i+1)*17-17=i*17 by omega,T5 l i,jH,qh]
theorem M6:∀(l:List Hd) (i:Nat),(yM l).drop (i*17)=yM (l.drop i)
 |[],i=>by simp[yM]
 |x::l,0=>H
 |x::l,i+1=>by
  have hx:(CW x).length=17:=rfl;rw[qh,qU,hx,gM O,show(i+1)*17-17=i*17 by omega,M6 l i,gJ,o3]
def Y7{l:List Hd}{i:Nat}(h:i<l.length):((yM l).drop (i*17)).take 17=CW l[i]:=by
 rw[M6,eK h,qh,BZ];have hx:(CW l[i]).length=17:=rfl;rw[hx,gv O];simp
@[reducible]def Pu(l:List Hd):Ob:=⟨119,17,(yM l).map .p⟩
def T4(bx:List (Nat×Ob))(k id:Nat)(l:List Hd)(h:lk id bx=some (Pu l)):dA bx (k+1) (.view id 0 l.length 17 none) (.sl (l.map k8)):=by
 refine⟨_,h,O,H,by simp[Pu],?_,?_,?_⟩
 .rw[aad];simp only[sQ,jx,Pu];exact gv H
 .intro y hy;obtain⟨x,_,rfl⟩:=bE.1 hy;rfl
 .intro y hy;obtain⟨x,_,rfl⟩:=bE.1 hy;rfl
def T3(h:Hd)(key:aF):cq 291 [k8 h,.ref (.str key)] (.bool (h.key==key)):=by
 refine ay [_] func291 rfl ?_;simp[results291]
def T0(g:FuncId)(caps:List PC)(p:Hd->Bool)(l:List (Hd))(hl:l.length<=1000000000000)(hg:∀x∈l,cq g (k8 x::caps) (.bool (p x))):cq 290 [.sl (l.map k8),.fn (.func g) caps] (.int (dz p l)):=by
 refine ay [_] func290 rfl ?_;obtain⟨R,hR⟩:=mH (dz p l);rw[<-hR];simp;refine bI (λi:Nat=>i<=l.length/\∀x∈l.take i,p x=false) (λi=>[(0,.p (.sl (l.map k8))),(1,.p (.fn (.func g) caps)),(7,.p (.int l.length)),(8,.p (.int i))]) (λi=>l.length-i) 0 ⟨H,H⟩ (aB H) ?_;rintro i ⟨g1,g2⟩;have hf:=oB p l i g2 g1;rw[<-hR]at hf;by_cases ci:i<l.length
 .have wi:=ju i;rw[eK ci]at hf;simp only[dz]at hf;simp[ci];refine cm (hg l[i] (bB ci)) ?_;cases hp:p l[i]with
  |true=>
   simp[hp]at hf;simp[hf,results290]
  |false=>
   simp[wi];refine⟨i+1,⟨O,λx hx=>?_⟩,O,aB H⟩;rw[kG ci,lD]at hx;rcases hx with hx|hx
   .exact g2 _ hx
   .simp at hx;rw[hx];exact hp
 .rw[vf O]at hf;simp[dz]at hf;simp[ci,hf,results290]
def aae:eE prog 205:=⟨Tryz.f205,func205,bp,bp⟩
def VE(nx:Nat)(xs:List PC)(hw:∀x∈xs,x.width=2)(ht:∀x∈xs,cE x=true)(hb:xs.length<=1000000000000):bN 205 [.p (.sl xs)] ⟨[],[],nx⟩ (.view nx 0 xs.length 2 none) ⟨[(nx,⟨157,2,(xs.flatMap fM).map .p⟩)],[],nx+1⟩:=by
 refine qM (pre:=[]) (post:=[]) aae ?_ ?_
 .rintro rfl;refine eT (r:= .p .nil) (a_:=⟨[],[],nx⟩) (el:=157) (s:=2) ?_ trivial;refine aq [.p .nil] [7] [] [] func205 rfl ?_;simp[results205];exact⟨[],H⟩
 .refine aq [_] [7] [] [] func205 rfl ?_;simp[results205];refine⟨hw,ht,O,O,[],?_⟩;simp
def EJ(xs:eL)(hb:xs.length<=1000000000000):cq 205 [.sl (xs.map dO)] (.sl (xs.map dO)):=by
 have hw:∀x∈xs.map dO,x.width=2:=by intro y hy;obtain⟨x,_,rfl⟩:=bE.1 hy;rfl
 have ht:∀x∈xs.map dO,cE x=true:=by intro y hy;obtain⟨x,_,rfl⟩:=bE.1 hy;rfl
 have h:=VE 0 (xs.map dO) hw ht (U hb);have e:(xs.map dO).flatMap bA=((xs.map dO).flatMap fM).map AV.p:=by
  clear h hw ht hb
  induction xs with
  |nil=>rfl
  |cons c l ih=>rw[dB,cU,cU,jB,ih];rfl
 have e2:((xs.map dO).flatMap fM).length=xs.length*2:=by
  clear h hw ht e hb
  induction xs with
  |nil=>rfl
  |cons c l ih=>rw[dB,cU,mo,ih];simp[fM];omega
 have hp:=nO h (ob:=⟨157,2,((xs.map dO).flatMap fM).map .p⟩) (ys:=xs.map dO) H rfl O (by simp[e2]) (by rw[e];exact gv (by simp[e2])) H hw ht;exact bF (xs:=[_]) hp ⟨_,rfl,.inl rfl⟩
def VF(l:List (aF×aF))(f:aF×aF):Fo (l++[f])=Fo l+(f.1.length+f.2.length):=by simp[Fo]
def VG(l:List (aF×aF))(k:Nat):Fo (l.take k)<=Fo l:=by
 simp only[Fo,fG];exact eD _ _
def wV(h:Hd)(hh:DE h):cq 211 [k8 h] (.int h.cost):=by
 obtain⟨h1,h2,h3,h4,h5,h6⟩:=hh;have w1:IntKind.i64.wrap (64+(h.key.length:Int))=64+h.key.length:=aG;have w2:IntKind.i64.wrap (64+(h.key.length:Int)+h.b.length)=64+h.key.length+h.b.length:=aG;unfold Hd.cost;refine ay [_] func211 rfl ?_;simp[w1,w2];generalize h.e.fields=l at*;generalize h.key.length=a at*;generalize h.b.length=b at*;refine bI (λk:Nat=>k<=l.length) (λk=>[(16,.p (.sl (l.map oL))),(17,.p (.int l.length)),(18,.p (.int k)),(3,.p (.int (64+a+b+Fo (l.take k))))]) (λk=>l.length-k) 0 H (aB (by simp[Fo])) ?_;intro k hk;by_cases ck:k<l.length
 .have hts:Fo (l.take (k+1))=Fo (l.take k)+(l[k].1.length+l[k].2.length):=by rw[kG ck,VF]
  have b1:=VG l (k+1);have wk:=ju k;have w3:IntKind.i64.wrap ((l[k].1.length:Int)+l[k].2.length)=l[k].1.length+l[k].2.length:=aG;have w4:IntKind.i64.wrap (64+(a:Int)+b+Fo (l.take k)+(l[k].1.length+l[k].2.length))=64+a+b+Fo (l.take (k+1)):=by rw[aG,hts];omega
  simp[ck,wk,w3,w4];exact⟨k+1,O,O,aB H⟩
 .obtain rfl:k=l.length:=O;simp[results211]
def yL(h:Hd)(hh:DE h):cq 210 [k8 h] (k8 h):=by
 have c1:=CX h.e.names (by have:=hh.nl;omega);have c2:=CY h.e.fields (by have:=hh.fl;omega);have c3:=EJ h.e.body (by have:=hh.bl;omega);have c4:=kM h.b (by have:=hh.b;omega);refine dK [_] [1] [(1,[(2,.r 1),(3,.w [1]),(6,.r 1),(7,.w [1]),(10,.r 1),(11,.w [1]),(13,.r 1),(14,.w [1]),(17,.s 1 []),(20,.s 1 []),(23,.s 1 []),(25,.s 1 [])])] [(1,0)] func210 rfl ?_;simp;refine cm c1 ?_;simp;refine cm c2 ?_;simp;refine cm c3 ?_;simp;refine cm c4 ?_;simp[results210]
def Y8:eE prog 292:=⟨Tryz.f292,func292,bp,bp⟩
def Em(nx id:Nat)(hid:id<nx)(cs:List PC)(n i j:Nat)(hn:cs.length=n*17)(hij:i<=j)(hj:j<=n)(hb:n<=1000000000000):bN 292 [.view id 0 n 17 none,.p (.int i),.p (.int j)] ⟨[(id,⟨119,17,cs.map .p⟩)],[],nx⟩ (.view nx 0 (n-(j-i)) 17 none) ⟨[(nx,⟨119,17,(cs.take (i*17)++cs.drop (j*17)).map .p⟩)],[],nx+1⟩:=by
 have hne:¬id=nx:=O;have fE:¬nx=id:=O;have kW:(cs.map AV.p).length=n*17:=by simp;omega
 refine iX (pre:=[]) (post:=[_,_]) Y8 (λc h1 h2 h3=>?_) ?_
 .refine aq [_] [] [(5,[(6,.w [])])] [] func292 rfl ?_;generalize hA:cs.map AV.p=A at*;by_cases c0:i=j
  .subst c0;have hd:List.take (i*17) A++List.drop (i*17) A=A:=eO _ _;simp[results292,hne,fE];exact⟨hj,[(nx,id)],by simp[hA]⟩
  .have e0:((i:Int)==(j:Int))=false:=by rw[kC];omega
   have t1:((i:Int)+((n-j:Nat):Int)).toNat=i+(n-j):=O;have key:∀R,List.take ((i+(n-j))*17) (List.take (i*17) A++(List.take ((n-j)*17) (List.drop (j*17) A)++R))=List.take (i*17) A++List.drop (j*17) A:=λR=>by
    have:=wW (R:=R) (n:=n*17) (i:=i*17) (j:=j*17) (k:=(i+(n-j))*17) kW O O O;rw[<-Nat.sub_mul]at this;exact this
   simp[e0,t1,results292,hne,fE]
   repeat' refine And.intro ?_ ?_
   all_goals first|omega|skip
   refine .inl ?_
   repeat' refine And.intro ?_ ?_
   all_goals first|omega|(simp;omega)|skip
   refine⟨[(nx,id)],?_⟩;simp[hA,key];omega
 .intro hn0;have Ho:i=0:=O;have hj0:j=0:=O;have hc0:cs=[]:=o5 O;subst Ho;subst hj0;subst hc0;subst hn0;refine eT (r:= .full []) (a_:=⟨[],[],nx⟩) (el:=119) (s:=17) ?_ trivial;refine aq [_] [] [(5,[(6,.w [])])] [] func292 rfl ?_;simp[results292]
  repeat' refine And.intro ?_ ?_
  all_goals first|omega|exact⟨[],H⟩|simp
end Go.Av
namespace Go.aL
open Go.Av
def tK(a b:List Hd):cO (a++b)=cO a+cO b:=by simp[cO]
def Ic{l:List Hd}{i:Nat}(hi:i<l.length):cO l=cO (l.take i++l.drop (i+1))+l[i].cost:=by
 have h:l=l.take i++l[i]::l.drop (i+1):=by rw[<-eK hi,eO]
 conv=>lhs;rw[h]
 rw[tK,tK];simp only[cO,dB,List.sum_cons];omega
def K_{h:Hd}(hh:DE h):h.cost<=200000000:=by
 obtain⟨h1,h2,h3,h4,h5,h6⟩:=hh;unfold Hd.cost;omega
theorem rj:∀(l:List Hd),(∀h∈l,DE h)->cO l<=200000000*l.length
 |[],_=>by simp[cO]
 |x::l,h=>by
  have h1:=rj l λy hy=>h y (by simp[hy]);have h2:=K_ (h x H);have h3:cO (x::l)=x.cost+cO l:=by simp[cO]
  rw[h3,cF];omega
def uq(key:aF)(h:Hd):Bool:=h.key==key
end Go.aL
namespace Go.Av
open Go.Proofs Go.Proofs.Tryz Go.aL
@[reducible]def lcO(r1 r2:Nat)(c:dM):Ob:=⟨310,6,[.p (.int c.d_),.p (.int c.share),.view r1 0 c.aK.length 17 none,.p (.int (cO c.aK)),.view r2 0 c.rest.length 17 none,.p (.int (cO c.rest))]⟩
def cN(r1 r2:Nat)(c:dM):List (Nat×Ob):=[(0,lcO r1 r2 c),(r1,Pu c.aK),(r2,Pu c.rest)]
def TY{l:List Hd}{i:Nat}(hi:i<l.length){h:Hd}(hh:l[i]=h):List.take 17 (List.drop (i*17) (List.map AV.p (yM l)))=[.p (.str h.key),.p (.str h.e.uri),.p (.sl (h.e.names.map PC.str)),.p (.str h.e.var),.p (.str h.e.st.m),.p (.str h.e.st.t),.p (.int h.e.st.st),.p (.str h.e.st.r),.p (.int h.e.st.mi),.p (.sl (h.e.fields.map oL)),.p (.int h.e.asked),.p (.int h.e.got),.p (.int h.e.order),.p (.int h.e.size),.p (kR h.e.sum),.p (.sl (h.e.body.map dO)),.p (cK h.b)]:=by
 rw[<-jG,<-fG,Y7 hi,hh];rfl
def M5(l:List Hd)(h:Hd):List.map AV.p (yM (l++[h]))=List.map AV.p (yM l)++[.p (.str h.key),.p (.str h.e.uri),.p (.sl (h.e.names.map PC.str)),.p (.str h.e.var),.p (.str h.e.st.m),.p (.str h.e.st.t),.p (.int h.e.st.st),.p (.str h.e.st.r),.p (.int h.e.st.mi),.p (.sl (h.e.fields.map oL)),.p (.int h.e.asked),.p (.int h.e.got),.p (.int h.e.order),.p (.int h.e.size),.p (kR h.e.sum),.p (.sl (h.e.body.map dO)),.p (cK h.b)]:=by
 rw[Ge,jB];rfl
def B8(c:dM)(hl:c.aK.length<=1000)(key:aF):bN 207 [.obj 0 2,.p (.str key)] ⟨cN 1 2 c,[],3⟩ (.p (.int (dz (uq key) c.aK))) ⟨cN 1 2 c,[],3⟩:=by
 have hx:=T0 291 [.ref (.str key)] (uq key) c.aK O (λx _=>T3 x key);refine aC [_] func207 rfl ?_;simp[cN];refine tJ 1 hx ⟨T4 _ 0 1 c.aK (by simp[lk]),⟨_,rfl,.inl rfl⟩,trivial⟩ rfl ?_;simp[-az,results207];exact⟨[],H⟩
def wT(c:dM)(hc:DQ c)(i:Nat)(hi:i<c.aK.length):bN 208 [.obj 0 2,.p (.int i)] ⟨cN 1 2 c,[],3⟩ (.p (k8 c.aK[i])) ⟨cN 3 2 {c with aK:=c.aK.take i++c.aK.drop (i+1)},[],4⟩:=by
 obtain⟨l,hl⟩:=lT (c.aK);have hn:=hc.n;have ho:=hc.t;rw[hl]at hn ho;have hi':i<l.length:=by rw[<-hl];exact hi
 obtain⟨h,hh⟩:=lT (l[i]);have XR:c.aK[i]=h:=by
  have:∀(q:List Hd) (e:q=l) (hq:i<q.length),q[i]=h:=by rintro q rfl hq;exact hh
  exact this _ hl hi
 rw[XR,hl];have nE:=TY hi' hh;have hcs:=Ic hi';rw[hh]at hcs;have hcb:=rj l ho;have Cb:=wV h (ho h (by rw[<-hh];exact bB hi'));have FO:=Em 1 0 O (yM l) l.length i (i+1) H O O O;rw[T5,M6,<-Ge]at FO;have Yj:l.length-(i+1-i)=(l.take i++l.drop (i+1)).length:=by simp;omega
 rw[Yj]at FO;generalize l.take i++l.drop (i+1)=L2 at*;have w1:=ju i;have w2:IntKind.i64.wrap ((cO l:Int)-h.cost)=cO L2:=by rw[aG];omega
 have hle:i*17+17<=l.length*17:=O;refine aq [_] [] [(3,[(3,.r 1),(4,.r 2),(5,.w [1,2]),(9,.s 1 [])])] [(1,0),(2,4)] func208 rfl ?_;simp[cN,hl,hi',hle,nE,w1];refine Dy [1] FO ?_;simp;refine cm Cb ?_;simp[-az,hl,w2,results208];exact⟨[(3,5)],H⟩
def B_(c:dM)(hc:DQ c)(h:Hd)(hh:DE h):bN 209 [.obj 0 2,.p (k8 h)] ⟨cN 1 2 c,[],3⟩ (.agg true []) ⟨cN 3 2 {c with aK:=c.aK++[h]},[],4⟩:=by
 have hn:=hc.n;have hcb:=rj c.aK hc.t;have hch:=K_ hh;have Cb:=wV h hh;have h1:cO (c.aK++[h])=cO c.aK+h.cost:=by rw[tK];simp[cO]
 have w2:IntKind.i64.wrap ((cO c.aK:Int)+h.cost)=cO c.aK+h.cost:=aG;have lF:List.take (c.aK.length*17) (List.map AV.p (yM c.aK))=List.map AV.p (yM c.aK):=gv H;refine aq [] [] [(1,[(4,.r 1),(7,.w [1]),(10,.s 1 [])]),(2,[(3,.r 1),(5,.w [1]),(9,.s 1 [])])] [(1,0)] func209 rfl ?_;simp[cN]
 repeat' refine And.intro ?_ ?_
 all_goals first|omega|skip
 refine cm Cb ?_;simp[-az,w2,results209];exact⟨[],by simp[M5,h1,lF]⟩
def Ca(c:dM)(hl:c.rest.length<=1000)(key:aF):bN 207 [.obj 0 4,.p (.str key)] ⟨cN 1 2 c,[],3⟩ (.p (.int (dz (uq key) c.rest))) ⟨cN 1 2 c,[],3⟩:=by
 have hx:=T0 291 [.ref (.str key)] (uq key) c.rest O (λx _=>T3 x key);refine aC [_] func207 rfl ?_;simp[cN];refine tJ 1 hx ⟨T4 _ 0 2 c.rest (by simp[lk]),⟨_,rfl,.inl rfl⟩,trivial⟩ rfl ?_;simp[-az,results207];exact⟨[],H⟩
def pY(c:dM)(hc:DQ c)(i:Nat)(hi:i<c.rest.length):bN 208 [.obj 0 4,.p (.int i)] ⟨cN 1 2 c,[],3⟩ (.p (k8 c.rest[i])) ⟨cN 1 3 {c with rest:=c.rest.take i++c.rest.drop (i+1)},[],4⟩:=by
 obtain⟨l,hl⟩:=lT (c.rest);have hn:=hc.n;have ho:=hc.r;rw[hl]at hn ho;have hi':i<l.length:=by rw[<-hl];exact hi
 obtain⟨h,hh⟩:=lT (l[i]);have XR:c.rest[i]=h:=by
  have:∀(q:List Hd) (e:q=l) (hq:i<q.length),q[i]=h:=by rintro q rfl hq;exact hh
  exact this _ hl hi
 rw[XR,hl];have nE:=TY hi' hh;have hcs:=Ic hi';rw[hh]at hcs;have hcb:=rj l ho;have Cb:=wV h (ho h (by rw[<-hh];exact bB hi'));have FO:=Em 1 0 O (yM l) l.length i (i+1) H O O O;rw[T5,M6,<-Ge]at FO;have Yj:l.length-(i+1-i)=(l.take i++l.drop (i+1)).length:=by simp;omega
 rw[Yj]at FO;generalize l.take i++l.drop (i+1)=L2 at*;have w1:=ju i;have w2:IntKind.i64.wrap ((cO l:Int)-h.cost)=cO L2:=by rw[aG];omega
 have hle:i*17+17<=l.length*17:=O;refine aq [_] [] [(3,[(3,.r 1),(4,.r 2),(5,.w [1,2]),(9,.s 1 [])])] [(1,0),(2,4)] func208 rfl ?_;simp[cN,hl,hi',hle,nE,w1];refine Dy [2] FO ?_;simp;refine cm Cb ?_;simp[-az,hl,w2,results208];exact⟨[(3,5)],H⟩
def B9(c:dM)(hc:DQ c)(h:Hd)(hh:DE h):bN 209 [.obj 0 4,.p (k8 h)] ⟨cN 1 2 c,[],3⟩ (.agg true []) ⟨cN 1 3 {c with rest:=c.rest++[h]},[],4⟩:=by
 have hn:=hc.n;have hcb:=rj c.rest hc.r;have hch:=K_ hh;have Cb:=wV h hh;have h1:cO (c.rest++[h])=cO c.rest+h.cost:=by rw[tK];simp[cO]
 have w2:IntKind.i64.wrap ((cO c.rest:Int)+h.cost)=cO c.rest+h.cost:=aG;have lF:List.take (c.rest.length*17) (List.map AV.p (yM c.rest))=List.map AV.p (yM c.rest):=gv H;refine aq [] [] [(1,[(4,.r 1),(7,.w [1]),(10,.s 1 [])]),(2,[(3,.r 1),(5,.w [1]),(9,.s 1 [])])] [(1,0)] func209 rfl ?_;simp[cN]
 repeat' refine And.intro ?_ ?_
 all_goals first|omega|skip
 refine cm Cb ?_;simp[-az,w2,results209];exact⟨[],by simp[M5,h1,lF]⟩
def K6(c:dM):bN 206 [.obj 0 0] ⟨cN 1 2 c,[],3⟩ (.view 3 0 2 1 none) ⟨(3,⟨315,1,[.obj 0 2,.obj 0 4]⟩)::cN 1 2 c,[],4⟩:=by
 refine qL (rs:=[_]) [9] [] [] [(1,(.br 0 (.br 1 (.br 2 (.br 3 (.br 4 (.br 5 (.br 6 (.br 7 .lf .lf) .lf) .lf) .lf) .lf) (.br 3 (.br 2 (.br 4 (.br 5 (.br 6 (.br 7 .lf .lf) .lf) .lf) .lf) (.br 4 (.br 2 (.br 5 (.br 6 (.br 7 .lf .lf) .lf) .lf) (.br 5 (.br 2 (.br 6 (.br 7 .lf .lf) .lf) .lf) .lf)) .lf)) .lf)) (.br 3 (.br 1 (.br 2 (.br 4 (.br 5 (.br 6 (.br 7 .lf .lf) .lf) .lf) .lf) (.br 4 (.br 2 (.br 5 (.br 6 (.br 7 .lf .lf) .lf) .lf) (.br 5 (.br 2 (.br 6 (.br 7 .lf .lf) .lf) .lf) .lf)) .lf)) (.br 4 (.br 1 (.br 2 (.br 5 (.br 6 (.br 7 .lf .lf) .lf) .lf) (.br 5 (.br 2 (.br 6 (.br 7 .lf .lf) .lf) .lf) .lf)) (.br 5 (.br 1 (.br 2 (.br 6 (.br 7 .lf .lf) .lf) .lf) .lf) .lf)) .lf)) .lf)) (.br 3 (.br 0 (.br 1 (.br 2 (.br 4 (.br 5 (.br 6 (.br 7 .lf .lf) .lf) .lf) .lf) (.br 4 (.br 2 (.br 5 (.br 6 (.br 7 .lf .lf) .lf) .lf) (.br 5 (.br 2 (.br 6 (.br 7 .lf .lf) .lf) .lf) .lf)) .lf)) (.br 4 (.br 1 (.br 2 (.br 5 (.br 6 (.br 7 .lf .lf) .lf) .lf) (.br 5 (.br 2 (.br 6 (.br 7 .lf .lf) .lf) .lf) .lf)) (.br 5 (.br 1 (.br 2 (.br 6 (.br 7 .lf .lf) .lf) .lf) .lf) .lf)) .lf)) (.br 4 (.br 0 (.br 1 (.br 2 (.br 5 (.br 6 (.br 7 .lf .lf) .lf) .lf) (.br 5 (.br 2 (.br 6 (.br 7 .lf .lf) .lf) .lf) .lf)) (.br 5 (.br 1 (.br 2 (.br 6 (.br 7 .lf .lf) .lf) .lf) .lf) .lf)) (.br 5 (.br 0 (.br 1 (.br 2 (.br 6 (.br 7 .lf .lf) .lf) .lf) .lf) .lf) .lf)) .lf)) .lf)))] mixed func206 rfl bp bp (by simp[ntmps206]) rfl ?_;simp[cN,-az,results206];exact⟨[],H⟩
def M7(c:dM)(hc:DQ c):bN 136 [.obj 0 0] ⟨cN 1 2 c,[],3⟩ (.p (.int (cO c.aK+cO c.rest))) ⟨cN 1 2 c,[],3⟩:=by
 have h1:=rj c.aK hc.t;have h2:=rj c.rest hc.r;have hn:=hc.n;have w2:IntKind.i64.wrap ((cO c.aK:Int)+cO c.rest)=cO c.aK+cO c.rest:=aG;refine aq [_] [] [(1,[(4,.r 1),(9,.r 1)])] [(1,0)] func136 rfl ?_;simp[-az,cN,w2,results136];exact⟨[],H⟩
end Go.Av
namespace Go.aL
open Go.Av
def iz(l:List Hd)(key:aF):Option Nat:=if 0<=dz (uq key) l then some (dz (uq key) l).toNat else none
theorem J5{α:Type}(p:α->Bool):∀(l:List α),0<=dz p l->∃h:(dz p l).toNat<l.length,p (l[(dz p l).toNat])=true
 |[],h=>by simp[dz]at h
 |a::l,h=>by
  by_cases c:p a=true
  .have e:dz p (a::l)=0:=by simp[dz,c]
   refine⟨by rw[e];simp,?_⟩;have:∀(x:Int) (hx:x=0) (hl:x.toNat<(a::l).length),(a::l)[x.toNat]=a:=by rintro x rfl hl;rfl
   rw[this _ e];exact c
  .have h':dz p (a::l)=if dz p l<0 then-1 else dz p l+1:=by simp[dz,c]
   by_cases d:dz p l<0
   .rw[h',ai d]at h;omega
   .rw[ah d]at h';obtain⟨h1,h2⟩:=J5 p l O;have e:(dz p (a::l)).toNat=(dz p l).toNat+1:=by rw[h'];omega
    refine⟨by rw[e];simp;exact h1,?_⟩;have:∀(x:Nat) (hx:x=(dz p l).toNat+1) (hl:x<(a::l).length),(a::l)[x]=l[(dz p l).toNat]:=by rintro x rfl hl;rfl
    rw[this _ e];exact h2
theorem Xn{α:Type}(p:α->Bool):∀(l:List α),dz p l<0->∀x∈l,p x=false
 |[],_=>H
 |a::l,h=>by
  have ha:=rq p (a::l);rw[kF O]at ha;intro x hx;cases hp:p x with
  |false=>rfl
  |true=>rw[Eq.comm,uM]at ha;exact absurd hp (by simpa using ha x hx)
def ia{l:List Hd}{key:aF}{i:Nat}(h:iz l key=some i):∃hi:i<l.length,l[i].key=key/\dz (uq key) l=i:=by
 unfold iz at h;split at h
 .rename_i c;obtain⟨h1,h2⟩:=J5 (uq key) l c;injection h with h;subst h;refine⟨h1,by simpa[uq]using h2,O⟩
 .cases h
def lW{l:List Hd}{key:aF}(h:iz l key=none):dz (uq key) l<0/\∀x∈l,x.key≠key:=by
 unfold iz at h;split at h
 .cases h
 .rename_i c;refine⟨O,λx hx=>?_⟩;have:=Xn (uq key) l O x hx;simpa[uq]using this
def gT(l:List Hd)(key:aF):List Hd:=match iz l key with
 |none=>l
 |some i=>l.take i++l.drop (i+1)
def B7{α:Type}(l:List α)(i:Nat):(l.take i++l.drop (i+1)).Sublist l:=by
 conv=>rhs;rw[<-eO i l]
 refine List.Sublist.append (qT _) ?_;rw[<-oy];exact List.drop_sublist _ _
def lu(l:List Hd)(key:aF):(gT l key).Sublist l:=by
 unfold gT;split
 .exact qT _
 .exact B7 _ _
def dM.drop(c:dM)(key:aF):dM:={c with aK:=gT c.aK key,rest:=gT c.rest key}
def DQ.adP{c:dM}(h:DQ c)(key:aF):DQ {c with aK:=gT c.aK key}:=⟨⟨cT (lu _ _).length_le h.n.1,h.n.2⟩,λx hx=>h.t x ((lu _ _).subset hx),h.r⟩
def rZ(share:Int):List Hd->List Hd->List Hd×List Hd
 |t,[]=>(t,[])
 |t,h::r=>if share<cO (h::r)then rZ share (t++[h]) r else(t,h::r)
def dM.bal(c:dM):dM:={c with aK:=(rZ c.share c.aK c.rest).1,rest:=(rZ c.share c.aK c.rest).2}
def dM.hit(c:dM)(key:aF):Option Hd:=match iz c.aK key with
 |some i=>c.aK[i]?
 |none=>match iz c.rest key with
  |some i=>c.rest[i]?
  |none=>none
def dM.get(c:dM)(key:aF):dM:=match iz c.aK key with
 |some i=>({c with aK:=c.aK.take i++c.aK.drop (i+1),rest:=c.rest++(c.aK[i]?).toList}:dM).bal
 |none=>match iz c.rest key with
  |some i=>({c with rest:=c.rest.take i++c.rest.drop (i+1)++(c.rest[i]?).toList}:dM).bal
  |none=>c
def J9:Hd:=⟨[],kI,[]⟩
end Go.aL
namespace Go.Av
open Go.Proofs Go.Proofs.Tryz Go.aL
@[reducible]def sgO:Ob:=⟨315,1,[.obj 0 2,.obj 0 4]⟩
def Kl(c:dM)(key:aF):Nat->dM
 |0=>c
 |1=>{c with aK:=gT c.aK key}
 |_=>{c with aK:=gT c.aK key,rest:=gT c.rest key}
def Sd(c:dM)(key:aF):Nat->Int
 |0=>0
 |1=>if(iz c.aK key).isSome=true then 1 else 0
 |_=>(if(iz c.aK key).isSome=true then 1 else 0)+if(iz c.rest key).isSome=true then 1 else 0
def Nw(c:dM)(hc:DQ c)(key:aF):bN 204 [.obj 0 0,.p (.sl [.str key])] ⟨cN 1 2 c,[],3⟩ (.p (.int (Sd c key 2))) ⟨cN 3 4 (c.drop key),[],5⟩:=by
 have hs:=λc=>K6 c;have w1:IntKind.i64.wrap 1=1:=aG;have w2:IntKind.i64.wrap 2=2:=aG;refine aC [_] func204 rfl ?_;simp;refine aS (λi:Nat=>i<=1) (λi=>[(0,.obj 0 0),(5,.p (.int (if i=0 then 0 else Sd c key 2))),(11,.p (.sl [.str key])),(12,.p (.int 1)),(13,.p (.int i))]) (λi=>⟨cN 3 4 (if i=0 then c else c.drop key),[],5⟩) (λi=>1-i) 0 H _ (AS.le_refl _ _) (aE [(3,1),(4,2)] (by simp[cN])) ?_;intro i hi;by_cases ci:i=0
 .subst ci;simp;refine aD [0,3,4] (hs c) H H (by simp[aA,cN]) H ?_;simp;refine aS (λj:Nat=>j<=2) (λj=>[(0,.obj 0 0),(5,.p (.int (Sd c key j))),(7,.p (.str key)),(11,.p (.sl [.str key])),(12,.p (.int 1)),(13,.p (.int 0)),(18,.view 5 0 2 1 none),(19,.p (.int 2)),(20,.p (.int j))]) (λj=>⟨(5,sgO)::cN 6 7 (Kl c key j),[],8⟩) (λj=>2-j) 0 H _ (AS.le_refl _ _) (aE [(5,5),(6,3),(7,4)] (by simp[cN,Sd,Kl])) ?_;intro j hj;have hj3:j=0\/j=1\/j=2:=O;rcases hj3 with rfl|rfl|rfl
  .have hf:=B8 c hc.n.1 key;simp[cN,Sd,Kl];refine aD [0,6,7] hf H H (by simp[aA,cN]) H ?_;cases hp:iz c.aK key with
   |none=>
    obtain⟨p1,p2⟩:=lW hp;have hd:gT c.aK key=c.aK:=by unfold gT;rw[hp]
    have p1':¬0<=dz (uq key) c.aK:=O;simp[p1',cN];exact⟨1,O,O,aE [(5,5),(6,6),(7,7)] (by simp[cN,Sd,Kl,hd,hp,w1,w2])⟩
   |some m=>
    obtain⟨m1,m2,m3⟩:=ia hp;have hd:gT c.aK key=c.aK.take m++c.aK.drop (m+1):=by unfold gT;rw[hp]
    have nu:=wT c hc m m1;rw[m3];simp[cN];refine aD [0,6,7] nu H H (by simp[aA,cN]) H ?_;simp[cN];exact⟨1,O,O,aE [(5,5),(6,8),(7,7)] (by simp[cN,Sd,Kl,hd,hp,w1,w2])⟩
  .have Ox:=hc.adP key;have hf:=Ca _ Ox.n.2 key;have en:Sd c key 2=Sd c key 1+if(iz c.rest key).isSome=true then 1 else 0:=rfl
   have hb:0<=Sd c key 1/\Sd c key 1<=1:=by
    show 0<=(if(iz c.aK key).isSome=true then(1:Int)else 0)/\(if(iz c.aK key).isSome=true then(1:Int)else 0)<=1;split<;>omega
   simp only at hf;generalize Sd c key 1=nn at*;simp[cN,Kl];refine aD [0,6,7] hf H H (by simp[aA,cN]) H ?_;cases hp:iz c.rest key with
   |none=>
    obtain⟨p1,p2⟩:=lW hp;have hd:gT c.rest key=c.rest:=by unfold gT;rw[hp]
    have p1':¬0<=dz (uq key) c.rest:=O;simp[p1',cN];exact⟨2,O,O,aE [(5,5),(6,6),(7,7)] (by simp[cN,en,Kl,hd,hp,w1,w2])⟩
   |some m=>
    obtain⟨m1,m2,m3⟩:=ia hp;have hd:gT c.rest key=c.rest.take m++c.rest.drop (m+1):=by unfold gT;rw[hp]
    have nu:=pY _ Ox m m1;have wn:IntKind.i64.wrap (nn+1)=nn+1:=aG;rw[m3];simp[cN];refine aD [0,6,7] nu H H (by simp[aA,cN]) H ?_;simp[cN,wn];exact⟨2,O,O,aE [(5,5),(6,6),(7,8)] (by simp[cN,en,Kl,hd,hp,w1,w2])⟩
  .have e2:Kl c key 2=c.drop key:=rfl;simp[e2];exact⟨1,O,O,aE [(3,6),(4,7)] (by simp[cN,w1])⟩
 .obtain rfl:i=1:=O;simp[-az,results204];exact⟨[],by simp[cN]⟩
@[reducible]def zhO:Ob:=⟨119,17,[.p (.str []),.p (.str []),.p .nil,.p (.str []),.p (.str []),.p (.str []),.p (.int 0),.p (.str []),.p (.int 0),.p .nil,.p (.int 0),.p (.int 0),.p (.int 0),.p (.int 0),.p (.sc (.int .u32 0)),.p .nil,.p .nil]⟩
def akj{c:dM}{key:aF}{m:Nat}(h:iz c.aK key=some m)(hm:m<c.aK.length):c.hit key=some c.aK[m]:=by
 unfold dM.hit;rw[h];simp[hm]
def akk{c:dM}{key:aF}{m:Nat}(h0:iz c.aK key=none)(h:iz c.rest key=some m)(hm:m<c.rest.length):c.hit key=some c.rest[m]:=by
 unfold dM.hit;rw[h0,h];simp[hm]
def akl{c:dM}{key:aF}(h0:iz c.aK key=none)(h:iz c.rest key=none):c.hit key=none:=by
 unfold dM.hit;rw[h0,h]
structure PkI(c:dM)(key:aF)(j:Nat):Prop where
 j2:j<=2
 t:1<=j->iz c.aK key=none
 r:2<=j->iz c.rest key=none
structure CB(n:Nat)(c:dM):Prop where
 n:c.aK.length+c.rest.length<=n
 t:∀h∈c.aK,DE h
 r:∀h∈c.rest,DE h
 sh:0<=c.share
def CB.ok{n:Nat}{c:dM}(h:CB n c)(hn:n<=1000):DQ c:=⟨by have:=h.n;omega,h.t,h.r⟩
def CB.up{n m:Nat}{c:dM}(h:CB n c)(hm:n<=m):CB m c:=⟨cT h.n hm,h.t,h.r,h.sh⟩
def CB.acq{n:Nat}{c:dM}(h:CB n c){m:Nat}(hm:m<c.aK.length):CB (n-1) {c with aK:=c.aK.take m++c.aK.drop (m+1)}:=⟨by have:=h.n;simp;omega,λx hx=>h.t x ((B7 _ _).subset hx),h.r,h.sh⟩
def CB.MY{n:Nat}{c:dM}(h:CB n c){m:Nat}(hm:m<c.rest.length):CB (n-1) {c with rest:=c.rest.take m++c.rest.drop (m+1)}:=⟨by have:=h.n;simp;omega,h.t,λx hx=>h.r x ((B7 _ _).subset hx),h.sh⟩
def CB.TT{n:Nat}{c:dM}(h:CB n c){x:Hd}(hx:DE x):CB (n+1) {c with aK:=c.aK++[x]}:=⟨by have:=h.n;simp;omega,λy hy=>by rcases lD.1 hy with hy|hy;exact h.t y hy;simp at hy;rw[hy];exact hx,h.r,h.sh⟩
def CB.TU{n:Nat}{c:dM}(h:CB n c){x:Hd}(hx:DE x):CB (n+1) {c with rest:=c.rest++[x]}:=⟨by have:=h.n;simp;omega,h.t,λy hy=>by rcases lD.1 hy with hy|hy;exact h.r y hy;simp at hy;rw[hy];exact hx,h.sh⟩
@[reducible]def hob(h:Hd):Ob:=⟨119,17,[.p (.str h.key),.p (.str h.e.uri),.p (.sl (h.e.names.map PC.str)),.p (.str h.e.var),.p (.str h.e.st.m),.p (.str h.e.st.t),.p (.int h.e.st.st),.p (.str h.e.st.r),.p (.int h.e.st.mi),.p (.sl (h.e.fields.map oL)),.p (.int h.e.asked),.p (.int h.e.got),.p (.int h.e.order),.p (.int h.e.size),.p (kR h.e.sum),.p (.sl (h.e.body.map dO)),.p (cK h.b)]⟩
structure BlI(c Z:dM)(q:List Hd×List Hd):Prop where
 b:rZ c.share q.1 q.2=(Z.aK,Z.rest)
 C:CB 901 {c with aK:=q.1,rest:=q.2}
def aeH{n:Nat}(c:dM)(hC:CB n c)(hn9:n<=900)(key:aF):bN 122 [.obj 0 0,.p (.str key)] ⟨cN 1 2 c,[],3⟩ (.agg true [.p (k8 ((c.hit key).getD J9)),.p (.bool (c.hit key).isSome)]) ⟨cN 3 4 (c.get key),[],5⟩:=by
 have hc:=hC.ok O;have hs:=K6 c;have w1:IntKind.i64.wrap 1=1:=aG;have w2:IntKind.i64.wrap 2=2:=aG;have hn:=hc.n;generalize hZ:c.get key=Z;refine aq [_,_] [] [(7,[(3,.r 2),(4,.w [2])]),(8,[(4,.r 1),(8,.r 1)]),(9,[(6,.w []),(7,.w [])])] [(1,0),(2,8)] func122 rfl ?_;simp;refine aD [0,1,2] hs H H (by simp[aA,cN]) H ?_;simp;refine aS (λj:Nat=>PkI c key j) (λj=>[(0,.obj 0 0),(1,.p (.str key)),(4,.obj 3 0),(11,.view 4 0 2 1 none),(12,.p (.int 2)),(13,.p (.int j))]) (λj=>⟨(3,zhO)::(4,sgO)::cN 5 6 c,[],7⟩) (λj=>2-j) 0 ⟨O,λh=>O,λh=>O⟩ _ (AS.le_refl _ _) (aE [(3,3),(4,4),(5,1),(6,2)] (by simp[cN])) ?_;rintro j ⟨hj,i1,i2⟩;have hj3:j=0\/j=1\/j=2:=O;rcases hj3 with rfl|rfl|rfl
 .have hf:=B8 c hc.n.1 key;simp[cN];refine aD [0,5,6] hf H H (by simp[aA,cN]) H ?_;cases hp:iz c.aK key with
  |none=>
   obtain⟨p1,p2⟩:=lW hp;simp[p1,cN];exact⟨1,⟨O,λ_=>hp,λh=>O⟩,O,aE [(3,3),(4,4),(5,5),(6,6)] (by simp[cN,w1])⟩
  |some m=>
   obtain⟨m1,m2,m3⟩:=ia hp;obtain⟨h,hh⟩:=lT (c.aK[m]);have Pp:=hc.t h (by rw[<-hh];exact bB m1);have iQ:=yL h Pp;have ht:=akj hp m1;have nu:=wT c hc m m1;rw[hh]at ht nu;have hZ':dM.bal {c with aK:=c.aK.take m++c.aK.drop (m+1),rest:=c.rest++[h]}=Z:=by
    rw[<-hZ];unfold dM.get;rw[hp];simp[m1,hh]
   have Y0:=hC.acq m1;have hps:=B9 _ (Y0.ok O) h Pp;have Pq:=(Y0.TU Pp).up (m:=901) O;rw[m3,ht];simp only at hps Pq;generalize List.take m c.aK++List.drop (m+1) c.aK=tr at*;have hI:BlI c Z (tr,c.rest++[h]):=⟨by rw[<-hZ'];rfl,Pq⟩;simp[cN];refine aD [0,5,6] nu H H (by simp[aA,cN]) H ?_;simp[cN];refine aD [0,7,6] hps H H (by simp[aA,cN]) H ?_;simp[cN];refine aS (λq:List Hd×List Hd=>BlI c Z q) (λq=>[(0,.obj 0 0),(4,.obj 3 0),(9,.obj 8 0)]) (λq=>⟨(8,hob h)::(3,zhO)::cN 10 11 {c with aK:=q.1,rest:=q.2},[],12⟩) (λq=>q.2.length) (tr,c.rest++[h]) hI _ (AS.le_refl _ _) (aE [(3,3),(8,8),(10,7),(11,9)] (by simp[cN])) ?_;rintro⟨t,r⟩ hq;obtain⟨hb,Y1⟩:=hq;simp only at hb Y1;have hZc:Z={c with aK:=Z.aK,rest:=Z.rest}:=by rw[<-hZ'];rfl
   have hex:¬(c.share<cO r)->rZ c.share t r=(t,r):=λhc0=>by
    cases r with
    |nil=>rfl
    |cons x r=>unfold rZ;rw[ah hc0]
   by_cases cs:c.share<cO r
   .cases r with
    |nil=>
     exfalso;have:=hC.sh;simp[cO]at cs;omega
    |cons x r=>
     have hxo:=Y1.r x H;have Y2:=pY _ (Y1.ok O) 0 H;have hC3:=Y1.MY (m:=0) H;have Yp:=B_ _ (hC3.ok O) x hxo;have hC4:=(hC3.TT hxo).up (m:=901) O;simp only[yF,yK,o3,pq,gJ,jx]at Y2 Yp hC4;unfold rZ at hb;rw[ai cs]at hb;simp[cN,cs];refine aD [0,10,11] Y2 H H (by simp[aA,cN]) H ?_;simp[cN];refine aD [0,10,12] Yp H H (by simp[aA,cN]) H ?_;simp[cN];exact⟨t++[x],r,⟨hb,hC4⟩,O,aE [(3,3),(8,8),(10,13),(11,12)] (by simp[cN])⟩
   .rw[hex cs]at hb;injection hb with RN oK;rw[hZc,<-RN,<-oK];simp[cN,cs];refine cm iQ ?_;simp[-az,results122];exact⟨[(3,10),(4,11)],by simp[cN]⟩
 .have MZ:=i1 O;have hf:=Ca c hc.n.2 key;simp[cN];refine aD [0,5,6] hf H H (by simp[aA,cN]) H ?_;cases hp:iz c.rest key with
  |none=>
   obtain⟨p1,p2⟩:=lW hp;simp[p1,cN];exact⟨2,⟨O,λ_=>MZ,λ_=>hp⟩,O,aE [(3,3),(4,4),(5,5),(6,6)] (by simp[cN,w2])⟩
  |some m=>
   obtain⟨m1,m2,m3⟩:=ia hp;obtain⟨h,hh⟩:=lT (c.rest[m]);have Pp:=hc.r h (by rw[<-hh];exact bB m1);have iQ:=yL h Pp;have ht:=akk MZ hp m1;have nu:=pY c hc m m1;rw[hh]at ht nu;have hZ':dM.bal {c with rest:=c.rest.take m++c.rest.drop (m+1)++[h]}=Z:=by
    rw[<-hZ];unfold dM.get;rw[MZ,hp];simp[m1,hh]
   have Y0:=hC.MY m1;have hps:=B9 _ (Y0.ok O) h Pp;have Pq:=(Y0.TU Pp).up (m:=901) O;rw[m3,ht];simp only at hps Pq;generalize List.take m c.rest++List.drop (m+1) c.rest=tr at*;have hI:BlI c Z (c.aK,tr++[h]):=⟨by rw[<-hZ'];rfl,Pq⟩;simp[cN];refine aD [0,5,6] nu H H (by simp[aA,cN]) H ?_;simp[cN];refine aD [0,5,7] hps H H (by simp[aA,cN]) H ?_;simp[cN];refine aS (λq:List Hd×List Hd=>BlI c Z q) (λq=>[(0,.obj 0 0),(4,.obj 3 0),(9,.obj 8 0)]) (λq=>⟨(8,hob h)::(3,zhO)::cN 10 11 {c with aK:=q.1,rest:=q.2},[],12⟩) (λq=>q.2.length) (c.aK,tr++[h]) hI _ (AS.le_refl _ _) (aE [(3,3),(8,8),(10,5),(11,9)] (by simp[cN])) ?_;rintro⟨t,r⟩ hq;obtain⟨hb,Y1⟩:=hq;simp only at hb Y1;have hZc:Z={c with aK:=Z.aK,rest:=Z.rest}:=by rw[<-hZ'];rfl
   have hex:¬(c.share<cO r)->rZ c.share t r=(t,r):=λhc0=>by
    cases r with
    |nil=>rfl
    |cons x r=>unfold rZ;rw[ah hc0]
   by_cases cs:c.share<cO r
   .cases r with
    |nil=>
     exfalso;have:=hC.sh;simp[cO]at cs;omega
    |cons x r=>
     have hxo:=Y1.r x H;have Y2:=pY _ (Y1.ok O) 0 H;have hC3:=Y1.MY (m:=0) H;have Yp:=B_ _ (hC3.ok O) x hxo;have hC4:=(hC3.TT hxo).up (m:=901) O;simp only[yF,yK,o3,pq,gJ,jx]at Y2 Yp hC4;unfold rZ at hb;rw[ai cs]at hb;simp[cN,cs];refine aD [0,10,11] Y2 H H (by simp[aA,cN]) H ?_;simp[cN];refine aD [0,10,12] Yp H H (by simp[aA,cN]) H ?_;simp[cN];exact⟨t++[x],r,⟨hb,hC4⟩,O,aE [(3,3),(8,8),(10,13),(11,12)] (by simp[cN])⟩
   .rw[hex cs]at hb;injection hb with RN oK;rw[hZc,<-RN,<-oK];simp[cN,cs];refine cm iQ ?_;simp[-az,results122];exact⟨[(3,10),(4,11)],by simp[cN]⟩
 .rw[akl (i1 O) (i2 O)];have hZ':c=Z:=by rw[<-hZ];unfold dM.get;rw[i1 O,i2 O]
  rw[<-hZ'];simp[-az,J9,kI,results122];exact⟨[(3,5),(4,6)],by simp[cN,af]⟩
end Go.Av
namespace Go.aL
open Go.Av
def pE(b:Int):Nat->List Hd->List Hd->List (aF)->List Hd×List Hd×List (aF)
 |0,t,r,o=>(t,r,o)
 |n+1,t,r,o=>if b<cO t+cO r then(match t with
  |x::t'=>pE b n t' r (o++[x.key])
  |[]=>match r with
   |y::r'=>pE b n [] r' (o++[y.key])
   |[]=>([],[],o))else(t,r,o)
theorem Dr(b:Int):∀(n:Nat) (t r:List Hd) (o:List (aF)),(pE b n t r o).1.length+(pE b n t r o).2.1.length<=t.length+r.length
 |0,_,_,_=>aX _
 |n+1,t,r,o=>by
  unfold pE;split
  .cases t with
   |cons x t'=>
    have:=Dr b n t' r (o++[x.key])
    grind
   |nil=>
    cases r with
    |cons y r'=>
     have:=Dr b n [] r' (o++[y.key])
     grind
    |nil=>simp
  simp
theorem Ds(b:Int):∀(n:Nat) (t r:List Hd) (o:List (aF)),(∀x∈(pE b n t r o).1,x∈t)/\∀x∈(pE b n t r o).2.1,x∈r
 |0,_,_,_=>⟨λ_ h=>h,λ_ h=>h⟩
 |n+1,t,r,o=>by
  unfold pE;split
  .cases t with
   |cons x t'=>
    have:=Ds b n t' r (o++[x.key])
    grind
   |nil=>
    cases r with
    |cons y r'=>
     have:=Ds b n [] r' (o++[y.key])
     grind
    |nil=>simp
  simp
def dM.shrink(c:dM):dM:={c with aK:=(pE c.d_ (c.aK.length+c.rest.length) c.aK c.rest []).1,rest:=(pE c.d_ (c.aK.length+c.rest.length) c.aK c.rest []).2.1}
def dM.gone(c:dM):List (aF):=(pE c.d_ (c.aK.length+c.rest.length) c.aK c.rest []).2.2
end Go.aL
namespace Go.Av
open Go.Proofs Go.Proofs.Tryz Go.aL
def CB.shrink{n:Nat}{c:dM}(h:CB n c):CB n c.shrink:=by
 have h1:=Dr c.d_ (c.aK.length+c.rest.length) c.aK c.rest [];have h2:=Ds c.d_ (c.aK.length+c.rest.length) c.aK c.rest [];exact⟨cT h1 h.n,λx hx=>h.t x (h2.1 x hx),λx hx=>h.r x (h2.2 x hx),h.sh⟩
structure ShI(c Z:dM)(q:Nat×List Hd×List Hd×List (aF))(o:List (aF)):Prop where
 b:pE c.d_ q.1 q.2.1 q.2.2.1 q.2.2.2=(Z.aK,Z.rest,o)
 n:q.2.1.length+q.2.2.1.length<=q.1
 C:CB 901 {c with aK:=q.2.1,rest:=q.2.2.1}
 o:q.2.2.2.length+q.2.1.length+q.2.2.1.length<=1000
def Rd(c:dM)(hC:CB 900 c)(hb:0<=c.d_):bN 212 [.obj 0 0] ⟨cN 1 2 c,[],3⟩ (.p (.sl (c.gone.map PC.str))) ⟨cN 3 4 c.shrink,[],5⟩:=by
 obtain⟨Z,hZ⟩:=lT (c.shrink);obtain⟨O1,hO⟩:=lT (c.gone);rw[hZ,hO];have hI:ShI c Z (c.aK.length+c.rest.length,c.aK,c.rest,[]) O1:=⟨by rw[<-hZ,<-hO];rfl,aX _,hC.up O,by have:=hC.n;grind⟩;have hZc:Z={c with aK:=Z.aK,rest:=Z.rest}:=by rw[<-hZ];rfl
 refine zl (rs:=[_]) [] [(2,[(1,.w [1]),(5,.r 1)])] [(1,0)] mixed func212 rfl bp bp H rfl ?_;simp;refine aS (λq:Nat×List Hd×List Hd×List (aF)=>ShI c Z q O1) (λq=>[(0,.obj 0 0),(3,.own 3 (q.2.2.2.map PC.str))]) (λq=>⟨cN 4 5 {c with aK:=q.2.1,rest:=q.2.2.1},[(3,9,1)],6⟩) (λq=>q.1) (c.aK.length+c.rest.length,c.aK,c.rest,[]) hI
  _ (Ci 3 9 1 [] (.inr ⟨rfl,H⟩)) (aE [(3,3),(4,1),(5,2)] (by simp[cN])) ?_
 rintro⟨n,t,r,o⟩ hq;obtain⟨q1,q2,q3,q4⟩:=hq;simp only at q1 q2 q3 q4;have pI:=M7 _ (q3.ok O);simp only at pI;by_cases cs:c.d_<(cO t:Int)+cO r
 .cases n with
  |zero=>
   grind [List.length_eq_zero_iff,cO]
  |succ n=>
   unfold pE at q1;rw[ai cs]at q1;cases t with
   |cons x t=>
    have hp:=wT _ (q3.ok O) 0 H;have Pq:=(q3.acq (m:=0) H).up (m:=901) O;simp only[yF,yK,o3,pq,gJ,jx]at hp Pq;simp only at q1;simp only[cF]at q2 q4;have hne:(((t.length:Int)+1)==0)=false:=by grind
    simp[cN];refine aD [0,4,5] pI H H (by simp[aA,cN]) H ?_;simp[cs,cN,hne];refine aD [0,4,5] hp H H (by simp[aA,cN]) H ?_;simp[cN];exact⟨O,O,n,t,r,o++[x.key],⟨q1,by grind,Pq,by grind⟩,O,aE [(3,7),(4,6),(5,5)] H⟩
   |nil=>
    cases r with
    |nil=>
     grind [cO]
    |cons y r=>
     have hp:=pY _ (q3.ok O) 0 H;have Pq:=(q3.MY (m:=0) H).up (m:=901) O;simp only[yF,yK,o3,pq,gJ,jx]at hp Pq;simp only at q1;simp only[cF,fQ]at q2 q4;simp[cN];refine aD [0,4,5] pI H H (by simp[aA,cN]) H ?_;simp[cs,cN];refine aD [0,4,5] hp H H (by simp[aA,cN]) H ?_;simp[cN];exact⟨O,O,n,[],r,o++[y.key],⟨q1,by grind,Pq,by grind⟩,O,aE [(3,7),(4,4),(5,6)] H⟩
 .have hex:pE c.d_ n t r o=(t,r,o):=by
   cases n with
   |zero=>rfl
   |succ n=>unfold pE;grind
  rw[hex]at q1;injection q1 with e1 q1;injection q1 with e2 e3;rw[hZc,<-e1,<-e2,<-e3];simp[cN];refine aD [0,4,5] pI H H (by simp[aA,cN]) H ?_;simp[-az,cs,cN,results212];exact⟨[(3,4),(4,5)],H⟩
end Go.Av
namespace Go.aL
open Go.Av
def dM.oh(c:dM)(h:Hd):dM:=if(iz c.rest h.key).isSome=true then{c.drop h.key with rest:=(c.drop h.key).rest++[h]}else{c.drop h.key with aK:=(c.drop h.key).aK++[h]}
def dM.put(c:dM)(h:Hd):dM:=if c.d_<h.cost then c.drop h.key else(c.oh h).shrink
def dM.ahg(c:dM)(h:Hd):List (aF):=if c.d_<h.cost then[]else(c.oh h).gone
end Go.aL
namespace Go.Av
open Go.Proofs Go.Proofs.Tryz Go.aL
theorem CB.drop{n:Nat}{c:dM}(h:CB n c)(key:aF):CB n (c.drop key):=⟨by have h1:=(lu c.aK key).length_le;have h2:=(lu c.rest key).length_le;have:=h.n;grind [dM.drop],λx hx=>h.t x ((lu _ _).subset hx),λx hx=>h.r x ((lu _ _).subset hx),h.sh⟩
theorem CB.oh{n:Nat}{c:dM}(h:CB n c){x:Hd}(hx:DE x):CB (n+1) (c.oh x):=by
 unfold dM.oh;split
 .exact(h.drop x.key).TU hx
 .exact(h.drop x.key).TT hx
def CB.put{n:Nat}{c:dM}(h:CB n c){x:Hd}(hx:DE x):CB (n+1) (c.put x):=by
 unfold dM.put;split
 .exact(h.drop x.key).up O
 .exact(h.oh hx).shrink
def toO(c:dM)(key:aF)(j:Nat):Nat:=if j=2/\(iz c.rest key).isSome=true then 4 else 2
def Uw{n:Nat}(c:dM)(hC:CB n c)(hn9:n<=890)(hb:0<=c.d_)(h:Hd)(Pp:DE h):bN 124 [.obj 0 0,.p (k8 h)] ⟨cN 1 2 c,[],3⟩ (.p (.sl ((c.ahg h).map PC.str))) ⟨cN 3 4 (c.put h),[],5⟩:=by
 have hc:=hC.ok O;have hs:=K6 c;have w1:IntKind.i64.wrap 1=1:=aG;have w2:IntKind.i64.wrap 2=2:=aG;have hn:=hc.n;have Cb:=wV h Pp;have iQ:=yL h Pp;obtain⟨Z,hZ⟩:=lT (c.put h);obtain⟨O1,hO⟩:=lT (c.ahg h);rw[hZ,hO];unfold dM.put at hZ;unfold dM.ahg at hO;have Y0:=hC.oh Pp;have hsh:=Rd _ (Y0.up (m:=900) O) (by show 0<=(c.oh h).d_;unfold dM.oh;split<;>exact hb);refine zl (rs:=[_]) [] [(10,[(1,.w [1]),(5,.r 1)])] [(1,0)] mixed func124 rfl bp bp H rfl ?_;simp;refine aD [0,1,2] hs H H (by simp[aA,cN]) H ?_;simp;refine aS (λj:Nat=>j<=2) (λj=>[(0,.obj 0 0),(3,.p (.ref (k8 h))),(5,.obj 0 (toO c h.key j)),(13,.view 3 0 2 1 none),(14,.p (.int 2)),(15,.p (.int j))]) (λj=>⟨(3,sgO)::cN 4 5 (Kl c h.key j),[],6⟩) (λj=>2-j) 0 H _ (AS.le_refl _ _) (aE [(3,3),(4,1),(5,2)] (by simp[cN,Kl,toO])) ?_;intro j hj;have hj3:j=0\/j=1\/j=2:=O;rcases hj3 with rfl|rfl|rfl
 .have hf:=B8 c hc.n.1 h.key;simp[cN,Kl];refine aD [0,4,5] hf H H (by simp[aA,cN]) H ?_;cases hp:iz c.aK h.key with
  |none=>
   obtain⟨p1,p2⟩:=lW hp;have hd:gT c.aK h.key=c.aK:=by grind [gT]
   have p1':¬0<=dz (uq h.key) c.aK:=O;simp[p1',cN];exact⟨1,O,O,aE [(3,3),(4,4),(5,5)] (by simp[cN,Kl,hd,hp,toO,w1,w2])⟩
  |some m=>
   obtain⟨m1,m2,m3⟩:=ia hp;have hd:gT c.aK h.key=c.aK.take m++c.aK.drop (m+1):=by grind [gT]
   have nu:=wT c hc m m1;rw[m3];simp[cN];refine aD [0,4,5] nu H H (by simp[aA,cN]) H ?_;simp[cN];exact⟨1,O,O,aE [(3,3),(4,6),(5,5)] (by simp[cN,Kl,hd,hp,toO,w1,w2])⟩
 .have Ox:=hc.adP h.key;have hf:=Ca _ Ox.n.2 h.key;simp only at hf;simp[cN,Kl,toO];refine aD [0,4,5] hf H H (by simp[aA,cN]) H ?_;cases hp:iz c.rest h.key with
  |none=>
   obtain⟨p1,p2⟩:=lW hp;have hd:gT c.rest h.key=c.rest:=by grind [gT]
   have p1':¬0<=dz (uq h.key) c.rest:=O;simp[p1',cN];exact⟨2,O,O,aE [(3,3),(4,4),(5,5)] (by simp_all)⟩
  |some m=>
   obtain⟨m1,m2,m3⟩:=ia hp;have hd:gT c.rest h.key=c.rest.take m++c.rest.drop (m+1):=by grind [gT]
   have nu:=pY _ Ox m m1;rw[m3];simp[cN];refine aD [0,4,5] nu H H (by simp[aA,cN]) H ?_;simp[cN];exact⟨2,O,O,aE [(3,3),(4,4),(5,6)] (by simp_all)⟩
 .have e2:Kl c h.key 2=c.drop h.key:=rfl;have hd2:=hC.drop h.key;have hbg:(c.drop h.key).d_=c.d_:=rfl;rw[e2];by_cases cs:c.d_<h.cost
  .rw[ai cs]at hZ hO;rw[<-hZ,<-hO];simp[cN,hbg];refine cm Cb ?_;simp[-az,cs,hbg,results124];exact⟨[(3,4),(4,5)],H⟩
  .rw[ah cs]at hZ hO;rw[hZ,hO]at hsh;by_cases ct:(iz c.rest h.key).isSome=true
   .have hp:=B9 _ (hd2.ok O) h Pp;have ep:c.oh h={c.drop h.key with rest:=(c.drop h.key).rest++[h]}:=by grind [dM.oh]
    rw[<-ep]at hp;generalize hP:c.oh h=P at hp hsh;simp[cN,hbg,toO,ct];refine cm Cb ?_;simp[cs,hbg];refine cm iQ ?_;simp;refine aD [0,4,5] hp H H (by simp[aA,cN]) H ?_;simp[cN];refine aD [0,4,6] hsh H H (by simp[aA,cN]) H ?_;simp[-az,cN,results124];exact⟨[(3,7),(4,8)],H⟩
   .have hp:=B_ _ (hd2.ok O) h Pp;have ep:c.oh h={c.drop h.key with aK:=(c.drop h.key).aK++[h]}:=by grind [dM.oh]
    rw[<-ep]at hp;generalize hP:c.oh h=P at hp hsh;simp[cN,hbg,toO,ct];refine cm Cb ?_;simp[cs,hbg];refine cm iQ ?_;simp;refine aD [0,4,5] hp H H (by simp[aA,cN]) H ?_;simp[cN];refine aD [0,6,5] hsh H H (by simp[aA,cN]) H ?_;simp[-az,cN,results124];exact⟨[(3,7),(4,8)],H⟩
end Go.Av
namespace Go.aL
open Go.Av
end Go.aL
namespace Go.Av
open Go.Proofs Go.Proofs.Tryz Go.aL
def Nu(w:Sm)(h1:w.e.names.length<=1000000)(h2:w.e.fields.length<=1000000)(h3:w.e.body.length<=1000000):bN 121 [.obj 7 0] ⟨[(7,iT 6 w)],[],18⟩ (.agg true [.p (fK (if w.kept=true then w.e else kI)),.p (.bool w.kept)]) ⟨[(7,iT 6 w)],[],18⟩:=by
 have c1:=CX w.e.names O;have c2:=CY w.e.fields O;have c3:=EJ w.e.body O;refine aq [_,_] [] [(4,[(1,.r 1),(2,.w [1]),(4,.r 1),(5,.w [1]),(7,.r 1),(8,.w [1]),(10,.s 1 []),(12,.s 1 []),(14,.s 1 [])])] [(1,19)] func121 rfl ?_;cases hk:w.kept with
 |true=>
  simp[iT,hk];refine cm c1 ?_;simp;refine cm c2 ?_;simp;refine cm c3 ?_;simp[-az,hk,results121];exact⟨[],by simp[iT,hk]⟩
 |false=>
  simp[-az,iT,hk,kI,results121];exact⟨[],by simp[iT,hk]⟩
end Go.Av
