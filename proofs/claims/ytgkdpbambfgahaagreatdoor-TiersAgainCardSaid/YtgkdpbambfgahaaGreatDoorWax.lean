/- TiersAgain, part 24: what functions compute, and its plain law; no condition. -/
import Derived.Test.YtgkdpbambfgahaaGreatDoorWaw
set_option linter.all false
set_option maxRecDepth 100000
set_option maxHeartbeats 64000000
namespace Go.aL
open Go.Av
def qd(j:Nat):List dY:=pT::fW rU::List.replicate (j-2) pT
def Ev{j:Nat}(h:5<=j):(qd j).length=j:=by grind [qd]
def DH(N j p:Nat)(D:bt):St:=⟨D,AA 1 j rU,j,p,0,Mp.new p,Mp.new (N-(1+j+8*p)),[],0,[],true⟩
structure BE(N j p:Nat):Prop where
 nb:N<=65536
 jb:5<=j/\j<=4096
 pb:30<=p/\p<=4096
 rb:1+j+8*p+16<=N
def BE.dsk{N j p:Nat}(h:BE N j p):Cc (N:Int) (j:Int) (p:Int)=0:=by
 have h1:=h.jb;have h2:=h.pb;have h3:=h.rb
 grind [Cc,cY]
def BE.plc{N j p:Nat}(h:BE N j p):Gr (N:Int) 1 (j:Int)=0:=by
 have h1:=h.jb;have h2:=h.pb;have h3:=h.rb
 grind [Gr]
def aoD(t:Nat){j:Nat}{m:Mk}(h1:2<=m.at')(hj:m.at'<=5)(h5:5<=j)(h4:j<=4096):JB t (j:Int) (AA 1 j m):=by
 refine⟨⟨by simp[AA],by simp[AA];omega,by simp[AA],?_,?_⟩,by simp[AA],by simp[AA],?_,by simp[AA]⟩
 all_goals grind [AA]
def aeh{N j p t:Nat}(hS:BE N j p){D:bt}(h:Gd N D)(hq:D.q.length<=t*t):gR t (DH N j p D):=by
 have hk:=h.kl;have h1:=hS.jb;have h2:=hS.pb;have h3:=hS.rb;have h4:=hS.nb;refine⟨h.dok O hq,aoD t (by simp[rU]) (by simp[rU]) h1.1 h1.2,?_,?_,?_,AX O O,AX O O,rfl,?_,by simp[DH],by simp[DH],by simp[DH],by simp[DH],by simp[DH],by simp[DH]⟩
 .grind [DH]
 all_goals grind [DH,cY,Mp.new]
structure sB(N j:Nat)(D:bt):Prop where
 gd:Gd N D
 q:D.q=[]
 head:seg D.now 0 1=[pS 0 0]
 aeZ:seg D.now 1 j=qd j
def sB.same{N j:Nat}{D D':bt}(h:sB N j D)(hG:Gd N D')(hn:D'.now=D.now)(hq:D'.q=D.q):sB N j D':=⟨hG,hq.trans h.q,by rw[hn];exact h.head,by rw[hn];exact h.aeZ⟩
theorem aku:Go.Av.fU []=pT:=rfl
def ajQ{N j p:Nat}(hS:BE N j p):∃D,FC (bt.made N) j p=(D,0)/\sB N j D:=by
 have hj:=hS.jb;have hp:=hS.pb;have hr:=hS.rb;have hN:=hS.nb;have h0:Gd N (bt.made N):=Gd.made;obtain⟨a1,a2,a3,a4,a5⟩:=h0.write (a:=0) (l:=[pS 0 0]) (by grind) (by grind [AB]);have z5:(List.replicate j (Go.Av.fU [])).length=j:=H;obtain⟨b1,b2,b3,b4,b5⟩:=a2.write (a:=1) (l:=List.replicate j (Go.Av.fU [])) O (by intro s hs;rw[(xZ.1 hs).2];rfl);obtain⟨c1,c2,c3,c4,c5⟩:=b2.flush;obtain⟨d1,d2,d3,d4,d5⟩:=c2.write (a:=2) (l:=[fW rU]) (by grind) (by grind [Eo]);obtain⟨e1,e2,e3,e4,e5⟩:=d2.flush;have hf:FC (bt.made N) j p=(((((bt.made N).write ((0:Nat):Int) [pS 0 0]).1.write ((1:Nat):Int) (List.replicate j (Go.Av.fU []))).1.flush.1.write ((2:Nat):Int) [fW rU]).1.flush.1,0):=by
  unfold FC;have q1:Cc ((bt.made N).kept.length:Int) j p=0:=by rw[h0.kl];exact hS.dsk
  grind [bt.made,UG,Gr,fmtS,bg,rU]
 refine⟨_,hf,e2,e5,?_,?_⟩
 .rw[e3,d3,kS (by rw[c2.nl];grind) H,c3,b3,kS (by rw[a2.nl,z5];omega) O,a3];exact mN (a:=0) (l:=[pS 0 0]) (by rw[h0.nl];grind)
 .rw[e3,d3,c3];have h1:((((bt.made N).write ((0:Nat):Int) [pS 0 0]).1.write ((1:Nat):Int) (List.replicate j (Go.Av.fU []))).1.now).length=N:=b2.nl;have hin:=mN (L:=((bt.made N).write ((0:Nat):Int) [pS 0 0]).1.now) (a:=1) (l:=List.replicate j (Go.Av.fU [])) (by rw[a2.nl,z5];omega);rw[z5,<-b3]at hin;generalize((((bt.made N).write ((0:Nat):Int) [pS 0 0]).1.write ((1:Nat):Int) (List.replicate j (Go.Av.fU []))).1.now)=L at h1 hin;obtain⟨k,rfl⟩:∃k,j=1+(1+k):=⟨j-2,O⟩;have s1:seg (ov L 2 [fW rU]) 1 1=seg L 1 1:=kS (by grind) H;have s2:seg (ov L 2 [fW rU]) 2 1=[fW rU]:=mN (a:=2) (l:=[fW rU]) (by grind);have s3:seg (ov L 2 [fW rU]) 3 k=seg L 3 k:=kS (by grind) H;have t1:=NB L 1 (1+(1+k)) 0 1 O;have t3:=NB L 1 (1+(1+k)) 2 k O;rw[hin]at t1 t3;rw[wQ,wQ,s1,s2,s3]
  grind [aku,seg,qd]
def akv{j:Nat}(h5:5<=j)(h4:j<=4096):Ua (qd j)=(rU,true):=by
 have hl:=Ev h5;have e0:(qd j).getD 0 []=pT:=rfl;have e1:(qd j).getD 1 []=fW rU:=rfl;have m0:(sU pT 0 (j:Int)).2=false:=by
  have a1:cZ (pT.take 8)=0:=bp;simp[sU,a1]
 have m1:sU (fW rU) 1 (j:Int)=(rU,true):=by
  have a1:cZ ((fW rU).take 8)=1:=bp;have a2:cZ (((fW rU).drop 9).take 8)=1:=bp;have a3:cZ (((fW rU).drop 17).take 4)=2:=bp;have a4:cZ ((fW rU).drop 56)=1:=bp;have a5:((fW rU).getD 8 0==84)=true:=bp;unfold sU;rw[a1,a2,a3,a4,a5];simp[rU];omega
 grind [Ua]
end Go.aL
namespace Go.Av
open Go.Proofs Go.Proofs.Tryz Go.aL
def Rx(D:bt)(cy n:Int)(all:List dY)(nx:Int)(h3:3<=all.length/\all.length<=65536)(hz:all[2]?=some pT):bN 163 [.agg false [.obj 0 0,.p (.int cy),.p (.int n)],.p (.sl (all.map cK)),.p (.int 2),.p (.int nx)] ⟨eG 3 D,dN 3,4⟩ (.agg true [.p (.sl []),.p (.bool false)]) ⟨eG 3 D,dN 3,4⟩:=by
 have gA:(all.map cK)[2]?=some (cK pT):=by rw[sO,hz];rfl
 have q0:(af pT)[0]?=some (sS 0):=rfl;have q9:(af pT)[9]?=some (sS 0):=rfl;have c2:¬(all.length:Int)<=2:=O;refine aq [_,_] [4,61] [(8,[(11,.w [])])] [] func163 rfl ?_;generalize pT=z at*;simp[c2,gA,q0,q9,results163];exact⟨[],by simp[ak]⟩
def aci{N j p:Nat}(hS:BE N j p){D:bt}(h:sB N j D):∃E,sB N j E/\bN 71 [.obj 0 0,.p (.int 1),.p (.int j)] ⟨eG 3 D,dN 3,4⟩ (.agg true [.obj 4 0,.p (.int 0),.p (.int 0)]) ⟨(4,iB 0 5 (AA 1 j rU))::eG 6 E,(5,364,2)::dN 6,7⟩:=by
 have hj:=hS.jb;have hr:=hS.rb;have hN:=hS.nb;have hD:fJ 0 D:=h.gd.dok O (by rw[h.q];simp);obtain⟨r1,r2,r3,r4,r5⟩:=h.gd.read (a:=1) (n:=j) O;rw[h.aeZ]at r1;have hR:=Jk D hD.top 1 j;rw[show Gr D.kept.length 1 (j:Int)=0 by rw[h.gd.kl];exact hS.plc]at hR;have pL:=CV D 0 hD 1 j O;have e:D.read 1 (j:Int)=D.read ((1:Nat):Int) ((j:Nat):Int):=rfl;rw[e,r1]at pL;have hE:=h.same r2 r3 r5;refine⟨_,hE,?_⟩;generalize(D.read ((1:Nat):Int) ((j:Nat):Int)).1=E at*;simp only at pL;have hl:=Ev hj.1;have hz:(qd j)[2]?=some pT:=by
  obtain⟨m,rfl⟩:∃m,j=m+3:=⟨j-3,O⟩;simp[qd,show m+3-2=m+1 by omega,uX]
 have aqb:∀s∈qd j,s.length=64:=by
  intro s hs;have zH:s∈seg E.now 1 j:=by rw[hE.aeZ];exact hs
  exact hE.gd.n64 s (fq (oa zH))
 have hNw:=Py (qd j) O O aqb;rw[akv hj.1 hj.2]at hNw;have hF:=Rx E 1 j (qd j) 1 O hz;have hSe:=BS (AA 1 j rU);have hs:(AA 1 (j:Int) rU).settled=AA 1 j rU:=by unfold Jr.settled AA;simp
 rw[hs]at hSe;have w0:IntKind.i64.wrap 0=0:=aG;generalize qd j=all at*;refine aq [_,_,_] [57,146] [(12,[(0,.r 1),(5,.r 2),(9,.r 2),(10,.w [1,2])]),(16,[(0,.r 1),(5,.r 2),(6,.w [1,2])]),(22,[(4,.r 2),(6,.r 3),(10,.s 2 [3])])] [(1,4),(2,7),(3,6)] func71 rfl ?_;simp;refine oM hR rfl ?_;simp;refine wu [0,1,2,3] pL ?_;simp;refine cm hNw ?_;simp[ak];refine aS (λ_:Unit=>True) (λ_=>[(0,.obj 0 0),(10,.obj 4 0),(11,.p (.sl (all.map cK))),(12,.p (.int 0)),(13,.obj 6 0),(15,.obj 7 0)]) (λ_=>⟨(4,G1 1 j)::(6,⟨263,3,[.p (.int 1),.p (.int 1),.p (.int 2)]⟩)::(7,iB 0 8 (AA 1 j rU))::eG 5 E,(8,364,2)::dN 5,9⟩) (λ_=>0) () trivial _ (j9 7 10 364 2 ⟨268,12,[.obj 0 0,.p (.int 1),.p (.int j),.p (.int 1),.p (.int 1),.p (.int 2),.p (.int 1),.p (.int 2),.p (.int 2),.p (.bool false),.p .nil,.p (.int 0)]⟩ [] (by simp[lk,rU]) (.inr ⟨rfl,rfl⟩)) (aB (by simp[ak,Tb.cC,Tb.aY,del,AA,iB,rU])) ?_;rintro- -;simp[iB,AA,rU];refine wu [0,1,2,5] hF ?_;simp[ak];refine wu [0,1,2,5] hF ?_;simp[ak,w0];refine aD [0,1,2,5,7,8] hSe H H (by simp[aA,AA,rU]) (by simp[aA]) ?_;simp[ak,AA,rU,results71];exact⟨[(4,7),(5,9),(6,5)],by simp;intro a b h;omega⟩
abbrev trE:Ob:=⟨371,2,[.o_ 276 (.obj 0 0),.p (.int 0)]⟩
def Ry:bN 170 [.obj 1 0] ⟨[(1,trE)],[],2⟩ (.p (.int 0)) ⟨[(1,trE)],[],2⟩:=by
 refine aq [_] [10] [] [] func170 rfl ?_;simp[-az,results170];exact⟨[],H⟩
def Rz:bN 172 [.obj 1 0] ⟨[(1,trE)],[],2⟩ (.agg true [.p (.sl []),.p (.int 0)]) ⟨[(1,trE)],[],2⟩:=by
 refine aq [_,_] [] [(3,[(4,.r 1),(5,.w [])])] [(1,1)] func172 rfl ?_;simp[-az,results172];exact⟨[],H⟩
def Xo:bN 174 [.obj 1 0,.p (.str []),.p (.int 65536)] ⟨[(1,trE)],[],2⟩ (.agg true [.p (.sl []),.p (.int 0)]) ⟨[(1,trE)],[],2⟩:=by
 refine aC [_,_] func174 rfl ?_;simp[-az,results174];exact⟨[],H⟩
def acj(s:St)(hr:s.root=0):bN 75 [.obj 6 0,.p (.int 0)] ⟨aH 0 7 s,cH 7,17⟩ (.p (.int 0)) ⟨aH 0 17 s,cH 17,27⟩:=by
 have KJ:=LN 0;refine aq [_] [17] [] [] func75 rfl ?_;simp[aH,aj,ak,aR,aM,aJ,aP,hr];refine jf [17] KJ ?_;simp;refine Dy [17,18] Ry ?_;simp;refine Dy [17,18] Rz ?_;simp;refine aS (λ_:Unit=>True) (λ_=>[(0,.obj 6 0),(1,.p (.int 0)),(5,.obj 18 0),(39,.p (.sl [])),(40,.p (.int 0)),(41,.p (.int 0))]) (λ_=>⟨(17,⟨278,3,[.obj 6 0,.p .nil,.p .nil]⟩)::(18,⟨371,2,[.o_ 276 (.obj 17 0),.p (.int 0)]⟩)::aH 0 7 s,cH 7,19⟩) (λ_=>0) () trivial _ (AS.le_refl _ _) (aB (by simp[aH,aj,ak,aR,aM,aJ,aP,hr])) ?_;rintro- -;simp;refine Dy [17,18] Xo ?_;simp;refine aS (λ_:Unit=>True) (λ_=>[(0,.obj 6 0),(69,.p (.sl [])),(70,.p (.int 0)),(71,.p (.int 0))]) (λ_=>⟨aH 0 7 s,cH 7,19⟩) (λ_=>0) () trivial _ (AS.le_refl _ _) (aB (by simp[aH,aj,ak,aR,aM,aJ,aP,hr])) ?_;rintro- -;simp[-az,results75];exact⟨[(17,7),(18,8),(19,9),(20,10),(21,11),(22,12),(23,13),(24,14),(25,15),(26,16)],by simp[aH,aj,ak,aR,aM,aJ,aP];exact hr.symm⟩
def S6{N j p:Nat}(hS:BE N j p){D:bt}(h:sB N j D):∃D2,sB N j D2/\bN 19 [.obj 0 0,.p (.agg false [.int j,.int p])] ⟨eG 3 D,dN 3,4⟩ (.agg true [.obj 17 0,.p (.int 0)]) ⟨aeg (DH N j p D2),cH 4,18⟩:=by
 have hj:=hS.jb;have hp:=hS.pb;have hb:=hS.rb;have hN:=hS.nb;have hD:fJ 0 D:=h.gd.dok O (by rw[h.q];simp);have hri:=M_ D hD.top j p;rw[show Cc D.kept.length (j:Int) (p:Int)=0 by rw[h.gd.kl];exact hS.dsk]at hri;obtain⟨E,hE,hop⟩:=aci hS h;obtain⟨r1,r2,r3,r4,r5⟩:=hE.gd.read (a:=0) (n:=1) O;rw[hE.head]at r1;have hre:=CV E 0 (hE.gd.dok O (by rw[hE.q];simp)) 0 1 O;rw[show E.read 0 1=E.read ((0:Nat):Int) ((1:Nat):Int)from rfl,r1]at hre;have o8:=hE.same r2 r3 r5;refine⟨_,o8,?_⟩;generalize(E.read ((0:Nat):Int) ((1:Nat):Int)).1=D2 at*;simp only at hre;have hhd:=U7 (pS 0 0) (by rw[AB];omega);rw[akh]at hhd;simp only at hhd;have hsz:=La D2;rw[o8.gd.kl]at hsz;have qo:=yO j p O O;have hw1:IntKind.i64.wrap ((N:Int)-cY j p)=((N-(1+j+8*p):Nat):Int):=by unfold cY;rw[aG];omega
 have RS:=ajI 12 p O O;have hn2:=ajI 16 (N-(1+j+8*p)) O O;have hld:=acj (DH N j p D2) rfl;have RT:mh (Mp.new p):=AX O O;have hm2:mh (Mp.new (N-(1+j+8*p))):=AX O O;have Ox:=lX 13 22 23 24 30 p (by constructor<;>omega) RT.n [(0,p)] [] [] RT.F RT.W RT.fw;have RI:=lX 17 25 26 27 33 (N-(1+j+8*p)) (by constructor<;>omega) hm2.n [(0,N-(1+j+8*p))] [] [] hm2.F hm2.W hm2.fw;have kW:=agN [] H;generalize pS 0 0=hd at*;generalize hrN:N-(1+j+8*p)=r at*;refine kQ (rs:=[_,_]) [24] [(17,[(2,.w [1]),(6,.r 1),(7,.w [1]),(9,.w [1]),(15,.s 1 [])]),(23,[(4,.r 1),(5,.w [1]),(8,.s 1 [])])] [(1,4)] func19 rfl bp bp (by simp[ntmps19]) rfl ?_;refine iF mixed [(0,.obj 0 0),(3,.p (.ref (.agg false [.int j,.int p])))] ⟨eG 3 D,dN 3,4⟩ ?_ ?_
 .simp;exact aB (by simp[ak])
 refine iF mixed [(0,.obj 0 0),(3,.p (.ref (.agg false [.int j,.int p]))),(6,.p (.int 0))] ⟨eG 3 D,dN 3,4⟩ ?_ ?_
 .simp;refine Dy [0,1,2,3] hri ?_;simp;exact aB (by simp[ak])
 refine oU mixed (λ_:Unit=>True) (λ_=>[(0,.obj 0 0),(3,.p (.ref (.agg false [.int j,.int p]))),(7,.obj 4 0)]) (λ_=>⟨(4,⟨151,11,[.obj 0 0,.p (.int j),.p (.int p),.p (.sc (.pointer none)),.p (.int 0),.p (.sc (.pointer none)),.p (.sc (.pointer none)),.p .nil,.p (.int 0),.p .nil,.p (.bool true)]⟩)::eG 3 D,dN 3,5⟩) ?_ (λ_ _=>?_)
 .simp;exact aB (by simp[ak])
 refine qP (CZ 4 7 159 4 _ (by simp[lk];rfl) rfl) ?_;refine qP (CZ 4 9 198 3 _ (by simp[Tb.aY,Tb.bD];rfl) rfl) ?_;refine g_ mixed ?_;simp[ak,Tb.aY,Tb.bD,del];refine wu [0,1,2,3] hop ?_;simp[ak];refine wu [0,1,2,9] hre ?_;simp[ak];refine cm hhd ?_;simp;refine o7 RS rfl ?_;simp;refine Dy [0,1,2,10] hsz ?_;simp;refine jf [0] qo ?_;simp[hw1];refine o7 hn2 rfl ?_;simp;refine aD [0,1,2,7,13,17,4,10,8,12,14,15,16,18,19,5,6] hld H H (by simp[aA,DH,hrN,Mp.new,aH,aj,ak,aR,aM,aJ,aP,nU,Kk]) (by simp[aA]) ?_;simp[DH,hrN,Mp.new,aH,aj,ak,aR,aM,aJ,aP];refine o7 Ox rfl ?_;simp;refine o7 RI rfl ?_;simp;refine xQ [28] kW ?_;simp[-az,aeg,mtO,aj,ak,aR,aJ,aP,results19];exact⟨[(4,20),(5,21),(6,30),(7,31),(8,32),(9,33),(10,34),(11,35),(12,36),(13,29),(14,7),(15,13),(16,17),(17,4)],by simp[Mp.commit,DH,hrN,Mp.new]⟩
def aed{N:Nat}(h:357<=N/\N<=656):BE N 20 40:=by constructor<;>omega
def vM(N:Nat)(b s:Int)(D:bt):Wd:=⟨⟨DH N 20 40 D,dM.new (b%4000) (s%101),0⟩,[],0,0⟩
def HF(b s r:Int)(hb:-9223372036854775808<=b/\b<=9223372036854775807)(hs:-9223372036854775808<=s/\s<=9223372036854775807)(hr:-9223372036854775808<=r/\r<=9223372036854775807)(N:Nat)(hN:(N:Int)=357+r%300):∃D,sB N 20 D/\bN 41 [.p (.agg false [.int b,.int s,.int r])] ⟨[],[],0⟩ (.obj 9 0) ⟨lA 10 (vM N b s D),cH 10,22⟩:=by
 have hS:BE N 20 40:=aed O;have br:=x6 r 300 O;have bb:=x6 b 4000 O;have bs:=x6 s 101 O;have mr:=Bp r 300 O;have mb:=Bp b 4000 O;have ms:=Bp s 101 O;have r1:IntKind.i64.wrap (r.tmod 300)=r.tmod 300:=aG;have r2:IntKind.i64.wrap (r.tmod 300+300)=r.tmod 300+300:=aG;have r3:IntKind.i64.wrap (r%300)=r%300:=aG;have r4:IntKind.i64.wrap (357+r%300)=N:=by rw[aG];exact hN.symm
 have b1:IntKind.i64.wrap (b.tmod 4000)=b.tmod 4000:=aG;have b2:IntKind.i64.wrap (b.tmod 4000+4000)=b.tmod 4000+4000:=aG;have b3:IntKind.i64.wrap (b%4000)=b%4000:=aG;have s1:IntKind.i64.wrap (s.tmod 101)=s.tmod 101:=aG;have s2:IntKind.i64.wrap (s.tmod 101+101)=s.tmod 101+101:=aG;have s3:IntKind.i64.wrap (s%101)=s%101:=aG;have KJ:=ajP N O O;have hlr:=aee (b%4000) (s%101) O O;obtain⟨D,hf,hD⟩:=ajQ hS;have hfo:=S4 (bt.made N) 0 (S5 N O O) 20 40 O;rw[show FC (bt.made N) 20 40=FC (bt.made N) ((20:Nat):Int) ((40:Nat):Int)from rfl,hf]at hfo;obtain⟨D2,hD2,hmo⟩:=S6 hS hD;have hti:=aef (DH N 20 40 D2) (dM.new (b%4000) (s%101)) (by simp[DH]) rfl rfl;refine⟨D2,hD2,?_⟩;unfold vM;have Yj:(DH N 20 40 D2).dR=[]:=rfl;generalize DH N 20 40 D2=S at*;have key:bN 41 [.p (.agg false [.int b,.int s,.int r])] ⟨[],[],0⟩ (.obj 9 0) ⟨(9,⟨115,6,[.obj 0 0,.obj 7 0,.obj 8 0,.p .nil,.p (.int 0),.p (.int 0)]⟩)::fu 10 ⟨S,dM.new (b%4000) (s%101),0⟩,cH 10,22⟩:=by
  refine aq [_] [10] [(5,[(3,.r 1),(9,.r 1),(16,.r 1),(17,.r 2),(18,.w [1,2])]),(7,[(3,.r 1),(4,.r 2),(5,.w [1,2])])] [(1,0),(2,1)] func41 rfl ?_;simp[r1,r2,r3,r4,mr];refine jf [] KJ ?_;simp[ak,b1,b2,b3,mb,s1,s2,s3,ms];refine jf [] hlr ?_;simp[cN,ak];refine wu [2,3,4,5] hfo ?_;simp[ak];refine wu [2,3,4,9] hmo ?_;simp[aeg,mtO,aj,ak,aR,aJ,aP];refine pR [2,3,4,20,21,22,23,6,10,11,12,13,14,15,16,17,18,19,7,8] hti ?_;simp[-az,aH,aj,ak,aR,aM,aJ,aP,results41];exact⟨[(0,2),(1,3),(2,4),(3,20),(4,21),(5,22),(6,23),(7,6),(8,26),(9,0),(10,10),(11,11),(12,12),(13,13),(14,14),(15,15),(16,16),(17,17),(18,18),(19,19),(20,7),(21,8)],by simp[fu,aH,aj,ak,aR,aM,aJ,aP,Yj]⟩
 have k2:=mI (id:=9) (j:=3) (x:= .p .nil) (.p (.sl [])) key rfl rfl (.inr (.inl ⟨.nil,rfl,.inr rfl⟩));refine uW k2 _ ?_ ?_ ?_ ?_
 .simp[aA,lA,fu,aH,aj,ak,aR,aM,aJ,aP,Tb.aY,del]
 .simp[aA,Tb.aY]
 .simp[lA,fu,aH,aj,ak,aR,aM,aJ,aP]
 .simp[Tb.aY]
end Go.Av
namespace Go.aL
open Go.Av
def Wd.gb(W:Wd)(u:Int):Ts:=Ts.gb W.T (aU u)
def kp0:Kp:=⟨[],⟨[],[],[],⟨[],[],0,[],0⟩,[],0,0,0,0,0,[]⟩,[],0⟩
structure ajO(W:Wd)(u:Int)(b:aF)(D:List Lg):Prop where
 w:∃c n,HE c n (W.gb u) b
 z:((W.gb u).w.aQ b).2≠0
 t:Lu {W with T:=((W.gb u).aQ b).1.T} 0 kp0 false D
def y5(b:aF):[b.take (b.length/2),b.drop (b.length/2)].flatten=b:=H
end Go.aL
namespace Go.Av
open Go.Proofs Go.Proofs.Tryz Go.aL
def Iw(u:Int):(aU u).Ok:=by
 refine⟨by simp[aU],?_,by simp[aU],by simp[aU],by simp[aU],by simp[aU],by simp[aU,AG],by simp[aU],by simp[aU],by simp[aU],by simp[aU],by simp[aU]⟩;unfold aU;simp only;split<;>simp
def TF(W:Wd)(u n:Int)(hu:-9223372036854775808<=u/\u<=9223372036854775807)(hn:-9223372036854775808<=n/\n<=9223372036854775807)(x:UInt8)(D:List Lg)(hg:Lv (aU u)=true)(h:ajO W u (pV x (n%600).toNat) D):bN 42 [.obj 9 0,.p (.int u),.p (.int n),.p (.sc (.int .u8 (x.toNat:Int)))] ⟨lA 10 W,cH 10,22⟩ (.agg true [.p (.bool false),.p (.bool true)]) ⟨lA 22 (({W with T:=((W.gb u).aQ (pV x (n%600).toNat)).1.T}:Wd).told kp0 false D),cH 22,34⟩:=by
 obtain⟨⟨c,nn,hw⟩,hz,ht⟩:=h;have hso:=FW u hu;have HB:=Ni n hn x;have XC:=Iy W.T (aU u) (Iw u) hg;have uk:(pV x (n%600).toNat).length<600:=by rw[qR];omega
 generalize pV x (n%600).toNat=b at*;have jC:=Ir (W.gb u) [b.take (b.length/2),b.drop (b.length/2)] H (c:=c) (n:=nn) (by rw[y5];exact hw) (by rw[y5];exact hz);rw[y5]at jC;have hte:=NC _ _ _ _ _ ht;have hz2:((W.gb u).aQ b).2≠0:=by unfold Ts.aQ;rw[ah hz];exact hz
 clear hw hz ht;unfold Wd.gb at*;have hbd:(aU u).body=[]:=rfl;generalize aU u=e at*;generalize(Ts.gb W.T e).aQ b=Z at*;obtain⟨Z,er⟩:=Z;simp only at jC hte hz2⊢;have DV:(er !=0)=true:=U hz2;generalize({W with T:=Z.T}:Wd).told kp0 false D=T' at*;obtain⟨WT,now,lines,order⟩:=W;simp only at jC hte XC⊢;have wk:IntKind.i64.wrap ((b.length:Int)/2)=(b.length:Int)/2:=aG;have hkn:((b.length:Int)/2).toNat=b.length/2:=O;have lF:List.take (b.length/2) (af b)=af (b.take (b.length/2)):=by simp[af]
 have DU:List.drop (b.length/2) (af b)=af (b.drop (b.length/2)):=by simp[af]
 refine aq [_,_] [] [(3,[(3,.r 1),(4,.r 2),(5,.w [1,2])]),(7,[(8,.w [])]),(11,[(0,.r 2),(2,.r 2),(7,.r 1),(10,.w [1,2]),(11,.s 3 [1,2])])] [(1,9),(2,22),(3,52)] func42 rfl ?_;simp[lA,fu,aH,aj,ak,aR,aM,aJ,aP];refine cm hso ?_;simp;refine cm HB ?_;simp;refine Nt [0,1,2,3,4,5,6,7,8,10,11,12,13,14,15,16,17,18,19,20,21] XC ?_;simp[fC,eF,Ts.gb,Ts.w,fu,aH,aj,ak,aR,aM,aJ,aP,wk,hkn,lF,DU];refine⟨λy h=>(cJ _ y h).symm,O,O,λy h=>(cJ _ y h).symm,O,O,?_⟩;refine aD [0,1,2,3,4,5,6,7,8,23,25,10,11,12,13,14,15,16,17,18,19,20,21,24] jC H H (by simp[aA,hbd,Lq,fC,eF,Ts.gb,Ts.w,fu,aH,aj,ak,aR,aM,aJ,aP]) (by simp[aA]) ?_;simp[DV,Zq,iT,Lq,fC,eF,Ts.gb,Ts.w,fu,aH,aj,ak,aR,aM,aJ,aP];refine aD [0,1,2,3,4,5,6,7,8,9,26,27,28,29,30,31,32,33,34,35,36,37] hte H (by simp[kp0,af]) (by simp[aA,lA,fu,aH,aj,ak,aR,aM,aJ,aP]) (by simp[aA]) ?_;simp[-az,lA,fu,aH,aj,ak,aR,aM,aJ,aP,results42];exact⟨[(22,26),(23,27),(24,28),(25,29),(26,30),(27,31),(28,32),(29,33),(30,34),(31,35),(32,36),(33,37)],H⟩
end Go.Av
namespace Go.aL
open Go.Av
def Wd.SS(W:Wd)(u:Int)(b:aF):Kp:=⟨(aU u).kk,aU u,b,W.order+1⟩
def Wd.fin(W:Wd)(u:Int)(b:aF):Wd:={W with T:=((W.gb u).aQ b).1.bq.1.T,order:=if((W.gb u).aQ b).1.bq.2.1=true then W.order+1 else W.order}
structure aea(W:Wd)(u:Int)(b:aF)(D:List Lg):Prop where
 w:∃c n,HE c n (W.gb u) b
 z:((W.gb u).w.aQ b).2=0
 d:∃c n,SU c n ((W.gb u).aQ b).1
 i:((W.gb u).aQ b).1.bq.2.1=true->isB (W.SS u b) ((W.gb u).aQ b).1.bq.1.e b=true
 k:((W.gb u).aQ b).1.bq.1.kept=((W.gb u).aQ b).1.bq.2.1
 e:EB ((W.gb u).aQ b).1.bq.1.e
 o:0<=W.order/\W.order<=1000000
 t:Lu (W.fin u b) 1 (W.SS u b) ((W.gb u).aQ b).1.bq.2.1 D
end Go.aL
namespace Go.Av
open Go.Proofs Go.Proofs.Tryz Go.aL
def BU(e:cS)(h1:e.uri.length<=100000)(h2:e.var.length<=100000):cq 44 [fK e] (.str e.kk):=by
 refine ay [_] func44 rfl ?_;simp[results44,cS.kk];omega
def H8(W:Wd)(u n:Int)(hu:-9223372036854775808<=u/\u<=9223372036854775807)(hn:-9223372036854775808<=n/\n<=9223372036854775807)(x:UInt8)(D:List Lg)(hg:Lv (aU u)=true)(h:aea W u (pV x (n%600).toNat) D):bN 42 [.obj 9 0,.p (.int u),.p (.int n),.p (.sc (.int .u8 (x.toNat:Int)))] ⟨lA 10 W,cH 10,22⟩ (.agg true [.p (.bool ((W.gb u).aQ (pV x (n%600).toNat)).1.bq.2.1),.p (.bool true)]) ⟨lA 22 ((W.fin u (pV x (n%600).toNat)).told (W.SS u (pV x (n%600).toNat)) ((W.gb u).aQ (pV x (n%600).toNat)).1.bq.2.1 D),cH 22,34⟩:=by
 obtain⟨⟨c,nn,hw⟩,hz,⟨c2,nn2,hd⟩,hi,hk,hE,ho,ht⟩:=h;have hso:=FW u hu;have HB:=Ni n hn x;have XC:=Iy W.T (aU u) (Iw u) hg;have hky:=BU (aU u) (by simp[aU]) (by unfold aU;simp only;split<;>simp);have uk:(pV x (n%600).toNat).length<600:=by rw[qR];omega
 generalize pV x (n%600).toNat=b at*;have jC:=Iq (W.gb u) [b.take (b.length/2),b.drop (b.length/2)] H (c:=c) (n:=nn) (by rw[y5];exact hw) (by simp[Wd.gb,Ts.gb]) (by rw[y5];exact hz);rw[y5]at jC;have hdo:=Zr _ hd;have hte:=NC _ _ _ _ _ ht;have hnf:(aU u).names.length<=1000000/\(aU u).fields.length<=1000000:=by simp[aU]
 have his:=alz (W.SS u b) ((W.gb u).aQ b).1.bq.1.e b ⟨hnf,by show b.length<=_;omega⟩ ⟨by have:=hE.nl;omega,by have:=hE.fl;omega⟩ O;have hkp:=Nu ((W.gb u).aQ b).1.bq.1.w (by have:=hE.nl;show((W.gb u).aQ b).1.bq.1.e.names.length<=_;omega) (by have:=hE.fl;show((W.gb u).aQ b).1.bq.1.e.fields.length<=_;omega) (by have:=hE.body.bl;show((W.gb u).aQ b).1.bq.1.e.body.length<=_;omega);have hkw:((W.gb u).aQ b).1.bq.1.w.kept=((W.gb u).aQ b).1.bq.2.1:=hk;have hbd:(aU u).body=[]:=rfl;unfold fK at hky;rw[hbd,qN]at hky;rw[hkw]at hkp;obtain⟨T',hT⟩:∃T',(W.fin u b).told (W.SS u b) ((W.gb u).aQ b).1.bq.2.1 D=T':=⟨_,rfl⟩;rw[hT]at hte⊢;clear hT hw hz hd hE ht hkw;unfold Wd.fin Wd.SS Wd.gb at*;generalize aU u=e at*;generalize(Ts.gb W.T e).aQ b=Z at*;obtain⟨Z,er⟩:=Z;simp only at jC hte hdo hkp his hi hk⊢;generalize Z.bq=Y at*;obtain⟨Y,dn,er2⟩:=Y;simp only at jC hte hdo hkp his hi hk⊢;obtain⟨WT,now,lines,order⟩:=W;simp only at jC hte XC his hi ho⊢;have wk:IntKind.i64.wrap ((b.length:Int)/2)=(b.length:Int)/2:=aG;have hkn:((b.length:Int)/2).toNat=b.length/2:=O;have wo:IntKind.i64.wrap (order+1)=order+1:=aG;have lF:List.take (b.length/2) (af b)=af (b.take (b.length/2)):=by simp[af]
 have DU:List.drop (b.length/2) (af b)=af (b.drop (b.length/2)):=by simp[af]
 cases dn
 all_goals
  refine aq [_,_] [] [(3,[(3,.r 1),(4,.r 2),(5,.w [1,2])]),(7,[(8,.w [])]),(11,[(0,.r 2),(2,.r 2),(7,.r 1),(10,.w [1,2]),(11,.s 3 [1,2])])] [(1,9),(2,22),(3,52)] func42 rfl ?_;simp[lA,fu,aH,aj,ak,aR,aM,aJ,aP];refine cm hso ?_;simp;refine cm HB ?_;simp;refine Nt [0,1,2,3,4,5,6,7,8,10,11,12,13,14,15,16,17,18,19,20,21] XC ?_;simp[fC,eF,Ts.gb,Ts.w,fu,aH,aj,ak,aR,aM,aJ,aP,wk,hkn,lF,DU];refine⟨λy h=>(cJ _ y h).symm,O,O,λy h=>(cJ _ y h).symm,O,O,?_⟩;refine aD [0,1,2,3,4,5,6,7,8,23,25,10,11,12,13,14,15,16,17,18,19,20,21,24] jC H H (by simp[aA,hbd,Lq,fC,eF,Ts.gb,Ts.w,fu,aH,aj,ak,aR,aM,aJ,aP]) (by simp[aA]) ?_;simp[Lq,fC,eF,Ts.w,fu,aH,aj,ak,aR,aM,aJ,aP];refine rcJ [0,1,2,3,4,5,6,7,8,23,25,26,27,28,29,30,31,32,33,34,35,36,37,38] hdo ?_;simp[Zq,iT,Lq,fC,eF,Ts.w,fu,aH,aj,ak,aR,aM,aJ,aP];refine aD [0,1,2,3,4,5,6,23,39,40,41,42,43,44,45,46,47,48] hkp H H (by simp[aA,iT,Ts.w,hk]) H ?_;simp[iT,Ts.w,wo];refine aZ hky ?_;simp[wo]
 .refine aD [0,1,2,3,4,5,6,7,8,9,39,40,41,42,43,44,45,46,47,48,49,50] hte H (by simp[hbd]) (by simp[aA,lA,fu,aH,aj,ak,aR,aM,aJ,aP]) (by simp[aA]) ?_;simp[-az,lA,fu,aH,aj,ak,aR,aM,aJ,aP,results42];exact⟨[(22,39),(23,40),(24,41),(25,42),(26,43),(27,44),(28,45),(29,46),(30,47),(31,48),(32,49),(33,50)],H⟩
 .rw[hi rfl]at his;refine fY his (by simp[hbd]) ?_;simp;refine aD [0,1,2,3,4,5,6,7,8,9,39,40,41,42,43,44,45,46,47,48,49,50] hte H (by simp[hbd]) (by simp[aA,lA,fu,aH,aj,ak,aR,aM,aJ,aP]) (by simp[aA]) ?_;simp[-az,lA,fu,aH,aj,ak,aR,aM,aJ,aP,results42];exact⟨[(22,39),(23,40),(24,41),(25,42),(26,43),(27,44),(28,45),(29,46),(30,47),(31,48),(32,49),(33,50)],H⟩
end Go.Av
namespace Go.aL
open Go.Av
def fR(u o:Int)(b:aF)(l:eL):cS:={aU u with order:=o,size:=b.length,sum:=m8 0 b,body:=l}
def aaj(u:Int):∃i:Fin 10,aU u=aU (i.val:Int):=by
 refine⟨⟨(u%10).toNat,O⟩,?_⟩;have h1:((u%10).toNat:Int)%5=u%5:=O;have h2:((u%10).toNat:Int)%2=u%2:=O;unfold aU;simp only[h1,h2]
def aak:∀i:Fin 10,((aU (i.val:Int)).yR&&(aU (i.val:Int)).jg)=true:=by decide+kernel
def N8(u:Int):(aU u).yR=true/\(aU u).jg=true:=by
 obtain⟨i,hi⟩:=aaj u;have h:=aak i;rw[<-hi,bG]at h;exact h
def C1(u o:Int){b:aF}{l:eL}(ho:0<=o/\o<=1000000)(hb:b.length<=600)(hp:gF l b.length=true):(fR u o b l).right=true:=by
 obtain⟨h1,h2⟩:=N8 u;have h1:(fR u o b l).yR=true:=h1;have h2:(fR u o b l).jg=true:=h2;have h3:(fR u o b l).DT=true:=by
  show(wK 5 _&&(wK 6 _&&(wK o _&&wK (b.length:Int) _)))=true;unfold wK;simp only[bG,eZ];omega
 have h4:gF (fR u o b l).body (fR u o b l).size=true:=hp;unfold cS.right;rw[h1,h2,h3,h4];rfl
def KZ(u:Int):Lv (aU u)=true:=by
 obtain⟨h1,h2⟩:=N8 u;have h3:(aU u).DT=true:=by
  show(wK 5 _&&(wK 6 _&&(wK 0 _&&wK 0 _)))=true;decide
 have h4:gF (aU u).body (aU u).size=true:=by
  show gF [] 0=true;decide
 have hr:(aU u).right=true:=by unfold cS.right;rw[h1,h2,h3,h4];rfl
 unfold Lv;rw[hr];rfl
def m_(u:Int):(aU u).var.length<=4:=by unfold aU;simp only;split<;>simp
def aal(l:eL):(l.flatMap vq).length=8*l.length:=by
 induction l with
 |nil=>rfl
 |cons x l ih=>
  rw[cU,mo,ih,cF];simp only[vq,mo,bC];omega
def MD(u o:Int){b:aF}{l:eL}(hl:qG l):(fR u o b l).pack.length<=200:=by
 have hv:=m_ u;have hb:=hl.bl;have h1:(kT (fR u o b l).uri).length=12:=by simp[kT,fR,aU,bC]
 have h2:(kT (fR u o b l).var).length=2+(aU u).var.length:=by simp[kT,fR,bC]
 have h3:(kT (fR u o b l).st.r).length=4:=by simp[kT,fR,aU,bC]
 have h4:(fP (fR u o b l).names).length=3:=by simp[fP,fR,aU,bC]
 have h5:((fR u o b l).fields.flatMap vp).length=6:=by simp[vp,kT,fR,aU,bC]
 have h6:((fR u o b l).body.flatMap vq).length=8*l.length:=aal l;rw[Nj];simp only[mo,bC,h1,h2,h3,h4,h5,h6];omega
structure VOk(e:cS)(b:aF):Prop where
 is:∃u o l,e=fR u o b l/\(0<=o/\o<=1000000)/\qG l/\gF l b.length=true
 bl:b.length<=600
def VOk.okb{e:cS}{b:aF}(h:VOk e b):RL e/\EB e/\e.kk.length<=15:=by
 obtain⟨⟨u,o,l,rfl,ho,hl,hp⟩,hb⟩:=h;have hv:=m_ u;have hr:=C1 u o ho hb hp;have hpl:=MD u o (b:=b) hl;have uk:=hl.bl;have hve:(fR u o b l).var.length<=4:=hv;have hu:(fR u o b l).uri.length=10:=rfl;refine⟨⟨⟨by simp[fR,aU],O,by simp[fR,aU],by simp[fR,aU],by simp[fR,aU],by simp[fR,aU],by simp[fR,aU,AG],by simp[fR,aU],by simp[fR,aU],by simp[fR,aU],by show l.length<=_;omega,AO O b⟩,?_,O,O,?_,hl⟩,⟨⟨O,O⟩,by simp[fR,aU],by simp[fR,aU],by simp[fR,aU,Fo],hl⟩,?_⟩
 .unfold cS.Eg;rw[ai hr,ah O]
 .show 0<=o/\o<=_;omega
 .show((fR u o b l).uri++10::(fR u o b l).var).length<=_;rw[mo,cF];omega
def VOk.un{e:cS}{b:aF}(h:VOk e b):KA (λ_=>(e,0)) e.pack:=by
 have hE:=h.okb.1;obtain⟨⟨u,o,l,rfl,ho,hl,hp⟩,hb⟩:=h;have hv:=m_ u;have hve:(fR u o b l).var.length<=4:=hv;have uk:=hl.bl;refine Qx (fR u o b l) ⟨by simp[fR,aU],by simp[fR,aU],by simp[fR,aU],by simp[fR,aU],?_,?_,AO O b,by simp[fR,aU],O,by simp[fR,aU],by simp[fR,aU],by simp[fR,aU],by simp[fR,aU],by simp[fR,aU],?_,?_⟩ hE.pl hE.ok (C1 u o ho hb hp) rfl rfl
 .show 0<=o/\o<_;omega
 .show 0<=(b.length:Int)/\(b.length:Int)<_;omega
 .show l.length<_;omega
 .intro x hx;have:=hl.bo x hx;omega
structure vW(D:bt):Prop where
 bad:D.bad=[]
 left:D.left=-1
 len:D.now.length=D.kept.length
def vW.next{D:bt}(h:vW D):D.next.2=0/\vW D.next.1/\D.next.1.now=D.now/\D.next.1.kept=D.kept:=by
 obtain⟨h1,h2,h3,h4⟩:=Go.Av.lg D;have ho:=qg 0 D;refine⟨?_,⟨h4.trans h.bad,ho.left h.left,by rw[h1,h2];exact h.len⟩,h2,h1⟩;unfold bt.next;rw[ah (by rw[h.left];decide),h.bad];rfl
def vW.read{D:bt}(h:vW D){a n:Nat}(hr:a+n<=D.kept.length):D.read (a:Int) (n:Int)=(D.next.1,seg D.now a n,0):=by
 have ht:D.there (a:Int) (n:Int)=true:=by
  unfold bt.there;simp only[bG,eZ];omega
 unfold bt.read;rw[ai ht,ai h.next.1];rfl
def Z7(l:eL):zZ l=mq l*64:=by
 induction l with
 |nil=>rfl
 |cons x l ih=>
  unfold zZ mq at*;simp only[dB,List.sum_cons];rw[ih];omega
theorem CP{r:Nat}:∀(l:eL) (D:bt) (o:aF),vW D->(∀x∈l,0<=x.1/\0<=x.2/\r+x.1+x.2<=D.kept.length)->∃D',gU (r:Int) l D o=(D',o++um D.now r l,0)/\vW D'/\D'.now=D.now/\D'.kept=D.kept
 |[],D,o,h,_=>⟨D,by simp[gU],h,rfl,rfl⟩
 |x::l,D,o,h,hx=>by
  obtain⟨x1,x2,x3⟩:=hx x H;have hrd:=h.read (a:=r+x.1.toNat) (n:=x.2.toNat) O;rw[show((r+x.1.toNat:Nat):Int)=(r:Int)+x.1 by omega,show((x.2.toNat:Nat):Int)=x.2 by omega]at hrd;obtain⟨_,n1,n2,n3⟩:=h.next;obtain⟨D',q1,q2,q3,q4⟩:=CP l D.next.1 (o++(seg D.now (r+x.1.toNat) x.2.toNat).flatten) n1 (λy hy=>by rw[n3];exact hx y (by simp[hy]));refine⟨D',?_,q2,q3.trans n2,q4.trans n3⟩;unfold gU;rw[ai (by rw[hrd]),hrd];show gU (r:Int) l D.next.1 (o++(seg D.now (r+x.1.toNat) x.2.toNat).flatten)=_;rw[q1,n2,CQ,cW]
def X7{r c:Nat}{s:St}{X:eL}{M:jV}{key:aF}(hB:Bd c s)(h:kX r s X M)(hf:vW s.D)(hM:∀k e b,M k=some (e,b)->VOk e b)(eM:qn s.ix key=true):∃e b D1 D2,M key=some (e,b)/\e.kk=key/\s.get (λ_=>(e,0)) key=(s.dev D1,e,true,0)/\(s.dev D1).body e=(s.dev D2,b,0)/\KA (λ_=>(e,0)) (s.OW (s.ix.getD (gO s.ix key) ux).gP)/\D2.now=s.D.now/\D2.kept=s.D.kept/\vW D2:=by
 obtain⟨hi,hk⟩:=tN eM;have hS:=hB.lM;have hmem:=bB hi;have hgd:s.ix.getD (gO s.ix key) ux=s.ix[gO s.ix key]:=Nx hi;rw[hgd];generalize hkk:s.ix[gO s.ix key]=k at hk hmem hgd⊢;obtain⟨e,b,m1,kd⟩:=h.data k hmem;rw[hk]at m1;have hv:=hM _ _ _ m1;have hE:=hv.okb.1;have hkey:e.uri++10::e.var=key:=kd.key.symm.trans hk;have hrN:r+s.rm.n=s.D.kept.length:=by
  have h1:=hS.OX;have h2:=h.r0;omega
 have Bi:∀x∈k.exts,0<=x.1/\1<=x.2/\x.1+x.2<=s.rm.n:=λx hx=>h.ap.top x (Bu _ (Bb.2 ⟨k,hmem,hx⟩));have hx:=Bi k.gP (K3 ..);have hn:=kd.rn;have hrd:=hf.read (a:=r+k.gP.1.toNat) (n:=(fL e).length) O;rw[kd.at',show((r+k.gP.1.toNat:Nat):Int)=cY s.jn s.pn+k.gP.1 by rw[h.r0];omega,<-hn]at hrd;obtain⟨_,n1,n2,n3⟩:=hf.next;obtain⟨u1,u2⟩:=SA hE.pl (λ_=>(e,0)) rfl;have hread:s.read (λ_=>(e,0)) k.gP=(s.dev s.D.next.1,e,0):=by
  unfold St.read;rw[hrd];simp only[u1];rfl
 have Kg:∀x∈e.body,0<=x.1/\0<=x.2/\(r:Int)+x.1+x.2<=s.D.next.1.kept.length:=λx hx=>by
  have:=Bi x (by rw[<-kd.bod]at hx;exact yH _ hx);rw[n3];omega
 obtain⟨D2,q1,q2,q3,q4⟩:=CP (r:=r) e.body s.D.next.1 [] n1 Kg;refine⟨e,b,s.D.next.1,D2,m1,hkey,?_,?_,?_,q3.trans n2,q4.trans n3,q2⟩
 .unfold St.get;rw[ai eM,hgd,hread,ai rfl]
 .have aoQ:e.size<=zZ e.body:=by
   obtain⟨⟨u,o,l,he,_,_,hp⟩,_⟩:=hv;unfold gF at hp;simp only[bG,ri]at hp;have h3:=hp.2.2;have RN:e.body=l:=by rw[he];rfl
   have oK:e.size=b.length:=by rw[he];rfl
   rw[Z7,RN,oK,h3];unfold Tr;split<;>omega
  have hsz:=kd.size;have hok:(s.dev s.D.next.1).GK e=true:=by
   unfold St.GK;have hd:(s.dev s.D.next.1).ix=s.ix:=rfl;simp only[bG,eZ];rw[hd,hkey,hgd];exact⟨eM,kd.ord,kd.bod,aoQ,O⟩
  obtain⟨z,hz⟩:=kd.um;have q1:gU (cY (s.dev s.D.next.1).jn (s.dev s.D.next.1).pn) e.body (s.dev s.D.next.1).D []=(D2,b++List.replicate z 0,0):=by
   show gU (cY s.jn s.pn) e.body s.D.next.1 []=_;rw[h.r0,q1,n2,hz,o3]
  have lF:(b++List.replicate z 0).take e.size.toNat=b:=by
   rw[hsz,qS];exact gN rfl
  unfold St.body;rw[ai hok,q1];simp only[lF,cr,show xw b=e.sum from kd.sum.symm];rfl
 .have ho:s.OW k.gP=e.pack:=by
   unfold St.OW;rw[hrd];exact u2
  rw[ho];exact hv.un
def dM.all(c:dM):List Hd:=c.aK++c.rest
def LU(c:dM):Prop:=c.all.Pairwise λa b=>a.key≠b.key
def LU.uniq{c:dM}(h:LU c){x y:Hd}(hx:x∈c.all)(hy:y∈c.all)(hk:x.key=y.key):x=y:=by
 unfold LU at h;rw[yJ]at h;obtain⟨i,hi,rfl⟩:=yI.1 hx;obtain⟨j,hj,rfl⟩:=yI.1 hy;rcases Nat.lt_trichotomy i j with c1|rfl|c1
 .exact absurd hk (h i j hi hj c1)
 .rfl
 .exact absurd hk.symm (h j i hj hi c1)
def vX{c:dM}{key:aF}{h:Hd}(hh:c.hit key=some h):h∈c.all/\h.key=key:=by
 unfold dM.hit at hh;cases h1:iz c.aK key with
 |some i=>
  rw[h1]at hh;obtain⟨hi,hk,_⟩:=ia h1;simp only[n_ hi,uH]at hh;rw[<-hh];exact⟨Bu _ (bB hi),hk⟩
 |none=>
  rw[h1]at hh;cases h2:iz c.rest key with
  |some i=>
   rw[h2]at hh;obtain⟨hi,hk,_⟩:=ia h2;simp only[n_ hi,uH]at hh;rw[<-hh];exact⟨Kz _ (bB hi),hk⟩
  |none=>rw[h2]at hh;cases hh
def ahc{c:dM}{key:aF}(hh:c.hit key=none):∀x∈c.all,x.key≠key:=by
 obtain⟨h1,h2⟩:=Jz hh;intro x hx;rcases lD.1 hx with hx|hx
 .exact(lW h1).2 x hx
 .exact(lW h2).2 x hx
def LU.hit{c:dM}(h:LU c){x:Hd}(hx:x∈c.all):c.hit x.key=some x:=by
 cases hh:c.hit x.key with
 |none=>exact absurd rfl (ahc hh x hx)
 |some y=>
  obtain⟨h1,h2⟩:=vX hh;rw[h.uniq h1 hx h2]
def LU.perm{c d:dM}(h:LU c)(hp:c.all.Perm d.all):LU d:=hp.pairwise h λq=>q.symm
def LU.sub{c d:dM}(h:LU c)(hp:d.all.Sublist c.all):LU d:=h.sublist hp
theorem G_(s:Int):∀(r t:List Hd),(rZ s t r).1++(rZ s t r).2=t++r
 |[],t=>by unfold rZ;rfl
 |h::r,t=>by
  unfold rZ;split
  .rw[G_ s r];simp
  .rfl
def Bt{c:dM}(key:aF):c.all.Perm (c.get key).all:=by
 have key2:∀{l:List Hd} {i:Nat} (hi:i<l.length),l.Perm (l.take i++l.drop (i+1)++[l[i]]):=λ{l i} hi=>by
  have e:l=l.take i++l[i]::l.drop (i+1):=by rw[<-eK hi,eO]
  conv=>lhs;rw[e]
  rw[cW];refine BW _ ?_;rw[<-List.singleton_append];exact K5
 unfold dM.get;cases h1:iz c.aK key with
 |some i=>
  obtain⟨hi,_⟩:=ia h1;show(c.aK++c.rest).Perm ((rZ _ _ _).1++(rZ _ _ _).2);rw[G_,n_ hi];simp only[Option.toList];refine((key2 hi).append_right _).trans ?_;rw[cW];exact BW _ K5
 |none=>
  cases h2:iz c.rest key with
  |some i=>
   obtain⟨hi,_⟩:=ia h2;show(c.aK++c.rest).Perm ((rZ _ _ _).1++(rZ _ _ _).2);rw[G_,n_ hi];simp only[Option.toList];exact BW _ (key2 hi)
  |none=>exact List.Perm.refl _
def LU.get{c:dM}(h:LU c)(key:aF):LU (c.get key):=h.perm (Bt key)
def LU.X6{c:dM}(h:LU c){key:aF}{x:Hd}(hh:c.hit key=some x):(c.get key).hit key=some x:=by
 obtain⟨h1,h2⟩:=vX hh;have:=(h.get key).hit ((Bt key).mem_iff.1 h1);rw[h2]at this;exact this
def JJ{l:List Hd}{key:aF}(h:l.Pairwise λa b=>a.key≠b.key):∀x∈gT l key,x.key≠key:=by
 intro x hx;unfold gT at hx;cases hp:iz l key with
 |none=>rw[hp]at hx;exact(lW hp).2 x hx
 |some i=>
  rw[hp]at hx;obtain⟨hi,hk,_⟩:=ia hp;have e:l=l.take i++l[i]::l.drop (i+1):=by rw[<-eK hi,eO]
  rw[e,uI,uJ]at h;obtain⟨_,⟨h2,_⟩,h3⟩:=h;rcases lD.1 hx with hx|hx
  .rw[<-hk];exact h3 x hx _ (K3 ..)
  .rw[<-hk];exact(h2 x hx).symm
theorem LU.drop{c:dM}(h:LU c)(key:aF):LU (c.drop key)/\∀x∈(c.drop key).all,x.key≠key:=by
 refine⟨h.sub ((lu _ _).append (lu _ _)),λx hx=>?_⟩;unfold LU dM.all at h;rw[uI]at h;rcases lD.1 hx with hx|hx
 .exact JJ h.1 x hx
 .exact JJ h.2.1 x hx
theorem A7(b:Int):∀(n:Nat) (t r:List Hd) (o:List (aF)),(pE b n t r o).1.Sublist t/\(pE b n t r o).2.1.Sublist r
 |0,_,_,_=>⟨qT _,qT _⟩
 |n+1,t,r,o=>by
  unfold pE;split
  .cases t with
   |cons x t'=>
    have:=A7 b n t' r (o++[x.key]);exact⟨this.1.cons _,this.2⟩
   |nil=>
    cases r with
    |cons y r'=>
     have:=A7 b n [] r' (o++[y.key]);exact⟨this.1,this.2.cons _⟩
    |nil=>exact⟨qT _,qT _⟩
  .exact⟨qT _,qT _⟩
def LU.put{c:dM}(h:LU c)(x:Hd):LU (c.put x)/\∀y,(c.put x).hit x.key=some y->y=x:=by
 obtain⟨h1,h2⟩:=h.drop x.key;have hp:((c.drop x.key).all++[x]).Perm (c.oh x).all:=by
  unfold dM.oh;split
  .show((c.drop x.key).aK++(c.drop x.key).rest++[x]).Perm ((c.drop x.key).aK++((c.drop x.key).rest++[x]));rw[cW]
  .show((c.drop x.key).aK++(c.drop x.key).rest++[x]).Perm ((c.drop x.key).aK++[x]++(c.drop x.key).rest);rw[cW,cW];exact BW _ K5
 have hu:LU (c.oh x):=by
  refine hp.pairwise (R:=λa b:Hd=>a.key≠b.key) ?_ λq=>q.symm;rw[uI];refine⟨h1,List.pairwise_singleton _ _,λa ha b hb=>?_⟩;rw[gK.1 hb];exact h2 a ha
 have hm:x∈(c.oh x).all:=hp.mem_iff.1 H;have hs:(c.oh x).shrink.all.Sublist (c.oh x).all:=(A7 _ _ _ _ _).1.append (A7 _ _ _ _ _).2;unfold dM.put;split
 .refine⟨h1,λy hy=>?_⟩;obtain⟨q1,q2⟩:=vX hy;exact absurd q2 (h2 y q1)
 .refine⟨hu.sub hs,λy hy=>?_⟩;obtain⟨q1,q2⟩:=vX hy;exact hu.uniq (hs.subset q1) hm q2
def LU.Fw{c:dM}(h:LU c)(l:List Lg):LU (oG c l):=by
 induction l generalizing c with
 |nil=>exact h
 |cons x l ih=>
  have:oG c (x::l)=oG (if x.kind=3\/x.kind=4 then c.drop x.key else c) l:=rfl;rw[this];refine ih ?_;split
  .exact(h.drop _).1
  .exact h
theorem LU.new(b s:Int):LU ⟨b,s,[],[]⟩:=List.Pairwise.nil
structure WI(r c n k:Nat)(W:Wd):Prop where
 t:Hw c n W.T
 h:∃M,kX r W.T.s [] M/\∀key e b,M key=some (e,b)->VOk e b
 u:LU W.T.c
 f:vW W.T.s.D
 ln:W.lines=W.T.s.dR.length
 od:W.order=W.T.s.ord
 ob:0<=W.order/\W.order<=k
 nl:W.now.length<=k
 nk:∀y∈W.now,y.key.length<=1000
theorem vZ{ds:List (aF)}{M:jV}{key:aF}{x:cS×aF}(h:(M.KF ds) key=some x):M key=some x:=by
 induction ds generalizing M with
 |nil=>exact h
 |cons d ds ih=>
  have h1:=ih (M:=M.no d) h
  grind [jV.no]
def By{s u:St}{ds:List (aF)}{C:List (Int×aF)}(h:pP u=pP s++ds.map (λk=>((4:Int),k))++C)(hk:∀x∈ds,x.length<=1000):∃P D L,u.dR=P++D++L/\P.length=s.dR.length/\(∀x∈D,x.kind=4/\x.key.length<=1000)/\L.map (λl=>(l.kind,l.key))=C:=by
 unfold pP at h;obtain⟨A,L,e1,e2,e3⟩:=List.map_eq_append_iff.1 h;obtain⟨P,D,f1,f2,f3⟩:=List.map_eq_append_iff.1 e2;refine⟨P,D,L,by grind,by have:=dg List.length f2;grind,λx hx=>?_,e3⟩;have hm:(x.kind,x.key)∈ds.map λk=>((4:Int),k):=by grind
 grind
def Hw.up{c d n m:Nat}{T:Ti}(h:Hw c n T)(hc:c<=d)(hn:n<=m):Hw d m T:=⟨h.s.up hc,h.c.up hn,h.b,h.l⟩
theorem O6(l:List Kp)(k:Kp):(sw l k).length<=l.length+1:=by
 grind [sw]
def O7{l:List Kp}{k y:Kp}(h:y∈sw l k):y=k\/y∈l:=by
 grind [sw]
def Yc:m8 0 []=0:=by simp[m8,m9]
def Mx(c:dM)(h:Hd):(c.put h).d_=c.d_:=by
 unfold dM.put dM.oh;split
 .rfl
 .split<;>rfl
def Az{s u:St}(h:vW s.D)(h1:u.D.bad=s.D.bad)(h2:s.D.left=-1->u.D.left=-1){c:Nat}(hB:Bd c u):vW u.D:=⟨h1.trans h.bad,h2 h.left,hB.lM.D.len⟩
def SP(r:Nat)(W:Wd)(u:Int):SD r (W.gb u).w (aU u) []:=⟨⟨[],by rw[Yc];rfl⟩,rfl,rfl,rfl,rfl,rfl⟩
def SQ{r c n k:Nat}{W:Wd}(h:WI r c n k W)(hc:c<=14000)(u:Int){b:aF}(hb:b.length<=600):HD c (W.gb u).w b:=by
 refine⟨h.t.s,⟨by show(0:Nat)<=8;omega,λe he=>by cases he⟩,O,O,?_,?_,?_,rfl⟩
 .show 0<=(0:Int)/\(0:Int)+b.length<=1048576;omega
 .show(0:Nat)<4294967296;omega
 .show(0:Nat)<=64;omega
def Fv(X:Ts):X.bq.2.1=X.w.bq.2.1/\X.bq.1.e=X.w.bq.1.e/\X.bq.1.kept=X.w.bq.1.kept/\X.bq.1.T.s=X.w.bq.1.s/\X.bq.1.T.lines=X.w.bq.1.s.dR.length:=by
 unfold Ts.bq;split
 .rename_i h;exact⟨h.symm,rfl,rfl,rfl,rfl⟩
 .rename_i h;exact⟨by grind,rfl,rfl,rfl,rfl⟩
theorem Yd(u o:Int)(b:aF){l:eL}(hl:qG l):EB ((aU u).MB o b l):=by
 have hv:=m_ u;exact⟨⟨by simp[cS.MB,aU],by show(aU u).var.length<=_;omega⟩,by simp[cS.MB,aU],by simp[cS.MB,aU],by grind [cS.MB,aU,Fo],hl⟩
def ad'(u o:Int)(b:aF)(l:eL):isB ⟨(aU u).kk,aU u,b,o⟩ ((aU u).MB o b l) b=true:=by
 have h1:jg ((aU u).MB o b l) (aU u)=true:=Bz (aU u);unfold isB;show(jg ((aU u).MB o b l) (aU u)&&(decide (o=o)&&(decide ((b.length:Int)=b.length)&&(decide (b=b)&&decide (m8 0 b=m8 0 b)))))=true
 grind
def WI.KG{r c n k:Nat}{W:Wd}(h:WI r c n k W)(hc:c<=14000)(hn:n<=870)(hk:k<=900)(u:Int){b:aF}(hb:b.length<=600)(z:((W.gb u).w.aQ b).2≠0):∃D,ajO W u b D/\WI r (c+900) (n+1) (k+1) (({W with T:=((W.gb u).aQ b).1.T}:Wd).told kp0 false D):=by
 have hW:=SQ h hc u hb;obtain⟨M,hH,hV⟩:=h.h;obtain⟨ds,_,s2⟩:=(SP r W u).write hW (X:=[]) (M:=M) hH;have R:=s2 z;have hB:=yd hW;obtain⟨P,D,L,e1,e2,e3,e4⟩:=By (s:=W.T.s) (ds:=ds) (C:=[]) (by rw[R.l,gL];rfl) R.dk;obtain rfl:L=[]:=List.map_eq_nil_iff.1 e4;have hPl:P.length=W.T.s.dR.length:=e2;have hTw:HE c n (W.gb u) b:=⟨hW,h.t,O,O,by
  have:=h.t.l.2;show W.T.lines<=_
  grind⟩
 have hfT:((W.gb u).aQ b).1.T=((W.gb u).put ((W.gb u).w.aQ b).1).T.follow:=by unfold Ts.aQ;rw[ah z];rfl
 have J8:=hB.lM.dR;have RH:=h.nl;refine⟨D,⟨⟨c,n,hTw⟩,z,?_⟩,?_⟩
 .rw[hfT];refine⟨⟨P,[],e1,by show W.lines=_;rw[h.ln,hPl],.inl ⟨rfl,rfl⟩⟩,λx hx=>(e3 x hx).1,by grind,λy hy=>by have:=h.nk y hy;omega,λx hx=>by grind,by show(0:Nat)<=_;omega,?_⟩;show((W.gb u).w.aQ b).1.s.dR.length<=_;omega
 .rw[hfT];have hm:=v7 D W.now;have hob:=h.ob;exact⟨hTw.put.follow.up O O,⟨_,R.h,λkey e b q=>hV key e b (vZ q)⟩,h.u.Fw _,Az h.f R.bad R.left hB,rfl,h.od.trans R.ord.symm,by show 0<=W.order/\W.order<=_;omega,by show(kY W.now D).length<=_;omega,λy hy=>h.nk y (hm.2 y hy)⟩
def WI.SR{r c n k:Nat}{W:Wd}(h:WI r c n k W)(hc:c<=14000)(hn:n<=870)(hk:k<=900)(u:Int){b:aF}(hb:b.length<=600)(z:((W.gb u).w.aQ b).2=0):∃D,aea W u b D/\WI r (c+900) (n+1) (k+1) ((W.fin u b).told (W.SS u b) ((W.gb u).aQ b).1.bq.2.1 D):=by
 have hW:=SQ h hc u hb;obtain⟨M,hH,hV⟩:=h.h;obtain⟨ds,s1,_⟩:=(SP r W u).write hW (X:=[]) (M:=M) hH;obtain⟨R,hS⟩:=s1 z;have hS:SD r ((W.gb u).w.aQ b).1 (aU u) b:=hS;have hB:=yd hW;have HB:qG ((W.gb u).w.aQ b).1.e.body:=by
  have:=(Fx hW).2.2
  grind [Sm.aQ]
 have hlR:=dg List.length R.l;have hTl:W.T.lines<=((W.gb u).w.aQ b).1.s.dR.length:=by
  have:=h.t.l.2;have e0:(W.gb u).w.s=W.T.s:=rfl
  grind [pP]
 have hTw:HE c n (W.gb u) b:=⟨hW,h.t,O,O,hTl⟩;have Ye:((W.gb u).w.aQ b).1.s.ord=W.order:=R.ord.trans h.od.symm;have hob:=h.ob;obtain⟨es,Q,hEE⟩:=hS.done (c:=c+524) hB O HB R.h O (λl h1 h2=>(VOk.okb ⟨⟨u,((W.gb u).w.aQ b).1.s.ord+1,l,rfl,O,h1,h2⟩,hb⟩).1);have hZ:((W.gb u).aQ b).1={((W.gb u).put ((W.gb u).w.aQ b).1).Fw with body:=(W.gb u).body++b}:=by grind [Ts.aQ]
 have hput:=hTw.put;have hfl:=hput.follow;have hrl:=hS.rl;generalize hG0:(W.gb u).w.aQ b=G at*;obtain⟨G,er⟩:=G;simp only at*;obtain⟨Z,hZe⟩:∃Z:Ts,Z={((W.gb u).put G).Fw with body:=(W.gb u).body++b}:=⟨_,rfl⟩;have hZw:Z.w=G:=by rw[hZe];rfl
 have hZs:Z.T=((W.gb u).put G).T.follow:=by rw[hZe];rfl
 have hZb:Z.body=b:=by rw[hZe];rfl
 have hZx:Z.e=G.e/\Z.ended=G.ended/\Z.rest=G.rest/\Z.key=(aU u).kk:=by rw[hZe];exact⟨rfl,rfl,rfl,rfl⟩
 rw[<-hZe]at hZ;clear hZe;obtain⟨z1,z2,z3,z4,z5⟩:=Fv Z;rw[hZw]at z1 z2 z3 z4 z5;have hgrow:G.s.dR.length<=G.bq.1.s.dR.length:=by
  by_cases y:G.bq.2.1=true
  .obtain⟨l,_,_,_,d⟩:=Q.y y;have:=dg List.length d.l
   grind [pP]
  .have:=dg List.length (Q.n y).l
   grind [pP]
 have hEB:EB G.bq.1.e:=by
  obtain⟨o,l,q1,q2⟩:=Q.e
  grind [Yd]
 have hZT:Z.T.s=G.s/\Z.T.lines=G.s.dR.length:=by rw[hZs];exact⟨rfl,rfl⟩
 have hTd:SU (c+524) n Z:=by
  refine⟨by grind,by grind,by rw[hZw];exact Q.bd,O,O,by grind,by rw[hZx.2.1];exact hS.ended,by grind,?_,?_,by rw[hZw];exact Q.en,by grind,?_,by grind,by grind,by rw[hZw];exact Q.kp⟩
  .rw[hZw,Q.so,Ye];omega
  .rw[hZw];intro q;rw[Q.po q,Ye];omega
  grind
 have hBd:=Q.bd;have J8:=hBd.lM.dR;have RH:=h.nl;have hL:∃P D L,G.bq.1.s.dR=P++D++L/\P.length=W.T.s.dR.length/\(∀x∈D,x.kind=4/\x.key.length<=1000)/\L.map (λl=>(l.kind,l.key))=if G.bq.2.1=true then[((1:Int),(aU u).kk)]else[]:=by
  by_cases y:G.bq.2.1=true
  .rw[ai y];obtain⟨l,_,_,_,d⟩:=Q.y y;refine By (s:=W.T.s) (ds:=ds++es) ?_ λx hx=>(lD.1 hx).elim (R.dk x) (d.dk x);have e0:pP (W.gb u).w.s=pP W.T.s:=rfl;rw[d.l,R.l,e0,jB,cW (pP W.T.s)];rfl
  .rw[ah y];have d:=Q.n y;refine By (s:=W.T.s) (ds:=ds++es) ?_ λx hx=>(lD.1 hx).elim (R.dk x) (d.dk x);have e0:pP (W.gb u).w.s=pP W.T.s:=rfl;rw[d.l,R.l,e0,jB,cW (pP W.T.s),gL]
 obtain⟨P,D,L,e1,e2,e3,e4⟩:=hL;have hfs:(W.fin u b).T.s=G.bq.1.s:=by grind [Wd.fin]
 have hfo:(W.fin u b).order=if G.bq.2.1=true then W.order+1 else W.order:=by grind [Wd.fin]
 have ye:(aU u).kk.length<=1000:=by
  have hv:=m_ u;show((aU u).uri++10::(aU u).var).length<=_
  grind [List.length_cons,aU]
 refine⟨D,⟨⟨c,n,hTw⟩,by grind,⟨c+524,n,by grind⟩,?_,by rw[hZ,z3,z1];exact Q.kp,by grind,O,?_⟩,?_⟩
 .rw[hZ,z1,z2];intro y;obtain⟨l,_,_,q,_⟩:=Q.y y;rw[q,Ye];exact ad' u (W.order+1) b l
 .rw[hZ,z1];refine⟨⟨P,L,by grind,by show W.lines=_;rw[h.ln,e2],?_⟩,λx hx=>(e3 x hx).1,by show W.now.length<=_;omega,λy hy=>by have:=h.nk y hy;omega,λx hx=>by grind,by show(aU u).kk.length<=_;omega,by grind⟩;by_cases y:G.bq.2.1=true
  .rw[ai y]at e4;obtain⟨x,l',rfl,q1,q2⟩:=List.map_eq_cons_iff.1 e4;obtain rfl:l'=[]:=List.map_eq_nil_iff.1 q2;injection q1 with q1 q3;exact .inr ⟨y,x,rfl,q1,q3⟩
  simp_all
 .have hm:=v7 D W.now;have hfT:(W.fin u b).T=Z.bq.1.T:=by grind [Wd.fin]
  have SV:=hTd.put.follow;have SB:=hEB.hok (b:=Z.body) (by grind);have hTT:Hw (c+900) (n+1) Z.bq.1.T/\LU Z.bq.1.T.c:=by
   have Yf:LU Z.T.c:=by rw[hZs];exact h.u.Fw _
   unfold Ts.bq;split
   .have Ba:LU ((Z.put Z.w.bq.1).T.follow).c:=Yf.Fw _;have J7:=((Ba.drop Z.key).1.put ⟨Z.w.bq.1.e.kk,Z.w.bq.1.e,Z.body⟩).1;rw[<-hZw]at SB;have RI:=(SV.c.drop Z.key).put SB;refine⟨⟨SV.s.up O,RI,?_,SV.l⟩,J7⟩;show 0<=(((Z.put Z.w.bq.1).T.follow.c.drop Z.key).put ⟨Z.w.bq.1.e.kk,Z.w.bq.1.e,Z.body⟩).d_;rw[Mx];exact SV.b
   .exact⟨SV.up O O,Yf.Fw _⟩
  rw[hZ,z1];refine⟨by show Hw _ _ (W.fin u b).T;grind,?_,by show LU (W.fin u b).T.c;grind,?_,rfl,?_,?_,?_,?_⟩
  .show∃M,kX r (W.fin u b).T.s [] M/\_;rw[hfs];by_cases y:G.bq.2.1=true
   .obtain⟨l,q1,q2,q3,d⟩:=Q.y y;refine⟨_,d.h,λkey e b' q=>?_⟩;unfold jV.put at q;split at q
    .injection q with q;injection q with q4 q5;rw[<-q4,<-q5];exact⟨⟨u,G.s.ord+1,l,rfl,O,q1,q2⟩,hb⟩
    grind [vZ]
   .exact⟨_,(Q.n y).h,λkey e b' q=>hV key e b' (vZ (vZ q))⟩
  .show vW (W.fin u b).T.s.D;rw[hfs];have hf1:=Az h.f R.bad R.left hB;by_cases y:G.bq.2.1=true
   .obtain⟨l,_,_,_,d⟩:=Q.y y;exact Az hf1 d.bad d.left hBd
   .exact Az hf1 (Q.n y).bad (Q.n y).left hBd
  .show(W.fin u b).order=(W.fin u b).T.s.ord;rw[hfs,hfo];by_cases y:G.bq.2.1=true
   .obtain⟨l,_,_,_,d⟩:=Q.y y;rw[ai y,d.ord,Ye]
   .rw[ah y,(Q.n y).ord,Ye]
  .show 0<=(W.fin u b).order/\(W.fin u b).order<=_;omega
  .show(if G.bq.2.1=true then sw (kY W.now D) (W.SS u b)else kY W.now D).length<=_
   grind [O6]
  .show∀y∈(if G.bq.2.1=true then sw (kY W.now D) (W.SS u b)else kY W.now D),y.key.length<=1000;intro y hy;split at hy
   .rcases O7 hy with rfl|hy
    .exact ye
    .exact h.nk y (hm.2 y hy)
   .exact h.nk y (hm.2 y hy)
structure TM(r c n:Nat)(T:Ti)(M:jV):Prop where
 t:Hw c n T
 h:kX r T.s [] M
 v:∀key e b,M key=some (e,b)->VOk e b
 u:LU T.c
 f:vW T.s.D
def WI.tm{r c n k:Nat}{W:Wd}(h:WI r c n k W):∃M,TM r c n W.T M:=by
 obtain⟨M,h1,h2⟩:=h.h;exact⟨M,h.t,h1,h2,h.u,h.f⟩
def og(M:jV)(T:Ti)(key:aF):Option Hd:=match T.c.hit key with
 |some x=>some x
 |none=>if qn T.s.ix key=true then(M key).map λp=>⟨p.1.kk,p.1,p.2⟩else none
def ad9:Option Hd->Hd×Bool×Int
 |some x=>(x,true,0)
 |none=>(J9,false,0)
def Mw(c:dM)(key:aF):(c.get key).d_=c.d_/\(c.get key).share=c.share:=by
 unfold dM.get;split
 .exact⟨rfl,rfl⟩
 .split<;>exact⟨rfl,rfl⟩
def CB.got{n:Nat}{c:dM}(h:CB n c)(key:aF):CB n (c.get key):=by
 have hp:=Bt (c:=c) key;have hx:∀x∈(c.get key).all,DE x:=λx hx=>by
  rcases lD.1 (hp.mem_iff.2 hx)with q|q
  .exact h.t x q
  .exact h.r x q
 have hl:=hp.length_eq;unfold dM.all at hl hx;rw[mo,mo]at hl;exact⟨by have:=h.n;omega,λx q=>hx x (Bu _ q),λx q=>hx x (Kz _ q),by rw[(Mw c key).2];exact h.sh⟩
def TM.get{r c n:Nat}{T:Ti}{M:jV}(h:TM r c n T M)(key:aF):∃un,(T.c.hit key=none->qn T.s.ix key=true->(T.s.D.read (cY T.s.jn T.s.pn+(T.s.ix.getD (gO T.s.ix key) ux).gP.1) (T.s.ix.getD (gO T.s.ix key) ux).gP.2).2.2=0->KA un (T.s.OW (T.s.ix.getD (gO T.s.ix key) ux).gP))/\(T.c.hit key=none->(T.s.get un key).2.2.2=0->(T.s.get un key).2.2.1=true->EB (T.s.get un key).2.1/\((T.s.get un key).1.body (T.s.get un key).2.1).2.1.length<=2000000)/\(T.get un key).2=ad9 (og M T key)/\TM r c (n+1) (T.get un key).1 M/\og M (T.get un key).1 key=og M T key/\(T.get un key).1.s.ix=T.s.ix/\(T.get un key).1.s.dR=T.s.dR:=by
 obtain⟨ht,hH,hv,hu,hf⟩:=h;cases hh:T.c.hit key with
 |some x=>
  have e0:∀un,T.get un key=({T with c:=T.c.get key},x,true,0):=λun=>by unfold Ti.get;rw[hh]
  have e1:og M T key=some x:=by unfold og;rw[hh]
  refine⟨λ_=>(kI,0),λq=>(by cases q),λq=>(by cases q),?_⟩;rw[e0,e1];refine⟨rfl,⟨⟨ht.s,(CB.got ht.c key).up O,by rw[(Mw _ _).1];exact ht.b,ht.l⟩,hH,hv,hu.get key,hf⟩,?_,rfl,rfl⟩;unfold og;simp only[hu.X6 hh]
 |none=>
  by_cases eM:qn T.s.ix key=true
  .obtain⟨e,b,D1,D2,m1,hk,g1,g2,g3,g4,g5,g6⟩:=X7 ht.s hH hf hv eM;have hVO:=hv _ _ _ m1;have hEB:=hVO.okb.2.1;have uk:=hVO.bl;have SB:=hEB.hok (b:=b) O;have e0:T.get (λ_=>(e,0)) key=({T with s:=T.s.dev D2,c:=T.c.put ⟨e.kk,e,b⟩},⟨e.kk,e,b⟩,true,0):=by
    unfold Ti.get;rw[hh,g1];simp only[g2,and_self,cr]
   have e1:og M T key=some ⟨e.kk,e,b⟩:=by unfold og;rw[hh];simp only[ai eM,m1,Option.map_some]
   have hBd:Bd c (T.s.dev D2):=by
    have q:=X8 (SC ht.s (λ_=>(e,0)) key) e;rw[g1]at q;simp only[g2]at q;exact q
   obtain⟨Ba,J7⟩:=hu.put ⟨e.kk,e,b⟩;refine⟨λ_=>(e,0),λ_ _ _=>g3,λ_ _ _=>?_,?_⟩
   .rw[g1];simp only[g2];exact⟨hEB,O⟩
   .rw[e0,e1];refine⟨rfl,⟨⟨hBd,ht.c.put SB,by rw[Mx];exact ht.b,ht.l⟩,?_,hv,Ba,g6⟩,?_,rfl,rfl⟩
    .exact hH.dev ht.s.lM.ix rfl rfl ⟨rfl,rfl⟩ ⟨hH.J,rfl⟩ λi _=>by show D2.now[r+i]?=_;rw[g4]
    .unfold og;simp only;cases hq:(T.c.put ⟨e.kk,e,b⟩).hit key with
     |some y=>rw[<-hk]at hq;rw[J7 y hq]
     |none=>
      show(if qn T.s.ix key=true then _ else _)=_;rw[ai eM,m1];rfl
  .have e0:∀un,T.get un key=({T with s:=T.s},J9,false,0):=λun=>by
    have q:T.s.get un key=(T.s,kI,false,0):=by unfold St.get;rw[ah eM]
    unfold Ti.get;rw[hh,q];simp
   have e1:og M T key=none:=by unfold og;rw[hh];simp only[ah eM]
   refine⟨λ_=>(kI,0),λ_ q=>absurd q eM,λ_ _ q=>?_,?_⟩
   .have q0:T.s.get (λ_=>(kI,0)) key=(T.s,kI,false,0):=by unfold St.get;rw[ah eM]
    rw[q0]at q;cases q
   .rw[e0,e1];exact⟨rfl,⟨ht.up (aX _) O,hH,hv,hu,hf⟩,rfl,rfl,rfl⟩
def TM.ok{r c n:Nat}{T:Ti}{M:jV}(h:TM r c n T M)(key:aF):DE (ad9 (og M T key)).1:=by
 unfold og;cases hh:T.c.hit key with
 |some x=>
  rcases lD.1 (vX hh).1 with q|q
  .exact h.t.c.t x q
  .exact h.t.c.r x q
 |none=>
  have h0:DE J9:=⟨by simp[J9],by simp[J9],by simp[J9,kI],by simp[J9,kI],by simp[J9,kI,Fo],by simp[J9,kI]⟩;simp only;split
  .cases hm:M key with
   |none=>exact h0
   |some p=>
    obtain⟨e,b⟩:=p;have hv:=h.v _ _ _ hm;have hb:=hv.bl;exact hv.okb.2.1.hok (b:=b) O
  .exact h0
theorem KL{p:St->Bool}{s:St}(h:p s=true):s.o6 p=(s,0):=by
 grind [St.o6,St.uA]
def HJ{N:Nat}(hS:BE N 20 40){D:bt}(h:sB N 20 D)(b s:Int):WI 341 200 0 0 (vM N b s D):=by
 have hg:=h.gd;refine⟨⟨⟨200,aeh hS hg (by rw[h.q];simp),O,by show 200+48*0+0<=200;omega⟩,⟨by show 0+0<=0;omega,λx q=>(by cases q),λx q=>(by cases q),?_⟩,?_,?_⟩,⟨λ_=>none,⟨?_,⟨rfl,?_,?_,?_,rfl,λ_=>rfl,λp hp=>(by cases hp)⟩,rfl,⟨λi=>?_,λi hi=>?_,λe he=>(by cases he)⟩,λk hk=>(by cases hk),λkey hM=>absurd rfl hM⟩,λ_ _ _ q=>(by grind)⟩,List.Pairwise.nil,⟨hg.bad,hg.left,hg.nl.trans hg.kl.symm⟩,rfl,rfl,?_,?_,λy hy=>(by cases hy)⟩
 .show 0<=b%4000*(s%101)/100;exact Int.ediv_nonneg (Int.mul_nonneg O O) O
 .show 0<=b%4000;omega
 .show 0<=(0:Int)/\(0:Int)<=((0:Nat):Int);omega
 .show 1+((20:Nat):Int)+((40:Nat):Int)*8=((341:Nat):Int);omega
 .show 5<=((20:Nat):Int);omega
 .show 0<=(2:Int)/\(2:Int)<=((20:Nat):Int);omega
 .show 0<=(2:Int)/\(2:Int)<=((20:Nat):Int);omega
 .show(0:Nat)<=1;omega
 .have hi:(1:Nat)<=0:=hi;omega
 .show 0<=(0:Int)/\(0:Int)<=((0:Nat):Int);omega
 .show(0:Nat)<=0;omega
structure Fr(N k m:Nat)(s:St):Prop where
 gd:Gd N s.D
 rF:s.rm.F=[(m,k)]
 rn:m+k<=s.rm.n
 ly:cY s.jn s.pn=((341:Nat):Int)
 nn:341+m+k<=N
 nb:N<=65536
 sF:s.sl.F=[(0,40)]
 root:s.root=0
 J:s.J=AA 1 20 rU
 jn:s.jn=((20:Nat):Int)
 ix:s.ix=[]
theorem aei{N k m:Nat}{s:St}(h:Fr N k m s)(root count:Int){D:bt}(hD:Gd N D)(s2:St)(hJ:s2.J=s.J)(hs:s2.D=D):(s2.commit root count).2.1=true:=by
 have h1:=h.nn;obtain⟨g1,g2,g3,g4,g5,g6⟩:=aej hD (a:=2) (m:=2) (L:=nQ 1 [(0,pS root count)]) (by simp[wv]) (Yn _ _ (by simp[AB]) H) O;have hf:om D.kept.length (AA 1 20 rU) [(0,pS root count)]=0:=by
  have hb:DI D.kept.length (AA 1 20 rU) (0,pS root count)=false:=by
   unfold DI O_;rw[hD.kl,AB];show(!(decide ((0:Int)<=0)&&decide ((0:Int)<(N:Int))&&(decide ((0:Int)<1)||_))||_)=false
   grind
  unfold om;rw[Fh,hb];rfl
 have hr:jh (AA 1 20 rU) (([(0,pS root count)]:List wB).length+2)=(((2:Nat):Int),true):=rfl;have ajR:((AA 1 20 rU).commit D [(0,pS root count)]).2.2.1=true:=by
  unfold Jr.commit;rw[ai hf,hr];simp only[cr];unfold Jr.uo;show((if(bg (jd 1 (nQ 1 [(0,pS root count)]) ((2:Nat):Int)) D).2=0 then _ else _):Jr×bt×Bool×Int).2.2.1=_
  grind
 unfold St.commit;show(s2.J.commit s2.D [(0,pS root count)]).2.2.1=true;rw[hJ,h.J,hs];omega
def aek{N k m:Nat}{s:St}(h:Fr N k m s){e:cS}(hpl:e.pack.length<=200)(hk:6<=k)(hkey:(e.uri++10::e.var).length<=100)(hm:m<=100):(s.sA 1 e).2.1=true:=by
 have hN:=h.nn;have HK:=h.nb;have hrn:=h.rn;have hn:=uV (e:=e) O;have hn4:(fL e).length<=4:=by
  grind [bC,fL,dJ,gY]
 have Ka:∀x∈fL e,x.length=64:=qB _;have hsp:dV s=true:=by
  unfold dV;rw[h.ix,h.sF];decide
 have hrp:kL (fL e) s=true:=by
  unfold kL;rw[h.rF]
  grind
 obtain⟨R,hR⟩:=take_one (M:=s.rm) (k:=(fL e).length) h.rF hn.1 O;obtain⟨w1,w2,_,_,_⟩:=h.gd.write (a:=341+m) (l:=fL e) O Ka;have ha:cY s.jn s.pn+((m:Nat):Int)=((341+m:Nat):Int):=by rw[h.ly];omega
 have hrx:s.yf e=((m:Int),((fL e).length:Int)):=by grind [St.yf]
 have hrw:s.FE e=s.D.write ((341+m:Nat):Int) (fL e):=by grind [St.FE]
 have FG:s.kK e=(s.BG e,((m:Int),((fL e).length:Int)),0):=by
  grind [St.kK,St.yg,KL]
 have hrd:s.BG e={s with rm:={s.rm with F:=[(m+(fL e).length,k-(fL e).length)],R:=R},D:=(s.D.write ((341+m:Nat):Int) (fL e)).1}:=by
  grind [St.BG]
 unfold St.sA;rw[KL hsp,ai rfl];show(s.BD 1 e).2.1=true;unfold St.BD;rw[FG,ai rfl];show((s.BG e).BA 1 ((m:Int),((fL e).length:Int)) (e.kn ((m:Int),((fL e).length:Int)))).2.1=true;generalize(s.D.write ((341+m:Nat):Int) (fL e)).1=D1 at*;rw[hrd];generalize fL e=L at*;obtain⟨s2,zH⟩:∃s2:St,s2={s with rm:={s.rm with F:=[(m+L.length,k-L.length)],R:=R},D:=D1}:=⟨_,rfl⟩;rw[<-zH];have hkB:Go.cD.rV (e.kn ((m:Int),(L.length:Int))).key (e.kn ((m:Int),(L.length:Int))).place=true:=by
  have hpos:1<=(e.uri++10::e.var).length:=by grind
  show Go.cD.rV (e.uri++10::e.var) ((m:Int)*256+(L.length:Int))=true
  grind [Go.cD.rV]
 generalize e.kn ((m:Int),(L.length:Int))=kn at*;obtain⟨R2,D2,t1,t2,_,_,_,_,_⟩:=ael (s:=s2) (n:=40) (j:=20) (N:=N) hkB (by rw[zH];exact h.root) (by rw[zH];exact h.sF) O (by grind) (by rw[zH];exact h.jn) O;have hT:∀count:Int,(pM (bM.jm ⟨s2,[],[]⟩ s2.root kn.key kn.place) count).2.1=true:=by
  intro count;have t1:bM.jm ⟨s2,[],[]⟩ s2.root kn.key kn.place=_:=t1
  grind [aei,pM]
 have hT2:(s2.BB kn).2.1=true:=hT _
 grind [St.BA]
def Yo{N k m:Nat}{w:Sm}(h:Fr N k m w.s)(hb:w.e.body=Xy m)(hk:10<=k)(hr:1<=w.rest.length/\w.rest.length<=64)(hm:m<=50)(hpl:∀l,qG l->({w.e with order:=w.s.ord+1,body:=l}:cS).pack.length<=200)(hkey:(w.e.uri++10::w.e.var).length<=100)(hm0:m=0):w.bq.2.1=true:=by
 have hN:=h.nn;obtain⟨x,hx⟩:∃x,b9 w.rest=[x]:=List.length_eq_one_iff.1 (by rw[dJ];omega);have Ka:x.length=64:=qB w.rest x (by grind);subst hm0;have hl:w.longer.2=false:=by unfold Sm.longer;rw[hb];rfl
 obtain⟨R,hR⟩:=KM h.rF hb O h.rn;have hop:iE w.s=true:=by
  unfold iE;rw[h.rF];simp[xV];omega
 have hsG:w.bV=({w with s:={w.s with rm:={w.s.rm with F:=[(0+1,k-1)],R:=R}},e:={w.e with body:=Xy (0+1)}},((0:Nat):Int),0):=by
  unfold Sm.bV;rw[ah (by grind),KL hop,ai rfl];exact hR
 obtain⟨w1,w2,_,_,_⟩:=h.gd.write (a:=341+0) (l:=[x]) (by grind) (by grind);have ha:cY w.s.jn w.s.pn+((0:Nat):Int)=((341+0:Nat):Int):=by rw[h.ly];rfl
 have hone:w.oo x=({w with s:={w.s with rm:={w.s.rm with F:=[(0+1,k-1)],R:=R},D:=(w.s.D.write ((341+0:Nat):Int) [x]).1},e:={w.e with body:=Xy (0+1)}},0):=by
  grind [Sm.oo,Sm.dev]
 have hS:w.cM=({w with s:={w.s with rm:={w.s.rm with F:=[(0+1,k-1)],R:=R},D:=(w.s.D.write ((341+0:Nat):Int) [x]).1},e:={w.e with body:=Xy (0+1)}},0):=by
  grind [Sm.cM,eC]
 generalize(w.s.D.write ((341+0:Nat):Int) [x]).1=D1 at*;have hF1:Fr N (k-1) 1 {w.s with rm:={w.s.rm with F:=[(0+1,k-1)],R:=R},D:=D1}:=⟨w2,rfl,by have:=h.rn;grind,h.ly,O,h.nb,h.sF,h.root,h.J,h.jn,h.ix⟩;have RN:qG (Xy (0+1)):=⟨by decide,by decide⟩;have hp:=aek hF1 (e:={w.e with order:=w.s.ord+1,body:=Xy (0+1)}) (hpl _ RN) O hkey O;unfold Sm.bq;rw[hS,ai rfl];unfold Sm.zI;have Yp:(Sm.kq {w with s:={w.s with rm:={w.s.rm with F:=[(0+1,k-1)],R:=R},D:=D1},e:={w.e with body:=Xy (0+1)}}).2.1=true:=hp
 grind
def KN{N:Nat}(hN:357<=N/\N<=656){D:bt}(h:sB N 20 D)(bu s u:Int){b:aF}(hb:1<=b.length/\b.length<=63):(((vM N bu s D).gb u).w.aQ b).2=0/\(((vM N bu s D).gb u).aQ b).1.bq.2.1=true:=by
 have h0:b.length/64*64=0:=O;have aoi:((vM N bu s D).gb u).w.got b=(((vM N bu s D).gb u).w.cnt b,0):=by
  unfold Sm.got;show eC (b9 (b.take (b.length/64*64))) _=_;rw[h0];rfl
 have jC:((vM N bu s D).gb u).w.aQ b=({((vM N bu s D).gb u).w.cnt b with rest:=b},0):=by
  unfold Sm.aQ;rw[aoi,ai rfl];show(({((vM N bu s D).gb u).w.cnt b with rest:=b.drop (b.length/64*64)}:Sm),(0:Int))=_
  grind
 refine⟨by grind,?_⟩;rw[(Fv _).1];have hZ:(((vM N bu s D).gb u).aQ b).1.w={((vM N bu s D).gb u).w.cnt b with rest:=b}:=by
  unfold Ts.aQ;rw[jC,ai rfl];rfl
 rw[hZ];have hv:=m_ u;have hFr:Fr N (N-341) 0 (DH N 20 40 D):=⟨h.gd,rfl,by show 0+(N-341)<=N-(1+20+8*40);omega,rfl,O,O,rfl,rfl,rfl,rfl,rfl⟩;refine Yo (k:=N-341) (m:=0) hFr rfl O (by grind) O (λl hl=>?_) ?_ rfl
 .have h1:=MD u 1 (b:=b) hl;have e0:({(({((vM N bu s D).gb u).w.cnt b with rest:=b}:Sm)).e with order:=(DH N 20 40 D).ord+1,body:=l}:cS)=fR u 1 b l:=by
   show({aU u with order:=(0:Int)+1,size:=(0:Int)+b.length,sum:=m8 0 b,body:=l}:cS)=_
   grind [fR]
  exact e0▸h1
 .show((aU u).uri++10::(aU u).var).length<=100
  grind [List.length_cons,aU]
def Qn{c:dM}(h:c.aK=[]/\c.rest=[]){x:Hd}(hc:(x.cost:Int)<=c.d_):(c.put x).hit x.key=some x:=by
 obtain⟨b,s,t,r⟩:=c;obtain⟨h1,h2⟩:=h;simp only at h1 h2 hc;subst h1;subst h2;refine LU.hit (LU.put (LU.new b s) x).1 ?_;have h0:¬b<(x.cost:Int):=O;unfold dM.put;rw[ah h0];have h1:(dM.oh ⟨b,s,[],[]⟩ x)=⟨b,s,[x],[]⟩:=rfl;rw[h1];have h2:¬b<((cO [x]+cO []:Nat):Int):=by simp[cO];omega
 show x∈(pE b 1 [x] [] []).1++(pE b 1 [x] [] []).2.1;unfold pE;simp only[Int.natCast_add]at h2;rw[ah h2];simp
def NW(l:List Lg):∀{c:dM},c.aK=[]/\c.rest=[]->(oG c l).aK=[]/\(oG c l).rest=[]:=by
 induction l with
 |nil=>exact λh=>h
 |cons x l ih=>
  intro c h;have:oG c (x::l)=oG (if x.kind=3\/x.kind=4 then c.drop x.key else c) l:=rfl;rw[this];refine ih ?_;split
  .unfold dM.drop;rw[h.1,h.2];exact⟨rfl,rfl⟩
  .exact h
def Qo{N:Nat}{D:bt}{s u:Int}{b:aF}{L:List Lg}(hb:b.length<=100)(h:aea (vM N 1000 s D) u b L)(hd:(((vM N 1000 s D).gb u).aQ b).1.bq.2.1=true):∃x,x.b=b/\DE x/\((vM N 1000 s D).fin u b).T.c.hit (aU u).kk=some x:=by
 have hi:=h.i hd;have hE:=h.e;have hz:=h.z;have hfT:((vM N 1000 s D).fin u b).T=(((vM N 1000 s D).gb u).aQ b).1.bq.1.T:=rfl;rw[hfT];clear h hfT;have hW:(((vM N 1000 s D).gb u).aQ b).1={(((vM N 1000 s D).gb u).put (((vM N 1000 s D).gb u).w.aQ b).1).Fw with body:=[]++b}:=by unfold Ts.aQ;rw[ai hz];rfl
 rw[hW]at hi hE hd⊢;obtain⟨Z,hZ⟩:∃Z:Ts,{(((vM N 1000 s D).gb u).put (((vM N 1000 s D).gb u).w.aQ b).1).Fw with body:=[]++b}=Z:=⟨_,rfl⟩;have hc:Z.T.c.aK=[]/\Z.T.c.rest=[]:=by rw[<-hZ];exact NW _ ⟨rfl,rfl⟩
 have hcb:Z.T.c.d_=1000:=by rw[<-hZ];exact(AZ _ _).1
 have hZb:Z.body=b:=by rw[<-hZ];rfl
 rw[hZ]at hi hE hd⊢;obtain⟨z1,z2,_⟩:=Fv Z;rw[z1]at hd;rw[z2]at hi hE;have e0:Z.bq=((Z.put Z.w.bq.1).Fw.inC,true,Z.w.bq.2.2):=by unfold Ts.bq;rw[ai hd]
 rw[e0];generalize Z.w.bq.1=G at*;unfold isB at hi;simp only[bG,Qp]at hi;obtain⟨⟨i1,i2,_,_,_,i3⟩,_⟩:=hi;have hkk:G.e.kk=(aU u).kk:=by
  show G.e.uri++10::G.e.var=(aU u).uri++10::(aU u).var;rw[i1,i2];rfl
 have hv:=m_ u;refine⟨⟨G.e.kk,G.e,b⟩,rfl,hE.hok O,?_⟩;have hcd:((Z.put G).T.follow.c.drop Z.key).aK=[]/\((Z.put G).T.follow.c.drop Z.key).rest=[]:=by
  have:=NW ((Z.put G).T.s.dR.drop (Z.put G).T.lines.toNat) (c:=(Z.put G).T.c) hc;unfold dM.drop;show gT (oG _ _).aK _=[]/\gT (oG _ _).rest _=[];rw[this.1,this.2];exact⟨rfl,rfl⟩
 have hbd:((Z.put G).T.follow.c.drop Z.key).d_=1000:=(AZ _ _).1.trans hcb;have:=Qn hcd (x:=⟨G.e.kk,G.e,Z.body⟩) (by
  rw[hbd,hZb];have hf:Fo G.e.fields=2:=by rw[i3];rfl
  have hk:G.e.kk.length<=15:=by
   rw[hkk];show((aU u).uri++10::(aU u).var).length<=15;rw[mo,cF];have:(aU u).uri.length=10:=rfl;omega
  unfold Hd.cost;simp only;omega)
 rw[hZb]at this;show(((Z.put G).T.follow.c.drop Z.key).put ⟨G.e.kk,G.e,Z.body⟩).hit (aU u).kk=_;rw[<-hkk,hZb];exact this
end Go.aL
namespace Go.Av
open Go.Proofs Go.Proofs.Tryz Go.aL
def Qq(l:List Int)(h:l.length<=1000000):cq 132 [.sl (l.map PC.int)] (.sl (l.map PC.int)):=by
 have hc:=Cr 0 (l.map PC.int) H H (by simp;omega);refine bF (xs:=[_]) hc ⟨_,rfl,O,H,H,?_,H,H⟩;simp[List.flatMap_map,List.map_flatMap];rw[<-List.map_eq_flatMap];exact gv H
def afq(D:bt)(l:List Int)(h:l.length<=1000000):bN 51 [.obj 0 0,.p (.sl (l.map PC.int))] ⟨[(0,aj 0 7 D)],[],17⟩ (.agg true []) ⟨[(0,aj 0 7 {D with n:=0,bad:=l})],[],17⟩:=by
 have hc:=Qq l h;refine aC [] func51 rfl ?_;simp[aj];refine cm hc ?_;simp[-az,results51];exact⟨[],by simp[aj]⟩
def YT:cq 40 [] (.bool true):=by
 obtain⟨D,hD,ho⟩:=HF 1000 50 0 O O O 357 O;have hW:=HJ (aed (N:=357) O) hD 1000 50;obtain⟨z,hd⟩:=KN (N:=357) O hD 1000 50 1 (b:=pV 3 ((50:Int)%600).toNat) (by rw[qR];decide);obtain⟨L,hP,NS⟩:=hW.SR O O O 1 (b:=pV 3 ((50:Int)%600).toNat) (by rw[qR];decide) z;obtain⟨x,hx1,XF,hx3⟩:=Qo (by rw[qR];decide) hP hd;have nu:=H8 (vM 357 1000 50 D) 1 50 O O 3 L (KZ 1) hP;rw[hd]at nu NS;have hxl:x.b.length=50:=by rw[hx1,qR];rfl
 have hTc:(((vM 357 1000 50 D).fin 1 (pV 3 ((50:Int)%600).toNat)).told ((vM 357 1000 50 D).SS 1 (pV 3 ((50:Int)%600).toNat)) true L).T.c.hit (aU 1).kk=some x:=hx3;generalize((vM 357 1000 50 D).fin 1 (pV 3 ((50:Int)%600).toNat)).told ((vM 357 1000 50 D).SS 1 (pV 3 ((50:Int)%600).toNat)) true L=W at*;generalize vM 357 1000 50 D=W0 at*;have hfa:=afq W.T.s.D [0,1,2,3] H;have hso:=FW 1 O;have hke:=BU (aU 1) (by simp[aU]) (by simp[aU]);unfold fK at hke;rw[show(aU 1).body=[]from rfl,qN]at hke;have hTo:Hw (200+900) 1 {W.T with s:=W.T.s.dev {W.T.s.D with n:=0,bad:=[0,1,2,3]}}:=⟨NS.t.s.dev (n:=0) (λt _ hd=>⟨hd.len,hd.pos,hd.top,hd.kept,hd.now,hd.q,hd.qs,hd.left,H,H⟩) rfl,NS.t.c,NS.t.b,NS.t.l⟩;have hge:=TG (λ_=>(kI,0)) _ hTo O O (aU 1).kk (λq=>by rw[show _=some x from hTc]at q;cases q) (λq=>by rw[show _=some x from hTc]at q;cases q);have hgT:Ti.get (λ_=>(kI,0)) {W.T with s:=W.T.s.dev {W.T.s.D with n:=0,bad:=[0,1,2,3]}} (aU 1).kk=({W.T with s:=W.T.s.dev {W.T.s.D with n:=0,bad:=[0,1,2,3]},c:=W.T.c.get (aU 1).kk},x,true,0):=by
  unfold Ti.get;rw[show dM.hit _ _=some x from hTc]
 rw[hgT]at hge;clear hTo hgT hx3 hTc hW NS hP hd z hD hx1;obtain⟨T,now,lines,order⟩:=W;simp only at*
 suffices key:bN 40 [] ⟨[],[],0⟩ (.p (.bool true)) ⟨[],[],0⟩from bF (xs:=[]) key (by simp[dA])
 refine qL (rs:=[_]) [] [] [] [(6,(.one 0 (.one 1 (.one 2 (.one 4 (.one 5 (.br 3 (.br 6 (.one 7 (.one 8 (.one 9 (.one 10 (.br 11 (.br 12 (.one 13 (.one 14 .lf)) .lf) .lf))))) (.br 11 (.br 6 (.one 7 (.one 8 (.one 9 (.one 10 (.br 12 (.one 13 (.one 14 .lf)) .lf))))) .lf) .lf)) (.br 11 (.br 3 (.br 6 (.one 7 (.one 8 (.one 9 (.one 10 (.br 12 (.one 13 (.one 14 .lf)) .lf))))) .lf) .lf) .lf))))))))] mixed func40 rfl bp bp (by simp[ntmps40]) rfl ?_;simp;refine jf [] ho ?_;simp[lA,fu,aH,aj,ak,aR,aM,aJ,aP];refine rcK [0,1,2,3,4,5,6,7,8,9,10,11,12,13,14,15,16,17,18,19,20,21] nu ?_;simp[lA,fu,aH,aj,ak,aR,aM,aJ,aP];refine xQ [0,1,2,3,4,5,6,22,23,24,25,26,27,28,29,30,31] hfa ?_;simp[aj];refine aZ hso ?_;simp;refine aZ hke ?_;simp[sgO];refine⟨⟨?_,?_⟩,?_⟩
 all_goals
  refine aD [0,1,2,3,4,5,6,7,8,22,23,24,25,26,27,28,29,30,31,32,33] hge H H (by simp[aA,lA,fu,aH,aj,ak,aR,aM,aJ,aP,St.dev]) (by simp[aA]) ?_;simp[lA,fu,aH,aj,ak,aR,aM,aJ,aP,St.dev,hxl]
end Go.Av
