/- DiskShapes, part 26: what functions compute, and its plain law; no condition. -/
import Derived.Test.YtgkdpbambfgahaaGreatDoorWay
import Derived.OpenShut
import Derived.LaidMore
import Derived.SizedLaws
set_option linter.all false
set_option maxRecDepth 100000
set_option maxHeartbeats 64000000
namespace Go.Av
open Go.Proofs Go.Proofs.Tryz Go.aT
theorem P0:cK.Ok:=by
 refine⟨by simp[cK],by simp[cK],by simp[cK],by simp[cK],by simp[cK],by simp[cK],by simp[cK,nC],by simp[cK],by simp[cK],by simp[cK],by simp[cK],by simp[cK]⟩
theorem K9:Cq cK=true:=by kernel_rfl
theorem afA(s:St):aE prog 12 [.obj 6 0,.p (OH cK)] ⟨bO 0 7 s,fh 7,17⟩ (.agg true [.obj 17 0,.p (.int 0)]) ⟨(17,nE 6 18 (UG s))::(18,ni [])::bO 0 7 s,fh 7,19⟩:=TN s cK P0 K9
theorem K_{tb:Tb}{id n:Nat}{m:Option Nat}{ob:Ob}{b:List UInt8}(hl:lk id tb.bx=some ob)(hsz:ob.sz=1)(hx:ob.xs=(af b).map AV.p)(hn:n=b.length):yK tb ⟨del id tb.bx,tb.rw,tb.nx+1⟩ [.view id 0 n 1 m] [cy b]:=by
 subst hn;refine⟨_,⟨_,hl,rfl,hsz,by omega,by rw[hx];simp[af],?_,by simp[af],fun y h=>cF _ y h,fun y h=>gW _ y h,rfl⟩,rfl⟩;rw[qW,gV,hx];exact fY (by simp[af])
theorem Sy:aq prog 10 [] (.bool true):=by
 have hN:(262:Nat)=262\/(262:Nat)=462:= .inl rfl;obtain⟨D,hD,hop⟩:=MI hN 0 (by decide);have hso:=XM;have UJ:=afA (lI 262 D);have h0:=WO (t:=1000) hN (by omega) hD;have hs:=UH (t:=1000) hN (by omega) hD;obtain⟨b,hb⟩:∃b:List UInt8,b=[98,111,100,121]:=⟨_,rfl⟩;have pH:b.length=4:=by rw[hb];rfl
 have hbn:bQ b=1:=by unfold bQ;rw[pH]
 have C9:(lI 262 D).rm.n=16:=rfl;have hwr:=SC h0 hs (by omega) b (by rw[C9,pH];decide) (by rw[pH];decide);obtain⟨_,h1,_⟩:=h0.write hs b (by rw[C9,pH];decide) (by rw[pH];decide);rw[List.nil_append]at h1;generalize((UG (lI 262 D)).write b).1=w at hwr h1;obtain⟨w1,s2,hdn⟩:=RW (t:=1000) hN (by omega) hD (b:=b) (by omega) (by rw[hbn];decide) h1;have hdo:=Xd (by omega) hdn;have hdk:=hdn.aiW;obtain⟨s4,Ah⟩:∃s4:St,s4={s2 with ord:=s2.ord+1}:=⟨_,rfl⟩;rw[<-Ah]at hdo;have hD4:s2.D=s4.D:=by rw[Ah]
 rw[hD4]at hdk;have LD:=SY s4.D 0 (hdk.gd.FC (by omega) (by rw[hdk.q];simp)) (by omega);obtain⟨D1,D2,k,c1,c2,c4,s3,m1,m2,m3,m4,m5,m6,m7⟩:=adz (t:=1000) hN (by omega) (b:=b) (by omega) (by rw[hbn];decide) (.inl hdk.iX);have hmo:=B3 _ _ _ _ _ _ _ _ _ _ _ _ _ _ _ _ _ m1;rw[<-m2]at hmo;have hke:=NA s3 (by rw[m3];simp);have rQ:(s3.ix.map fun k=>PC.str k.key).length=1:=by rw[m3];rfl
 rw[hb]at hwr;refine bI (xs:=[]) (r:= .p (.bool true)) (aM:=⟨[],[],57⟩) ?_ ⟨_,rfl,.inl rfl⟩;refine ah (rs:=[_]) [29] [(4,[(3,.r 1),(4,.w [1]),(5,.w [1])]),(9,[(3,.r 1),(7,.r 1),(8,.w [1])])] [(1,17)] func10 rfl ?_;simp;refine jI [] hop ?_;clear hD h0 hs hdn hdk m1 h1 C9 hop;generalize lI 262 D=s0 at UJ hwr;have e1:s3.ix.length=1:=by rw[m3];rfl
 clear m2 m3 m4 m5 m6 m7 Ah hD4;have sb:cK.body=[]:=rfl;simp[wdO,bO,aG,aj,cM,bR,bN,cz];refine bS hso ?_;simp;refine Fy [0,1,2,3,4,5,6,7,8,9,10,11,12,13,14,15,16] UJ ?_;simp[UG,nE,ni,bO,aG,aj,cM,bR,bN,cz];refine Ce [cy [98,111,100,121]] _ (by simp[bt]) (K_ (by simp[lk];rfl) rfl rfl rfl) (by simp) (by simp) ?_;simp[del];refine bq [0,1,2,3,4,5,6,18,7,8,9,10,11,12,13,14,15,16,19] hwr (by simp) (by simp) (by simp[sb,ay,UG,jG,nE,ni,bO,aG,aj,cM,bR,bN,cz]) (by simp[ay]) ?_;simp[jG,nE,ni,bO,aG,aj,cM,bR,bN,cz];refine bq [0,1,2,3,4,5,6,18,22,23,24,25,26,27,28,29,30,31,32] hdo (by simp) (by simp) (by simp[ay,jG,nE,ni,bO,aG,aj,cM,bR,bN,cz]) (by simp[ay]) ?_;simp[jG,nE,ni,bO,aG,aj,cM,bR,bN,cz];refine qU [0,1,2,33] LD ?_;simp[aj];refine qU [0,1,2,43] hmo ?_;simp[MJ,mtO,aG,aj,cM,bN,cz];refine bq [0,1,2,54,55,56,57,44,45,46,47,48,49,50,51,52,53] hke (by simp) (by simp) (by simp[ay,bR,bN]) (by simp) ?_;simp[-az,e1,results10];exact⟨[],by simp⟩
end Go.Av
namespace Go.aT
open Go.Av
def oA(j:Nat):List dh:=kI::bX fH::List.replicate (j-2) kI
theorem J3{j:Nat}(h:5<=j):(oA j).length=j:=by simp[oA];omega
def xg(N j p:Nat)(D:aN):St:=⟨D,fq 1 j fH,j,p,0,Mp.new p,Mp.new (N-(1+j+8*p)),[],0,[],true⟩
structure Al(N j p:Nat):Prop where
 nb:N<=65536
 jb:5<=j/\j<=4096
 pb:30<=p/\p<=4096
 rb:1+j+8*p+16<=N
theorem Al.dsk{N j p:Nat}(h:Al N j p):ig (N:Int) (j:Int) (p:Int)=0:=by
 have h1:=h.jb;have h2:=h.pb;have h3:=h.rb;unfold ig cG;rw[if_neg (by omega),if_neg (by omega)]
theorem Al.plc{N j p:Nat}(h:Al N j p):pU (N:Int) 1 (j:Int)=0:=by
 have h1:=h.jb;have h2:=h.pb;have h3:=h.rb;unfold pU;rw[if_neg (by omega)]
theorem ai0(t:Nat){j:Nat}{m:Mk}(h1:2<=m.at')(hj:m.at'<=5)(h5:5<=j)(h4:j<=4096):JB t (j:Int) (fq 1 j m):=by
 refine⟨⟨by simp[fq],by simp[fq];omega,by simp[fq],?_,?_⟩,by simp[fq],by simp[fq],?_,by simp[fq]⟩
 ·simp only[fq];omega
 ·simp only[fq];omega
 ·simp only[fq];omega
theorem W7{N j p t:Nat}(hS:Al N j p){D:aN}(h:Gd N D)(hq:D.q.length<=t*t):jU t (xg N j p D):=by
 have hk:=h.kl;have h1:=hS.jb;have h2:=hS.pb;have h3:=hS.rb;have h4:=hS.nb;refine⟨h.FC (by omega) hq,ai0 t (by simp[fH]) (by simp[fH]) h1.1 h1.2,?_,?_,?_,i_ (by omega) (by omega),i_ (by omega) (by omega),rfl,?_,by simp[xg],by simp[xg],by simp[xg],by simp[xg],by simp[xg],by simp[xg]⟩
 ·simp only[xg];omega
 ·simp only[xg];omega
 ·simp only[xg,cG,hk];omega
 ·simp only[xg,cG,hk,Mp.new];omega
structure tZ(N j:Nat)(D:aN):Prop where
 gd:Gd N D
 q:D.q=[]
 head:seg D.now 0 1=[ey 0 0]
 Ak:seg D.now 1 j=oA j
theorem tZ.same{N j:Nat}{D D':aN}(h:tZ N j D)(hG:Gd N D')(hn:D'.now=D.now)(hq:D'.q=D.q):tZ N j D':=⟨hG,hq.trans h.q,by rw[hn];exact h.head,by rw[hn];exact h.Ak⟩
theorem adC:Go.Av.cW []=kI:=rfl
theorem adD{N j p:Nat}(hS:Al N j p):∃D,xh (aN.made N) j p=(D,0)/\tZ N j D:=by
 have hj:=hS.jb;have hp:=hS.pb;have hr:=hS.rb;have hN:=hS.nb;have h0:Gd N (aN.made N):=Gd.made;obtain⟨a1,a2,a3,a4,a5⟩:=h0.write (a:=0) (l:=[ey 0 0]) (by simp;omega) (by intro s hs;simp at hs;subst hs;exact nD _ _);have z5:(List.replicate j (Go.Av.cW [])).length=j:=by simp
 obtain⟨b1,b2,b3,b4,b5⟩:=a2.write (a:=1) (l:=List.replicate j (Go.Av.cW [])) (by rw[z5];omega) (by intro s hs;rw[(List.mem_replicate.1 hs).2];rfl);obtain⟨c1,c2,c3,c4,c5⟩:=b2.flush;obtain⟨d1,d2,d3,d4,d5⟩:=c2.write (a:=2) (l:=[bX fH]) (by simp;omega) (by intro s hs;simp at hs;subst hs;exact rf _);obtain⟨e1,e2,e3,e4,e5⟩:=d2.flush;have hf:xh (aN.made N) j p=(((((aN.made N).write ((0:Nat):Int) [ey 0 0]).1.write ((1:Nat):Int) (List.replicate j (Go.Av.cW []))).1.flush.1.write ((2:Nat):Int) [bX fH]).1.flush.1,0):=by
  unfold xh;have q1:ig ((aN.made N).kept.length:Int) j p=0:=by rw[h0.kl];exact hS.dsk
  rw[if_pos q1];show(if((aN.made N).write ((0:Nat):Int) [ey 0 0]).2=0 then DY ((aN.made N).write ((0:Nat):Int) [ey 0 0]).1 1 j else _)=_;rw[if_pos a1];unfold DY;have q2:pU ((aN.made N).write ((0:Nat):Int) [ey 0 0]).1.kept.length 1 j=0:=by rw[a2.kl];exact hS.plc
  rw[if_pos q2];unfold fmtS;simp only[aI];show(if(((aN.made N).write ((0:Nat):Int) [ey 0 0]).1.write ((1:Nat):Int) (List.replicate j (Go.Av.cW []))).2=0 then
   (if(((aN.made N).write ((0:Nat):Int) [ey 0 0]).1.write ((1:Nat):Int) (List.replicate j (Go.Av.cW []))).1.flush.2=0 then
   (if((((aN.made N).write ((0:Nat):Int) [ey 0 0]).1.write ((1:Nat):Int) (List.replicate j (Go.Av.cW []))).1.flush.1.write ((2:Nat):Int) [bX fH]).2=0 then
   (if((((aN.made N).write ((0:Nat):Int) [ey 0 0]).1.write ((1:Nat):Int) (List.replicate j (Go.Av.cW []))).1.flush.1.write ((2:Nat):Int) [bX fH]).1.flush.2=0 then
    (((((aN.made N).write ((0:Nat):Int) [ey 0 0]).1.write ((1:Nat):Int) (List.replicate j (Go.Av.cW []))).1.flush.1.write ((2:Nat):Int) [bX fH]).1.flush.1,0)else _)else _)else _)else _)=_
  rw[if_pos b1,if_pos c1,if_pos d1,if_pos e1]
 refine⟨_,hf,e2,e5,?_,?_⟩
 ·rw[e3,d3,aV (by rw[c2.nl];simp;omega) (by simp),c3,b3,aV (by rw[a2.nl,z5];omega) (by omega),a3];exact dQ (a:=0) (l:=[ey 0 0]) (by rw[h0.nl];simp;omega)
 ·rw[e3,d3,c3];have h1:((((aN.made N).write ((0:Nat):Int) [ey 0 0]).1.write ((1:Nat):Int) (List.replicate j (Go.Av.cW []))).1.now).length=N:=b2.nl;have hin:=dQ (L:=((aN.made N).write ((0:Nat):Int) [ey 0 0]).1.now) (a:=1) (l:=List.replicate j (Go.Av.cW [])) (by rw[a2.nl,z5];omega);rw[z5,<-b3]at hin;generalize((((aN.made N).write ((0:Nat):Int) [ey 0 0]).1.write ((1:Nat):Int) (List.replicate j (Go.Av.cW []))).1.now)=L at h1 hin;obtain⟨k,rfl⟩:∃k,j=1+(1+k):=⟨j-2,by omega⟩;have s1:seg (ov L 2 [bX fH]) 1 1=seg L 1 1:=aV (by rw[h1];simp;omega) (by simp);have s2:seg (ov L 2 [bX fH]) 2 1=[bX fH]:=dQ (a:=2) (l:=[bX fH]) (by rw[h1];simp;omega);have s3:seg (ov L 2 [bX fH]) 3 k=seg L 3 k:=aV (by rw[h1];simp;omega) (by simp);have t1:=rq L 1 (1+(1+k)) 0 1 (by omega);have t3:=rq L 1 (1+(1+k)) 2 k (by omega);rw[hin]at t1 t3;rw[kU,kU,s1,s2,s3];rw[show 1+0=1 from rfl]at t1;rw[show 1+2=3 from rfl]at t3;rw[<-t1,<-t3,adC];have e1:seg (List.replicate (1+(1+k)) kI) 0 1=[kI]:=by simp[seg,show 1+(1+k)=k+2 by omega,List.replicate_succ]
  have e3:seg (List.replicate (1+(1+k)) kI) 2 k=List.replicate k kI:=by simp[seg,show 1+(1+k)=k+2 by omega]
  rw[e1,e3];simp[oA,show 1+(1+k)-2=k by omega]
theorem adE{j:Nat}(h5:5<=j)(h4:j<=4096):rO (oA j)=(fH,true):=by
 have hl:=J3 h5;have e0:(oA j).getD 0 []=kI:=rfl;have e1:(oA j).getD 1 []=bX fH:=rfl;have m0:(mY kI 0 (j:Int)).2=false:=by
  have a1:cq (kI.take 8)=0:=by kernel_rfl
  simp[mY,a1]
 have m1:mY (bX fH) 1 (j:Int)=(fH,true):=by
  have a1:cq ((bX fH).take 8)=1:=by kernel_rfl
  have a2:cq (((bX fH).drop 9).take 8)=1:=by kernel_rfl
  have a3:cq (((bX fH).drop 17).take 4)=2:=by kernel_rfl
  have a4:cq ((bX fH).drop 56)=1:=by kernel_rfl
  have a5:((bX fH).getD 8 0==84)=true:=by kernel_rfl
  unfold mY;rw[a1,a2,a3,a4,a5];simp[fH];omega
 unfold rO;rw[e0,e1,hl];simp only;rw[m0,m1];simp
theorem adF{N j:Nat}(h5:5<=j)(k:Nat):k9 N (oA j) k (fq 1 j fH)=fq 1 j fH:=by
 cases k with
 |zero=>rfl
 |succ k=>
  have hb:yH (oA j) 2 1=false:=by
   have e2:(oA j).getD 2 []=kI:=by
    obtain⟨m,rfl⟩:∃m,j=m+3:=⟨j-3,by omega⟩;simp[oA,show m+3-2=m+1 by omega,List.replicate_succ]
   have e3:(kI.getD 0 0==72)=false:=by kernel_rfl
   unfold yH;rw[show(2:Int).toNat=2 from rfl,e2,e3];simp
  have hf:∀(s:Nat) (a b:Int),(pT s a b (oA j) 2 1).2=false:=fun s a b=>by unfold pT;rw[hb];rfl
  have hr:qu N (oA j) (fq 1 j fH)=none:=by
   unfold qu;have q:(fq 1 j fH).at'=2:=rfl;have q':(fq 1 j fH).next=1:=rfl;rw[q,q',if_neg (by rw[hf];simp),if_neg (by rw[hf];simp)]
  unfold k9;rw[hr]
theorem W8{N j p:Nat}(hS:Al N j p){D:aN}(h:tZ N j D):∃D',nG D 1 j=(D',some (fq 1 j fH),0,0)/\tZ N j D':=by
 have hj:=hS.jb;have hr:=hS.rb;obtain⟨r1,r2,r3,r4,r5⟩:=h.gd.read (a:=1) (n:=j) (by omega);rw[h.Ak]at r1;refine⟨(D.read ((1:Nat):Int) ((j:Nat):Int)).1,?_,h.same r2 r3 r5⟩;have q2:pU D.kept.length 1 j=0:=by rw[h.gd.kl];exact hS.plc
 unfold nG;rw[if_pos q2];have e:D.read 1 (j:Int)=D.read ((1:Nat):Int) ((j:Nat):Int):=rfl;rw[e,r1];simp only[if_true];rw[adE hj.1 hj.2];simp only[if_true];rw[adF hj.1];have hc:(fq 1 (j:Int) fH).oB fH=fq 1 j fH:=by
  unfold Jr.oB fq;have:IntKind.i64.wrap (fH.first-fH.first)=0:=by kernel_rfl
  rw[this]
 rw[hc];have h0:¬(0:Int)<(fq 1 (j:Int) fH).cnt:=by simp[fq]
 rw[if_neg h0];have hs:(fq 1 (j:Int) fH).settled=fq 1 j fH:=by
  unfold Jr.settled fq;simp
 rw[hs];rfl
theorem W9(un:List UInt8->cZ×Int){N j p t:Nat}(hS:Al N j p){D:aN}(h:tZ N j D):yd un t (xg N j p D) ⟨xg N j p D,[],[]⟩ ⟨xg N j p D,[],[]⟩ ⟨xg N j p D,[],[]⟩ [] []:=by
 have hr:(xg N j p D).root=0:=rfl;refine⟨W7 hS h.gd (by rw[h.q];simp),?_,?_,by simp,by simp,fun k hk=>by simp at hk,?_,by simp,fun k hk=>by simp at hk⟩
 ·rw[hr];simp[Go.cC.eu.check]
 ·rw[hr];simp[Go.cC.eu.pages]
 ·rw[hr];simp[Go.cC.eu.scan,fF]
theorem adG(un:List UInt8->cZ×Int){N j p t:Nat}(hS:Al N j p)(ht:t<=10000){D:aN}(h:tZ N j D):∃D1 D2,HZ un t D j (p:Int) D1 D2 (fq 1 j fH) 0 (ey 0 0) 0 (N-(1+j+8*p)) ⟨xg N j p D2,[],[]⟩ ⟨xg N j p D2,[],[]⟩ ⟨xg N j p D2,[],[]⟩ [] []/\tZ N j D2/\NC un [] ⟨xg N j p D2,[],[]⟩=xg N j p D2:=by
 have gQ:=hS.jb;have Ad:=hS.pb;have h3':=hS.rb;have Un:=hS.nb;obtain⟨D1,h1,h2⟩:=W8 hS h;obtain⟨r1,r2,r3,r4,r5⟩:=h2.gd.read (a:=0) (n:=1) (by omega);rw[h2.head]at r1;have hl:=W9 un (t:=t) hS (h2.same r2 r3 r5);refine⟨D1,(D1.read ((0:Nat):Int) ((1:Nat):Int)).1,⟨h.gd.FC (by omega) (by rw[h.q];simp),ht,by rw[h.gd.kl];exact hS.dsk,h1,h2.gd.FC (by omega) (by rw[h2.q];simp),?_,by rw[nD];omega,Uz,by omega,?_,?_,hl,?_,?_,?_⟩,h2.same r2 r3 r5,rfl⟩
 ·show D1.read ((0:Nat):Int) ((1:Nat):Int)=_;rw[<-r1]
 ·rw[h.gd.kl];unfold cG;omega
 ·rw[h2.gd.kl,r2.kl,h.gd.kl];exact⟨rfl,rfl⟩
 ·exact i_ (by omega) (by omega)
 ·exact i_ (by omega) (by omega)
 ·simp[jt,xg]
end Go.aT
namespace Go.Av
open Go.Proofs Go.Proofs.Tryz Go.aT
structure Ig(x:cZ):Prop where
 uri:x.uri.length<=140737488351232
 var:x.var.length<=140737488351232
 m:x.st.m.length<=140737488351232
 t:x.st.t.length<=140737488351232
 r:x.st.r.length<=140737488351232
 ff:∀f∈x.fields,f.1.length<=140737488351232/\f.2.length<=140737488351232
 ns:∀s∈x.names,s.length<=140737488351232
 sz:-9223372036854775808<=x.size
 fl:x.fields.length<=9223372036854775807
 nl:x.names.length<=9223372036854775807
 bl:x.body.length<=9223372036854775807
theorem NZ:∀(l:List Go.Av.Fd),(∀f∈l,f.1.length<=140737488351232/\f.2.length<=140737488351232)->nC l<=l.length*281474976702468+2
 |[],_=>by simp[nC]
 |f::l,h=>by
  have h1:=NZ l (fun g hg=>h g (by simp[hg]));have h2:=h f (by simp);have e:nC (f::l)=(f.1.length+f.2.length+4)+nC l:=by simp[nC];omega
  rw[e,List.length_cons];omega
theorem Ig.okB{x:cZ}(h:Ig x)(h1:x.names.length<=140)(h2:x.fields.length<=140)(h3:x.body.length<=20):x.OkB:=⟨h.uri,h.var,h.m,h.t,h.r,by omega,by have:=NZ x.fields h.ff;omega,h.ff,by omega,h.ns,by omega⟩
theorem ai2(size:Int)(hs:-9223372036854775808<=size/\size<=9223372036854775807)(j p:Int)(hj:-9223372036854775808<=j/\j<=9223372036854775807)(hp:-9223372036854775808<=p/\p<=9223372036854775807)(x:cZ)(hx:Ig x):aq prog 4 [.int size,.agg false [.int j,.int p],dI x] (.bool true):=by
 have W_:=Sy;refine bI (xs:=[_,_,_]) (r:= .p (.bool true)) (aM:=⟨[],[],60⟩) ?_ ⟨_,rfl,.inl rfl⟩;refine ah (rs:=[_]) [] [] [] func4 rfl ?_;simp;refine bS W_ ?_;have hx1:=hx.fl;have hx2:=hx.nl;have hx3:=hx.bl;by_cases c1:300<x.uri.length
 ·have iP:(300:Int)<(x.uri.length:Int):=by omega
  simp[iP];refine bS W_ ?_;simp[-az,results4];exact⟨[],by simp⟩
 have iP:¬(300:Int)<(x.uri.length:Int):=by omega
 by_cases c2:300<x.var.length
 ·have dM:(300:Int)<(x.var.length:Int):=by omega
  simp[iP,dM];refine bS W_ ?_;simp[-az,results4];exact⟨[],by simp⟩
 have dM:¬(300:Int)<(x.var.length:Int):=by omega
 by_cases c3:300<x.st.r.length
 ·have j_:(300:Int)<(x.st.r.length:Int):=by omega
  simp[iP,dM,j_];refine bS W_ ?_;simp[-az,results4];exact⟨[],by simp⟩
 have j_:¬(300:Int)<(x.st.r.length:Int):=by omega
 by_cases c4:140<x.names.length
 ·have kT:(140:Int)<(x.names.length:Int):=by omega
  simp[iP,dM,j_,kT];refine bS W_ ?_;simp[-az,results4];exact⟨[],by simp⟩
 have kT:¬(140:Int)<(x.names.length:Int):=by omega
 by_cases c5:140<x.fields.length
 ·have qS:(140:Int)<(x.fields.length:Int):=by omega
  simp[iP,dM,j_,kT,qS];refine bS W_ ?_;simp[-az,results4];exact⟨[],by simp⟩
 have qS:¬(140:Int)<(x.fields.length:Int):=by omega
 by_cases c6:20<x.body.length
 ·have AX:(20:Int)<(x.body.length:Int):=by omega
  simp[iP,dM,j_,kT,qS,AX];refine bS W_ ?_;simp[-az,results4];exact⟨[],by simp⟩
 have AX:¬(20:Int)<(x.body.length:Int):=by omega
 have hok:=hx.okB (by omega) (by omega) (by omega);obtain⟨k,hk⟩:∃k:Nat,size%5000=k:=⟨(size%5000).toNat,by omega⟩;have hk5:k<5000:=by omega
 have bj:=BQ size 5000 (by omega);have mj:=BP size 5000 (by omega);have a2:IntKind.i64.wrap (size.tmod 5000+5000)=size.tmod 5000+5000:=aD;obtain⟨N,hN⟩:∃N:Nat,N=1+k:=⟨_,rfl⟩;have a3:IntKind.i64.wrap (1+(k:Int))=(N:Int):=by rw[aD];omega
 have a1:IntKind.i64.wrap (size.tmod 5000)=size.tmod 5000:=aD;have a4:IntKind.i64.wrap (k:Int)=(k:Int):=aD;have Uw:=Ut N (by omega) (by omega);have hsh:=N0 N (by omega) j p hj hp;have rQ:(aN.made N).kept.length=N:=by simp[aN.made]
 have hfo:=DA (aN.made N) 0 (Dq N (by omega) (by omega)) j p (by omega);have LC:=JC x hok hx.sz;simp[iP,dM,j_,kT,qS,AX,a2,a3,mj,hk];refine jI [] Uw ?_;simp[aj];refine bS hsh ?_;by_cases cr:ig N j p=0
 case neg=>
  have hf:xh (aN.made N) j p=(aN.made N,ig N j p):=by unfold xh;rw[rQ,if_neg cr]
  have h2:ig N j p=2:=by
   unfold ig at cr⊢;split
   ·rfl
   ·rename_i h;rw[if_neg h]at cr;split
    ·rfl
    ·rename_i h2;rw[if_neg h2]at cr;exact absurd rfl cr
  rw[hf,h2]at hfo;have hmf:=N1 (aN.made N) (by rw[rQ];omega) j p (by rw[rQ];exact cr);rw[rQ,h2]at hmf;have hfn:=J5 j p;simp[h2];refine qU [0,1,2,3] hfo ?_;simp[aj];refine Da [0,1,2,4] hmf ?_;simp;refine bS hfn ?_;simp[-az,results4];exact⟨[],by simp⟩
 have hb:5<=j/\j<=4096/\30<=p/\p<=4096/\(N:Int)-cG j p>=16:=by
  unfold ig at cr;split at cr
  ·omega
  ·split at cr
   ·omega
   ·omega
 obtain⟨jn,rfl⟩:∃jn:Nat,j=jn:=⟨j.toNat,by omega⟩;obtain⟨pn,rfl⟩:∃pn:Nat,p=pn:=⟨p.toNat,by omega⟩;have hS:Al N jn pn:=⟨by omega,by omega,by omega,by have:=hb.2.2.2.2;unfold cG at this;omega⟩;obtain⟨D,hf,hD⟩:=adD hS;rw[hf]at hfo;obtain⟨D1,D2,hm,hD2,Ux⟩:=adG (t:=1000) (fun _=>(rM,0)) hS (by omega) hD;have hmo:=B3 _ _ _ _ _ _ _ _ _ _ _ _ _ _ _ _ _ hm;rw[Ux]at hmo;have qP:(xg N jn pn D2).ix=[]:=rfl;have hln:(xg N jn pn D2).k_=[]:=rfl;simp[cr];refine qU [0,1,2,3] hfo ?_;simp[aj];refine qU [0,1,2,4] hmo ?_;clear hfo hmo hm hD hD2 Ux hf;generalize xg N jn pn D2=s at*;have hge:=N2 s qP x.uri;have B2:=J6 s qP x (by omega) (by omega);have hde:=J7 s qP x.uri;have hbo:=Sz s qP x (by omega) (by omega);have FX:=SA s qP x.uri;have hke:=NA s (by rw[qP];simp);have hlo:=adH s (by rw[hln];simp);have ek:(s.ix.map fun k=>PC.str k.key)=[]:=by rw[qP];rfl
 have el:s.k_.length=0:=by rw[hln];rfl
 rw[ek]at hke;rw[el]at hlo;have hB:Cq x=(x.right&&(decide (x.order=0)&&(decide (x.size=0)&&(decide (x.sum=0)&&decide (x.body=[]))))):=rfl;simp[MJ,mtO,aG,aj,cM,bN,cz];cases hb:Cq x
 case' true=>
  have UJ:=N3 s x hok (by omega) hb;rw[hB]at hb;simp only[Bool.and_eq_true,decide_eq_true_eq]at hb;obtain⟨d1,d2,d3,d4,d5⟩:=hb;rw[d1]at LC;refine Fy [0,1,2,15,16,17,18,5,6,7,8,9,10,11,12,13,14] UJ ?_;simp[smE,bO,aG,aj,cM,bR,bN,cz];refine bS LC ?_;simp[d2,d3,d4,d5]
 case' false=>
  have UJ:=N4 s x hok hb;refine Fy [0,1,2,15,16,17,18,5,6,7,8,9,10,11,12,13,14] UJ ?_;simp[bO,aG,aj,cM,bR,bN,cz];refine bS LC ?_;rw[hB]at hb;have hcs:x.right=false\/(x.right=true/\x.order≠0)\/(x.right=true/\x.order=0/\x.size≠0)\/(x.right=true/\x.order=0/\x.size=0/\x.sum≠0)\/(x.right=true/\x.order=0/\x.size=0/\x.sum=0/\x.body≠[]):=by
   cases h1:x.right with
   |false=>exact .inl rfl
   |true=>
    rw[h1]at hb;by_cases h2:x.order=0
    ·by_cases h3:x.size=0
     ·by_cases h4:x.sum=0
      ·by_cases h5:x.body=[]
       ·rw[h2,h3,h4,h5]at hb;simp at hb
       ·exact .inr (.inr (.inr (.inr ⟨rfl,h2,h3,h4,h5⟩)))
      ·exact .inr (.inr (.inr (.inl ⟨rfl,h2,h3,h4⟩)))
     ·exact .inr (.inr (.inl ⟨rfl,h2,h3⟩))
    ·exact .inr (.inl ⟨rfl,h2⟩)
  rcases hcs with h1|⟨h1,h2⟩|⟨h1,h2,h3⟩|⟨h1,h2,h3,h4⟩|⟨h1,h2,h3,h4,h5⟩
  case' inl=>simp[h1]
  case' inr.inl=>simp[h1,(show(x.order==0)=false by simpa using h2)]
  case' inr.inr.inl=>simp[h1,h2,(show(x.size==0)=false by simpa using h3)]
  case' inr.inr.inr.inl=>simp[h1,h2,h3,(show((x.sum:Int)==0)=false by simp;omega)]
  case' inr.inr.inr.inr=>simp[h1,h2,h3,h4,(show((x.body.length:Int)==0)=false by simp;exact h5)]
 all_goals
  refine Fy [0,1,2,15,16,17,18,5,6,7,8,9,10,11,12,13,14] hge ?_;simp[bO,aG,aj,cM,bR,bN,cz];refine Fy [0,1,2,15,16,17,18,5,6,7,8,9,10,11,12,13,14] B2 ?_;simp[bO,aG,aj,cM,bR,bN,cz];refine bq [0,1,2,15,16,17,18,5,6,7,8,9,10,11,12,13,14] hde (by simp) (by simp) (by simp[ay,bR,bN]) (by simp) ?_;simp[bR,bN];refine Fy [0,1,2,15,16,17,18,5,6,7,8,9,10,11,12,13,14] hbo ?_;simp[bO,aG,aj,cM,bR,bN,cz];refine bq [0,1,2,15,16,17,18,5,6,7,8,9,10,11,12,13,14] FX (by simp) (by simp) (by simp[ay,bR,bN]) (by simp) ?_;simp[bR,bN];refine bq [0,1,2,15,16,17,18,5,6,7,8,9,10,11,12,13,14] hke (by simp) (by simp) (by simp[ay,bR,bN]) (by simp) ?_;simp[bR,bN];refine bq [0,1,2,15,16,17,18,5,6,7,8,9,10,11,12,13,14] hlo (by simp) (by simp) (by simp[ay,bR,cz]) (by simp) ?_;simp[-az,bR,cz,results4];exact⟨[],by simp⟩
end Go.Av
namespace Go.Av
open Go.Proofs Go.Proofs.Tryz Go.aT Go.ChangeShapes Go.WideShapes Go.ChangeAt Go.RowKit
theorem Kz:prog.cellsOf 3=1:=by kernel_rfl
theorem Dd:prog.cellsOf 9=1:=by kernel_rfl
theorem ajj:prog.cellsOf 34=2:=by kernel_rfl
theorem CQ:prog.cellsOf 40=1:=by kernel_rfl
theorem EJ:prog.cellsOf 42=5:=by kernel_rfl
theorem KA:prog.cellsOf 43=1:=by kernel_rfl
theorem KB:prog.cellsOf 45=2:=by kernel_rfl
theorem aeo:prog.cellsOf 46=1:=by kernel_rfl
theorem ajk:prog.cellsOf 47=1:=by kernel_rfl
theorem ajl:prog.cellsOf 49=15:=by kernel_rfl
theorem U8:prog.cellsOf 139=2:=by kernel_rfl
theorem U9:prog.cellsOf 157=2:=by kernel_rfl
abbrev RB:Nat:=140737488351232
theorem aep:reachBytes=140737488351232:=rfl
theorem Qy:EK prog 3 KC:=(GQ underlying3).mono fun x ⟨n,h,hw⟩=>by
 have hmin:IntKind.i64.min=-9223372036854775808:=rfl;have gZ:IntKind.i64.max=9223372036854775807:=rfl;simp only[Lit.wf,Bool.and_eq_true,decide_eq_true_eq,hmin,gZ]at hw;exact⟨n,h,by omega,by omega⟩
def aeq(x:PC):Prop:=∃s:List UInt8,x= .str s/\s.length<=140737488351232
theorem U_:EK prog 9 aeq:=(KD underlying9).mono fun x ⟨s,h,hw⟩=>⟨s,h,by rw[aep]at hw;exact hw⟩
theorem Te{xs:List PC}(h:∀x∈xs,aeq x):∃l:List (List UInt8),xs=l.map PC.str/\∀s∈l,s.length<=140737488351232:=by
 induction xs with
 |nil=>exact⟨[],rfl,by simp⟩
 |cons x xs ih=>
  obtain⟨l,rfl,hl⟩:=ih fun y hy=>h y (by simp[hy]);obtain⟨s,rfl,hs⟩:=h x (by simp);exact⟨s::l,rfl,fun y hy=>by rcases List.mem_cons.1 hy with rfl|hy;exact hs;exact hl y hy⟩
def ajm(x:PC):Prop:=∃l:List (List UInt8),x= .sl (l.map PC.str)/\l.length<=9223372036854775807/\∀s∈l,s.length<=140737488351232
theorem ajn:EK prog 40 ajm:=(zn underlying40 (by rw[Dd];omega) U_).mono fun x ⟨xs,h,hl,hv⟩=>by
 obtain⟨l,rfl,h2⟩:=Te hv;exact⟨l,h,by simp[maxLen]at hl;omega,h2⟩
def aer(x:PC):Prop:=∃f:Go.Av.Fd,x=nX f/\f.1.length<=140737488351232/\f.2.length<=140737488351232
theorem rdF:KE prog 139 aer:=(mN (Ss:=[_,_]) underlying139 (by rw[U8];simp[zq,Dd]) ⟨rfl,U_.c,(by simp[Dd]),U_.c,trivial⟩).mono (by
 rintro x ⟨ys,rfl,h⟩;obtain⟨_,ys1,rfl,⟨n,rfl,w1⟩,h1⟩:=iy h;obtain⟨_,rfl,v,rfl,w2⟩:=zu h1;exact⟨(n,v),rfl,w1,w2⟩)
theorem Tf{xs:List PC}(h:∀x∈xs,aer x):∃l:List Go.Av.Fd,xs=l.map nX/\∀f∈l,f.1.length<=140737488351232/\f.2.length<=140737488351232:=by
 induction xs with
 |nil=>exact⟨[],rfl,by simp⟩
 |cons x xs ih=>
  obtain⟨l,rfl,hl⟩:=ih fun y hy=>h y (by simp[hy]);obtain⟨s,rfl,hs⟩:=h x (by simp);exact⟨s::l,rfl,fun y hy=>by rcases List.mem_cons.1 hy with rfl|hy;exact hs;exact hl y hy⟩
def ajo(x:PC):Prop:=∃l:List Go.Av.Fd,x= .sl (l.map nX)/\l.length<=9223372036854775807/\∀f∈l,f.1.length<=140737488351232/\f.2.length<=140737488351232
theorem ajp:EK prog 43 ajo:=(zn underlying43 (by rw[U8];omega) rdF).mono fun x ⟨xs,h,hl,hv⟩=>by
 obtain⟨l,rfl,h2⟩:=Tf hv;exact⟨l,h,by simp[maxLen]at hl;omega,h2⟩
def KF(x:PC):Prop:=∃a b:Int,x= .agg false [.int a,.int b]/\(-9223372036854775808<=a/\a<=9223372036854775807)/\(-9223372036854775808<=b/\b<=9223372036854775807)
theorem CS{ys:List PC}(h:gY (fun(S:PC->Prop) x=>S x) [KC,KC] ys):∃a b:Int,ys.flatMap ga=[.int a,.int b]/\(-9223372036854775808<=a/\a<=9223372036854775807)/\(-9223372036854775808<=b/\b<=9223372036854775807):=by
 obtain⟨_,ys1,rfl,⟨a,rfl,w1⟩,h1⟩:=iy h;obtain⟨_,rfl,b,rfl,w2⟩:=zu h1;exact⟨a,b,rfl,w1,w2⟩
theorem aes:KE prog 45 KF:=(mN (Ss:=[_,_]) underlying45 (by rw[KB];simp[zq,Kz]) ⟨rfl,Qy.c,(by simp[Kz]),Qy.c,trivial⟩).mono (by
 rintro x ⟨ys,rfl,h⟩;obtain⟨a,b,e,w1,w2⟩:=CS h;exact⟨a,b,by rw[e],w1,w2⟩)
theorem Ya:KE prog 157 KF:=(mN (Ss:=[_,_]) underlying157 (by rw[U9];simp[zq,Kz]) ⟨rfl,Qy.c,(by simp[Kz]),Qy.c,trivial⟩).mono (by
 rintro x ⟨ys,rfl,h⟩;obtain⟨a,b,e,w1,w2⟩:=CS h;exact⟨a,b,by rw[e],w1,w2⟩)
theorem Tg{xs:List PC}(h:∀x∈xs,KF x):∃l:List (Int×Int),xs=l.map kG:=by
 induction xs with
 |nil=>exact⟨[],rfl⟩
 |cons x xs ih=>
  obtain⟨l,rfl⟩:=ih fun y hy=>h y (by simp[hy]);obtain⟨a,b,rfl,_⟩:=h x (by simp);exact⟨(a,b)::l,rfl⟩
def ajq(x:PC):Prop:=∃l:List (Int×Int),x= .sl (l.map kG)/\l.length<=9223372036854775807
theorem ajr:EK prog 47 ajq:=(zn underlying47 (by rw[U9];omega) Ya).mono fun x ⟨xs,h,hl,hv⟩=>by
 obtain⟨l,rfl⟩:=Tg hv;exact⟨l,h,by simp[maxLen]at hl;omega⟩
def ajs(x:PC):Prop:=∃n:Nat,x=nj n
theorem rdU:EK prog 46 ajs:=(GQ underlying46).mono fun x ⟨n,h,hw⟩=>by
 have hmin:IntKind.u32.min=0:=rfl;have gZ:IntKind.u32.max=4294967295:=rfl;simp only[Lit.wf,Bool.and_eq_true,decide_eq_true_eq,hmin,gZ]at hw;refine⟨n.toNat,?_⟩;rw[h];show PC.sc (.int .u32 n)=PC.sc (.int .u32 (n.toNat:Int));rw[Int.toNat_of_nonneg (by omega)]
def ajt(x:PC):Prop:=∃s:Jt,x=stP s/\s.m.length<=140737488351232/\s.t.length<=140737488351232/\s.r.length<=140737488351232
theorem aju:KE prog 42 ajt:=(mN (Ss:=[_,_,_,_,_]) underlying42 (by rw[EJ];simp[zq,Kz,Dd]) ⟨rfl,U_.c,(by simp[Dd]),U_.c,(by simp[Dd]),Qy.c,(by simp[Dd,Kz]),U_.c,(by simp[Dd,Kz]),Qy.c,trivial⟩).mono (by
 rintro x ⟨ys,rfl,h⟩;obtain⟨_,ys1,rfl,⟨m,rfl,w1⟩,h1⟩:=iy h;obtain⟨_,ys2,rfl,⟨t,rfl,w2⟩,h2⟩:=iy h1;obtain⟨_,ys3,rfl,⟨st,rfl,w3⟩,h3⟩:=iy h2;obtain⟨_,ys4,rfl,⟨r,rfl,w4⟩,h4⟩:=iy h3;obtain⟨_,rfl,mi,rfl,w5⟩:=zu h4;exact⟨⟨m,t,st,r,mi⟩,rfl,w1,w2,w4⟩)
def Yb(x:PC):Prop:=∃e:cZ,x=dI e/\Ig e
theorem ajv:Yc prog 49 Yb:=by
 refine Bl underlying49 ((mN (Ss:=[_,_,_,_,_,_,_,_,_,_]) underlying49 (by rw[ajl];simp[zq,Dd,CQ,EJ,KA,KB,Kz,aeo,ajk]) ⟨rfl,U_.c,(by simp[Dd]),ajn.c,(by simp[Dd,CQ]),U_.c,(by simp[Dd,CQ]),aju,(by simp[Dd,CQ,EJ]),ajp.c,(by simp[Dd,CQ,EJ,KA]),aes,(by simp[Dd,CQ,EJ,KA,KB]),Qy.c,(by simp[Dd,CQ,EJ,KA,KB,Kz]),Qy.c,(by simp[Dd,CQ,EJ,KA,KB,Kz]),rdU.c,(by simp[Dd,CQ,EJ,KA,KB,Kz,aeo]),ajr.c,trivial⟩).mono ?_) ?_
 ·rintro x ⟨ys,rfl,h⟩;obtain⟨_,ys1,rfl,⟨uri,rfl,w1⟩,h1⟩:=iy h;obtain⟨_,ys2,rfl,⟨nms,rfl,w2,v2⟩,h2⟩:=iy h1;obtain⟨_,ys3,rfl,⟨var,rfl,w3⟩,h3⟩:=iy h2;obtain⟨_,ys4,rfl,⟨st,rfl,w4,v4,u4⟩,h4⟩:=iy h3;obtain⟨_,ys5,rfl,⟨fs,rfl,w5,v5⟩,h5⟩:=iy h4;obtain⟨_,ys6,rfl,⟨a,g,rfl,w6,v6⟩,h6⟩:=iy h5;obtain⟨_,ys7,rfl,⟨o,rfl,w7⟩,h7⟩:=iy h6;obtain⟨_,ys8,rfl,⟨sz,rfl,w8⟩,h8⟩:=iy h7;obtain⟨_,ys9,rfl,⟨sm,rfl⟩,h9⟩:=iy h8;obtain⟨_,rfl,bd,rfl,w10⟩:=zu h9;exact⟨⟨uri,nms,var,st,fs,a,g,o,sz,sm,bd⟩,rfl,⟨w1,w3,w4,v4,u4,v5,v2,w8.1,w5,w2,w10⟩⟩
 ·rintro x ⟨e,rfl,_⟩;exact⟨_,rfl⟩
theorem ajw:Yc prog 34 KF:=Bl underlying34 ((mN (Ss:=[_,_]) underlying34 (by rw[ajj];simp[zq,Kz]) ⟨rfl,Qy.c,(by simp[Kz]),Qy.c,trivial⟩).mono (by
 rintro x ⟨ys,rfl,h⟩;obtain⟨a,b,e,w1,w2⟩:=CS h;exact⟨a,b,by rw[e],w1,w2⟩)) (by rintro x ⟨a,b,rfl,_⟩;exact⟨_,rfl⟩)
theorem aeu{x y z:PC}(hx:KC x)(hy:KF y)(hz:Yb z):aq prog 4 [x,y,z] (.bool true):=by
 obtain⟨n,rfl,h1⟩:=hx;obtain⟨a,b,rfl,h2,h3⟩:=hy;obtain⟨e,rfl,h4⟩:=hz;exact ai2 n h1 a b h2 h3 e h4
end Go.Av
namespace Go.Av
open Go.ChangeShapes Go.WideShapes Go.ChangeAt Go.RowKit
theorem Hw{H:Type}{P:Program}:∀{a:List TypeId} {c:List (DataW H)} (b:List TypeId) (d:List (DataW H)),∀n∈DataW.weightsEach P a c,n∈DataW.weightsEach P (a++b) (c++d)
 |[],c,b,d,n,h=>by simp[DataW.weightsEach]at h
 |t::a,[],b,d,n,h=>by simp[DataW.weightsEach]at h
 |t::a,x::c,b,d,n,h=>by
  simp only[DataW.weightsEach,iR,List.cons_append]at h⊢;exact h.imp id (Hw b d n)
theorem BU{H:Type}{enc:TypeId×Value->H}{a:Assume}{C:Checked}{os:Os}{f:FuncId}{fn:Func}{s:ChangeSpec}{conds:List PathCond}{apart fresh handsOn again:Bool}{X:World->Array Value->Prop}(hX:∀(w w':World) (args:Array Value),w.heap=w'.heap->X w args->X w' args)(own:ownKnob C.prog.godebug=none)(started:os.Started)(noInit:C.prog.inits.idxOf? f=none)(hfn:C.prog.funcs[f]?=some fn)(witness:∃(w:World) (tape:Tape) (i:Input),w.os=os/\(w.forCall tape i).Shaped C.prog/\i.vars=[]/\Input.okWide C.prog (w.forCall tape i) .any w.heap.size f i/\((s.pre enc C.prog fn conds apart (w.forCall tape i).memory i.args/\X (w.forCall tape i).memory i.args)/\sizedMet enc C.prog fn (OpenSpec.ofChange s) apart (w.forCall tape i).memory i.args)/\a.holds C.prog (lone (Frame.enter C.prog f i.args .normal) [] (w.forCall tape i)))(contract:∀(W:World) (base:Nat) (args:Array Value) (ds gs:List (DataW H)) (before:List MemPlace),(∀(j:Nat) t v,fn.params[j]?=some t->args[j]?=some v->Value.okWide C.prog W .any base t v)->DataW.Whole enc C.prog fn.params.toList s.vars apart W args.toList ds gs before->X W args->(∀n∈DataW.weightsEach C.prog fn.params.toList ds,n<=reachBytes)->Calls C.prog f args W fun e W'=>∃v,e= .returned v/\s.post enc C.prog fn apart fresh handsOn again W args v W'):ReturnsInHanded a C os f .any (fun w args=>(s.pre enc C.prog fn conds apart w args/\X w args)/\sizedMet enc C.prog fn (OpenSpec.ofChange s) apart w args) (s.post enc C.prog fn apart fresh handsOn again):=by
 refine returnsInHanded_of_calls own started noInit witness fun w tape i _ _ _ hok hpre _=>?_;obtain⟨_,_,_,fn',aiG,_,_,_,_,hval⟩:=hok;cases Option.some.inj (aiG.symm.trans hfn);obtain⟨⟨⟨ds,gs,before,hw,hc⟩,hx⟩,hz⟩:=hpre;have hw':=DataW.Whole.of_heap (w':=w.forCall tape i) (by rfl) hw;have hwt:=hz.weights hw;refine(contract (w.forCall tape i) w.heap.size i.args ds gs before hval hw' (hX _ _ _ (by rfl) hx) (fun n hn=>by simpa using List.all_eq_true.1 hwt n (Hw _ _ n hn))).mono fun e W' ⟨v,he,hp⟩=>?_;subst he;exact ChangeSpec.post_blind hp
end Go.Av
