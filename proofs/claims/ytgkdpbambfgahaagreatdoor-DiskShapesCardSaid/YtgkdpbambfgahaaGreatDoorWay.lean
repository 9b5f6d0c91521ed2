/- DiskShapes, part 25: what functions compute, and its plain law; no condition. -/
import Derived.Test.YtgkdpbambfgahaaGreatDoorWax
set_option linter.all false
set_option maxRecDepth 100000
set_option maxHeartbeats 64000000
namespace Go.aT
open Go.Av
@[simp]theorem aiT(m:Mp)(es:List (Int×Int)):(m.hold es).1.R=m.R:=rfl
@[simp]theorem aiU(m:Mp)(es:List (Int×Int)):(m.hold es).1.W=m.W:=rfl
@[simp]theorem aiV(m:Mp)(es:List (Int×Int)):(m.hold es).1.n=m.n:=rfl
theorem WL(m:Mp)(es:List (Int×Int)):(m.hold es).1.F=if eC m.n m.F es=true then(es.map toE).foldl fN m.F else m.F:=rfl
end Go.aT
namespace Go.Av
open Go.Proofs Go.Proofs.Tryz Go.aT
open Go.cC (ke)
theorem WM(un:List UInt8->cZ×Int)(t:Nat)(s:St)(c1 c2 c4:Cs)(P:List Int)(L:ke)(hr:lD s.root)(h:yd un t s c1 c2 c4 P L):aE prog 75 [.obj 6 0,.p (.int L.length)] ⟨bO 0 7 s,fh 7,17⟩ (.p (.int 0)) ⟨bO 0 17 (jt un L c4.s),fh 17,27⟩:=by
 have hS:=h.ok;have c0:fL t ⟨s,[],[]⟩:=⟨hS,by simp,by simp,by simp,by simp⟩;have Uw:=Nt s.root;have hck:=Nu t ⟨s,[],[]⟩ c0 s.root hr;rw[h.check]at hck;simp only at hck;have Gc:fL t c1:=by
  have h1:=h.check;unfold Go.cC.eu.check at h1;split at h1
  ·injection h1 with h1 _;rw[<-h1];exact c0
  ·injection h1 with h1 _;rw[<-h1];exact(lg (t:=t) (pn:=s.pn) 40 0 (by omega) ⟨s,[],[]⟩ s.root [] none ⟨[],-1⟩ c0 rfl (by simp) ⟨by simp,by simp⟩).ok
 have FQ:=LU t c1 c2 Gc s.root hr P h.pages (by have:=h.pl;omega);have Db:fL t c2:=by
  have h1:=h.pages;unfold Go.cC.eu.pages at h1;split at h1
  ·injection h1 with h1 _;rw[<-h1];exact Gc
  ·have:=si (t:=t) 40 c1 s.root [] Gc;rw[h1]at this;exact this
 have hm2:=td Db.s.sl P;have hc3:fL t {c2 with s:={c2.s with sl:=fF c2.s.sl P}}:={Db with s:={Db.s with sl:=hm2.1,UC:=by simp only[hm2.2.1];exact Db.s.UC}};have hsc:=RT t _ c4 hc3 s.root hr [] 65536 L h.scan (by have:=h.ll;omega);have hpl:=h.pl;have Ja:=h.ll;have hpb:=h.pb;have hho:=h.hold;have hkn:=h.know;clear h;refine ji (rs:=[_]) [17] [] [] func75 rfl (by kernel_rfl) (by kernel_rfl) (by simp[ntmps75]) rfl ?_;refine bM mixed (fun _:Unit=>True) (fun _=>[(0,.obj 6 0),(1,.p (.int L.length))]) (fun _=>⟨bO 0 7 s,fh 7,17⟩) ?_ (fun _ _=>?_)
 ·simp[bO,aG,aj,cM,bR,bN,cz];exact ak (by simp)
 refine bM mixed (fun _:Unit=>True) (fun _=>[(0,.obj 6 0),(1,.p (.int L.length)),(5,.obj 18 0)]) (fun _=>⟨(18,⟨371,2,[.mW 276 (.obj 17 0),.p (.int s.root)]⟩)::(17,⟨278,3,[.obj 6 0,.p .nil,.p .nil]⟩)::bO 0 7 s,fh 7,19⟩) ?_ (fun _ _=>?_)
 ·simp[bO,aG,aj,cM,bR,bN,cz];refine jI [17] Uw ?_;simp;exact ak (by simp)
 refine qo (ja 17 1 3 1 ⟨278,3,[.obj 6 0,.p .nil,.p .nil]⟩ [] (by simp[lk]) (.inr ⟨rfl,rfl⟩)) ?_;refine qo (ja 17 2 3 1 ⟨278,3,[.obj 6 0,.own 19 [],.p .nil]⟩ [] (by simp[Tb.aP,Tb.bU]) (.inr ⟨rfl,rfl⟩)) ?_;refine iH mixed ?_;simp[bO,aG,aj,cM,bR,bN,cz,Tb.aP,Tb.bU,del];refine bq [0,1,2,3,4,5,6,17,7,8,9,10,11,12,13,14,15,16,19,20,18] hck (by simp) (by simp) (by simp[ay,kg,sS,AE,bO,aG,aj,cM,bR,bN,cz]) (by simp[ay]) ?_;simp[kg,sS,AE,bO,aG,aj,cM,bR,bN,cz];refine bq [0,1,2,3,4,5,6,17,21,22,23,24,25,26,27,28,29,30,31,32,18] FQ (by simp) (by simp) (by simp[ay,kg,sS,AE,bO,aG,aj,cM,bR,bN,cz]) (by simp[ay]) ?_;simp[kg,sS,AE,bO,aG,aj,cM,bR,bN,cz];have hn2:∀l,(fF c2.s.sl l).n=c2.s.sl.n/\(fF c2.s.sl l).R=c2.s.sl.R/\(fF c2.s.sl l).W=c2.s.sl.W:=fun l=>(td Db.s.sl l).2;refine aL (fun k:Nat=>k<=P.length) (fun k=>[(0,.obj 6 0),(1,.p (.int L.length)),(5,.obj 18 0),(39,.p (.sl (P.map PC.int))),(40,.p (.int P.length)),(41,.p (.int k))]) (fun k=>⟨[(17,⟨278,3,[.obj 6 0,.own 43 (c2.saved.map PC.int),.own 44 (c2.old.map PC.int)]⟩),(18,⟨371,2,[.mW 276 (.obj 17 0),.p (.int s.root)]⟩),(0,aG 0 33 c2.s.D),(1,aj c2.s.D.kept),(2,aj c2.s.D.now),(3,fy 0 34 c2.s.J),(4,iQ c2.s.sl.n 45 36 37 (fF c2.s.sl (P.take k)).F c2.s.sl.R c2.s.sl.W),(5,cM 38 c2.s.rm),(6,bR 0 33 c2.s),(45,cg (fF c2.s.sl (P.take k)).F),(36,cg c2.s.sl.R),(37,cg c2.s.sl.W),(38,cg c2.s.rm.F),(39,cg c2.s.rm.R),(40,cg c2.s.rm.W),(41,bN c2.s.ix),(42,cz c2.s.k_)],[(33,174,65),(34,364,2),(43,3,1),(44,3,1)],46⟩) (fun k=>P.length-k) 0 (by simp) _ (AS.le_refl _ _) (aB [(45,35)] (by simp[aG,aj,cM,bR,bN,cz,fF])) ?_;intro k hk;by_cases ck:k<P.length
 ·have wk:=jq k;obtain⟨m1,m2,m3,m4⟩:=td Db.s.sl (P.take k);have hb:=hpb P[k] (List.getElem_mem ck);have w1:IntKind.i64.wrap (P[k]-1)=P[k]-1:=aD;have hh:=Cb 4 45 36 37 46 (fF c2.s.sl (P.take k)).n (by constructor<;>omega) m1.n _ _ _ m1.F m1.R m1.W [(P[k]-1,1)] (by simp);have hq:eC (fF c2.s.sl (P.take k)).n (fF c2.s.sl (P.take k)).F [(P[k]-1,1)]=true:=hho k ck;have hF:(fF c2.s.sl (P.take (k+1))).F=([(P[k]-1,1)].map toE).foldl fN (fF c2.s.sl (P.take k)).F:=by
   rw[iA ck,FT,WL,if_pos hq]
  rw[hq]at hh;simp only[if_true]at hh;rw[<-hF,m2,m3,m4]at hh;simp[ck,w1,aG,aj,cM,bR,bN,cz];refine aA hh (by simp) (by simp[ay]) (by simp[ay]) rfl ?_;simp[wk];exact⟨k+1,by omega,by omega,aB [(45,46)] (by simp)⟩
 ·obtain rfl:k=P.length:=by omega
  obtain⟨m2,m3,m4⟩:=hn2 P;simp[aG,aj,cM,bR,bN,cz];refine bq [0,1,2,3,4,5,6,17,33,34,45,36,37,38,39,40,41,42,43,44,18] hsc (by simp) (by simp) (by simp[ay,kg,sS,AE,bO,aG,aj,cM,bR,bN,cz,m2,m3,m4]) (by simp[ay]) ?_;simp[kg,sS,AE,bO,aG,aj,cM,bR,bN,cz];obtain⟨s4,Ah⟩:∃s4,c4.s=s4:=⟨_,rfl⟩;rw[Ah]at hkn⊢;clear hck FQ hsc hho hn2 Uw hm2 hc3 Db Gc;refine aL (fun k:Nat=>k<=L.length) (fun k=>[(0,.obj 6 0),(69,.p (adv L)),(70,.p (.int L.length)),(71,.p (.int k))]) (fun k=>⟨bO 0 46 (jt un (L.take k) s4),fh 46,58⟩) (fun k=>L.length-k) 0 (by simp) _ (AS.le_refl _ _) (ak (by simp[jt,bO,aG,aj,cM,bR,bN,cz])) ?_;intro k hk;by_cases ck:k<L.length
  ·have wk:=jq k;have hK:=hkn k ck;have tO:=RU un t _ hK.ok hK.il L[k].1 L[k].2 hK.kl hK.pl hK.n0 hK.hh hK.hu hK.hr hK.ho hK.hk hK.pH hK.Jk;have WN:jt un (L.take (k+1)) s4=(jt un (L.take k) s4).know un L[k].1 L[k].2:=by rw[iA ck,yc]
   rw[<-WN]at tO;simp[ck,bO,aG,aj,cM,bR,bN,cz];refine Fy [0,1,2,3,4,5,6,46,47,48,49,50,51,52,53,54,55] tO ?_;simp[wk,bO,aG,aj,cM,bR,bN,cz];exact⟨k+1,by omega,by omega,aB [(46,59),(47,60),(48,61),(49,62),(50,63),(51,64),(52,65),(53,66),(54,67),(55,68)] (by simp)⟩
  ·obtain rfl:k=L.length:=by omega
   simp[-az,bO,aG,aj,cM,bR,bN,cz,results75];exact⟨[(17,46),(18,47),(19,48),(20,49),(21,50),(22,51),(23,52),(24,53),(25,54),(26,55)],by simp⟩
end Go.Av
namespace Go.aT
end Go.aT
namespace Go.Av
open Go.Proofs Go.Proofs.Tryz Go.aT
theorem XT(l:List Kn)(hl:l.length<=1000000):aE prog 77 [.view 0 0 l.length 4 none] ⟨[(0,bN l)],[],1⟩ (.view 1 0 l.length 4 none) ⟨[(1,bN l)],[],2⟩:=by
 have oK:List.take (l.length*4) (List.map AV.p (A0 l))=List.map AV.p (A0 l):=fY (by simp);refine ah (rs:=[_]) [8] [(1,[(5,.w [])])] [] func77 rfl ?_;simp[-az,bN,oK,results77];exact⟨[],by simp⟩
end Go.Av
namespace Go.aT
open Go.Av
def mk0(D:aN)(J:Jr)(jn pn root:Int)(r:Nat):St:=⟨D,J,jn,pn,root,Mp.new pn.toNat,Mp.new r,[],0,[],true⟩
structure HZ(un:List UInt8->cZ×Int)(t:Nat)(D:aN)(jn pn:Int)(D1 D2:aN)(J:Jr)(k:Int)(hd:dh)(root:Int)(r:Nat)(c1 c2 c4:Cs)(P:List Int)(L:List (List UInt8×Int)):Prop where
 FC:dO (t*t) D
 tb:t<=10000
 right:ig D.kept.length jn pn=0
 opn:nG D 1 jn=(D1,some J,k,0)
 ajf:dO (t*t) D1
 read:D1.read 0 1=(D2,[hd],0)
 hl:hd.length<=1000000
 head:UA hd=((root,(L.length:Int)),0)
 rb:-1000000<=root/\root<=1000000
 lay:r=D.kept.length-cG jn pn
 kp:D1.kept.length=D.kept.length/\D2.kept.length=D.kept.length
 load:yd un t (mk0 D2 J jn pn root r) c1 c2 c4 P L
 sl:su (jt un L c4.s).sl
 rm:su (jt un L c4.s).rm
 il:(jt un L c4.s).ix.length<=1000000
def NC(un:List UInt8->cZ×Int)(L:List (List UInt8×Int))(c4:Cs):St:={jt un L c4.s with sl:=(jt un L c4.s).sl.commit,rm:=(jt un L c4.s).rm.commit}
end Go.aT
namespace Go.Av
open Go.Proofs Go.Proofs.Tryz Go.aT
open Go.cC (ke)
def mtO(s:St):Ob:=⟨151,11,[.obj 0 0,.p (.int s.jn),.p (.int s.pn),.obj 14 0,.p (.int s.root),.obj 15 0,.obj 16 0,.view 12 0 s.ix.length 4 none,.p (.int s.ord),.view 13 0 s.k_.length 3 none,.p (.bool s.sure)]⟩
def MJ(s:St):List (Nat×Ob):=[(0,aG 0 4 s.D),(1,aj s.D.kept),(2,aj s.D.now),(14,fy 0 5 s.J),(15,cM 6 s.sl),(16,cM 9 s.rm),(17,mtO s),(6,cg s.sl.F),(7,cg s.sl.R),(8,cg s.sl.W),(9,cg s.rm.F),(10,cg s.rm.R),(11,cg s.rm.W),(12,bN s.ix),(13,cz s.k_)]
theorem B3(un:List UInt8->cZ×Int)(t:Nat)(D:aN)(jn pn:Int)(D1 D2:aN)(J:Jr)(k:Int)(hd:dh)(root:Int)(r:Nat)(c1 c2 c4:Cs)(P:List Int)(L:ke)(h:HZ un t D jn pn D1 D2 J k hd root r c1 c2 c4 P L):aE prog 19 [.obj 0 0,.p (.agg false [.int jn,.int pn])] ⟨cE 3 D,cn 3,4⟩ (.agg true [.obj 17 0,.p (.int 0)]) ⟨MJ (NC un L c4),fh 4,18⟩:=by
 have htt:t*t<=100000000:=Nat.le_trans (OW h.tb) (by decide);have hri:=Cl D h.FC.top jn pn;rw[h.right]at hri;have hb:5<=jn/\jn<=4096/\30<=pn/\pn<=4096/\(D.kept.length:Int)-cG jn pn>=16:=by
  have h1:=h.right;unfold ig at h1;split at h1
  ·omega
  ·split at h1
   ·omega
   ·omega
 have hop:=XS D (t*t) h.FC 1 jn (by omega) (by omega);rw[h.opn]at hop;have hoR:S0 (D1,some J,k,0)= .agg true [.obj 4 0,.p (.int k),.p (.int 0)]:=rfl;have hoT:S2 (D1,some J,k,0)=⟨(4,fy 0 5 J)::cE 6 D1,(5,364,2)::cn 6,7⟩:=rfl;rw[hoR,hoT]at hop;have LC:=CL D1 (t*t) h.ajf 0 1 (by omega);rw[h.read]at LC;simp only at LC;have hhd:=Ol hd (by have:=h.hl;omega);rw[h.head]at hhd;simp only at hhd;have hsz:=Ge D2;rw[h.kp.2]at hsz;have C9:=yM jn pn (by omega) (by omega);obtain⟨pk,rfl⟩:∃pk:Nat,pn=pk:=⟨pn.toNat,by omega⟩;have FI:=h.FC.top;have hly:cG jn pk=1+jn+(pk:Int)*8:=rfl;have hr:=h.lay;have hw1:IntKind.i64.wrap ((D.kept.length:Int)-cG jn pk)=(r:Int):=by rw[aD];omega
 have UW:=acN 12 pk (by omega) (by omega);have hn2:=acN 16 r (by omega) (by unfold cG at hr;omega);have hld:=WM un t (mk0 D2 J jn pk root r) c1 c2 c4 P L (by have:=h.rb;simp only[mk0,lD];omega) h.load;have hS:=h.load.ok;obtain⟨S,hSe⟩:∃S,jt un L c4.s=S:=⟨_,rfl⟩;have lZ:=h.sl;have Kx:=h.rm;have QW:=h.il;rw[hSe]at hld lZ Kx QW;have hmn:NC un L c4={S with sl:=S.sl.commit,rm:=S.rm.commit}:=by unfold NC;rw[hSe]
 rw[hmn];have Gc:=tU 13 22 23 24 30 S.sl.n (by constructor<;>omega) lZ.n S.sl.F S.sl.R S.sl.W lZ.F lZ.W lZ.fw;have Db:=tU 17 25 26 27 33 S.rm.n (by constructor<;>omega) Kx.n S.rm.F S.rm.R S.rm.W Kx.F Kx.W Kx.fw;have iB:=XT S.ix QW;clear hSe hmn lZ Kx QW hS h;refine ji (rs:=[_,_]) [24] [(17,[(2,.w [1]),(6,.r 1),(7,.w [1]),(9,.w [1]),(15,.s 1 [])]),(23,[(4,.r 1),(5,.w [1]),(8,.s 1 [])])] [(1,4)] func19 rfl (by kernel_rfl) (by kernel_rfl) (by simp[ntmps19]) rfl ?_;refine bM mixed (fun _:Unit=>True) (fun _=>[(0,.obj 0 0),(3,.p (.ref (.agg false [.int jn,.int pk])))]) (fun _=>⟨cE 3 D,cn 3,4⟩) ?_ (fun _ _=>?_)
 ·simp;exact ak (by simp[aj])
 refine bM mixed (fun _:Unit=>True) (fun _=>[(0,.obj 0 0),(3,.p (.ref (.agg false [.int jn,.int pk]))),(6,.p (.int 0))]) (fun _=>⟨cE 3 D,cn 3,4⟩) ?_ (fun _ _=>?_)
 ·simp;refine Da [0,1,2,3] hri ?_;simp;exact ak (by simp[aj])
 refine bM mixed (fun _:Unit=>True) (fun _=>[(0,.obj 0 0),(3,.p (.ref (.agg false [.int jn,.int pk]))),(7,.obj 4 0)]) (fun _=>⟨(4,⟨151,11,[.obj 0 0,.p (.int jn),.p (.int pk),.p (.sc (.pointer none)),.p (.int 0),.p (.sc (.pointer none)),.p (.sc (.pointer none)),.p .nil,.p (.int 0),.p .nil,.p (.bool true)]⟩)::cE 3 D,cn 3,5⟩) ?_ (fun _ _=>?_)
 ·simp;exact ak (by simp[aj])
 refine qo (zj 4 7 159 4 _ (by simp[lk];rfl) rfl) ?_;refine qo (zj 4 9 198 3 _ (by simp[Tb.aP,Tb.aS];rfl) rfl) ?_;refine iH mixed ?_;simp[aj,Tb.aP,Tb.aS,del];refine qU [0,1,2,3] hop ?_;simp[aj];refine qU [0,1,2,9] LC ?_;simp[aj];refine bS hhd ?_;simp;refine aA UW (by simp) (by simp[ay]) (by simp[ay]) rfl ?_;simp;refine Da [0,1,2,10] hsz ?_;simp;refine jI [0] C9 ?_;simp[hw1];refine aA hn2 (by simp) (by simp[ay]) (by simp[ay]) rfl ?_;simp;refine bq [0,1,2,7,13,17,4,10,8,12,14,15,16,18,19,5,6] hld (by simp) (by simp) (by simp[ay,mk0,Mp.new,bO,aG,aj,cM,bR,bN,cz,A0,GK]) (by simp[ay]) ?_;simp[bO,aG,aj,cM,bR,bN,cz];refine aA Gc (by simp) (by simp[ay]) (by simp[ay]) rfl ?_;simp;refine aA Db (by simp) (by simp[ay]) (by simp[ay]) rfl ?_;simp;refine bq [28] iB (by simp) (by simp) (by simp[ay,bN]) (by simp) ?_;simp[-az,MJ,mtO,aG,aj,cM,bN,cz,results19];exact⟨[(4,20),(5,21),(6,30),(7,31),(8,32),(9,33),(10,34),(11,35),(12,36),(13,29),(14,7),(15,13),(16,17),(17,4)],by simp[Mp.commit]⟩
end Go.Av
namespace Go.aT
open Go.Av
theorem NB{N:Nat}(hN:N=262\/N=462):ig N 5 30=0:=by rcases hN with rfl|rfl<;>rfl
theorem ac6(un:List UInt8->cZ×Int){N t:Nat}(hN:N=262\/N=462)(ht:t<=10000){D:aN}(h:nw N D):∃D1 D2,HZ un t D 5 ((30:Nat):Int) D1 D2 (fq 1 5 fH) 0 (ey 0 0) 0 (N-246) ⟨lI N D2,[],[]⟩ ⟨lI N D2,[],[]⟩ ⟨lI N D2,[],[]⟩ [] []/\nw N D2/\NC un [] ⟨lI N D2,[],[]⟩=lI N D2:=by
 obtain⟨D1,h1,h2⟩:=WS hN h;obtain⟨r1,r2,r3,r4,r5⟩:=h2.gd.read (a:=0) (n:=1) (by omega);rw[h2.head]at r1;have hl:=WA un (t:=t) hN (h2.same r2 r3 r5);refine⟨D1,(D1.read ((0:Nat):Int) ((1:Nat):Int)).1,⟨h.gd.FC (by omega) (by rw[h.q];simp),ht,by rw[h.gd.kl];exact NB hN,h1,h2.gd.FC (by omega) (by rw[h2.q];simp),?_,by rw[nD];omega,Uz,by omega,?_,?_,hl,?_,?_,?_⟩,h2.same r2 r3 r5,rfl⟩
 ·show D1.read ((0:Nat):Int) ((1:Nat):Int)=_;rw[<-r1]
 ·rw[h.gd.kl];unfold cG;omega
 ·rw[h2.gd.kl,r2.kl,h.gd.kl];exact⟨rfl,rfl⟩
 ·exact i_ (by omega) (by omega)
 ·exact i_ (by omega) (by omega)
 ·simp[jt,lI]
theorem adz{N t:Nat}(hN:N=262\/N=462)(ht:t<=10000){D:aN}{b:List UInt8}(hb:b.length<=3000)(UB:bQ b+2<N-246)(h:nU N 246 b (ey 0 0) rU D\/nU N 246 b (ey 1 1) om D):∃D1 D2 k c1 c2 c4 s',HZ (fun _=>(bW b,0)) t D 5 ((30:Nat):Int) D1 D2 (fq 1 5 mk2) k (ey 1 1) 1 (N-246) c1 c2 c4 [1] [(key1,(bQ b:Int)*256+2)]/\s'=NC (fun _=>(bW b,0)) [(key1,(bQ b:Int)*256+2)] c4/\s'.ix=[zZ b]/\s'.jn=5/\s'.pn=30/\nU N 246 b (ey 1 1) om s'.D/\jU t s':=by
 have hop:∃D1 k,nG D 1 5=(D1,some (fq 1 5 mk2),k,0)/\nU N 246 b (ey 1 1) om D1:=by
  rcases h with h|h
  ·obtain⟨D1,h1,h2⟩:=open_1 hN UB h;exact⟨D1,1,h1,h2⟩
  ·obtain⟨D1,h1,h2⟩:=WT hN h;exact⟨D1,0,h1,h2⟩
 obtain⟨D1,k,h1,h2⟩:=hop;have hgd:Gd N D/\D.q=[]:=by rcases h with h|h<;>exact⟨h.gd,h.q⟩
 obtain⟨r1,r2,r3,r4,r5⟩:=h2.gd.read (a:=0) (n:=1) (by omega);rw[h2.head]at r1;have hD2:=h2.same r2 r3 r5;obtain⟨c1,c2,c4,s',l1,l2,l3,l4,l5,l6,l7,l8,l9⟩:=WB (t:=t) hN hb UB (all:=om) rfl hD2;have hks:=l7.sl;have hkr:=l7.rm;rw[l2]at hks hkr;refine⟨D1,(D1.read ((0:Nat):Int) ((1:Nat):Int)).1,k,c1,c2,c4,_,⟨hgd.1.FC (by omega) (by rw[hgd.2];simp),ht,by rw[hgd.1.kl];exact NB hN,h1,h2.gd.FC (by omega) (by rw[h2.q];simp),?_,by rw[nD];omega,adl,by omega,?_,?_,l1,hks,hkr,?_⟩,rfl,?_,?_,?_,?_,?_⟩
 ·show D1.read ((0:Nat):Int) ((1:Nat):Int)=_;rw[<-r1]
 ·rw[hgd.1.kl];unfold cG;omega
 ·rw[h2.gd.kl,r2.kl,hgd.1.kl];exact⟨rfl,rfl⟩
 ·rw[<-l2,l3];simp
 ·unfold NC;rw[<-l2];exact l3
 ·unfold NC;rw[<-l2];exact l4
 ·unfold NC;rw[<-l2];exact l5
 ·unfold NC;rw[<-l2];exact l6
 ·unfold NC;rw[<-l2];exact{l7 with sl:=l7.sl.commit,rm:=l7.rm.commit}
theorem nU.iX{N r:Nat}{b:List UInt8}{hd:dh}{all:List dh}{D:aN}(h:nU N r b hd all D):nU N r b hd all D.iX:=by
 obtain⟨h1,h2,h3⟩:=h.gd.iX h.q;exact h.same h1 h2 (h3.trans h.q.symm)
end Go.aT
namespace Go.Av
open Go.Proofs Go.Proofs.Tryz Go.aT
theorem BP(x m:Int)(hm:0<m):(x.tmod m+m).tmod m=x%m:=by
 have h1:=Int.emod_nonneg x (by omega:m≠0);have h2:=Int.emod_lt_of_pos x hm;rcases Int.le_total 0 x with h|h
 ·rw[Int.tmod_eq_emod_of_nonneg h,Int.tmod_eq_emod_of_nonneg (by omega),Int.add_emod_right,Int.emod_emod_of_dvd _ (Int.dvd_refl m)]
 ·obtain⟨y,rfl⟩:∃y,x=-y:=⟨-x,by omega⟩;have hy:0<=y:=by omega
  have h3:=Int.emod_nonneg y (by omega:m≠0);have h4:=Int.emod_lt_of_pos y hm;rw[Int.neg_tmod,Int.tmod_eq_emod_of_nonneg hy,Int.tmod_eq_emod_of_nonneg (by omega)];rw[Int.add_emod_right];have e:-y=-(y%m)+m*(-(y/m)):=by
   have:=Int.emod_add_mul_ediv y m;rw[Int.mul_neg];omega
  conv=>rhs;rw[e]
  rw[Int.add_mul_emod_self_left]
theorem BQ(x m:Int)(hm:0<m):-m<x.tmod m/\x.tmod m<m:=by
 rcases Int.le_total 0 x with h|h
 ·rw[Int.tmod_eq_emod_of_nonneg h];have h1:=Int.emod_nonneg x (by omega:m≠0);have h2:=Int.emod_lt_of_pos x hm;omega
 ·obtain⟨y,rfl⟩:∃y,x=-y:=⟨-x,by omega⟩;have hy:0<=y:=by omega
  have h3:=Int.emod_nonneg y (by omega:m≠0);have h4:=Int.emod_lt_of_pos y hm;rw[Int.neg_tmod,Int.tmod_eq_emod_of_nonneg hy];omega
theorem aiE(j p r:Int):aq prog 53 [.agg false [.int j,.int p,.int r]] (.tp [.agg false [.int (5+j%40),.int (30+p%40)],.int (1+(5+j%40)+8*(30+p%40)+16+r%300)]):=by
 have bj:=BQ j 40 (by omega);have bp:=BQ p 40 (by omega);have br:=BQ r 300 (by omega);have mj:=BP j 40 (by omega);have mp:=BP p 40 (by omega);have mr:=BP r 300 (by omega);have a1:IntKind.i64.wrap (j.tmod 40)=j.tmod 40:=aD;have a2:IntKind.i64.wrap (j.tmod 40+40)=j.tmod 40+40:=aD;have a3:IntKind.i64.wrap (j%40)=j%40:=aD;have a4:IntKind.i64.wrap (5+j%40)=5+j%40:=aD;have b1:IntKind.i64.wrap (p.tmod 40)=p.tmod 40:=aD;have b2:IntKind.i64.wrap (p.tmod 40+40)=p.tmod 40+40:=aD;have b3:IntKind.i64.wrap (p%40)=p%40:=aD;have b4:IntKind.i64.wrap (30+p%40)=30+p%40:=aD;have c1:IntKind.i64.wrap (r.tmod 300)=r.tmod 300:=aD;have c2:IntKind.i64.wrap (r.tmod 300+300)=r.tmod 300+300:=aD;have c3:IntKind.i64.wrap (r%300)=r%300:=aD;have d1:IntKind.i64.wrap (1+(5+j%40))=1+(5+j%40):=aD;have d2:IntKind.i64.wrap (8*(30+p%40))=8*(30+p%40):=aD;have d3:IntKind.i64.wrap (1+(5+j%40)+8*(30+p%40))=1+(5+j%40)+8*(30+p%40):=aD;have d4:IntKind.i64.wrap (1+(5+j%40)+8*(30+p%40)+16)=1+(5+j%40)+8*(30+p%40)+16:=aD;have d5:IntKind.i64.wrap (1+(5+j%40)+8*(30+p%40)+16+r%300)=1+(5+j%40)+8*(30+p%40)+16+r%300:=aD;refine ai (ys:=[_,_]) [] [(2,[(0,.r 1),(2,.r 1),(5,.r 1),(15,.s 2 [1])])] [(1,1),(2,0)] func53 rfl ?_;simp[a2,mj,a4,b2,mp,b4,c2,mr,d1,d2,d3,d4,d5,results53]
 done
def z49:List PC:=[.str [],.nil,.str [],.str [],.str [],.int 0,.str [],.int 0,.nil,.int 0,.int 0,.int 0,.int 0,nj 0,.nil]
def MH:PC:= .sc (.pointer none)
def zT:List PC:=[MH,MH,MH]++z49++z49++z49++[.nil,.nil,.nil,.int 0]
def z53:List PC:=MH::MH:: .int 0:: .int 0:: .int 0:: .nil:: .nil:: .int 0:: .int 0::zT
@[simp]theorem aiM:zT.length=52:=rfl
def wdO(d s:Nat)(N:Nat)(was:AV):Ob:=⟨53,61,.obj d 0:: .obj s 0:: .p (.int 5):: .p (.int 30):: .p (.int N):: .p .nil::was:: .p (.int 0):: .p (.int 0)::zT.map .p⟩
@[simp]theorem ac4:bG prog 53=some z53:=by kernel_rfl
theorem MI{N:Nat}(hN:N=262\/N=462)(rm:Int)(C9:1+(5+(0:Int)%40)+8*(30+(0:Int)%40)+16+rm%300=(N:Int)):∃D,nw N D/\aE prog 11 [.p (.agg false [.int 0,.int 0,.int rm])] ⟨[],[],0⟩ (.obj 17 0) ⟨(17,wdO 0 6 N (.full [.agg false [.nil]]))::bO 0 7 (lI N D),fh 7,18⟩:=by
 have hof:=aiE 0 0 rm;rw[C9]at hof;have Uw:=Ut N (by omega) (by omega);obtain⟨D,hf,hD⟩:=ac5 hN;have hfo:=DA (aN.made N) 0 (Dq N (by omega) (by omega)) 5 30 (by omega);rw[hf]at hfo;obtain⟨D1,D2,hm,hD2,Ux⟩:=ac6 (t:=1000) (fun _=>(rM,0)) hN (by omega) hD;have hmo:=B3 _ _ _ _ _ _ _ _ _ _ _ _ _ _ _ _ _ hm;rw[Ux]at hmo;refine⟨D2,hD2,?_⟩;refine ji (rs:=[_]) [7] [(4,[(3,.r 1),(9,.r 1),(13,.r 1),(14,.w [1])]),(6,[(3,.r 1),(7,.r 1),(8,.w [1])])] [(1,0)] func11 rfl (by kernel_rfl) (by kernel_rfl) (by simp[ntmps11]) rfl ?_;refine bM mixed (fun _:Unit=>True) (fun _=>[(1,.p (.ref (.agg false [.int 0,.int 0,.int rm])))]) (fun _=>⟨[],[],0⟩) ?_ (fun _ _=>?_)
 ·simp;exact ak (by simp)
 refine iH mixed ?_;simp[z53];refine bS hof ?_;simp;refine jI [] Uw ?_;simp[aj];refine qU [1,2,3,4] hfo ?_;simp[aj];refine qU [1,2,3,5] hmo ?_;simp[-az,MJ,mtO,wdO,bO,aG,aj,cM,bR,bN,cz,results11]
 trace_state
 exact⟨[(0,1),(1,2),(2,3),(3,16),(4,17),(5,18),(6,19),(7,6),(8,7),(9,8),(10,9),(11,10),(12,11),(13,12),(14,13),(15,14),(16,15),(17,0)],by simp⟩
theorem Xd{N t:Nat}{b:List UInt8}{w w1:Sm}{s2:St}(ht:t<=10000)(h:UI N t b w w1 s2):aE prog 15 [.obj 7 0] ⟨jG 0 8 w,fh 8,19⟩ (.agg true [.p (.bool true),.p (.int 0)]) ⟨bO 0 19 {s2 with ord:=s2.ord+1},fh 19,29⟩:=by
 have FD:=A8 t (by omega) w w.rest h.rest h.hC;rw[h.sec]at FD;have hp:=h.put;have QX:=JU t (by omega) w1.s h.s (bW b) hp.eok h.pk h.pl h.fit (by rw[h.rx];exact hp.xb.1) h.run h.wr;rw[h.rx]at QX;have xF:=acO t (t+8) (t+100) w1.s (w1.s.Cn (bW b)) (bW b) hp.eok ((bQ b:Int),2) hp.xb hp.F hp.il hp.sp QX hp.ix hp.ok1 (by omega) (zZ b) hp.kk hp.kl hp.at' hp.R hp.cok (by omega) hp.d hp.tx hp.ok3 (by omega);rw[h.res,<-h.ent]at xF;exact WJ w w1 s2 0 h.ended (by rw[h.ord];omega) (by rw[h.aiX];omega) FD xF
theorem SC{N t r:Nat}{s0:St}{b:List UInt8}{w:Sm}(h:Ac N t r s0 cK b w)(hs:SmS N t r s0)(ht:t<=30000)(x:List UInt8)(hx:(b.length+x.length)/64<s0.rm.n)(hx2:b.length+x.length<=1000000):aE prog 14 [.obj 7 0,.p (.sl [cy x])] ⟨jG 0 8 w,fh 8,19⟩ (.p (.int 0)) ⟨jG 0 19 (w.write x).1,fh 19,30⟩:=by
 obtain⟨h1,h2,h3⟩:=h.write hs x hx hx2;have hf:[x].flatten=x:=by simp
 have he:=h.he;have hw:=SD t ht w [x] (by simp) h.ended (by rw[hf,he];simp only;omega) (by rw[he];exact tL (by omega) b) (by rw[h.rest];simp;omega) (by rw[hf];exact h3) (by rw[hf];exact h1);rw[hf]at hw;exact hw
end Go.Av
namespace Go.Av
open Go.Proofs Go.Proofs.Tryz
theorem V7(l:List UInt8)(c:UInt8):uK l c<l.length:=by
 unfold uK
 induction l with
 |nil=>simp[Go.Lib.indexByte]
 |cons b l ih=>
  unfold Go.Lib.indexByte;split
  ·simp
   try omega
  ·split
   ·simp
    try omega
   ·simp at ih⊢;omega
theorem O4{l:List UInt8}{c:UInt8}{k:Nat}(hk:k<l.length)(h1:∀x∈l.take k,x≠c)(h2:l[k]=c):uK l c=k:=by
 unfold uK
 induction l generalizing k with
 |nil=>simp at hk
 |cons a l ih=>
  cases k with
  |zero=>simp at h2;simp[Go.Lib.indexByte,h2]
  |succ k=>
   have ha:a≠c:=h1 a (by simp);have:=ih (k:=k) (by simpa using hk) (fun x hx=>h1 x (by simp[hx])) (by simpa using h2);simp[Go.Lib.indexByte,ha,this]
   try omega
theorem Er{l:List UInt8}{c:UInt8}(h:∀x∈l,x≠c):uK l c=-1:=by
 unfold uK
 induction l with
 |nil=>rfl
 |cons a l ih=>
  have ha:a≠c:=h a (by simp);have:=ih fun x hx=>h x (by simp[hx]);simp[Go.Lib.indexByte,ha,this]
theorem GL(l:List UInt8)(hl:l.length<=140737488351232):aq prog 185 [.str l] (.bool (tQ l)):=by
 refine ai (ys:=[_]) [] [] [] func185 rfl ?_;simp;refine bg (fun k:Nat=>k<=l.length/\l.all qB=(l.drop k).all qB) (fun k=>[(0,.p (.str l)),(3,.p (.int k))]) (fun k=>l.length-k) 0 (by simp) (ak (by simp)) ?_;rintro k ⟨h1,h2⟩;by_cases c:k<l.length
 ·rw[List.drop_eq_getElem_cons c,List.all_cons]at h2;by_cases a1:l[k].toNat<33
  ·have b1:(l[k].toNat:Int)<33:=by omega
   have hv:qB l[k]=false:=by unfold qB;simp;omega
   rw[hv,Bool.false_and]at h2;simp[c,b1,results185,tQ,h2]
  ·have b1:¬(l[k].toNat:Int)<33:=by omega
   by_cases a2:126<l[k].toNat
   ·have b2:(126:Int)<(l[k].toNat:Int):=by omega
    have hv:qB l[k]=false:=by unfold qB;simp;omega
    rw[hv,Bool.false_and]at h2;simp[c,b1,b2,results185,tQ,h2]
   ·have b2:¬(126:Int)<(l[k].toNat:Int):=by omega
    have hv:qB l[k]=true:=by unfold qB;simp;omega
    rw[hv,Bool.true_and]at h2;simp[c,b1,b2];refine⟨k+1,⟨by omega,h2⟩,by omega,ak ?_⟩;simp[aD (n:=(k:Int)+1)]
 ·obtain rfl:k=l.length:=by omega
  rw[List.drop_length,List.all_nil]at h2;by_cases hne:l=[]
  ·subst hne;simp[results185,tQ]
  ·have hd:0<l.length:=by cases l;exact absurd rfl hne;simp
   have hd2:(0:Int)<(l.length:Int):=by omega
   simp[results185,tQ,h2,hne,hd]
theorem B7(c:UInt8):aq prog 184 [mG c] (.bool (qn c)):=by
 refine ai (ys:=[_]) [] [] [] func184 rfl ?_;by_cases hl:Gk c=true
 ·have ht:qn c=true:=by unfold qn;rw[hl];rfl
  rw[ht];unfold Gk at hl;unfold mG;generalize c.toNat=k at*;by_cases a5:48<=k
  ·have b5:(48:Int)<=(k:Int):=by omega
   by_cases a6:k<=57
   ·have b6:(k:Int)<=57:=by omega
    simp[b5,b6,results184]
   ·have b6:¬(k:Int)<=57:=by omega
    simp at hl;have a3:65<=k:=by omega
    have b3:(65:Int)<=(k:Int):=by omega
    by_cases a4:k<=90
    ·have b4:(k:Int)<=90:=by omega
     simp[b5,b6,b3,b4,results184]
    ·have b4:¬(k:Int)<=90:=by omega
     have a1:97<=k:=by omega
     have a2:k<=122:=by omega
     have b1:(97:Int)<=(k:Int):=by omega
     have b2:(k:Int)<=122:=by omega
     simp[b5,b6,b3,b4,b1,b2,results184]
  ·simp at hl;omega
 ·have ht:qn c=decide (0<=uK marks c):=by unfold qn;rw[Bool.eq_false_iff.2 hl];rfl
  have hn:(c.toNat<48\/(57<c.toNat/\c.toNat<65))\/(90<c.toNat/\c.toNat<97)\/122<c.toNat:=by
   unfold Gk at hl;simp at hl;omega
  rw[ht];have n1:(if(48:Int)<=(c.toNat:Int)then decide ((c.toNat:Int)<=57)else false)=false:=by split<;>simp<;>omega
  rcases hn with(h|h)|h|h
  case' inl.inl=>
   have XZ:¬(48:Int)<=(c.toNat:Int):=by omega
   have a48:¬48<=c.toNat:=by omega
   have X0:¬(65:Int)<=(c.toNat:Int):=by omega
   have a65:¬65<=c.toNat:=by omega
   have X1:¬(97:Int)<=(c.toNat:Int):=by omega
   have a97:¬97<=c.toNat:=by omega
   simp[mG,XZ,X0,X1]
  case' inl.inr=>
   have XZ:(48:Int)<=(c.toNat:Int):=by omega
   have a48:48<=c.toNat:=by omega
   have b57:¬(c.toNat:Int)<=57:=by omega
   have a57:¬c.toNat<=57:=by omega
   have X0:¬(65:Int)<=(c.toNat:Int):=by omega
   have a65:¬65<=c.toNat:=by omega
   have X1:¬(97:Int)<=(c.toNat:Int):=by omega
   have a97:¬97<=c.toNat:=by omega
   simp[mG,XZ,b57,X0,X1]
  case' inr.inl=>
   have XZ:(48:Int)<=(c.toNat:Int):=by omega
   have a48:48<=c.toNat:=by omega
   have b57:¬(c.toNat:Int)<=57:=by omega
   have a57:¬c.toNat<=57:=by omega
   have X0:(65:Int)<=(c.toNat:Int):=by omega
   have a65:65<=c.toNat:=by omega
   have b90:¬(c.toNat:Int)<=90:=by omega
   have a90:¬c.toNat<=90:=by omega
   have X1:¬(97:Int)<=(c.toNat:Int):=by omega
   have a97:¬97<=c.toNat:=by omega
   simp[mG,XZ,b57,X0,b90,X1]
  case' inr.inr=>
   have XZ:(48:Int)<=(c.toNat:Int):=by omega
   have a48:48<=c.toNat:=by omega
   have b57:¬(c.toNat:Int)<=57:=by omega
   have a57:¬c.toNat<=57:=by omega
   have X0:(65:Int)<=(c.toNat:Int):=by omega
   have a65:65<=c.toNat:=by omega
   have b90:¬(c.toNat:Int)<=90:=by omega
   have a90:¬c.toNat<=90:=by omega
   have X1:(97:Int)<=(c.toNat:Int):=by omega
   have a97:97<=c.toNat:=by omega
   have aji:¬(c.toNat:Int)<=122:=by omega
   have al2:¬c.toNat<=122:=by omega
   simp[mG,XZ,b57,X0,b90,X1,aji]
  all_goals
   refine bg (fun j:Nat=>j<=15/\∀x∈marks.take j,x≠c) (fun j=>[(0,.p (mG c)),(3,.p (.sl (af marks))),(4,.p (.int j))]) (fun j=>15-j) 0 (by simp) (ak (by simp[marks,af])) ?_;rintro j ⟨j1,j2⟩;have hml:marks.length=15:=rfl;by_cases d:j<15
   ·have d1:j<marks.length:=by omega
    have d2:(j:Int)<15:=by omega
    by_cases e:marks[j]=c
    ·have e2:uK marks c=j:=O4 d1 j2 e;simp[hml,d,d2,cH,e,e2,results184]
    ·have e3:((marks[j].toNat:Int)==(c.toNat:Int))=false:=by
      simp;intro h;apply e;apply UInt8.toNat_inj.1;exact Int.ofNat_inj.1 h
     simp[hml,d,d2,cH,e3];refine⟨j+1,⟨by omega,?_⟩,by omega,ak ?_⟩
     ·intro x hx;rw[iA d1]at hx;rcases iR.1 hx with hx|hx
      ·exact j2 x hx
      ·simp at hx;subst hx;exact e
     ·simp[aD (n:=(j:Int)+1)]
   ·obtain rfl:j=15:=by omega
    have e2:uK marks c=-1:=Er (by simpa[marks]using j2);simp[hml,e2,results184]
theorem yB(h70:∀c,aq prog 184 [mG c] (.bool (qn c)))(l:List UInt8)(hl:l.length<=140737488351232):aq prog 81 [.str l] (.bool (C_ l)):=by
 refine ai (ys:=[_]) [] [] [] func81 rfl ?_;simp;refine bg (fun k:Nat=>k<=l.length/\l.all qn=(l.drop k).all qn) (fun k=>[(0,.p (.str l)),(3,.p (.int k))]) (fun k=>l.length-k) 0 (by simp) (ak (by simp)) ?_;rintro k ⟨h1,h2⟩;by_cases c:k<l.length
 ·rw[List.drop_eq_getElem_cons c,List.all_cons]at h2;simp[c];refine bS (h70 l[k]) ?_;cases hz:qn l[k]with
  |true=>
   rw[hz]at h2;simp;refine⟨k+1,⟨by omega,by simpa using h2⟩,by omega,ak ?_⟩;simp[aD (n:=(k:Int)+1)]
  |false=>
   rw[hz,Bool.false_and]at h2;simp[C_,h2,results81]
 ·obtain rfl:k=l.length:=by omega
  rw[List.drop_length,List.all_nil]at h2;by_cases hne:l=[]
  ·subst hne;simp[results81,C_]
  ·have hd:0<l.length:=by cases l;exact absurd rfl hne;simp
   have hd2:(0:Int)<(l.length:Int):=by omega
   simp[results81,C_,h2,hne,hd]
theorem O5(c:UInt8):aq prog 270 [mG c] (.bool (yV c)):=by
 refine ai (ys:=[_]) [] [] [] func270 rfl ?_;unfold yV mG;generalize c.toNat=k;by_cases a3:k=9
 ·subst a3;simp[results270]
 ·have b3:((k:Int)==9)=false:=by simp;omega
  by_cases a1:32<=k
  ·have b1:(32:Int)<=(k:Int):=by omega
   by_cases a2:k=127
   ·subst a2;simp[results270]
   ·have b2:((k:Int) !=127)=true:=by simp;omega
    simp[a1,a2,b1,b2,a3,b3,results270]
  ·have b1:¬(32:Int)<=(k:Int):=by omega
   simp[a1,b1,a3,b3,results270]
theorem Es(c:UInt8):aq prog 271 [mG c] (.bool (Bh c)):=by
 refine ai (ys:=[_]) [] [] [] func271 rfl ?_;unfold Bh mG;generalize c.toNat=k;by_cases a1:k=32
 ·subst a1;simp[results271]
 ·have b1:((k:Int)==32)=false:=by simp;omega
  by_cases a3:k=9
  ·subst a3;simp[results271]
  ·have b3:((k:Int)==9)=false:=by simp;omega
   simp[a1,b1,a3,b3,results271]
def wJ(l:List UInt8):Bool:=l.all yV&&(decide (l=[])||(!(Bh (l.headD 0))&&!(Bh (l.getLastD 0))))
theorem Et(l:List UInt8)(hl:l.length<=140737488351232):aq prog 186 [.str l] (.bool (wJ l)):=by
 refine ai (ys:=[_]) [] [] [] func186 rfl ?_;simp;refine bg (fun k:Nat=>k<=l.length/\l.all yV=(l.drop k).all yV) (fun k=>[(0,.p (.str l)),(3,.p (.int k))]) (fun k=>l.length-k) 0 (by simp) (ak (by simp)) ?_;rintro k ⟨h1,h2⟩;by_cases c:k<l.length
 ·rw[List.drop_eq_getElem_cons c,List.all_cons]at h2;simp[c];refine bS (O5 l[k]) ?_;cases hz:yV l[k]with
  |true=>
   rw[hz]at h2;simp;refine⟨k+1,⟨by omega,by simpa using h2⟩,by omega,ak ?_⟩;simp[aD (n:=(k:Int)+1)]
  |false=>
   rw[hz,Bool.false_and]at h2;simp[wJ,h2,results186]
 ·obtain rfl:k=l.length:=by omega
  rw[List.drop_length,List.all_nil]at h2;unfold wJ;rw[h2];cases l with
  |nil=>simp[results186]
  |cons a l=>
   have hd:(((l.length:Int)+1)==0)=false:=by simp;omega
   simp[hd];refine bS (Es a) ?_;cases hb:Bh a with
   |true=>simp[results186]
   |false=>
    have w1:IntKind.i64.wrap (l.length:Int)=(l.length:Int):=bf (by omega) (by simp at hl;omega);simp[w1];have hla:(a::l).getLast?.getD 0=(a::l)[l.length]:=by
     rw[List.getLast?_eq_getElem?];simp
    refine bS (Es ((a::l)[l.length])) ?_;cases hz:Bh ((a::l)[l.length])<;>simp[results186,hla,hz]
theorem O6(a:UInt8)(m:List UInt8):(rY (a::m)==a::m)=(!(Bh a)&&!(Bh ((a::m).getLastD 0))):=by
 have hsp:∃p z,a::m=p++[z]/\(a::m).getLastD 0=z:=by
  rcases List.eq_nil_or_concat (a::m)with h|⟨p,z,h⟩
  ·cases h
  ·refine⟨p,z,by simpa using h,?_⟩;rw[h];simp
 obtain⟨p,z,e,ez⟩:=hsp;rw[ez];have hne:∀x:List UInt8,x.length<(a::m).length->(x==a::m)=false:=fun x h=>by
  rw[beq_eq_false_iff_ne];rintro rfl;omega
 have hR:=zk p z;rw[<-e]at hR;cases hz:Bh z with
 |true=>
  rw[hz,if_pos rfl]at hR;rw[hne (rY (a::m))]
  ·simp
  ·unfold rY;rw[hR];have h1:=Eu (nJ p);have h2:=Ev p;have h3:=congrArg List.length e;simp at h3;simp;omega
 |false=>
  rw[hz,if_neg (by simp)]at hR
  try rw[<-e]at hR
  unfold rY;rw[hR];cases ha:Bh a with
  |true=>
   rw[hne]
   ·simp
   ·have:nK (a::m)=nK m:=by unfold nK;rw[List.dropWhile_cons,ha];rfl
    rw[this];have:=Eu m;simp;omega
  |false=>
   have:nK (a::m)=a::m:=by unfold nK;rw[List.dropWhile_cons,ha];rfl
   rw[this];simp
theorem Ew(l:List UInt8):F6 l=wJ l:=by
 unfold F6 wJ;cases l with
 |nil=>simp[rY,nJ,nK]
 |cons a m=>rw[O6];simp
def BS(s:Jt):Bool:=if s.mi<0\/1<s.mi then false else
 if s.st=0 then C_ s.m&&(decide (s.m.length<=32)&&(tQ s.t&&(decide (s.t.length<=8000)&&(s.r==[]))))
 else(s.m==[])&&((s.t==[])&&(decide (100<=s.st)&&(decide (s.st<=999)&&(wJ s.r&&decide (s.r.length<=200)))))
theorem MW(s:Jt)(hm:s.m.length<=140737488351232)(ht:s.t.length<=140737488351232)(hr:s.r.length<=140737488351232):aq prog 84 [stP s] (.bool (BS s)):=by
 refine ai (ys:=[_]) [] [] [] func84 rfl ?_;obtain⟨m,t,st,r,mi⟩:=s;simp only at hm ht hr;simp only[stP];generalize hR:BS ⟨m,t,st,r,mi⟩=R;unfold BS at hR;simp only at hR;by_cases c1:mi<0
 ·rw[if_pos (.inl c1)]at hR;subst hR;simp[c1,results84]
 by_cases c2:1<mi
 ·rw[if_pos (.inr c2)]at hR;subst hR;simp[c1,c2,results84]
 rw[if_neg (by omega)]at hR;by_cases c3:st=0
 ·subst c3;rw[if_pos rfl]at hR;simp[c1,c2];refine bS (yB B7 m hm) ?_;cases h1:C_ m with
  |false=>rw[h1]at hR;simp at hR;subst hR;simp[results84]
  |true=>
  rw[h1]at hR;simp only[Bool.true_and]at hR;by_cases h2:m.length<=32
  case neg=>
   have d2:¬(m.length:Int)<=32:=by omega
   simp[h2]at hR;subst hR;simp[d2,results84]
  have d2:(m.length:Int)<=32:=by omega
  simp[h2]at hR;simp[d2];refine bS (GL t ht) ?_;cases h3:tQ t with
  |false=>rw[h3]at hR;simp at hR;subst hR;simp[results84]
  |true=>
  rw[h3]at hR;simp only[Bool.true_and]at hR;by_cases h4:t.length<=8000
  case neg=>
   have d4:¬(t.length:Int)<=8000:=by omega
   simp[h4]at hR;subst hR;simp[d4,results84]
  have d4:(t.length:Int)<=8000:=by omega
  simp[h4]at hR;subst hR;simp[d4,results84]
 ·rw[if_neg c3]at hR;have d3:(st==0)=false:=by simpa using c3
  simp[c1,c2,d3];by_cases h1:m=[]
  case neg=>
   have d1:(m==[])=false:=by simpa using h1
   rw[d1]at hR;simp at hR;subst hR;simp[show m.isEmpty=false by simpa using h1,results84]
  subst h1
  try simp at hR
  by_cases h2:t=[]
  case neg=>
   have d1:(t==[])=false:=by simpa using h2
   have hR':R=false:=by rw[<-hR];simp[h2]
   subst hR';simp[d1,results84]
  subst h2
  try simp at hR
  by_cases h3:100<=st
  case neg=>
   simp[h3]at hR;subst hR;simp[h3,results84]
  simp[h3]at hR;by_cases h4:st<=999
  case neg=>
   simp[h4]at hR;subst hR;simp[h3,h4,results84]
  simp[h4]at hR;simp[h3,h4];refine bS (Et r hr) ?_;cases h5:wJ r with
  |false=>rw[h5]at hR;simp at hR;subst hR;simp[results84]
  |true=>
  rw[h5]at hR;simp only[Bool.true_and]at hR;by_cases h6:r.length<=200
  ·have d6:(r.length:Int)<=200:=by omega
   simp[h6]at hR;subst hR;simp[d6,results84]
  ·have d6:¬(r.length:Int)<=200:=by omega
   simp[h6]at hR;subst hR;simp[d6,results84]
theorem Mb(s:Jt):BS s=((decide (s.mi=0)||decide (s.mi=1))&&(AO s||AP s)):=by
 unfold BS AO AP;rw[Ew];by_cases c:s.mi<0\/1<s.mi
 ·rw[if_pos c];have c1:¬s.mi=0:=by omega
  have c2:¬s.mi=1:=by omega
  simp[c1,c2]
 ·rw[if_neg c];have c1:(decide (s.mi=0)||decide (s.mi=1))=true:=by simp;omega
  rw[c1,Bool.true_and];by_cases d:s.st=0
  ·rw[if_pos d];simp[d]
  ·rw[if_neg d];simp[d]
theorem qC(l:List UInt8)(c:UInt8):af l++[mG c]=af (l++[c]):=by simp[af]
theorem MV(l:List UInt8)(hl:l.length<=140737488351232):aq prog 82 [.str l] (.str (oQ l)):=by
 refine ai (ys:=[_]) [] [] [] func82 rfl ?_;simp;refine aL (fun k:Nat=>k<=l.length) (fun k=>[(0,.p (.str l)),(3,.own 0 (af (oQ (l.take k)))),(4,.p (.int k))]) (fun k=>⟨[],[(0,5,1)],1⟩) (fun k=>l.length-k) 0 (by simp) _ (yJ 3 5 1 [] (.inr ⟨rfl,by simp⟩)) (ak (by simp[oQ,af])) ?_;intro k h1;have hlen:(oQ (l.take k)).length=k:=by simp[oQ];omega
 by_cases c:k<l.length
 ·have hs:oQ (l.take (k+1))=oQ (l.take k)++[qD l[k]]:=by unfold oQ;rw[iA c,List.map_append];rfl
  have hw:∀y∈af (oQ (l.take k)),y.width=1:=fun y hy=>cF _ y hy;have w1:=aD (n:=(k:Int)+1);by_cases a:65<=l[k].toNat/\l[k].toNat<=90
  ·have b1:(65:Int)<=(l[k].toNat:Int):=by omega
   have b2:(l[k].toNat:Int)<=90:=by omega
   have w2:IntKind.u8.wrap ((l[k].toNat:Int)+32)=((qD l[k]).toNat:Int):=by
    rw[vz (by omega) (by omega),Ex _ a.1 a.2];omega
   simp[c,b1,b2,w2,hlen];refine⟨by omega,by omega,by omega,k+1,by omega,by omega,aB [(0,1)] ?_⟩;simp[w1,hs,<-qC]
  ·have hlo:qD l[k]=l[k]:=by unfold qD;rw[if_neg a]
   rw[hlo]at hs;by_cases a1:65<=l[k].toNat
   ·have b1:(65:Int)<=(l[k].toNat:Int):=by omega
    have a2:¬l[k].toNat<=90:=by omega
    have b2:¬(l[k].toNat:Int)<=90:=by omega
    simp[c,b1,b2,hlen];refine⟨by omega,by omega,by omega,k+1,by omega,by omega,aB [(0,1)] ?_⟩;simp[w1,hs,<-qC]
   ·have b1:¬(65:Int)<=(l[k].toNat:Int):=by omega
    simp[c,b1,hlen];refine⟨by omega,by omega,by omega,k+1,by omega,by omega,aB [(0,1)] ?_⟩;simp[w1,hs,<-qC]
 ·obtain rfl:k=l.length:=by omega
  simp[results82]
theorem Ey{a b:List UInt8}{k:Nat}(h:a.take k=b.take k)(ha:k<=a.length)(hb:k<=b.length):Op.bytesLess a b=Op.bytesLess (a.drop k) (b.drop k):=by
 induction k generalizing a b with
 |zero=>simp
 |succ k ih=>
  match a,b,ha,hb with
  |x::a,y::b,ha,hb=>
   simp at h ha hb;obtain⟨rfl,h⟩:=h;simp[Op.bytesLess,ih h ha hb]
theorem O7{a b:List UInt8}{k:Nat}(h:a.take k=b.take k)(ha:k<a.length)(hb:k<b.length)(hn:a[k]≠b[k]):Op.bytesLess a b=decide (a[k]<b[k]):=by
 rw[Ey h (by omega) (by omega),List.drop_eq_getElem_cons ha,List.drop_eq_getElem_cons hb];simp[Op.bytesLess,hn]
theorem Bi{a b:List UInt8}{k:Nat}(h:a.take k=b.take k)(ha:k<=a.length)(hb:k<=b.length)(hn:k=a.length\/k=b.length):Op.bytesLess a b=decide (a.length<b.length):=by
 rw[Ey h ha hb];rcases hn with rfl|rfl
 ·rw[List.drop_length];cases hd:b.drop a.length with
  |nil=>have:=congrArg List.length hd;simp at this;simp[Op.bytesLess];omega
  |cons x l=>have:=congrArg List.length hd;simp at this;simp[Op.bytesLess];omega
 ·rw[List.drop_length];simp[Op.bytesLess];omega
theorem Ru(a b:List UInt8)(ha:a.length<=9223372036854775807)(hb:b.length<=9223372036854775807):aq prog 83 [.str a,.str b] (.bool (Op.bytesLess a b)):=by
 refine ai (ys:=[.bool _]) [] [] [] func83 rfl ?_;simp;refine bg (fun k:Nat=>k<=a.length/\k<=b.length/\a.take k=b.take k) (fun k=>[(0,.p (.str a)),(1,.p (.str b)),(5,.p (.int k))]) (fun k=>a.length-k) 0 (by simp) (ak (by simp)) ?_;rintro k ⟨h1,h2,h3⟩;by_cases c1:k<a.length
 ·by_cases c2:k<b.length
  ·by_cases c3:a[k]=b[k]
   ·simp[c1,c2,c3];refine⟨k+1,⟨by omega,by omega,?_⟩,by omega,ak ?_⟩
    ·rw[iA c1,iA c2,h3,c3]
    ·simp[aD (n:=(k:Int)+1)]
   ·have c4:(a[k] !=b[k])=true:=by simpa using c3
    simp[c1,c2,c4,results83,O7 h3 c1 c2 c3,UInt8.lt_iff_toNat_lt]
  ·simp[c1,c2,results83,Bi h3 h1 h2 (by omega)]
 ·simp[c1,results83,Bi h3 h1 h2 (by omega)]
def zq1(f:Go.Av.Fd):Bool:=C_ f.1&&wJ f.2
theorem X3(f:Go.Av.Fd)(h1:f.1.length<=140737488351232)(h2:f.2.length<=140737488351232):aq prog 187 [nX f] (.bool (zq1 f)):=by
 refine ai (ys:=[_]) [] [] [] func187 rfl ?_;obtain⟨a,b⟩:=f;simp only at h1 h2;simp[nX,zq1];refine bS (yB B7 a (by omega)) ?_;cases h:C_ a with
 |false=>simp[results187]
 |true=>
  simp;refine bS (Et b (by omega)) ?_;simp[results187]
end Go.Av
namespace Go.aT
open Go.Av
def zq0(l:List UInt8):List UInt8:=if 0<=uK l 10 then l.take (uK l 10).toNat else l
def BR(l:List UInt8):List UInt8:=if 0<=uK l 10 then l.drop ((uK l 10).toNat+1)else[]
def cZ.FL(e:cZ):Bool:=!(zq0 e.uri==[])&&(zq0 e.uri==e.uri&&(BR e.uri==[]&&(decide (e.uri.length+1+e.var.length<=100)&&decide (e.names.length<=128))))
def cZ.FM(e:cZ):Bool:=(List.range e.names.length).all (s6 e.names)
def cZ.vU(e:cZ):Bool:=!(e.st.st==0)&&(BS e.st&&(uR e.fields==0))
def cZ.FN(e:cZ):Bool:=rL e.asked 1099511627776&&(rL e.got 1099511627776&&(rL e.order 1152921504606846975&&(rL e.size 1048576&&decide (e.body.length<=8))))
def cZ.BT(e:cZ):Bool:=e.FL&&(e.FM&&(e.vU&&(e.FN&&(e.body.all k7&&(jD e.body==qb e.size)))))
theorem V6(e:cZ):e.FL=(e.s7&&decide (e.names.length<=128)):=by
 unfold cZ.FL cZ.s7 zq0 BR;by_cases h:0<=uK e.uri 10
 ·have hl:=V7 e.uri 10;simp only[if_pos h];have hn:(e.uri.take (uK e.uri 10).toNat==e.uri)=false:=by
   rw[beq_eq_false_iff_ne];intro hc;have:=congrArg List.length hc;rw[List.length_take]at this;omega
  simp[hn,h]
 ·simp only[if_neg h];have hl:(e.uri++10::e.var).length=e.uri.length+1+e.var.length:=by simp;omega
  rw[hl];by_cases c1:e.uri=[]
  ·simp[c1]
  ·by_cases c2:e.uri.length+1+e.var.length<=100
   ·have c3:e.uri.length<=100:=by omega
    simp[c1,c2,c3,h]
   ·simp[c2]
theorem head_eq(e:cZ):e.qc=(e.vU&&(e.FM&&decide (e.names.length<=128))):=by
 unfold cZ.qc cZ.vU cZ.FM qd;have:Jd e.st=BS e.st:=(Mb e.st).symm;rw[this];simp only[Bool.and_assoc]
theorem Je(e:cZ):e.BT=e.right:=by
 unfold cZ.BT cZ.right;rw[V6,head_eq];have hn:e.FN=(e.uS&&decide (e.body.length<=8)):=by unfold cZ.FN cZ.uS;simp only[Bool.and_assoc]
 have hp:iY e.body e.size=(e.body.all k7&&(decide (e.body.length<=8)&&(jD e.body==qb e.size))):=rfl;rw[hn,hp];generalize e.s7=a;generalize e.vU=b;generalize e.FM=c;generalize decide (e.names.length<=128)=d;generalize e.uS=f;generalize decide (e.body.length<=8)=g;generalize e.body.all k7=h;generalize(jD e.body==qb e.size)=i
 revert a b c d f g h i
 decide
end Go.aT
namespace Go.Av
open Go.Proofs Go.Proofs.Tryz Go.aT
theorem MX(fs:List Go.Av.Fd)(hl:fs.length<=1000000000000)(hf:∀f∈fs,f.1.length<=140737488351232/\f.2.length<=140737488351232):aq prog 85 [.sl (fs.map nX)] (.int (uR fs)):=by
 refine ai (ys:=[_]) [] [] [] func85 rfl ?_;obtain⟨R,hR⟩:∃R:Int,R=uR fs:=⟨_,rfl⟩;rw[<-hR];unfold uR at hR;simp;refine bg (fun k:Nat=>k<=fs.length/\∀f∈fs.take k,yx f=true) (fun k=>[(0,.p (.sl (fs.map nX))),(3,.p (.int 2)),(4,.p (.int k))]) (fun k=>fs.length-k) 0 (by simp) (ak (by simp)) ?_;rintro k ⟨h1,h2⟩;by_cases ck:k<fs.length
 ·have hfk:=hf fs[k] (List.getElem_mem ck);have hfit:zq1 fs[k]=yx fs[k]:=by unfold zq1 yx;rw[Ew]
  have hF:=X3 fs[k] hfk.1 hfk.2;rw[hfit]at hF;simp[ck];refine bS hF ?_;cases hx:yx fs[k]with
  |false=>
   have e:R=10:=by
    rw[hR,if_pos];rw[List.any_eq_true];exact⟨fs[k],List.getElem_mem ck,by rw[hx];rfl⟩
   subst e;simp[results85]
  |true=>
   simp;refine⟨k+1,⟨by omega,?_⟩,by omega,ak ?_⟩
   ·intro a b hm;rw[iA ck]at hm;rcases iR.1 hm with hm|hm
    ·exact h2 _ hm
    ·simp at hm;rw[hm];exact hx
   ·simp[aD (n:=(k:Int)+1)]
 obtain rfl:k=fs.length:=by omega
 rw[List.take_length]at h2;have akB:¬(fs.any fun f=>!yx f)=true:=by
  rw[List.any_eq_true];rintro⟨f,hm,hb⟩;rw[h2 f hm]at hb;cases hb
 rw[if_neg akB]at hR;clear h1;by_cases c2:128<fs.length
 ·have d1:(128:Int)<(fs.length:Int):=by omega
  rw[if_pos c2]at hR;subst hR;simp[d1,results85]
 have d1:¬(128:Int)<(fs.length:Int):=by omega
 rw[if_neg c2]at hR;simp[d1];refine bg (fun k:Nat=>k<=fs.length/\nC (fs.take k)<=65536) (fun k=>[(0,.p (.sl (fs.map nX))),(3,.p (.int (nC (fs.take k):Nat))),(5,.p (.int k))]) (fun k=>fs.length-k) 0 (by simp[nC]) (ak (by simp[nC])) ?_;rintro k ⟨h1,h3⟩;by_cases ck:k<fs.length
 case neg=>
  obtain rfl:k=fs.length:=by omega
  rw[List.take_length]at h3;rw[if_neg (by omega)]at hR;subst hR;simp[results85]
 have hfk:=hf fs[k] (List.getElem_mem ck);have WN:nC (fs.take (k+1))=nC (fs.take k)+(fs[k].1.length+fs[k].2.length+4):=by
  rw[iA ck,DE]
 have hle:=DF fs (k+1);have w1:IntKind.i64.wrap ((nC (fs.take k):Int)+(fs[k].1.length:Int))=(nC (fs.take k):Int)+(fs[k].1.length:Int):=aD;have w2:IntKind.i64.wrap ((nC (fs.take k):Int)+(fs[k].1.length:Int)+(fs[k].2.length:Int))=(nC (fs.take k):Int)+(fs[k].1.length:Int)+(fs[k].2.length:Int):=aD;have w3:IntKind.i64.wrap ((nC (fs.take k):Int)+(fs[k].1.length:Int)+(fs[k].2.length:Int)+4)=((nC (fs.take (k+1)):Nat):Int):=by rw[aD,WN];omega
 by_cases c3:65536<nC (fs.take (k+1))
 ·have d2:(65536:Int)<((nC (fs.take (k+1)):Nat):Int):=by omega
  rw[if_pos (by omega)]at hR;subst hR;simp[ck,w1,w2,w3,d2,results85]
 ·have d2:¬(65536:Int)<((nC (fs.take (k+1)):Nat):Int):=by omega
  simp[ck,w1,w2,w3,d2];refine⟨k+1,⟨by omega,by omega⟩,by omega,ak ?_⟩;simp[aD (n:=(k:Int)+1)]
theorem Wu(l:List UInt8)(hl:l.length<=140737488351232):aq prog 80 [.str l] (.tp [.str (zq0 l),.str (BR l)]):=by
 refine ai (ys:=[_,_]) [] [] [] func80 rfl ?_;simp;refine bg (fun k:Nat=>k<=l.length/\∀x∈l.take k,x≠10) (fun k=>[(0,.p (.str l)),(4,.p (.int k))]) (fun k=>l.length-k) 0 (by simp) (ak (by simp)) ?_;rintro k ⟨h1,h2⟩;have wk:=jq k;by_cases ck:k<l.length
 ·by_cases c1:l[k]=10
  ·have qP:=O4 ck h2 c1;have e1:zq0 l=l.take k:=by unfold zq0;rw[qP,if_pos (by omega)];simp
   have e2:BR l=l.drop (k+1):=by unfold BR;rw[qP,if_pos (by omega)];simp
   have h3:k+1<=l.length:=ck;rw[e1,e2];simp[ck,c1,wk,results80]
   try omega
  ·have iP:((l[k].toNat:Int)==10)=false:=by
    simp;intro h;apply c1;apply UInt8.toNat_inj.1;exact Int.ofNat_inj.1 h
   simp[ck,iP,wk];refine⟨k+1,⟨by omega,?_⟩,by omega,ak (by simp)⟩;intro x hx;rw[iA ck]at hx;rcases iR.1 hx with hx|hx
   ·exact h2 x hx
   ·simp at hx;subst hx;exact c1
 ·obtain rfl:k=l.length:=by omega
  rw[List.take_length]at h2;have qP:=Er h2;have e1:zq0 l=l:=by unfold zq0;rw[qP,if_neg (by omega)]
  have e2:BR l=[]:=by unfold BR;rw[qP,if_neg (by omega)]
  rw[e1,e2];simp[results80]
theorem Rv(n:Int)(hn:n<=1000000000)(h0:-9223372036854775808<=n):aq prog 86 [.int n] (.int (qb n)):=by
 refine ai (ys:=[_]) [] [] [] func86 rfl ?_;simp;refine bg (fun x:Int×Nat=>x.1<=1000000000/\x.2<=1000000000/\(x.2:Int)+x.1<=1000000000/\(x.2:Int)+qb x.1=qb n) (fun x=>[(0,.p (.int x.1)),(3,.p (.int x.2))]) (fun x=>x.1.toNat) (n,0) ⟨hn,by omega,by omega,by simp⟩ (ak (by simp)) ?_;rintro⟨m,k⟩ ⟨h1,h2,h3,h4⟩;simp only at h1 h2 h3 h4;by_cases c:0<m
 ·have w1:IntKind.i64.wrap (m-64)=m-64:=aD;have w2:=jq k;have h5:((k+1:Nat):Int)+qb (m-64)=qb n:=by
   rw[<-h4];unfold qb;split<;>split<;>omega
  simp[c,w1,w2];exact⟨m-64,k+1,⟨by omega,by omega,by omega,h5⟩,by omega,ak (by simp)⟩
 ·have h5:qb n=(k:Int):=by
   rw[<-h4];unfold qb;split<;>omega
  simp[c,h5,results86]
theorem N0(n:Nat)(hn:n<=65536)(j p:Int)(hj:-9223372036854775808<=j/\j<=9223372036854775807)(hp:-9223372036854775808<=p/\p<=9223372036854775807):aq prog 21 [.int n,.agg false [.int j,.int p]] (.bool (decide (ig n j p=0))):=by
 refine ai (ys:=[_]) [] [] [] func21 rfl ?_;by_cases c1:5<=j
 ·by_cases c2:j<=4096
  ·by_cases c3:30<=p
   ·by_cases c4:p<=4096
    ·have w1:IntKind.i64.wrap ((n:Int)-1)=(n:Int)-1:=aD;have w2:IntKind.i64.wrap ((n:Int)-1-j)=(n:Int)-1-j:=aD;have w3:IntKind.i64.wrap (8*p)=8*p:=aD;have w4:IntKind.i64.wrap ((n:Int)-1-j-8*p)=(n:Int)-1-j-8*p:=aD;by_cases c5:16<=(n:Int)-1-j-8*p
     ·have e:ig n j p=0:=by unfold ig cG;rw[if_neg (by omega),if_neg (by omega)]
      simp[e,c1,c2,c3,c4,c5,w1,w2,w3,w4,results21]
     ·have e:¬ig n j p=0:=by unfold ig cG;rw[if_neg (by omega),if_pos (by omega)];decide
      simp[e,c1,c2,c3,c4,c5,w1,w2,w3,w4,results21]
    ·have e:¬ig n j p=0:=by unfold ig;rw[if_pos (by omega)];decide
     simp[e,c1,c2,c3,c4,results21]
   ·have e:¬ig n j p=0:=by unfold ig;rw[if_pos (by omega)];decide
    simp[e,c1,c2,c3,results21]
  ·have e:¬ig n j p=0:=by unfold ig;rw[if_pos (by omega)];decide
   simp[e,c1,c2,results21]
 ·have e:¬ig n j p=0:=by unfold ig;rw[if_pos (by omega)];decide
  simp[e,c1,results21]
theorem DG{l:List (Int×Int)}(hl:l.length<=8){k:Nat}(h:∀e∈l.take k,k7 e=true):0<=jD (l.take k)/\jD (l.take k)<=524288:=by
 have:=F8 (l.take k) h;have h2:(l.take k).length<=8:=by simp;omega
 omega
theorem JC(e:cZ)(h:e.OkB)(hz:-9223372036854775808<=e.size):aq prog 23 [dI e] (.bool e.right):=by
 rw[<-Je];obtain⟨R,hR⟩:∃R,R=e.BT:=⟨_,rfl⟩;rw[<-hR];have hC:=Wu e.uri h.uri;have hRf:e.BT=(e.FL&&(e.FM&&(e.vU&&(e.FN&&(e.body.all k7&&(jD e.body==qb e.size)))))):=rfl;rw[hRf]at hR;have hU:e.FL=(!(zq0 e.uri==[])&&(zq0 e.uri==e.uri&&(BR e.uri==[]&&(decide (e.uri.length+1+e.var.length<=100)&&decide (e.names.length<=128))))):=rfl;have DH:=h.uri;have ac8:=h.var;have Wv:=h.nl;refine ai (ys:=[_]) [] [] [] func23 rfl ?_;simp;refine bS hC ?_;generalize zq0 e.uri=A at hU⊢;generalize BR e.uri=V at hU⊢;have hB:0<=1:=by omega
 have fin:e.FL=false->R=false:=fun g=>by rw[hR,g];rfl
 by_cases a1:A=[]
 ·have:=fin (by rw[hU];simp[a1]);subst this;simp[a1,results23]
 have b1:(A==[])=false:=by simpa using a1
 by_cases a2:A=e.uri
 case neg=>
  have b2:(A==e.uri)=false:=by simpa using a2
  have:=fin (by rw[hU,b2];simp);subst this;simp[b1,b2,bne,results23]
 have b2:(A==e.uri)=true:=by simpa using a2
 by_cases a3:V=[]
 case neg=>
  have b3:(V==[])=false:=by simpa using a3
  have:=fin (by rw[hU,b3];simp);subst this;simp[b1,b2,b3,bne,results23]
 have b3:(V==[])=true:=by simpa using a3
 have w1:IntKind.i64.wrap ((e.uri.length:Int)+1)=(e.uri.length:Int)+1:=aD;have w2:IntKind.i64.wrap ((e.uri.length:Int)+1+(e.var.length:Int))=(e.uri.length:Int)+1+(e.var.length:Int):=aD;by_cases a4:e.uri.length+1+e.var.length<=100
 case neg=>
  have b4:(100:Int)<(e.uri.length:Int)+1+(e.var.length:Int):=by omega
  have:=fin (by rw[hU];simp[a4]);subst this;simp[b1,b2,b3,bne,w1,w2,b4,results23]
 have b4:¬(100:Int)<(e.uri.length:Int)+1+(e.var.length:Int):=by omega
 by_cases a5:e.names.length<=128
 case neg=>
  have b5:(128:Int)<(e.names.length:Int):=by omega
  have b5':128<e.names.length:=by omega
  have:=fin (by rw[hU];simp[a5]);subst this;simp[b1,b2,b3,bne,w1,w2,b4,b5,results23]
 have b5:¬(128:Int)<(e.names.length:Int):=by omega
 have b5':¬128<e.names.length:=by omega
 have hU1:e.FL=true:=by rw[hU];simp[a2,a3,a4,a5];rw[<-a2];exact a1
 rw[hU1,Bool.true_and]at hR;simp[b1,b2,b3,bne,w1,w2,b4,b5];clear hU fin hC w1 w2 hRf;refine bg (fun k:Nat=>k<=e.names.length/\∀i,i<k->s6 e.names i=true) (fun k=>[(1,.p (.ref (dI e))),(5,.p (.int k))]) (fun k=>e.names.length-k) 0 ⟨by simp,by intro i hi;omega⟩ (ak (by simp)) ?_;rintro k ⟨hk,hall⟩;by_cases ck:k<e.names.length
 ·have wk:=jq k;have hsk:=h.ns _ (List.getElem_mem ck);have hgd:e.names.getD k []=e.names[k]:=by rw[pR,kq ck];rfl
  have bad:s6 e.names k=false->R=false:=fun g=>by
   have:e.FM=false:=List.all_eq_false.2 ⟨k,List.mem_range.2 ck,by simp[g]⟩;rw[hR,this];rfl
  have go:s6 e.names k=true->(k+1<=e.names.length/\∀i,i<k+1->s6 e.names i=true):=fun g=>⟨by omega,fun i hi=>by
   rcases Nat.lt_succ_iff_lt_or_eq.1 hi with hi|rfl
   ·exact hall i hi
   ·exact g⟩
  unfold s6 at bad go;rw[hgd]at bad go;obtain⟨s,hs⟩:∃s,e.names[k]=s:=⟨_,rfl⟩;rw[hs]at hsk bad go;simp[ck,hs];refine bS (yB B7 s hsk) ?_;cases c1:C_ s with
  |false=>
   rw[bad (by rw[c1];rfl)];simp[results23]
  |true=>
   simp;refine bS (MV s hsk) ?_;by_cases c2:oQ s=s
   ·cases k with
    |zero=>
     have g:=go (by rw[c1,c2];simp);simp[c2,bne];exact⟨1,g,by omega,ak (by simp[aD (n:=1)])⟩
    |succ j=>
     have wj:IntKind.i64.wrap (j:Int)=(j:Int):=aD;have hj:j<e.names.length:=by omega
     have hgj:e.names.getD j []=e.names[j]:=by rw[pR,kq hj];rfl
     rw[show j+1-1=j from rfl,hgj]at bad go;have p1:(0:Int)<(j:Int)+1:=by omega
     have hsj:=h.ns _ (List.getElem_mem hj);have hL:=Ru e.names[j] s (by omega) (by omega);simp[c2,bne,wj,hj,p1];refine bS hL ?_;cases c3:Op.bytesLess e.names[j] s with
     |true=>
      have g:=go (by rw[c1,c2,c3];simp);simp;exact⟨j+1+1,g,by omega,ak (by simp[aD (n:=(j:Int)+1+1)])⟩
     |false=>
      rw[bad (by rw[c1,c2,c3];simp)];simp[results23]
   ·have dM:(oQ s==s)=false:=by simpa using c2
    rw[bad (by rw[c1,dM];simp)];simp[dM,bne,results23]
 obtain rfl:k=e.names.length:=by omega
 have hN1:e.FM=true:=List.all_eq_true.2 fun i hi=>hall i (List.mem_range.1 hi);rw[hN1,Bool.true_and]at hR;clear hall hk;simp;have hH:e.vU=(!(e.st.st==0)&&(BS e.st&&(uR e.fields==0))):=rfl;have fin:e.vU=false->R=false:=fun g=>by rw[hR,g];rfl
 by_cases c1:e.st.st=0
 ·have:=fin (by rw[hH];simp[c1]);subst this;simp[c1,results23]
 have iP:(e.st.st==0)=false:=by simpa using c1
 simp[iP];refine bS (MW e.st h.m h.t h.r) ?_;cases c2:BS e.st with
 |false=>
  have:=fin (by rw[hH,c2];simp);subst this;simp[results23]
 |true=>
 simp;refine bS (MX e.fields h.fl h.ff) ?_;by_cases c3:uR e.fields=0
 case neg=>
  have j_:(uR e.fields==0)=false:=by simpa using c3
  have:=fin (by rw[hH,j_];simp);subst this;simp[j_,bne,results23]
 have hH1:e.vU=true:=by rw[hH,c2,c3];simp[iP]
 rw[hH1,Bool.true_and]at hR;simp[c3];clear fin hH;have hN:e.FN=(rL e.asked 1099511627776&&(rL e.got 1099511627776&&(rL e.order 1152921504606846975&&(rL e.size 1048576&&decide (e.body.length<=8))))):=rfl;have fin:e.FN=false->R=false:=fun g=>by rw[hR,g];rfl
 unfold rL at hN;by_cases d1:e.asked<0
 ·have:=fin (by rw[hN];simp;omega);subst this;simp[d1,results23]
 by_cases d2:1099511627776<e.asked
 ·have:=fin (by rw[hN];simp;omega);subst this;simp[d1,d2,results23]
 by_cases d3:e.got<0
 ·have:=fin (by rw[hN];simp;omega);subst this;simp[d1,d2,d3,results23]
 by_cases d4:1099511627776<e.got
 ·have:=fin (by rw[hN];simp;omega);subst this;simp[d1,d2,d3,d4,results23]
 by_cases d5:e.order<0
 ·have:=fin (by rw[hN];simp;omega);subst this;simp[d1,d2,d3,d4,d5,results23]
 by_cases d6:1152921504606846976<=e.order
 ·have:=fin (by rw[hN];simp;omega);subst this;simp[d1,d2,d3,d4,d5,d6,results23]
 by_cases d7:e.size<0
 ·have:=fin (by rw[hN];simp;omega);subst this;simp[d1,d2,d3,d4,d5,d6,d7,results23]
 by_cases d8:1048576<e.size
 ·have:=fin (by rw[hN];simp;omega);subst this;simp[d1,d2,d3,d4,d5,d6,d7,d8,results23]
 by_cases d9:8<e.body.length
 ·have d9':(8:Int)<(e.body.length:Int):=by omega
  have:=fin (by rw[hN];simp;omega);subst this;simp[d1,d2,d3,d4,d5,d6,d7,d8,d9',results23]
 have d9':¬(8:Int)<(e.body.length:Int):=by omega
 have hN1:e.FN=true:=by rw[hN];simp;omega
 rw[hN1,Bool.true_and]at hR;simp[d1,d2,d3,d4,d5,d6,d7,d8,d9'];clear fin hN;have pH:e.body.length<=8:=by omega
 refine bg (fun k:Nat=>k<=e.body.length/\∀x∈e.body.take k,k7 x=true) (fun k=>[(1,.p (.ref (dI e))),(7,.p (.int (jD (e.body.take k)))),(8,.p (.int k))]) (fun k=>e.body.length-k) 0 ⟨by simp,by simp⟩ (ak (by simp[jD])) ?_;rintro k ⟨hk,hall⟩;have hsb:=DG pH hall;by_cases ck:k<e.body.length
 ·have wk:=jq k;have hts:jD (e.body.take (k+1))=jD (e.body.take k)+e.body[k].2:=by rw[iA ck,AQ]
  have bad:k7 e.body[k]=false->R=false:=fun g=>by
   have:e.body.all k7=false:=List.all_eq_false.2 ⟨e.body[k],List.getElem_mem ck,by simp[g]⟩;rw[hR,this];rfl
  have go:k7 e.body[k]=true->∀x∈e.body.take (k+1),k7 x=true:=fun g x hx=>by
   rw[iA ck]at hx;rcases iR.1 hx with hx|hx
   ·exact hall x hx
   ·simp at hx;subst hx;exact g
  unfold k7 rL at bad;have hok:k7 e.body[k]=(rL e.body[k].1 65536&&(decide (1<=e.body[k].2)&&decide (e.body[k].2<=65536-e.body[k].1))):=rfl;unfold rL at hok;obtain⟨x,hx⟩:∃x,e.body[k]=x:=⟨_,rfl⟩;rw[hx]at bad go hts hok;by_cases f1:x.1<0
  ·rw[bad (by simp;omega)];simp[ck,hx,f1,results23]
  by_cases f2:65536<x.1
  ·rw[bad (by simp;omega)];simp[ck,hx,f1,f2,results23]
  by_cases f3:x.2<1
  ·rw[bad (by simp;omega)];simp[ck,hx,f1,f2,f3,results23]
  have w4:IntKind.i64.wrap (65536-x.1)=65536-x.1:=aD;by_cases f4:65536-x.1<x.2
  ·rw[bad (by simp;omega)];simp[ck,hx,f1,f2,f3,f4,w4,results23]
  have g:=go (by rw[hok];simp;omega);have w5:IntKind.i64.wrap (jD (e.body.take k)+x.2)=jD (e.body.take (k+1)):=by rw[aD,hts]
  simp[ck,hx,f1,f2,f3,f4,w4,w5];exact⟨k+1,⟨by omega,fun a b hm=>g (a,b) hm⟩,by omega,ak (by simp[wk])⟩
 obtain rfl:k=e.body.length:=by omega
 rw[List.take_length]at hall hsb;have hP1:e.body.all k7=true:=List.all_eq_true.2 hall;rw[hP1,Bool.true_and]at hR;simp;refine bS (Rv e.size (by omega) hz) ?_;simp[hR,results23]
theorem N4(s:St)(e:cZ)(he:e.OkB)(hg:Cq e=false):aE prog 12 [.obj 6 0,.p (dI e)] ⟨bO 0 7 s,fh 7,17⟩ (.agg true [.p (.sc (.pointer none)),.p (.int 10)]) ⟨bO 0 7 s,fh 7,17⟩:=by
 have hR:=yR e he;have hB:Cq e=(e.right&&(decide (e.order=0)&&(decide (e.size=0)&&(decide (e.sum=0)&&decide (e.body=[]))))):=rfl;rw[hg]at hB;refine ah (rs:=[_,_]) [3,41] [(3,[(1,.r 1),(2,.w [1]),(4,.r 1),(5,.w [1]),(7,.s 1 []),(9,.s 1 [])])] [(1,17)] func12 rfl ?_;simp[bO];refine bS hR ?_;cases c1:e.right with
 |false=>
  simp[-az,results12];exact⟨[],by simp[aG,aj,cM,bR,bN,cz]⟩
 |true=>
 rw[c1,Bool.true_and]at hB;by_cases c2:e.order=0
 case neg=>
  have dM:(e.order !=0)=true:=by simpa using c2
  simp[-az,dM,results12];exact⟨[],by simp[aG,aj,cM,bR,bN,cz]⟩
 by_cases c3:e.size=0
 case neg=>
  have j_:(e.size !=0)=true:=by simpa using c3
  simp[-az,c2,j_,results12];exact⟨[],by simp[aG,aj,cM,bR,bN,cz]⟩
 by_cases c4:e.sum=0
 case neg=>
  have kT:((e.sum:Int) !=0)=true:=bne_iff_ne.2 (by omega);simp[-az,c2,c3,kT,results12];exact⟨[],by simp[aG,aj,cM,bR,bN,cz]⟩
 have c5:e.body≠[]:=by intro h;rw[h]at hB;simp[c2,c3,c4]at hB
 have qS:0<e.body.length:=List.length_pos_iff.2 c5;have c5i:(0:Int)<(e.body.length:Int):=by omega
 simp[-az,c2,c3,c4,qS,results12];exact⟨[],by simp[aG,aj,cM,bR,bN,cz]⟩
def smE(e:cZ):Ob:=⟨141,19,[.obj 6 0,.p (.str e.uri),.p (.sl (e.names.map PC.str)),.p (.str e.var),.p (.str e.st.m),.p (.str e.st.t),.p (.int e.st.st),.p (.str e.st.r),.p (.int e.st.mi),.p (.sl (e.fields.map nX)),.p (.int e.asked),.p (.int e.got),.p (.int 0),.p (.int 0),.p (nj 0),.p (.sl []),.p .nil,.p (.bool false),.p (.bool false)]⟩
theorem N3(s:St)(e:cZ)(he:e.OkB)(hfl:e.fields.length<=1000000)(hg:Cq e=true):aE prog 12 [.obj 6 0,.p (dI e)] ⟨bO 0 7 s,fh 7,17⟩ (.agg true [.obj 17 0,.p (.int 0)]) ⟨(17,smE e)::bO 0 7 s,fh 7,18⟩:=by
 unfold Cq at hg;simp only[Bool.and_eq_true,decide_eq_true_eq]at hg;obtain⟨g1,g2,g3,g4,g5⟩:=hg;have hR:=yR e he;rw[g1]at hR;have hC1:=EH e.names (by have:=he.nl;omega);have hC2:=EI e.fields (by omega);refine ah (rs:=[_,_]) [3,41] [(3,[(1,.r 1),(2,.w [1]),(4,.r 1),(5,.w [1]),(7,.s 1 []),(9,.s 1 [])])] [(1,17)] func12 rfl ?_;simp[bO];refine bS hR ?_;simp[g2,g3,g4,g5];refine bS hC1 ?_;simp;refine bS hC2 ?_;simp[-az,smE,results12];exact⟨[(17,18)],by simp[aG,aj,cM,bR,bN,cz]⟩
theorem O_(s:St)(h:s.ix=[])(key:List UInt8):aE prog 61 [.obj 6 0,.p (.str key)] ⟨[(6,bR 0 7 s),(15,bN s.ix)],[],17⟩ (.agg true [.p (.int 0),.p (.bool false)]) ⟨[(6,bR 0 7 s),(15,bN s.ix)],[],17⟩:=by
 have:=acP s (by rw[h];simp) key;rw[h]at this;rw[(Xj key).1,(Xj key).2]at this;rw[h];exact this
theorem N2(s:St)(h:s.ix=[])(key:List UInt8):aE prog 16 [.obj 6 0,.p (.str key)] ⟨bO 0 7 s,fh 7,17⟩ (.agg true [.p (dI rM),.p (.bool false),.p (.int 0)]) ⟨bO 0 7 s,fh 7,17⟩:=by
 refine ah (rs:=[_,_,_]) [] [] [] func16 rfl ?_;simp[bO];refine bq [0,1,2,3,4,5,6,7,8,9,10,11,12,13,14,15,16] (O_ s h key) (by simp) (by simp) (by simp[ay,bR,bN]) (by simp) ?_;simp[-az,aG,aj,cM,bR,bN,cz,rM,results16];exact⟨[],by simp⟩
theorem J6(s:St)(h:s.ix=[])(e:cZ)(h1:e.uri.length<=1000)(h2:e.var.length<=1000):aE prog 24 [.obj 6 0,.p (dI e)] ⟨bO 0 7 s,fh 7,17⟩ (.agg true [.p (.bool false),.p (.int 20)]) ⟨bO 0 7 s,fh 7,17⟩:=by
 refine ah (rs:=[_,_]) [3] [] [] func24 rfl ?_;obtain⟨key,hkey⟩:∃key,e.uri++10::e.var=key:=⟨_,rfl⟩;have hK:=Dk e.uri e.var (by omega) (by omega);rw[hkey]at hK;simp[bO];refine bS hK ?_;simp;refine Fy [0,1,2,3,4,5,6,7,8,9,10,11,12,13,14,15,16] (N2 s h key) ?_;simp[-az,bO,aG,aj,cM,bR,bN,cz,results24];exact⟨[],by simp⟩
theorem J7(s:St)(h:s.ix=[])(a:List UInt8):aE prog 25 [.obj 6 0,.p (.sl [.str a,.str a])] ⟨[(6,bR 0 7 s),(15,bN s.ix)],[],17⟩ (.agg true [.p (.int 0),.p (.int 0)]) ⟨[(6,bR 0 7 s),(15,bN s.ix)],[],17⟩:=by
 refine ah (rs:=[_,_]) [] [] [] func25 rfl ?_;simp;have hA:=O_ s h a;refine aL (fun k:Nat=>k<=2) (fun k=>[(0,.obj 6 0),(6,.p (.int 0)),(14,.p (.sl [.str a,.str a])),(15,.p (.int 2)),(16,.p (.int k))]) (fun _=>⟨[(6,bR 0 7 s),(15,bN s.ix)],[],17⟩) (fun k=>2-k) 0 (by simp) _ (AS.le_refl _ _) (ak (by simp[bR,bN])) ?_;intro k hk;have wk:=jq k;by_cases ck:k<2
 ·have hg:([PC.str a,PC.str a]:List PC)[k]'ck= .str a:=by
   rcases(show k=0\/k=1 by omega)with rfl|rfl<;>rfl
  have ck':(k:Int)<2:=by omega
  simp[ck,ck',hg];refine mC hA rfl ?_;simp[wk];exact⟨k+1,by omega,by omega,ak (by simp[bR,bN])⟩
 ·obtain rfl:k=2:=by omega
  simp[-az,results25];exact⟨[],by simp[bR,bN]⟩
theorem Sz(s:St)(h:s.ix=[])(e:cZ)(h1:e.uri.length<=1000)(h2:e.var.length<=1000):aE prog 17 [.obj 6 0,.p (dI e)] ⟨bO 0 7 s,fh 7,17⟩ (.agg true [.p .nil,.p (.int 2)]) ⟨bO 0 7 s,fh 7,17⟩:=by
 refine ah (rs:=[_,_]) [] [(2,[(6,.r 1),(10,.r 2),(19,.r 1),(23,.r 2),(26,.w []),(34,.w [])]),(8,[(4,.r 1),(8,.r 1),(9,.w [1,3]),(11,.r 3),(14,.r 3),(15,.w [1,3])]),(14,[(2,.w [])])] [(1,6),(2,15),(3,19)] func17 rfl ?_;obtain⟨key,hkey⟩:∃key,e.uri++10::e.var=key:=⟨_,rfl⟩;have hK:=Dk e.uri e.var (by omega) (by omega);rw[hkey]at hK;simp[bO];refine bS hK ?_;simp;refine bq [0,1,2,3,4,5,6,7,8,9,10,11,12,13,14,15,16] (O_ s h key) (by simp) (by simp) (by simp[ay,bR,bN]) (by simp) ?_;simp[-az,aG,aj,cM,bR,bN,cz,results17];exact⟨[],by simp⟩
theorem SA(s:St)(h:s.ix=[])(a:List UInt8):aE prog 26 [.obj 6 0,.p (.str a)] ⟨[(6,bR 0 7 s),(15,bN s.ix)],[],17⟩ (.agg true [.p .nil,.p (.int 0)]) ⟨[(6,bR 0 7 s),(15,bN s.ix)],[],17⟩:=by
 refine ah (rs:=[_,_]) [] [] [] func26 rfl ?_;simp[bR,h];refine aL (fun _:Unit=>True) (fun _=>[(18,.p (.int 0)),(17,.p (.int 0)),(6,.p .nil)]) (fun _=>⟨[(6,bR 0 7 s),(15,bN s.ix)],[],17⟩) (fun _=>0) () trivial _ (AS.le_refl _ _) (ak (by simp[bR,bN,h])) ?_;rintro⟨⟩ _;simp[-az,results26];exact⟨[],by simp[bR,bN,h]⟩
theorem O1:dP prog 91:=⟨Tryz.f91,func91,by kernel_rfl,by kernel_rfl⟩
theorem S4(nx id:Nat)(hid:id<nx)(L:List Lg)(hl:L.length<=1000000):aE prog 91 [.view id 0 L.length 3 none] ⟨[(id,cz L)],[],nx⟩ (.view nx 0 L.length 3 none) ⟨[(id,cz L),(nx,cz L)],[],nx+1⟩:=by
 have hne:¬id=nx:=by omega
 have eX:¬nx=id:=by omega
 have hlt:id<nx+1:=by omega
 have oK:List.take (L.length*3) ((GK L).map AV.p)=(GK L).map AV.p:=fY (by simp);refine yg (pre:=[]) (post:=[]) O1 (fun c h1 h2 h3=>?_) ?_
 ·obtain⟨c,rfl⟩:∃d,c=d+1:=⟨c-1,by omega⟩;refine ah (rs:=[_]) [7] [] [] func91 rfl ?_;simp[results91,cz,hne];exact⟨by omega,by omega,[],by simp[hne,hlt,oK]⟩
 ·intro hn;have hL:L=[]:=mB hn;subst hL;refine qR (pre:=[]) (post:=[]) O1 (fun _=>?_) ?_
  ·have key:aE prog 91 [.p .nil] ⟨[(id,cz [])],[],nx⟩ (.p .nil) ⟨[(id,cz [])],[],nx⟩:=by
    refine ah (rs:=[.p .nil]) [7] [] [] func91 rfl ?_;simp[results91];exact⟨[],by simp[cz,hid]⟩
   have:=fG (el:=198) (s:=3) key trivial;refine xA this (fun i o ho=>?_) (fun i o ho=>ho) (Nat.le_refl _);simp only[Tb.aS,lk]at ho⊢;split at ho
   ·rename_i h;subst h;rw[if_neg hne];simpa using ho
   ·split at ho
    ·rename_i h;rw[if_pos h];exact ho
    ·cases ho
  ·refine ah (rs:=[_]) [7] [] [] func91 rfl ?_;have hz:GK []=[]:=rfl;simp[results91,cz,hz,hne];exact⟨[],by simp[hne,hlt]⟩
theorem adH(s:St)(hb:s.k_.length<=1000000):aE prog 28 [.obj 6 0] ⟨[(6,bR 0 7 s),(16,cz s.k_)],[],17⟩ (.view 17 0 s.k_.length 3 none) ⟨[(6,bR 0 7 s),(16,cz s.k_),(17,cz s.k_)],[],18⟩:=by
 refine ah (rs:=[_]) [] [] [] func28 rfl ?_;simp[bR];refine mC (S4 17 16 (by omega) s.k_ hb) rfl ?_;simp[-az,cz,results28];exact⟨[],by simp⟩
theorem N1(D:aN)(hl:D.kept.length<=65536)(j p:Int)(h:ig D.kept.length j p≠0):aE prog 19 [.obj 0 0,.p (.agg false [.int j,.int p])] ⟨[(0,yN 3 D)],[],4⟩ (.agg true [.p (.sc (.pointer none)),.p (.int (ig D.kept.length j p))]) ⟨[(0,yN 3 D)],[],4⟩:=by
 have hR:=Cl D hl j p;refine ah (rs:=[_,_]) [] [] [] func19 rfl ?_;simp;refine aA hR (by simp) (by simp[ay]) (by simp) rfl ?_;have h':(ig D.kept.length j p !=0)=true:=by simpa using h
 simp[-az,h',results19];exact⟨[],by simp⟩
theorem O2(j p:Int):aq prog 70 [.sc (.pointer none),.agg false [.int j,.int p]] (.int 1):=by
 refine ai (ys:=[_]) [] [] [] func70 rfl ?_;simp[results70]
theorem J5(j p:Int):aq prog 22 [.sc (.pointer none),.agg false [.int j,.int p]] (.int 1):=by
 refine ai (ys:=[_]) [] [] [] func22 rfl ?_;simp;refine bS (O2 j p) ?_;simp[results22]
end Go.Av
