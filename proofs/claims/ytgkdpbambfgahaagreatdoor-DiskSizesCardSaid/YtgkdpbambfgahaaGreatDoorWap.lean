/- DiskSizes, part 16: what the functions compute, and the plain law of that; no condition. -/
import Derived.Test.YtgkdpbambfgahaaGreatDoorWao
import Derived.Lib.BytesEntry
import Derived.Lib.Bytealg
import Derived.Test.YtgkdpbambfgahaaGreatDoorProg
import Derived.Shelf.Lays
import Derived.Shelf.Strings.AsciiSet
import Derived.Shelf.Strings.IndexAnyAll
set_option linter.all false
set_option maxRecDepth 100000
set_option maxHeartbeats 64000000
namespace Go.aW
def iP(aM n:Int)(m:Mk):Jr:=⟨aM,n,m,m.first,m.at',m.at',false,[],0⟩
def Jr.n_(J:Jr)(m:Mk):Jr:={J with cnt:=IntKind.i64.wrap (J.next-m.first)}
def nJ(D:aU)(aM n:Int):aU×Option Jr×Int×Int:=if sE D.kept.length aM n=0 then
 (if(D.read aM n).2.2=0 then
  (if(rD (D.read aM n).2.1).2=true then
   (
    let J:=(kU D.kept.length (D.read aM n).2.1 (D.read aM n).2.1.length (iP aM n (rD (D.read aM n).2.1).1)).n_ (rD (D.read aM n).2.1).1
    if 0<J.cnt then
     (if(aK (mN J) (D.read aM n).1).2=0 then((aK (mN J) (D.read aM n).1).1,some J.settled,J.cnt,0)else((aK (mN J) (D.read aM n).1).1,none,0,(aK (mN J) (D.read aM n).1).2))
    else((D.read aM n).1,some J.settled,J.cnt,0))
  else((D.read aM n).1,none,0,33))
 else((D.read aM n).1,none,0,(D.read aM n).2.2))else(D,none,0,sE D.kept.length aM n)
end Go.aW
namespace Go.Av
open Go.Proofs Go.aW
def NC(R:aU×Option Jr×Int×Int):AV:=match R.2.1 with
 |some _=> .obj 4 0
 |none=> .p (.sc (.pointer none))
def RD(R:aU×Option Jr×Int×Int):AV:= .agg true [NC R,.p (.int R.2.2.1),.p (.int R.2.2.2)]
def RE(R:aU×Option Jr×Int×Int):Tb:=match R.2.1 with
 |some J=>⟨(4,eY 0 5 J)::cC 6 R.1,(5,364,2)::cp 6,7⟩
 |none=>⟨cC 4 R.1,cp 4,5⟩
theorem SP{all:List cU}(h:(rD all).2=true):2<=(rD all).1.at'/\(rD all).1.at'<=all.length:=by
 have key:∀(b:List UInt8) (r:Int),(oE b r all.length).2=true->2<=(oE b r all.length).1.at'/\(oE b r all.length).1.at'<=all.length:=by
  intro b r hb;unfold oE at hb⊢;simp at hb⊢;omega
 unfold rD at h⊢;simp only at h⊢;split at h
 ·rename_i hc;rw[if_pos hc];exact key _ _ hc.1
 ·rename_i hc;rw[if_neg hc];exact key _ _ h
theorem SQ(size:Nat)(aM n:Int)(all:List cU)(m:Mk)(h:2<=m.at'/\m.at'<=all.length):HV size aM n all m 0 (iP aM n m):=⟨rfl,rfl,rfl,rfl,rfl,rfl,h.1,h.2,by simp[iP],by simp[iP],by simp[iP],[],rfl,List.nodup_nil,by simp⟩
theorem XI(D:aU)(b:Nat)(hD:eu b D)(aM n:Int)(hf:0<=aM/\aM<=1000000)(hb:b<=100000000):aI Tryz.prog 71 [.obj 0 0,.p (.int aM),.p (.int n)] ⟨cC 3 D,cp 3,4⟩ (RD (nJ D aM n)) (RE (nJ D aM n)):=by
 have hR:=CW D hD.top aM n;obtain⟨R,ig⟩:∃R,nJ D aM n=R:=⟨_,rfl⟩;rw[ig];unfold nJ at ig;have Oo:∀(e:Int) (D':aU),RD (D',none,0,e)= .agg true [.p (.sc (.pointer none)),.p (.int 0),.p (.int e)]:=fun _ _=>rfl;have hjt:∀(e:Int) (D':aU),RE (D',none,0,e)=⟨cC 4 D',cp 4,5⟩:=fun _ _=>rfl;have apT:∀(J:Jr) (k:Int) (D':aU),RD (D',some J,k,0)= .agg true [.obj 4 0,.p (.int k),.p (.int 0)]:=fun _ _ _=>rfl;have aiV:∀(J:Jr) (k:Int) (D':aU),RE (D',some J,k,0)=⟨(4,eY 0 5 J)::cC 6 D',(5,364,2)::cp 6,7⟩:=fun _ _ _=>rfl;by_cases c1:sE D.kept.length aM n=0
 ·have hn:5<=n/\n<=D.kept.length/\aM<=(D.kept.length:Int)-n:=by
   unfold sE at c1;split at c1<;>omega
  have DD:=hD.top;have ND:=xL D b hD aM n (by omega);have xy:=hD.read aM n;have sQ:(D.read aM n).1.kept.length=D.kept.length:=by
   unfold aU.read;split
   ·split
    ·unfold aU.next;split<;>rfl
    ·unfold aU.next;split<;>rfl
   ·rfl
  have hal:(D.read aM n).2.2=0->(D.read aM n).2.1.length=n.toNat/\∀s∈(D.read aM n).2.1,s.length=64:=by
   unfold aU.read;split
   ·split
    ·intro _;refine⟨by rw[List.length_take,List.length_drop,hD.len];omega,fun s hs=>hD.now s (List.mem_of_mem_drop (List.mem_of_mem_take hs))⟩
    ·rename_i hc;intro h;exact absurd h hc
   ·intro h;cases h
  rw[if_pos c1]at ig;rw[c1]at hR;generalize D.read aM n=X at ND xy ig sQ hal;obtain⟨E,all,e⟩:=X;simp only at ND xy ig sQ hal;by_cases c2:e=0
  ·subst c2;obtain⟨ha1,N8⟩:=hal rfl;have hN:=HL all (by omega) (by omega) N8;have Fu:=SP (all:=all);rw[if_pos rfl]at ig;generalize rD all=Y at hN ig Fu;obtain⟨m,ok⟩:=Y;simp only at hN ig Fu;cases ok with
   |false=>
    rw[if_neg (by simp)]at ig;rw[<-ig,Oo,hjt];refine QgQ (rs:=[_,_,_]) [57,146] [] [] Tryz.func71 rfl (by simp[Tryz.ntmps71]) ?_;simp;refine az hR (by simp) (by simp[ay]) trivial rfl ?_;simp;refine ak [0,1,2,3] ND (by simp) (by simp) (by simp[ay,ax]) (by simp[ay]) ?_;simp;refine ai hN (by simp) ?_;simp[ax,Tryz.results71];exact⟨[(4,5)],by simp⟩
   |true=>
    rw[if_pos rfl]at ig;have hm:=Fu rfl;have hI0:=SQ D.kept.length aM n all m hm;have hall:all.length<=65536:=by omega
    have apw:(all.length:Int)=n:=by omega
    have ek:E.kept.length<=65536:=xy.top;have hfd:∀(a nx:Int),2<=a/\a<=all.length->aI Tryz.prog 163 [.agg false [.obj 0 0,.p (.int aM),.p (.int n)],.p (.sl (all.map cy)),.p (.int a),.p (.int nx)] ⟨cC 3 E,cp 3,4⟩ (.agg true [.p (.sl ((oC D.kept.length aM n all a nx).1.map eM)),.p (.bool (oC D.kept.length aM n all a nx).2)]) ⟨cC 3 E,cp 3,4⟩:=by
     intro a nx ha;have:=K0 E ek xy.kept xy.now aM n hf (by omega) all hall N8 a nx (by omega);rw[sQ]at this;exact this
    refine QgQ (rs:=[NC R,.p (.int R.2.2.1),.p (.int R.2.2.2)]) [57,146] [(12,[(0,.r 1),(5,.r 2),(9,.r 2),(10,.w [1,2])]),(16,[(0,.r 1),(5,.r 2),(6,.w [1,2])]),(22,[(4,.r 2),(6,.r 3),(10,.s 2 [3])])] [(1,4),(2,7),(3,6)] Tryz.func71 rfl (by simp[Tryz.ntmps71]) ?_;simp;refine az hR (by simp) (by simp[ay]) trivial rfl ?_;simp;refine ak [0,1,2,3] ND (by simp) (by simp) (by simp[ay,ax]) (by simp[ay]) ?_;simp;refine ai hN (by simp) ?_;simp[ax];refine aN (fun(rJ:Nat×Jr)=>HV D.kept.length aM n all m rJ.1 rJ.2/\rJ.1<=all.length/\kU D.kept.length all (all.length-rJ.1) rJ.2=kU D.kept.length all all.length (iP aM n m)) (fun rJ=>[(0,.obj 0 0),(10,.obj 4 0),(11,.p (.sl (all.map cy))),(12,.p (.int 0)),(13,.obj 6 0),(15,.obj 7 0)]) (fun rJ=>⟨(4,Bc aM n)::(6,⟨263,3,[.p (.int m.number),.p (.int m.first),.p (.int m.at')]⟩)::(7,eY 0 8 rJ.2)::cC 5 E,(8,364,2)::cp 5,9⟩) (fun rJ=>all.length-rJ.1) (0,iP aM n m) ⟨hI0,by simp,by simp⟩ _ (iu 7 10 364 2 ⟨268,12,[.obj 0 0,.p (.int aM),.p (.int n),.p (.int m.number),.p (.int m.first),.p (.int m.at'),.p (.int m.first),.p (.int m.at'),.p (.int m.at'),.p (.bool false),.p .nil,.p (.int 0)]⟩ [] (by simp[lk]) (.inr ⟨rfl,rfl⟩)) (aA (by simp[ax,Tb.bX,Tb.aQ,del,iP,eY])) ?_;rintro⟨r,J⟩ ⟨hI,hr,hh⟩;simp only at hI hr hh;have hrd:tH D.kept.length all J=if(oC D.kept.length aM n all J.at' J.next).2=true then
     some {J with at':=J.at'+((oC D.kept.length aM n all J.at' J.next).1.length+2),cq:=J.cq++(oC D.kept.length aM n all J.at' J.next).1,next:=IntKind.i64.wrap (J.next+1)}else if(oC D.kept.length aM n all 2 J.next).2=true then
     some {J with at':=2+((oC D.kept.length aM n all 2 J.next).1.length+2),cq:=J.cq++(oC D.kept.length aM n all 2 J.next).1,next:=IntKind.i64.wrap (J.next+1)}else none:=by unfold tH;rw[hI.aM,hI.n]
    have hF1:=hfd J.at' J.next ⟨hI.lo,hI.hi⟩;have hF2:=hfd 2 J.next (by omega);have hf1:=@tI D.kept.length aM n all J.at' J.next;have hf2:=@tI D.kept.length aM n all 2 J.next;generalize oC D.kept.length aM n all J.at' J.next=F1 at hrd hF1 hf1;generalize oC D.kept.length aM n all 2 J.next=F2 at hrd hF2 hf2;obtain⟨L1,b1⟩:=F1;obtain⟨L2,b2⟩:=F2;simp only at hrd hF1 hF2 hf1 hf2;have hnext:∀J',tH D.kept.length all J=some J'->HV D.kept.length aM n all m (r+1) J'/\r+1<=all.length/\kU D.kept.length all (all.length-(r+1)) J'=kU D.kept.length all all.length (iP aM n m):=by
     intro J' hJ';obtain⟨g1,g2⟩:=HW hall hI hJ';refine⟨g1,by omega,?_⟩;rw[<-hh];obtain⟨k,hk⟩:∃k,all.length-r=k+1:=⟨all.length-r-1,by omega⟩;rw[hk,show all.length-(r+1)=k by omega,kU,hJ']
    simp[eY];refine ak [0,1,2,5] hF1 (by simp) (by simp) (by simp[ay,ax]) (by simp[ay]) ?_;have Ol:=hI.cq;have apU:=hI.lo;have apV:=hI.hi;cases b1 with
    |true=>
     obtain⟨f1,f2,f3,f4,f5,f6,f7⟩:=hf1 rfl;rw[if_pos rfl]at hrd;have DA:=hnext _ hrd;have w1:IntKind.i64.wrap ((L1.length:Int)+2)=(L1.length:Int)+2:=af (by omega) (by omega);have w2:IntKind.i64.wrap (J.at'+((L1.length:Int)+2))=J.at'+((L1.length:Int)+2):=af (by omega) (by omega);simp[ax,w1,w2];exact⟨fun x a b _ h=>h▸rfl,fun x a b _ h=>h▸rfl,by omega,by omega,r+1,_,DA,by omega,aE [(8,9)] (by simp[ax])⟩
    |false=>
     rw[if_neg (by simp)]at hrd;simp[ax];refine ak [0,1,2,5] hF2 (by simp) (by simp) (by simp[ay,ax]) (by simp[ay]) ?_;cases b2 with
     |true=>
      obtain⟨f1,f2,f3,f4,f5,f6,f7⟩:=hf2 rfl;rw[if_pos rfl]at hrd;have DA:=hnext _ hrd;have w1:IntKind.i64.wrap ((L2.length:Int)+2)=(L2.length:Int)+2:=af (by omega) (by omega);have w2:IntKind.i64.wrap (2+((L2.length:Int)+2))=2+((L2.length:Int)+2):=af (by omega) (by omega);simp[ax,w1,w2];exact⟨fun x a b _ h=>h▸rfl,fun x a b _ h=>h▸rfl,by omega,by omega,r+1,_,DA,by omega,aE [(8,9)] (by simp[ax])⟩
     |false=>
      rw[if_neg (by simp)]at hrd;have hJe:kU D.kept.length all all.length (iP aM n m)=J:=by
       rw[<-hh];cases all.length-r with
       |zero=>rfl
       |succ k=>rw[kU,hrd]
      rw[hJe]at ig;have y1:(J.n_ m).aM=aM:=hI.aM;have y2:(J.n_ m).n=n:=hI.n;have y3:(J.n_ m).at'=J.at':=rfl;have y4:(J.n_ m).base=m.at':=hI.base;have y5:(J.n_ m).cq.length=J.cq.length:=rfl;have hJk:Bo (J.n_ m):=⟨by rw[y1];exact hf,by rw[y2];omega,by rw[y5];omega,by rw[y3];omega,by rw[y4];omega⟩;have hpo:∀p∈(J.n_ m).cq,-9223372036854775808<=p.1/\p.1<=9223372036854775807:=fun p hp=>by have:=hI.pos p hp;omega
      have hFo:=IV E b xy (J.n_ m) hJk (by omega) hpo;have hSe:=wS (J.n_ m);change(if 0<IntKind.i64.wrap (J.next-m.first)then _ else _)=R at ig;generalize hW:aK (mN (J.n_ m)) E=W at hFo ig;by_cases c3:0<IntKind.i64.wrap (J.next-m.first)
      ·rw[if_pos c3]at ig;simp[ax,c3];refine ak [0,1,2,5,7,8,9] hFo (by simp) (by simp) (by simp[ay,ax,Jr.n_]) (by simp[ay]) ?_;by_cases c4:W.2=0
       ·rw[if_pos c4]at ig;rw[<-ig,aiV];simp[ax,c4];refine ak [0,1,2,10,7,8] hSe (by simp) (by simp) (by simp[ay]) (by simp[ay]) ?_;simp[ax,Tryz.results71];exact⟨[(4,7),(5,11),(6,10)],by simp[NC,Jr.n_];intro a b h;omega⟩
       ·have jU:(W.2 !=0)=true:=by simpa using c4
        rw[if_neg c4]at ig;rw[<-ig,hjt];simp[ax,jU,Tryz.results71];exact⟨[(4,10)],by simp[NC]⟩
      ·rw[if_neg c3]at ig;rw[<-ig,aiV];simp[ax,c3];refine ak [0,1,2,5,7,8] hSe (by simp) (by simp) (by simp[ay,Jr.n_]) (by simp[ay]) ?_;simp[ax,Tryz.results71];exact⟨[(4,7),(5,9),(6,5)],by simp[NC,Jr.n_];intro a b h;omega⟩
  ·have dX:(e !=0)=true:=by simpa using c2
   rw[if_neg c2]at ig;rw[<-ig,Oo,hjt];refine QgQ (rs:=[_,_,_]) [57,146] [] [] Tryz.func71 rfl (by simp[Tryz.ntmps71]) ?_;simp;refine az hR (by simp) (by simp[ay]) trivial rfl ?_;simp;refine ak [0,1,2,3] ND (by simp) (by simp) (by simp[ay,ax]) (by simp[ay]) ?_;simp[dX,ax,Tryz.results71];exact⟨[(4,5)],by simp⟩
 ·have jH:(sE D.kept.length aM n !=0)=true:=by simpa using c1
  rw[if_neg c1]at ig;rw[<-ig,Oo,hjt];refine QgQ (rs:=[_,_,_]) [57,146] [] [] Tryz.func71 rfl (by simp[Tryz.ntmps71]) ?_;simp;refine az hR (by simp) (by simp[ay]) trivial rfl ?_;simp[jH,Tryz.results71];exact⟨[(4,3)],by simp[ax]⟩
end Go.Av
namespace Go.aW
def cG(j p:Int):Int:=1+j+p*8
def xe(size:Int)(j p:Int):Int:=if j<5\/4096<j\/p<30\/4096<p then 2 else if size-cG j p<16 then 2 else 0
end Go.aW
namespace Go.Av
open Go.Proofs Go.aW
theorem tw(b:List UInt8)(hb:b.length<=1000000000):aB Tryz.prog 157 [cy b] (.int (cK b)):=by
 refine QpQ (ys:=[_]) [] [] [] Tryz.func157 rfl (by simp[Tryz.ntmps157]) ?_;simp;have w00:IntKind.i64.wrap 0=0:=af (by omega) (by omega);refine bW (fun k:Nat=>k<=b.length) (fun k=>[(6,.p (cy b)),(7,.p (.int b.length)),(8,.p (.int k)),(3,.p (.int (cK (b.take k))))]) (fun k=>b.length-k) 0 (by simp) (aA (by simp[cK,iL,w00])) ?_;intro k hk;by_cases ck:k<b.length
 ·have w1:IntKind.i64.wrap ((k:Int)+1)=((k+1:Nat):Int):=by rw[af (by omega) (by omega)];rfl
  have wx:IntKind.i64.wrap (b[k].toNat:Int)=(b[k].toNat:Int):=af (by omega) (by have:=b[k].toNat_lt;omega);have ho:=xg (iL (b.take k)) b[k].toNat (b[k].toNat_lt);have hts:cK (b.take (k+1))=IntKind.i64.wrap ((iL (b.take k)*256+b[k].toNat:Nat):Int):=by
   unfold cK;rw[List.take_succ_eq_append_getElem ck,jj]
  rw[<-hts]at ho;change bits .or .i64 (IntKind.i64.wrap (cK (b.take k)*2^min 8 IntKind.i64.bits)) _=_ at ho;simp[ck,w1,wx,ho,cM];exact⟨k+1,by omega,by omega,aA (by simp)⟩
 ·obtain rfl:k=b.length:=by omega
  simp[Tryz.results157]
theorem FW(n:Int):aB Tryz.prog 177 [.int n] (cy (aF n 4)):=by
 have h:∀k:Nat,k<=24->IntKind.u8.wrap (n.fdiv (2^min k IntKind.i64.bits))=((uG (n/2^k)).toNat:Int):=by
  intro k hk;have e:min k IntKind.i64.bits=k:=by
   have e2:IntKind.i64.bits=64:=rfl;rw[e2];omega
  rw[e,Int.fdiv_eq_ediv_of_nonneg _ (Int.le_of_lt (Int.pow_pos (by omega))),jM]
 have h24:=h 24 (by omega);have h16:=h 16 (by omega);have h8:=h 8 (by omega);have h0:=jM n;have e4:aF n 4=[uG (n/2^24),uG (n/2^16),uG (n/2^8),uG n]:=by
  show[uG (n/2^24),uG (n/2^16),uG (n/2^8),uG (n/2^0)]=_;simp
 rw[e4];refine QpQ (ys:=[_]) [] [] [] Tryz.func177 rfl (by simp[Tryz.ntmps177]) ?_;simp[h24,h16,h8,h0,Tryz.results177];rfl
theorem vY(j p:Int)(hj:0<=j/\j<=1000000):aI Tryz.prog 160 [.agg false [.obj 0 0,.p (.int j),.p (.int p)]] ⟨[],[],1⟩ (.p (.int (1+j))) ⟨[],[],1⟩:=by
 have w1:IntKind.i64.wrap (1+j)=1+j:=af (by omega) (by omega);refine QgQ (rs:=[_]) [1] [] [] Tryz.func160 rfl (by simp[Tryz.ntmps160]) ?_;simp[w1,Tryz.results160];exact⟨[],by simp⟩
theorem tC(j p:Int)(hj:0<=j/\j<=1000000)(hp:0<=p/\p<=1000000):aI Tryz.prog 67 [.agg false [.obj 0 0,.p (.int j),.p (.int p)]] ⟨[],[],1⟩ (.p (.int (cG j p))) ⟨[],[],1⟩:=by
 have w1:IntKind.i64.wrap (p*8)=p*8:=af (by omega) (by omega);have w2:IntKind.i64.wrap (1+j+p*8)=1+j+p*8:=af (by omega) (by omega);refine QgQ (rs:=[_]) [1] [(1,[(0,.r 1),(1,.w [1]),(4,.r 1)])] [(1,1)] Tryz.func67 rfl (by simp[Tryz.ntmps67]) ?_;simp;refine ak [0] (vY j p hj) (by simp) (by simp) (by simp) (by simp) ?_;simp[w1,w2,Tryz.results67,cG];exact⟨[],by simp⟩
theorem FX(D:aU)(hl:D.kept.length<=65536)(j p:Int):aI Tryz.prog 70 [.obj 0 0,.p (.agg false [.int j,.int p])] ⟨[(0,AA 3 D)],[],4⟩ (.p (.int (xe D.kept.length j p))) ⟨[(0,AA 3 D)],[],4⟩:=by
 have hS:=Eb D;unfold xe;refine QgQ (rs:=[_]) [] [(5,[(1,.w []),(5,.w [])])] [] Tryz.func70 rfl (by simp[Tryz.ntmps70]) ?_;by_cases c1:j<5
 ·simp[c1,Tryz.results70];exact⟨[],by simp⟩
 by_cases c2:4096<j
 ·simp[c1,c2,Tryz.results70];exact⟨[],by simp⟩
 by_cases c3:p<30
 ·simp[c1,c2,c3,Tryz.results70];exact⟨[],by simp⟩
 by_cases c4:4096<p
 ·simp[c1,c2,c3,c4,Tryz.results70];exact⟨[],by simp⟩
 have w1:IntKind.i64.wrap ((D.kept.length:Int)-cG j p)=(D.kept.length:Int)-cG j p:=af (by unfold cG;omega) (by unfold cG;omega);simp[c1,c2,c3,c4];refine az hS (by simp) (by simp[ay]) trivial rfl ?_;simp;refine ak [0] (tC j p (by omega) (by omega)) (by simp) (by simp) (by simp) (by simp) ?_;by_cases c5:(D.kept.length:Int)-cG j p<16
 ·simp[c5,w1,Tryz.results70];exact⟨[],by simp⟩
 ·simp[c5,w1,Tryz.results70];exact⟨[],by simp⟩
end Go.Av
namespace Go.aW
def Jo(root count:Int):List UInt8:=83::(aF root 4++aF count 4)
def eC(root count:Int):cU:=frame (Jo root count++List.replicate 51 0)
def T5(b:List UInt8):(Int×Int)×Int:=if(dP b).2=0/\(dP b).1.length=60/\(dP b).1.getD 0 0=83 then
 (if eC (cK (((dP b).1.drop 1).take 4)) (cK (((dP b).1.drop 5).take 4))=b then((cK (((dP b).1.drop 1).take 4),cK (((dP b).1.drop 5).take 4)),0)else((0,0),33))else((0,0),33)
theorem vD(r c:Int):(Jo r c).length=9:=by simp[Jo,aY]
end Go.aW
namespace Go.Av
open Go.Proofs Go.aW
abbrev hdP(root count:Int):PC:= .agg false [.int root,.int count]
theorem xB(root count:Int):aB Tryz.prog 78 [hdP root count] (cy (eC root count)):=by
 have h4:=FW root;have Vx:=FW count;have hc:=Gi [[83],aF root 4,aF count 4] (by simp[aY]) (by simp);have e1:[[83],aF root 4,aF count 4].flatten=Jo root count:=by simp[Jo]
 rw[e1]at hc;have hF:=xj [Jo root count,List.replicate 51 0] (by simp[vD]) (by simp);have e2:[Jo root count,List.replicate 51 0].flatten=Jo root count++List.replicate 51 0:=by simp
 rw[e2]at hF;change aB Tryz.prog 178 _ (cy (eC root count))at hF;have l9:(ah (Jo root count)).length=9:=by rw[show(ah (Jo root count)).length=(Jo root count).length from by simp[ah],vD]
 generalize eC root count=S at hF⊢;generalize hX:Jo root count=X at hc hF l9;have w1:IntKind.i64.wrap 51=51:=af (by omega) (by omega);refine QpQ (ys:=[_]) [17] [] [] Tryz.func78 rfl (by simp[Tryz.ntmps78]) ?_;simp;refine bD h4 ?_;simp;refine bD Vx ?_;simp;refine bD hc ?_;have xl:X.length=9:=by rw[<-hX,vD]
 have er:List.replicate 51 (PC.sc (Value.int IntKind.u8 0))=ah (List.replicate 51 0):=by simp[ah]
 simp[xl,w1];refine⟨by unfold maxLen;omega,ai hF rfl ?_⟩;simp[Tryz.results78]
theorem L5(b:List UInt8)(hb:b.length<=1000000000):aB Tryz.prog 72 [cy b] (.tp [hdP (T5 b).1.1 (T5 b).1.2,.int (T5 b).2]):=by
 have hO:=AQ b hb;have Od:b≠[]\/b=[]:=by cases b<;>simp
 obtain⟨R,hR⟩:∃R,T5 b=R:=⟨_,rfl⟩;rw[hR];unfold T5 at hR;generalize dP b=O at hO hR;obtain⟨x,e⟩:=O;simp only at hO hR;refine QpQ (ys:=[_,_]) [] [(4,[(7,.w []),(8,.s 1 [])]),(5,[(0,.r 1)])] [(1,1)] Tryz.func72 rfl (by simp[Tryz.ntmps72]) ?_;simp;refine ai hO (by simp) ?_;by_cases c1:e=0
 ·by_cases c2:x.length=60
  ·have g0:x.getD 0 0=x[0]:=by rw[List.getD_eq_getElem?_getD,List.getElem?_eq_getElem (by omega)];rfl
   have q0:(ah x)[0]?=some (oc x[0]):=by rw[List.getElem?_eq_getElem (by simp[ah];omega),cM]
   by_cases c3:x[0]=83
   ·have k1:List.drop 1 (List.take 5 (ah x))=ah ((x.drop 1).take 4):=by simp[ah,List.drop_take]
    have k2:List.drop 5 (List.take 9 (ah x))=ah ((x.drop 5).take 4):=by simp[ah,List.drop_take]
    have Ul:=tw ((x.drop 1).take 4) (by simp;omega);have hn2:=tw ((x.drop 5).take 4) (by simp;omega);have hS:=xB (cK ((x.drop 1).take 4)) (cK ((x.drop 5).take 4));rw[if_pos ⟨c1,c2,by rw[g0,c3]⟩]at hR;generalize cK ((x.drop 1).take 4)=r at Ul hS hR;generalize cK ((x.drop 5).take 4)=c at hn2 hS hR;simp[c1,c2,c3,bne,k1,cM];rw[List.drop_one]at Ul;refine⟨fun y h=>(cg _ y h).symm,bD Ul ?_⟩;simp[k2];refine⟨fun y h=>(cg _ y h).symm,by omega,bD hn2 ?_⟩;simp;refine bD hS ?_;by_cases c4:eC r c=b
    ·rw[if_pos c4]at hR;rw[<-hR];simp[c4,bne,Tryz.results72]
    ·have jU:(eC r c==b)=false:=by simpa using c4
     rw[if_neg c4]at hR;rw[<-hR];simp[jU,bne,Tryz.results72]
   ·have lq:((x[0].toNat:Int)==83)=false:=by
     have:¬x[0].toNat=83:=fun h3=>c3 (UInt8.toNat_inj.1 h3);simp;omega
    rw[if_neg (fun h=>c3 (by rw[<-g0];exact h.2.2))]at hR;rw[<-hR];simp[c1,c2,lq,bne,cM,Tryz.results72]
  ·have dX:((x.length:Int)==60)=false:=by simp;omega
   rw[if_neg (fun h=>c2 h.2.1)]at hR;rw[<-hR];simp[c1,dX,bne,Tryz.results72]
 ·have jH:(e==0)=false:=by simpa using c1
  rw[if_neg (fun h=>c1 h.1)]at hR;rw[<-hR];simp[jH,bne,Tryz.results72]
end Go.Av
namespace Go.aW
def E0(D:aU)(j p:Int):aU×Int:=if xe D.kept.length j p=0 then(if(D.write 0 [eC 0 0]).2=0 then IG (D.write 0 [eC 0 0]).1 1 j else D.write 0 [eC 0 0])else(D,xe D.kept.length j p)
end Go.aW
namespace Go.Av
open Go.Proofs Go.aW
theorem Kv(D:aU)(b:Nat)(hD:eu b D)(j p:Int)(hb:b<=1000000):aI Tryz.prog 22 [.obj 0 0,.p (.agg false [.int j,.int p])] ⟨cC 3 D,cp 3,4⟩ (.p (.int (E0 D j p).2)) ⟨cC 4 (E0 D j p).1,cp 4,5⟩:=by
 have hR:=FX D hD.top j p;obtain⟨R,ig⟩:∃R,E0 D j p=R:=⟨_,rfl⟩;rw[ig];unfold E0 at ig;refine QgQ (rs:=[_]) [] [] [] Tryz.func22 rfl (by simp[Tryz.ntmps22]) ?_;simp;refine az hR (by simp) (by simp[ay]) trivial rfl ?_;by_cases c1:xe D.kept.length j p=0
 ·have hj:0<=j/\j<=1000000:=by unfold xe at c1;split at c1<;>omega
  have hW:=pe D b hD 0 (by omega) [eC 0 0] (by simp) (by simp;omega);have hWD:=hD.write 0 [eC 0 0];rw[if_pos c1]at ig;generalize D.write 0 [eC 0 0]=W at hW hWD ig;simp[c1];refine ai (xB 0 0) (by simp) ?_;simp;refine az hW (by simp) (by simp[ay,ax]) (by simp[ay]) rfl ?_;by_cases c2:W.2=0
  ·rw[if_pos c2]at ig;rw[<-ig];simp[c2];refine ak [0,1,2,4] (Nj W.1 _ hWD 1 j (by omega) hj (by simp only[List.length_cons,List.length_nil];omega)) (by simp) (by simp) (by simp[ay,ax]) (by simp[ay]) ?_;simp[ax,Tryz.results22];exact⟨[(4,5)],by simp⟩
  ·have dX:(W.2 !=0)=true:=by simpa using c2
   rw[if_neg c2]at ig;rw[<-ig];simp[dX,Tryz.results22];exact⟨[],by simp[ax]⟩
 ·have jH:(xe D.kept.length j p !=0)=true:=by simpa using c1
  rw[if_neg c1]at ig;rw[<-ig];simp[jH,Tryz.results22];exact⟨[(4,3)],by simp[ax]⟩
end Go.Av
namespace Go.Av
open Go.Proofs
abbrev Ho(l:List UInt8)(c:UInt8):Int:=Go.Lib.indexByte l c
theorem PZ(c:UInt8):((c.toNat:Int)).toNat.toUInt8=c:=by simp
theorem Ww(l:List UInt8)(c:UInt8):P0 Tryz.prog 377 [.str l,.sc (.int .u8 c.toNat)] (.int (Ho l c)):=by
 refine⟨Tryz.f377,Extern.BytealgIndexByte.indexByte,Tryz.func377,by kernel_rfl,by kernel_rfl,by kernel_rfl,by kernel_rfl,?_⟩;intro M w vs hH hr;cases hr with
 |cons h1 hs=>
  cases hs with
  |cons h2 hs=>
   cases hs;have h1:=bI (.p (g:=⟨M,fun _=>none,fun _=>none⟩) h1);have h2:=bI (.p (g:=⟨M,fun _=>none,fun _=>none⟩) h2);subst h1;subst h2;refine⟨.int .i64 (Ho l c),?_,.sc _ rfl⟩;have:=Go.Lib.run_indexByteString (P:=Tryz.prog) ⟨l.toArray⟩ (c.toNat:Int) w;rw[PZ]at this;exact this
theorem zj(l:List UInt8)(c:UInt8):aB Tryz.prog 345 [.str l,.sc (.int .u8 c.toNat)] (.int (Ho l c)):=by
 refine QpQ (ys:=[_]) [] [] [] Tryz.func345 rfl (by simp[Tryz.ntmps345]) ?_;simp;refine LC (Ww l c) (by simp) ?_;simp[Tryz.results345]
theorem LD(l:List UInt8)(c:UInt8):aB Tryz.prog 303 [.str l,.sc (.int .u8 c.toNat)] (.int (Ho l c)):=by
 refine QpQ (ys:=[_]) [] [] [] Tryz.func303 rfl (by simp[Tryz.ntmps303]) ?_;simp;refine ai (zj l c) (by simp) ?_;simp[Tryz.results303]
theorem LF(c:UInt8):Ho [c] c=0:=by simp[Ho,Go.Lib.indexByte]
theorem LG(l:List UInt8)(c:UInt8):aB Tryz.prog 293 [.str l,.str [c]] (.int (Ho l c)):=by
 refine QpQ (ys:=[_]) [] [] [] Tryz.func293 rfl (by simp[Tryz.ntmps293]) ?_;by_cases h:[c]=l
 ·subst h;simp[Tryz.results293,LF]
 ·have hd:([c]==l)=false:=by simpa using h
  simp[hd];refine ai (zj l c) (by simp) ?_;simp[Tryz.results293]
theorem KB(l:List UInt8)(c:UInt8):aB Tryz.prog 216 [.str l,.str [c]] (.int (Ho l c)):=by
 refine QpQ (ys:=[_]) [] [] [] Tryz.func216 rfl (by simp[Tryz.ntmps216]) ?_;simp;refine ai (LG l c) (by simp) ?_;simp[Tryz.results216]
def P1(c:UInt8):Bool:=(decide (97<=c.toNat)&&decide (c.toNat<=122))||((decide (65<=c.toNat)&&decide (c.toNat<=90))||(decide (48<=c.toNat)&&decide (c.toNat<=57)))
def LH(c:UInt8):Bool:=(decide (32<=c.toNat)&&!decide (c.toNat=127))||decide (c.toNat=9)
def marks:List UInt8:=[33,35,36,37,38,39,42,43,45,46,94,95,96,124,126]
def BT(c:UInt8):Bool:=P1 c||decide (0<=Ho marks c)
theorem LI(c:UInt8):aB Tryz.prog 302 [oc c] (.bool (P1 c)):=by
 refine QpQ (ys:=[_]) [] [] [] Tryz.func302 rfl (by simp[Tryz.ntmps302]) ?_;unfold P1 oc;generalize c.toNat=k;by_cases a1:97<=k
 ·have b1:(97:Int)<=(k:Int):=by omega
  by_cases a2:k<=122
  ·have b2:(k:Int)<=122:=by omega
   simp[a1,a2,b1,b2,Tryz.results302]
  ·have b2:¬(k:Int)<=122:=by omega
   have b3:(65:Int)<=(k:Int):=by omega
   have b4:¬(k:Int)<=90:=by omega
   have b5:(48:Int)<=(k:Int):=by omega
   have b6:¬(k:Int)<=57:=by omega
   simp[a1,a2,b1,b2,b3,b4,b5,b6,show 65<=k by omega,show¬k<=90 by omega,show 48<=k by omega,show¬k<=57 by omega,Tryz.results302]
 ·have b1:¬(97:Int)<=(k:Int):=by omega
  by_cases a3:65<=k
  ·have b3:(65:Int)<=(k:Int):=by omega
   by_cases a4:k<=90
   ·have b4:(k:Int)<=90:=by omega
    simp[a1,a3,a4,b1,b3,b4,Tryz.results302]
   ·have b4:¬(k:Int)<=90:=by omega
    have b5:(48:Int)<=(k:Int):=by omega
    have b6:¬(k:Int)<=57:=by omega
    simp[a1,a3,a4,b1,b3,b4,b5,b6,show 48<=k by omega,show¬k<=57 by omega,Tryz.results302]
  ·have b3:¬(65:Int)<=(k:Int):=by omega
   by_cases a5:48<=k
   ·have b5:(48:Int)<=(k:Int):=by omega
    by_cases a6:k<=57
    ·have b6:(k:Int)<=57:=by omega
     simp[a1,a3,a5,a6,b1,b3,b5,b6,Tryz.results302]
    ·have b6:¬(k:Int)<=57:=by omega
     simp[a1,a3,a5,a6,b1,b3,b5,b6,Tryz.results302]
   ·have b5:¬(48:Int)<=(k:Int):=by omega
    simp[a1,a3,a5,b1,b3,b5,Tryz.results302]
theorem P2(c:UInt8):aB Tryz.prog 349 [oc c] (.bool (LH c)):=by
 refine QpQ (ys:=[_]) [] [] [] Tryz.func349 rfl (by simp[Tryz.ntmps349]) ?_;unfold LH oc;generalize c.toNat=k;by_cases a1:32<=k
 ·have b1:(32:Int)<=(k:Int):=by omega
  by_cases a2:k=127
  ·subst a2;simp[Tryz.results349]
  ·have b2:((k:Int) !=127)=true:=by simp;omega
   simp[a1,a2,b1,b2,Tryz.results349]
 ·have b1:¬(32:Int)<=(k:Int):=by omega
  by_cases a3:k=9
  ·subst a3;simp[Tryz.results349]
  ·have b3:((k:Int)==9)=false:=by simp;omega
   simp[a1,a3,b1,b3,Tryz.results349]
theorem ag3(c:UInt8):aB Tryz.prog 301 [oc c] (.bool (BT c)):=by
 refine QpQ (ys:=[_]) [] [] [] Tryz.func301 rfl (by simp[Tryz.ntmps301]) ?_;unfold BT;simp;refine ai (LI c) (by simp) ?_;cases P1 c with
 |true=>simp[Tryz.results301]
 |false=>
  simp;refine ai (LD marks c) (by simp[marks]) ?_;simp[Tryz.results301]
theorem Uc{g:FuncId}(q:UInt8->Bool)(l:List UInt8)(hl:l.length<=1000000000)(hq:∀c,aB Tryz.prog g [oc c] (.bool (q c))):aB Tryz.prog 300 [.str l,.fn (.func g) []] (.bool (l.all q)):=by
 refine QpQ (ys:=[_]) [] [] [] Tryz.func300 rfl (by simp[Tryz.ntmps300]) ?_;simp;refine bW (fun k:Nat=>k<=l.length/\l.all q=(l.drop k).all q) (fun k=>[(0,.p (.str l)),(1,.p (.fn (.func g) [])),(7,.p (.int l.length)),(8,.p (.int k))]) (fun k=>l.length-k) 0 (by simp) (aA (by simp)) ?_;rintro k ⟨h1,h2⟩;by_cases c:k<l.length
 ·rw[List.drop_eq_getElem_cons c,List.all_cons]at h2;simp[c];refine ai (hq l[k]) (by simp) ?_;cases hz:q l[k]with
  |true=>
   rw[hz]at h2;simp;refine⟨k+1,⟨by omega,by simpa using h2⟩,by omega,aA ?_⟩;simp[af (n:=(k:Int)+1) (by omega) (by omega)]
  |false=>
   rw[hz,Bool.false_and]at h2;simp[h2,Tryz.results300]
 ·obtain rfl:k=l.length:=by omega
  rw[List.drop_length,List.all_nil]at h2;simp[h2,Tryz.results300]
theorem Ag(l:List UInt8)(hl:l.length<=1000000000):aB Tryz.prog 220 [.str l] (.bool (decide (l≠[])&&l.all BT)):=by
 refine QpQ (ys:=[_]) [] [] [] Tryz.func220 rfl (by simp[Tryz.ntmps220]) ?_;by_cases h:l=[]
 ·subst h;simp[Tryz.results220]
 ·have hd:(l !=[])=true:=by simpa using h
  simp[h,hd];refine ai (Uc BT l hl ag3) (by simp) ?_;simp[Tryz.results220]
end Go.Av
namespace Go.Proofs
open Go.Shelf
def Tryz.uE:Go.Shelf.Ren:=⟨fun|227=>394|n=>n,fun|9=>9|116=>474|4=>4|0=>0|3=>3|5=>5|n=>n,fun|n=>n⟩
theorem Tryz.Pt:Go.Proofs.Lays.n227 Tryz.prog Tryz.uE:={
 mixed:=by kernel_rfl
 f227:=Tryz.func394.trans (congrArg some (by kernel_rfl))
 t0:=Tryz.underlying0
 a0:=Tryz.isAgg0
 z0:=Tryz.sizeOf0
 v0:=Tryz.zeroValue0
 t3:=Tryz.underlying3
 a3:=Tryz.isAgg3
 z3:=Tryz.sizeOf3
 v3:=Tryz.zeroValue3
 t4:=Tryz.underlying4
 a4:=Tryz.isAgg4
 z4:=Tryz.sizeOf4
 v4:=Tryz.zeroValue4
 t5:=Tryz.underlying5
 a5:=Tryz.isAgg5
 z5:=Tryz.sizeOf5
 v5:=Tryz.zeroValue5
 t9:=Tryz.underlying9
 a9:=Tryz.isAgg9
 z9:=Tryz.sizeOf9
 v9:=Tryz.zeroValue9
 t116:=Tryz.underlying474
 a116:=Tryz.isAgg474
 z116:=Tryz.sizeOf474}
end Go.Proofs
namespace Go.Av
open Go.Proofs Go.RowKit Go.Shelf
def Bf(c:UInt8):Bool:=decide (33<=c.toNat)&&decide (c.toNat<=126)
def Ef(l:List UInt8):Bool:=decide (l≠[])&&l.all Bf
theorem HO(l:List UInt8)(hl:l.length<=1000000000):aB Tryz.prog 294 [.str l] (.bool (Ef l)):=by
 refine QpQ (ys:=[_]) [] [] [] Tryz.func294 rfl (by simp[Tryz.ntmps294]) ?_;simp;refine bW (fun k:Nat=>k<=l.length/\l.all Bf=(l.drop k).all Bf) (fun k=>[(0,.p (.str l)),(5,.p (.int l.length)),(6,.p (.int k))]) (fun k=>l.length-k) 0 (by simp) (aA (by simp)) ?_;rintro k ⟨h1,h2⟩;by_cases c:k<l.length
 ·rw[List.drop_eq_getElem_cons c,List.all_cons]at h2;have hne:l≠[]:=by intro h;subst h;simp at c
  by_cases a1:l[k].toNat<=32
  ·have b1:(l[k].toNat:Int)<=32:=by omega
   have hv:Bf l[k]=false:=by unfold Bf;simp;omega
   rw[hv,Bool.false_and]at h2;simp[c,b1,Tryz.results294,Ef,h2]
  ·have b1:¬(l[k].toNat:Int)<=32:=by omega
   by_cases a2:127<=l[k].toNat
   ·have b2:(127:Int)<=(l[k].toNat:Int):=by omega
    have hv:Bf l[k]=false:=by unfold Bf;simp;omega
    rw[hv,Bool.false_and]at h2;simp[c,b1,b2,Tryz.results294,Ef,h2]
   ·have b2:¬(127:Int)<=(l[k].toNat:Int):=by omega
    have hv:Bf l[k]=true:=by unfold Bf;simp;omega
    rw[hv,Bool.true_and]at h2;simp[c,b1,b2];refine⟨k+1,⟨by omega,h2⟩,by omega,aA ?_⟩;simp[af (n:=(k:Int)+1) (by omega) (by omega)]
 ·obtain rfl:k=l.length:=by omega
  rw[List.drop_length,List.all_nil]at h2;by_cases hne:l=[]
  ·subst hne;simp[Tryz.results294,Ef]
  ·have hd:(l !=[])=true:=by simpa using hne
   simp[Tryz.results294,Ef,h2,hne,hd]
def ua:List PC:=(List.range 256).map fun c=> .sc (.bool (decide (c=32\/c=9)))
theorem IU:(Lib.setCells [32,9]).toList=(List.range 256).map fun c=>Value.bool (decide (c=32\/c=9)):=by kernel_rfl
theorem C4{M:Mem}{w w':World}(h:fT w M)(hB:Below w.heap.size w w'):fT w' M:=⟨fun b o v e=>by
 have hlt:=h.lt e;rw[hB.cell (p:=⟨b,o,none⟩) hlt];exact h b o v e,h.g⟩
theorem yf{M:Mem}(f:Nat->Bool):∀l:List Nat,cP M (l.map fun c=>Value.bool (f c)) (l.map fun c=>PC.sc (.bool (f c)))
 |[]=> .nil
 |a::l=> .cons (.sc _ rfl) (yf f l)
theorem oU{M:Mem}(f:Nat->Bool):∀{l:List Nat} {us:List Value},cP M us (l.map fun c=>PC.sc (.bool (f c)))->us=l.map fun c=>Value.bool (f c)
 |[],_,.nil=>rfl
 |a::l,_,.cons h hs=>by
  cases h;rw[oU f hs];rfl
theorem ET:aB Tryz.prog 394 [.str [32,9]] (.tp [.agg false ua,.bool true]):=by
 refine⟨⟨_,Tryz.func394,by kernel_rfl,by kernel_rfl⟩,fun M w vs hH hr=>?_⟩;cases hr with
 |cons h hs=>
  cases hs;cases h;have hi:(Tryz.prog.info? (Tryz.uE.t 116)).map (fun i=>(i.zero,i.size))=some (some (.agg (Array.replicate 256 (.bool false))),256):=by kernel_rfl
  refine(Any.strings_makeASCIISet Tryz.Pt (zero_of_info hi).1 (zero_of_info hi).2 ⟨#[32,9]⟩ w (by decide) (fun j b e=>?_)).mono fun e w' ⟨h1,h2⟩=>?_
  ·match j,e with
   |0,e=>cases e;decide
   |1,e=>cases e;decide
   |j+2,e=>cases e
  ·have hB:Below w.heap.size w w':=by rw[h2];exact(Below.refl _ _).alloc (Nat.le_refl _) _
   refine⟨_,M,h1,?_,C4 hH hB,Mem.le_refl _,fun _ _=>rfl,hB⟩;have e1:(Value.agg (Lib.setCells (ByteArray.mk #[32,9]).data.toList))= .agg ((List.range 256).map fun c=>Value.bool (decide (c=32\/c=9))).toArray:=by
    exact congrArg Value.agg (Array.ext' (IU.trans List.toList_toArray.symm))
   rw[e1];refine gB.o4 (vs:=[_,_]) (.cons (.agg (yf _ _) ?_) (.cons (.sc _ rfl) .nil));intro v hv;obtain⟨c,_,rfl⟩:=List.mem_map.1 hv;rfl
theorem Bg(b off:Nat)(x:UInt8)(v:Bool)(w:World)(hc:w.cell? ⟨b,off+x.toNat,none⟩=some (.bool v)):Calls Tryz.prog 402 #[.pointer (some ⟨b,off,none⟩),.int .u8 x.toNat] w fun e w'=>e= .returned (.bool v)/\w'=w:=by
 have apv:(x.toNat:Int)<256:=by have:=UInt8.toNat_lt x;omega
 go_enter Tryz.func402,Tryz.ntmps402
 go_wp2
 go_ret
 exact⟨rfl,rfl⟩
def SB(c:UInt8):Bool:=decide (c.toNat=32\/c.toNat=9)
theorem uS(x:UInt8):aB Tryz.prog 402 [.ref (.agg false ua),oc x] (.bool (SB x)):=by
 refine⟨⟨_,Tryz.func402,by kernel_rfl,by kernel_rfl⟩,fun M w vs hH hr=>?_⟩;cases hr with
 |cons h hs=>
  cases hs with
  |cons h2 hs=>
  cases hs;cases h2;cases h with
  |ref dS h=>
   rename_i b off u;have hx:=UInt8.toNat_lt x;have hcell:w.cell? ⟨b,off+x.toNat,none⟩=some (.bool (SB x)):=by
    refine hH _ _ _ (dS x.toNat _ ?_);cases h with
    |agg hs h1=>
     rename_i us;have e:us=(List.range 256).map fun c=>Value.bool (decide (c=32\/c=9)):=oU _ hs;subst e;show((List.range 256).map fun c=>Value.bool (decide (c=32\/c=9)))[x.toNat]?=some (.bool (SB x));rw[List.getElem?_map,List.getElem?_range hx];rfl
   refine(Bg b off x _ w hcell).mono fun e w' ⟨h1,h2⟩=>?_;subst h2;exact⟨_,M,h1,.sc _ rfl,hH,Mem.le_refl _,fun _ _=>rfl,Below.refl _ _⟩
def xW(l:List UInt8):List UInt8:=l.dropWhile SB
def nM(l:List UInt8):List UInt8:=(l.reverse.dropWhile SB).reverse
def CY(l:List UInt8):List UInt8:=xW (nM l)
theorem ES(l:List UInt8)(a:UInt8):nM (l++[a])=if SB a=true then nM l else l++[a]:=by
 unfold nM;rw[List.reverse_append,List.reverse_singleton,List.singleton_append,List.dropWhile_cons];split
 ·rfl
 ·simp
theorem M_(l:List UInt8):(nM l).length<=l.length:=by
 unfold nM;rw[List.length_reverse];have:=(List.dropWhile_sublist (l:=l.reverse) SB).length_le;simpa using this
theorem M9(l:List UInt8)(hl:l.length<=1000000000):aB Tryz.prog 395 [.str l,.ref (.agg false ua)] (.str (xW l)):=by
 refine QpQ (ys:=[_]) [] [] [] Tryz.func395 rfl (by simp[Tryz.ntmps395]) ?_;simp;refine bW (fun s:List UInt8=>s.length<=l.length/\xW l=xW s) (fun s=>[(0,.p (.str s)),(1,.p (.ref (.agg false ua)))]) (fun s=>s.length) l (by simp) (aA (by simp)) ?_;rintro s ⟨h1,h2⟩;cases s with
 |nil=>rw[h2];simp[Tryz.results395,xW]
 |cons a s=>
  rw[h2];have hd:(0:Int)<((s.length:Int)+1):=by omega
  simp[hd];refine ai (uS a) (by simp) ?_;unfold xW;rw[List.dropWhile_cons];cases hb:SB a with
  |false=>simp[Tryz.results395]
  |true=>
   simp;refine⟨s,⟨by simp at h1;omega,?_⟩,by simp,aA ?_⟩
   ·first|rfl|simp
   ·simp
end Go.Av
namespace Go.Av
open Go.Proofs
theorem M3{l:List PC}(h:∀x∈l,gu x=[x]):l.flatMap gu=l:=by
 induction l with
 |nil=>rfl
 |cons x l ih=>rw[List.flatMap_cons,h x (by simp),ih fun y hy=>h y (by simp[hy])];rfl
theorem M4(l:List UInt8)(hl:l.length<=1000000000):aB Tryz.prog 396 [.str l,.ref (.agg false ua)] (.str (nM l)):=by
 refine QpQ (ys:=[_]) [] [] [] Tryz.func396 rfl (by simp[Tryz.ntmps396]) ?_;simp;obtain⟨r,hr⟩:∃r,r=nM l:=⟨_,rfl⟩;rw[<-hr];refine bW (fun k:Nat=>k<=l.length/\r=nM (l.take k)) (fun k=>[(0,.p (.str (l.take k))),(1,.p (.ref (.agg false ua)))]) (fun k=>k) l.length (by simp[hr]) (aA (by simp)) ?_;rintro k ⟨h1,h2⟩;have hm:min k l.length=k:=Nat.min_eq_left h1;cases k with
 |zero=>rw[h2];simp[Tryz.results396,nM]
 |succ k=>
  have hk:k<l.length:=by omega
  have hd:(0:Int)<((k:Int)+1):=by omega
  have w1:IntKind.i64.wrap (k:Int)=(k:Int):=af (by omega) (by omega);have hsp:l.take (k+1)=l.take k++[l[k]]:=List.take_succ_eq_append_getElem hk;have hb:=ES (l.take k) l[k];rw[<-hsp,<-h2]at hb;simp[hm,hd,w1];refine ai (uS l[k]) (by simp) ?_;cases hz:SB l[k]with
  |false=>
   rw[hz]at hb;simp at hb;simp[hb,Tryz.results396]
  |true=>
   rw[hz]at hb;simp at hb;simp[hm,w1];refine⟨k,⟨by omega,hb⟩,by omega,aA ?_⟩;simp[List.take_take]
   try omega
theorem M5{bx:List (Nat×Ob)}{k:Nat}(x:PC):cQ bx (k+1) (.p x) x:=by
 unfold cQ;exact⟨x,rfl,.inl rfl⟩
theorem M6{bx:List (Nat×Ob)}{k:Nat}:∀l:List PC,ie (cQ bx (k+1)) (l.map .p) l
 |[]=>trivial
 |x::l=>⟨M5 x,M6 l⟩
theorem M7:ua.length=256:=by simp[ua]
def f256:List PC:=List.replicate 256 (.sc (.bool false))
theorem CX:f256.length=256:=List.length_replicate
theorem M8:bJ Tryz.prog 474=some f256:=by kernel_rfl
theorem IE:(f256.map AV.p).drop 256=[]:=List.drop_of_length_le (by rw[List.length_map,CX];exact Nat.le_refl _)
theorem SC(l:List UInt8)(hl:l.length<=1000000000):aB Tryz.prog 379 [.str l,.str [32,9]] (.str (CY l)):=by
 refine QpQ (ys:=[_]) [] [] [] Tryz.func379 rfl (by simp[Tryz.ntmps379]) ?_;by_cases h:l=[]
 ·subst h;simp[Tryz.results379,CY,nM,xW]
 ·have hd:(l==[])=false:=by simpa using h
  simp[hd];refine ai ET (by simp) ?_;simp[M8,CX,M7,IE];have bo:∀k:Nat,cQ [(0,({el:=474,sz:=256,xs:=ua.map AV.p}:Ob))] (k+2) (.obj 0 0) (.ref (.agg false ua)):=fun k=>by
   refine⟨_,rfl,by simp,?_⟩;simp only[List.drop_zero];have e:(ua.map AV.p).take ua.length=ua.map AV.p:=List.take_of_length_le (by simp);rw[e];exact M6 _
  refine bE (M4 l hl) ⟨M5 _,bo _,trivial⟩ rfl ?_;simp;refine bE (M9 (nM l) (Nat.le_trans (M_ l) hl)) ⟨M5 _,bo _,trivial⟩ rfl ?_;simp[CY,Tryz.results379]
theorem YU(l:List UInt8)(hl:l.length<=1000000000):aB Tryz.prog 350 [.str l] (.str (CY l)):=by
 refine QpQ (ys:=[_]) [] [] [] Tryz.func350 rfl (by simp[Tryz.ntmps350]) ?_;simp;refine ai (SC l hl) (by simp) ?_;simp[Tryz.results350]
def Kx(l:List UInt8):Bool:=l.all LH&&(CY l==l)
theorem FI(l:List UInt8)(hl:l.length<=1000000000):aB Tryz.prog 295 [.str l] (.bool (Kx l)):=by
 refine QpQ (ys:=[_]) [] [] [] Tryz.func295 rfl (by simp[Tryz.ntmps295]) ?_;simp;refine ai (Uc LH l hl P2) (by simp) ?_;unfold Kx;cases l.all LH with
 |false=>simp[Tryz.results295]
 |true=>
  simp;refine ai (YU l hl) (by simp) ?_;simp[Tryz.results295]
def ud(c:UInt8):UInt8:=if 65<=c.toNat/\c.toNat<=90 then c+32 else c
def B6(l:List UInt8):List UInt8:=l.map ud
abbrev Na(l:List UInt8):Ob:=⟨1000005,1,(ah l).map .p⟩
def nZ(l:List UInt8)(k:Nat):List UInt8:=(l.take k).map ud++l.drop k
theorem zD{n:Int}(h0:0<=n)(h1:n<=255):IntKind.u8.wrap n=n:=by
 have e1:IntKind.u8.bits=8:=rfl;simp[IntKind.wrap,e1]
 try (have e2:IntKind.u8.signed=false:=rfl)
 try simp[e2]
 omega
theorem Nb(l:List UInt8)(k:Nat):(nZ l k).length=l.length:=by simp[nZ];omega
theorem SD(l:List UInt8)(k:Nat)(h:k<l.length):(nZ l k)[k]?=some l[k]:=by
 unfold nZ;rw[List.getElem?_append_right (by simp;omega)];simp[Nat.min_eq_left (Nat.le_of_lt h),h]
theorem Nc(l:List UInt8)(k:Nat)(h:k<l.length):(nZ l k).set k (ud l[k])=nZ l (k+1):=by
 unfold nZ;rw[List.set_append_right _ _ (by simp;omega)];have e:((l.take k).map ud).length=k:=by simp;omega
 rw[e,Nat.sub_self,List.drop_eq_getElem_cons h,List.set_cons_zero,List.take_succ_eq_append_getElem h,List.map_append,List.append_assoc];rfl
theorem Nf(c:UInt8)(h1:65<=c.toNat)(h2:c.toNat<=90):(ud c).toNat=c.toNat+32:=by
 unfold ud;rw[if_pos ⟨h1,h2⟩,UInt8.toNat_add];have:(32:UInt8).toNat=32:=rfl;rw[this];omega
theorem SE{bx:List (Nat×Ob)}{k id n:Nat}{c:Option Nat}{L M:List UInt8}(hn:n=L.length)(h:lk id bx=some (Na (L++M))):cQ bx (k+1) (.view id 0 n 1 c) (.sl (ah L)):=by
 refine⟨_,h,by omega,by simp[hn],by simp[hn],?_,?_,?_⟩
 ·rw[qR,M3 (fun x hx=>by simp only[ah,List.mem_map]at hx;obtain⟨_,_,rfl⟩:=hx;rfl)];subst hn;simp[ah]
  try (rw[List.take_append_of_le_length (by simp)];exact List.take_of_length_le (by simp))
 ·intro y hy;simp only[ah,List.mem_map]at hy;obtain⟨e,_,rfl⟩:=hy;rfl
 ·intro y hy;simp only[ah,List.mem_map]at hy;obtain⟨e,_,rfl⟩:=hy;rfl
theorem Px(l:List UInt8)(hl:l.length<=1000000000):aB Tryz.prog 221 [.str l] (.str (B6 l)):=by
 refine QpQ (ys:=[_]) [7] [] [] Tryz.func221 rfl (by simp[Tryz.ntmps221]) ?_;simp;refine⟨by omega,?_⟩;refine aN (fun k:Nat=>k<=l.length) (fun k=>[(3,.view 0 0 l.length 1 none),(8,.view 0 0 l.length 1 none),(9,.p (.int l.length)),(10,.p (.int k))]) (fun k=>⟨[(0,Na (nZ l k))],[],1⟩) (fun k=>l.length-k) 0 (by simp) _ (AS.le_refl _ _) (aA (by simp[nZ])) ?_;rintro k h1;have hlen:=Nb l k;by_cases c:k<l.length
 ·have dS:=SD l k c;have hg:(nZ l k)[k]'(by omega)=l[k]:=by
   have:=List.getElem?_eq_getElem (l:=nZ l k) (i:=k) (by omega);rw[dS]at this;injection this with this;exact this.symm
  have hs:=Nc l k c;have hrow:∀v:UInt8,((ah (nZ l k)).map AV.p).take k++AV.p (oc v)::((ah (nZ l k)).map AV.p).drop (k+1)=(ah ((nZ l k).set k v)).map AV.p:=fun v=>by
   rw[<-List.map_take,<-List.map_drop];simp only[ah,<-List.map_take,<-List.map_drop];rw[List.set_eq_take_append_cons_drop,if_pos (by omega)];simp
  have hsame:ud l[k]=l[k]->nZ l (k+1)=nZ l k:=fun e=>by
   rw[<-hs,e,<-hg];exact List.set_getElem_self _
  by_cases a1:65<=l[k].toNat
  ·have b1:(65:Int)<=(l[k].toNat:Int):=by omega
   by_cases a2:l[k].toNat<=90
   ·have b2:(l[k].toNat:Int)<=90:=by omega
    have w1:IntKind.u8.wrap ((l[k].toNat:Int)+97)=(l[k].toNat:Int)+97:=zD (by omega) (by omega);have w2:IntKind.u8.wrap ((l[k].toNat:Int)+97-65)=((ud l[k]).toNat:Int):=by
     rw[zD (by omega) (by omega),Nf _ a1 a2];omega
    simp[c,hlen,cM,hg,b1,b2,w1,w2];refine⟨by omega,k+1,by omega,by omega,aA ?_⟩;simp[af (n:=(k:Int)+1) (by omega) (by omega)];rw[<-hs];have hr:=hrow (ud l[k]);unfold oc at hr;rw[hr];exact List.prefix_refl _
   ·have b2:¬(l[k].toNat:Int)<=90:=by omega
    have hl':ud l[k]=l[k]:=by unfold ud;rw[if_neg (by omega)]
    simp[c,hlen,cM,hg,b1,b2];refine⟨k+1,by omega,by omega,aA ?_⟩;simp[af (n:=(k:Int)+1) (by omega) (by omega),hsame hl']
  ·have b1:¬(65:Int)<=(l[k].toNat:Int):=by omega
   have hl':ud l[k]=l[k]:=by unfold ud;rw[if_neg (by omega)]
   simp[c,hlen,cM,hg,b1];refine⟨k+1,by omega,by omega,aA ?_⟩;simp[af (n:=(k:Int)+1) (by omega) (by omega),hsame hl']
 ·obtain rfl:k=l.length:=by omega
  simp;have hM:nZ l l.length=B6 l:=by simp[nZ,B6]
  refine T8 (B6 l) (by simp) (by simp) ?_ ?_
  ·rw[hM];exact SE (M:=[]) (by simp[B6]) (by simp[lk])
  ·simp[Tryz.results221]
structure Pf where
 m:List UInt8
 t:List UInt8
 st:Int
 r:List UInt8
 mi:Int
def Lr:Pf:=⟨[],[],0,[],0⟩
abbrev stP(s:Pf):PC:= .agg false [.str s.m,.str s.t,.int s.st,.str s.r,.int s.mi]
def Pe(l:List UInt8):Bool:=decide (l≠[])&&l.all BT
def FG(s:Pf):Bool:=Pe s.m&&(decide (s.m.length<=32)&&(Ef s.t&&(decide (s.t.length<=8000)&&(decide (s.st=0)&&(s.r==[])))))
def FH(s:Pf):Bool:=(s.m==[])&&((s.t==[])&&(decide (100<=s.st)&&(decide (s.st<=999)&&(Kx s.r&&decide (s.r.length<=200)))))
theorem VX(s:Pf)(hm:s.m.length<=1000000000)(ht:s.t.length<=1000000000):aB Tryz.prog 217 [stP s] (.bool (FG s)):=by
 refine QpQ (ys:=[_]) [] [] [] Tryz.func217 rfl (by simp[Tryz.ntmps217]) ?_;obtain⟨m,t,st,r,mi⟩:=s;simp only at hm ht;simp only[stP,FG];simp;refine ai (Ag m hm) (by simp) ?_;rw[show(decide (m≠[])&&m.all BT)=Pe m from rfl];cases h1:Pe m with
 |false=>simp[Tryz.results217]
 |true=>
 by_cases h2:m.length<=32
 case neg=>
  have d2:¬(m.length:Int)<=32:=by omega
  simp[h2,d2,Tryz.results217]
 have d2:(m.length:Int)<=32:=by omega
 simp[h2,d2];refine ai (HO t ht) (by simp) ?_;cases h3:Ef t with
 |false=>simp[Tryz.results217]
 |true=>
 by_cases h4:t.length<=8000
 case neg=>
  have d4:¬(t.length:Int)<=8000:=by omega
  simp[h4,d4,Tryz.results217]
 have d4:(t.length:Int)<=8000:=by omega
 by_cases h5:st=0
 case neg=>
  have d5:(st==0)=false:=by simpa using h5
  simp[h4,d4,h5,d5,Tryz.results217]
 subst h5;simp[h4,d4,Tryz.results217]
theorem Hj(s:Pf)(hr:s.r.length<=1000000000):aB Tryz.prog 218 [stP s] (.bool (FH s)):=by
 refine QpQ (ys:=[_]) [] [] [] Tryz.func218 rfl (by simp[Tryz.ntmps218]) ?_;obtain⟨m,t,st,r,mi⟩:=s;simp only at hr;simp only[stP,FH];simp;by_cases h1:m=[]
 case neg=>
  have d1:m.isEmpty=false:=by simpa using h1
  simp[d1,Tryz.results218]
 subst h1;by_cases h2:t=[]
 case neg=>
  have d1:t.isEmpty=false:=by simpa using h2
  simp[d1,Tryz.results218]
 subst h2;by_cases h3:100<=st
 case neg=>simp[h3,Tryz.results218]
 by_cases h4:st<=999
 case neg=>simp[h3,h4,Tryz.results218]
 simp[h3,h4];refine ai (FI r hr) (by simp) ?_;cases h5:Kx r with
 |false=>simp[Tryz.results218]
 |true=>
 by_cases h6:r.length<=200
 ·have d6:(r.length:Int)<=200:=by omega
  simp[h6,d6,Tryz.results218]
 ·have d6:¬(r.length:Int)<=200:=by omega
  simp[h6,d6,Tryz.results218]
end Go.Av
namespace Go.aW
open Go.Av
def Hg(f:Go.Av.Fd):Bool:=Pe f.1&&Kx f.2
def wO(fs:List Go.Av.Fd):Nat:=(fs.map fun f=>f.1.length+f.2.length+4).sum+2
def Hh(fs:List Go.Av.Fd):Int:=if fs.any (fun f=>!Hg f)=true then 10 else if 128<fs.length then 13 else if 65536<wO fs then 12 else 0
def yC(n m:Int):Bool:=decide (0<=n)&&decide (n<=m)
def Ky(n:Int):Int:=if n<1 then 0 else(n-1)/64+1
end Go.aW
namespace Go.Av
open Go.Proofs Go.aW
def Kz(s:Pf):Bool:=(decide (s.mi=0)||decide (s.mi=1))&&(FG s||FH s)
theorem KA(s:Pf)(hm:s.m.length<=1000000000)(ht:s.t.length<=1000000000)(hr:s.r.length<=1000000000):aB Tryz.prog 138 [stP s] (.bool (Kz s)):=by
 refine QpQ (ys:=[_]) [] [] [] Tryz.func138 rfl (by simp[Tryz.ntmps138]) ?_;unfold Kz;have hA:=VX s hm ht;have hB:=Hj s hr;generalize FG s=A at*;generalize FH s=B at*;obtain⟨m,t,st,r,mi⟩:=s;simp only[stP]at hA hB⊢;by_cases c1:mi=0
 ·subst c1;simp;refine ai hA (by simp) ?_;cases A with
  |true=>simp[Tryz.results138]
  |false=>
   simp;refine ai hB (by simp) ?_;simp[Tryz.results138]
 have d1:(mi==0)=false:=by simpa using c1
 by_cases c2:mi=1
 ·subst c2;simp;refine ai hA (by simp) ?_;cases A with
  |true=>simp[Tryz.results138]
  |false=>
   simp;refine ai hB (by simp) ?_;simp[Tryz.results138]
 have d2:(mi==1)=false:=by simpa using c2
 simp[c1,c2,d1,d2,Tryz.results138]
theorem Hl(f:Go.Av.Fd)(h1:f.1.length<=1000000000)(h2:f.2.length<=1000000000):aB Tryz.prog 298 [pQ f] (.bool (Hg f)):=by
 refine QpQ (ys:=[_]) [] [] [] Tryz.func298 rfl (by simp[Tryz.ntmps298]) ?_;simp;refine ai (Ag f.1 h1) (by simp) ?_;rw[show(decide (f.1≠[])&&f.1.all BT)=Pe f.1 from rfl];unfold Hg;cases Pe f.1 with
 |false=>simp[Tryz.results298]
 |true=>
  simp;refine ai (FI f.2 h2) (by simp) ?_;simp[Tryz.results298]
theorem Pg(f:Go.Av.Fd)(h1:f.1.length<=1000000000)(h2:f.2.length<=1000000000):aB Tryz.prog 297 [pQ f] (.bool (!Hg f)):=by
 refine QpQ (ys:=[_]) [] [] [] Tryz.func297 rfl (by simp[Tryz.ntmps297]) ?_;simp;refine ai (Hl f h1 h2) (by simp) ?_;simp[Tryz.results297]
theorem BU(n m:Int):aB Tryz.prog 141 [.int n,.int m] (.bool (yC n m)):=by
 refine QpQ (ys:=[_]) [] [] [] Tryz.func141 rfl (by simp[Tryz.ntmps141]) ?_;unfold yC;by_cases c:0<=n
 ·simp[c,Tryz.results141]
 ·simp[c,Tryz.results141]
theorem D6(n:Int)(h:n<=1000000000):aB Tryz.prog 222 [.int n] (.int (Ky n)):=by
 refine QpQ (ys:=[_]) [] [] [] Tryz.func222 rfl (by simp[Tryz.ntmps222]) ?_;unfold Ky;by_cases c:n<1
 ·simp[c,Tryz.results222]
 ·have w1:IntKind.i64.wrap (n-1)=n-1:=af (by omega) (by omega);have w2:IntKind.i64.wrap ((n-1)/64)=(n-1)/64:=af (by omega) (by omega);have w3:IntKind.i64.wrap ((n-1)/64+1)=(n-1)/64+1:=af (by omega) (by omega);have w4:(n-1).tdiv 64=(n-1)/64:=Int.tdiv_eq_ediv_of_nonneg (by omega);simp[c,w1,w4,w2,w3,Tryz.results222]
theorem Fq(a b:List UInt8)(ha:a.length<=1000000000)(hb:b.length<=1000000000):aB Tryz.prog 64 [.str a,.str b] (.str (a++10::b)):=by
 refine QpQ (ys:=[_]) [] [] [] Tryz.func64 rfl (by simp[Tryz.ntmps64]) ?_;simp[Tryz.results64];omega
theorem BV(a:List UInt8)(c:UInt8):aB Tryz.prog 137 [.str a,.str [c]] (.bool (decide (0<=Ho a c))):=by
 refine QpQ (ys:=[_]) [] [] [] Tryz.func137 rfl (by simp[Tryz.ntmps137]) ?_;simp;refine ai (KB a c) (by simp) ?_;simp[Tryz.results137]
theorem KC(l:List Go.Av.Fd)(f:Go.Av.Fd):wO (l++[f])=wO l+(f.1.length+f.2.length+4):=by simp[wO];omega
theorem KD(l:List Go.Av.Fd)(k:Nat):wO (l.take k)<=wO l:=by
 have h:l.map (fun f=>f.1.length+f.2.length+4)=(l.take k).map (fun f=>f.1.length+f.2.length+4)++(l.drop k).map (fun f=>f.1.length+f.2.length+4):=by rw[<-List.map_append,List.take_append_drop]
 unfold wO;rw[h,List.sum_append];omega
theorem KE(l:List Go.Av.Fd)(hl:l.length<=1000000000)(hs:wO l<=1000000000000):aB Tryz.prog 299 [.sl (l.map pQ)] (.int (wO l)):=by
 refine QpQ (ys:=[_]) [] [] [] Tryz.func299 rfl (by simp[Tryz.ntmps299]) ?_;simp;refine bW (fun k:Nat=>k<=l.length) (fun k=>[(6,.p (.sl (l.map pQ))),(7,.p (.int l.length)),(8,.p (.int k)),(3,.p (.int (wO (l.take k))))]) (fun k=>l.length-k) 0 (by simp) (aA (by simp[wO])) ?_;intro k hk;by_cases ck:k<l.length
 ·have hts:wO (l.take (k+1))=wO (l.take k)+(l[k].1.length+l[k].2.length+4):=by rw[List.take_succ_eq_append_getElem ck,KC]
  have hle:=KD l (k+1);have wk:IntKind.i64.wrap ((k:Int)+1)=((k+1:Nat):Int):=by rw[af (by omega) (by omega)];rfl
  have w1:IntKind.i64.wrap ((l[k].1.length:Int)+l[k].2.length)=(l[k].1.length:Int)+l[k].2.length:=af (by omega) (by omega);have w2:IntKind.i64.wrap ((l[k].1.length:Int)+l[k].2.length+4)=(l[k].1.length:Int)+l[k].2.length+4:=af (by omega) (by omega);have w3:IntKind.i64.wrap ((wO (l.take k):Int)+((l[k].1.length:Int)+l[k].2.length+4))=(wO (l.take (k+1)):Int):=by rw[af (by omega) (by omega),hts];omega
  simp[ck,wk,w1,w2,w3];exact⟨k+1,by omega,by omega,aA (by simp)⟩
 ·obtain rfl:k=l.length:=by omega
  simp[Tryz.results299]
theorem Hp(l:List Go.Av.Fd)(hl:l.length<=1000000000)(hs:wO l<=1000000000)(hf:∀f∈l,f.1.length<=1000000000/\f.2.length<=1000000000):aB Tryz.prog 219 [.sl (l.map pQ)] (.int (Hh l)):=by
 have hA:=VY 297 [] (fun f=>!Hg f) l (by omega) (fun x hx=>Pg x (hf x hx).1 (hf x hx).2);unfold Hh;generalize(l.any fun f=>!Hg f)=B at hA⊢;refine QpQ (ys:=[_]) [] [] [] Tryz.func219 rfl (by simp[Tryz.ntmps219]) ?_;simp;refine ai hA (by simp) ?_;cases B with
 |true=>simp[Tryz.results219]
 |false=>
  by_cases c2:128<l.length
  ·have dX:(128:Int)<l.length:=by omega
   simp[c2,dX,Tryz.results219]
  have dX:¬(128:Int)<l.length:=by omega
  simp[c2,dX];refine ai (KE l hl (by omega)) (by simp) ?_;by_cases c3:65536<wO l
  ·have lq:(65536:Int)<wO l:=by omega
   simp[c3,lq,Tryz.results219]
  ·have lq:¬(65536:Int)<wO l:=by omega
   simp[c3,lq,Tryz.results219]
theorem KF(l:List Go.Av.Fd)(hl:l.length<=1000000000)(hs:wO l<=1000000000)(hf:∀f∈l,f.1.length<=1000000000/\f.2.length<=1000000000):aB Tryz.prog 139 [.sl (l.map pQ)] (.bool (Hh l==0)):=by
 refine QpQ (ys:=[_]) [] [] [] Tryz.func139 rfl (by simp[Tryz.ntmps139]) ?_;simp;refine ai (Hp l hl hs hf) (by simp) ?_;simp[Tryz.results139]
end Go.Av
namespace Go.aW
open Go.Av
def tq(e:Int×Int):Bool:=yC e.1 65536&&(decide (1<=e.2)&&decide (e.2<=65536-e.1))
def nV(l:List (Int×Int)):Int:=(l.map (·.2)).sum
def iY(l:List (Int×Int))(size:Int):Bool:=l.all tq&&(decide (l.length<=8)&&(nV l==Ky size))
theorem IF(l:List (Int×Int))(e:Int×Int):nV (l++[e])=nV l+e.2:=by simp[nV]
theorem Ng:∀(l:List (Int×Int)),(∀e∈l,tq e=true)->0<=nV l/\nV l<=65536*l.length
 |[],_=>by simp[nV]
 |e::l,h=>by
  have h1:=Ng l (fun x hx=>h x (by simp[hx]));have h2:=h e (by simp);unfold tq yC at h2;simp at h2;have:nV (e::l)=e.2+nV l:=by simp[nV]
  rw[this,List.length_cons];omega
end Go.aW
namespace Go.Av
open Go.Proofs Go.aW
abbrev gS(e:Int×Int):PC:= .agg false [.int e.1,.int e.2]
theorem HN(l:List (Int×Int))(size:Int)(hl:l.length<=1000000)(hs:size<=1000000000):aB Tryz.prog 142 [.sl (l.map gS),.int size] (.bool (iY l size)):=by
 refine QpQ (ys:=[_]) [] [] [] Tryz.func142 rfl (by simp[Tryz.ntmps142]) ?_;simp;refine bW (fun k:Nat=>k<=l.length/\∀e∈l.take k,tq e=true) (fun k=>[(0,.p (.sl (l.map gS))),(1,.p (.int size)),(8,.p (.sl (l.map gS))),(9,.p (.int l.length)),(10,.p (.int k)),(5,.p (.int (nV (l.take k))))]) (fun k=>l.length-k) 0 ⟨by simp,by simp⟩ (aA (by simp[nV])) ?_;rintro k ⟨hk,hall⟩;by_cases ck:k<l.length
 ·have hts:nV (l.take (k+1))=nV (l.take k)+l[k].2:=by rw[List.take_succ_eq_append_getElem ck,IF]
  have hb:=Ng _ hall;have mg:(l.take k).length<=1000000:=by simp;omega
  have wk:IntKind.i64.wrap ((k:Int)+1)=((k+1:Nat):Int):=by rw[af (by omega) (by omega)];rfl
  have hin:=BU l[k].1 65536;have hmem:l[k]∈l:=List.getElem_mem ck;have lZ:l.take (k+1)=l.take k++[l[k]]:=by rw[List.take_succ_eq_append_getElem ck]
  have bad:tq l[k]=false->iY l size=false:=fun h=>by
   have:l.all tq=false:=List.all_eq_false.2 ⟨_,hmem,by simp[h]⟩;unfold iY;rw[this];rfl
  obtain⟨e,he⟩:∃e,l[k]=e:=⟨_,rfl⟩;rw[he]at hts hin bad lZ;simp[ck,he];refine ai hin (by simp) ?_;cases c1:yC e.1 65536 with
  |false=>
   rw[bad (by unfold tq;rw[c1];rfl)];simp[Tryz.results142]
  |true=>
   have hr:0<=e.1/\e.1<=65536:=by unfold yC at c1;simpa using c1
   by_cases c2:e.2<1
   ·rw[bad (by unfold tq;rw[c1];simp;omega)];simp[c2,Tryz.results142]
   ·have w1:IntKind.i64.wrap (65536-e.1)=65536-e.1:=af (by omega) (by omega);by_cases c3:65536-e.1<e.2
    ·rw[bad (by unfold tq;rw[c1];simp;omega)];simp[c2,c3,w1,Tryz.results142]
    ·have ok:tq e=true:=by unfold tq;rw[c1];simp;omega
     have w2:IntKind.i64.wrap (nV (l.take k)+e.2)=nV (l.take (k+1)):=by rw[af (by omega) (by omega),hts]
     simp[c2,c3,w1,w2,wk];refine⟨k+1,⟨by omega,fun x y hx=>?_⟩,by omega,aA (by simp)⟩;rw[lZ]at hx;rcases List.mem_append.1 hx with hx|hx
     ·exact hall _ hx
     ·rw[List.mem_singleton.1 hx];exact ok
 ·obtain rfl:k=l.length:=by omega
  rw[List.take_length]at hall;have hal:l.all tq=true:=List.all_eq_true.2 hall;unfold iY;rw[hal];by_cases c1:l.length<=8
  ·have jH:(l.length:Int)<=8:=by omega
   simp[c1,jH];refine ai (D6 size hs) (by simp) ?_;simp[Tryz.results142]
  ·have jH:¬(l.length:Int)<=8:=by omega
   simp[c1,jH,Tryz.results142]
end Go.Av
namespace Go.aW
open Go.Av
def B5(l:List (List UInt8))(i:Nat):Bool:=Pe (l.getD i [])&&((B6 (l.getD i [])==l.getD i [])&&(decide (i=0)||Op.bytesLess (l.getD (i-1) []) (l.getD i [])))
def qp(l:List (List UInt8)):Bool:=(List.range l.length).all (B5 l)&&decide (l.length<=128)
end Go.aW
namespace Go.Av
open Go.Proofs Go.aW
theorem K8(l:List (List UInt8))(hl:l.length<=1000000)(h:∀s∈l,s.length<=1000000000):aB Tryz.prog 140 [.sl (l.map PC.str)] (.bool (qp l)):=by
 refine QpQ (ys:=[_]) [] [] [] Tryz.func140 rfl (by simp[Tryz.ntmps140]) ?_;simp;refine bW (fun k:Nat=>k<=l.length/\∀i,i<k->B5 l i=true) (fun k=>[(0,.p (.sl (l.map PC.str))),(5,.p (.sl (l.map PC.str))),(6,.p (.int l.length)),(7,.p (.int k))]) (fun k=>l.length-k) 0 ⟨by simp,by intro i hi;omega⟩ (aA (by simp)) ?_;rintro k ⟨hk,hall⟩;by_cases ck:k<l.length
 ·have wk:IntKind.i64.wrap ((k:Int)+1)=((k+1:Nat):Int):=by rw[af (by omega) (by omega)];rfl
  have V':=h _ (List.getElem_mem ck);have hgd:l.getD k []=l[k]:=by rw[List.getD_eq_getElem?_getD,List.getElem?_eq_getElem ck];rfl
  have bad:B5 l k=false->qp l=false:=fun e=>by
   have:(List.range l.length).all (B5 l)=false:=List.all_eq_false.2 ⟨k,List.mem_range.2 ck,by simp[e]⟩;unfold qp;rw[this];rfl
  have go:B5 l k=true->(k+1<=l.length/\∀i,i<k+1->B5 l i=true):=fun e=>⟨by omega,fun i hi=>by
   rcases Nat.lt_succ_iff_lt_or_eq.1 hi with hi|rfl
   ·exact hall i hi
   ·exact e⟩
  unfold B5 at bad go;rw[hgd]at bad go;obtain⟨s,hs⟩:∃s,l[k]=s:=⟨_,rfl⟩;rw[hs]at V' bad go;simp[ck,hs];refine ai (Ag s V') (by simp) ?_;rw[show(decide (s≠[])&&s.all BT)=Pe s from rfl];cases c1:Pe s with
  |false=>
   rw[bad (by rw[c1];rfl)];simp[Tryz.results140]
  |true=>
   simp;refine ai (Px s V') (by simp) ?_;by_cases c2:B6 s=s
   ·cases k with
    |zero=>
     have g:=go (by rw[c1,c2];simp);simp[c2,bne];exact⟨1,g,by omega,aA (by simp[af (n:=1) (by omega) (by omega)])⟩
    |succ j=>
     have wj:IntKind.i64.wrap (j:Int)=(j:Int):=af (by omega) (by omega);have hj:j<l.length:=by omega
     have hgj:l.getD j []=l[j]:=by rw[List.getD_eq_getElem?_getD,List.getElem?_eq_getElem hj];rfl
     rw[show j+1-1=j from rfl,hgj]at bad go;have p1:(0:Int)<(j:Int)+1:=by omega
     cases c3:Op.bytesLess l[j] s with
     |true=>
      have g:=go (by rw[c1,c2,c3];simp);simp[c2,bne,wj,hj,p1,c3];exact⟨j+1+1,g,by omega,aA (by simp[af (n:=(j:Int)+1+1) (by omega) (by omega)])⟩
     |false=>
      rw[bad (by rw[c1,c2,c3];simp)];simp[c2,bne,wj,hj,p1,c3,Tryz.results140]
   ·have dX:(B6 s==s)=false:=by simpa using c2
    rw[bad (by rw[c1,dX];simp)];simp[dX,bne,Tryz.results140]
 ·obtain rfl:k=l.length:=by omega
  have hal:(List.range l.length).all (B5 l)=true:=List.all_eq_true.2 (fun i hi=>hall i (List.mem_range.1 hi));unfold qp;rw[hal];by_cases c1:l.length<=128
  ·have jH:(l.length:Int)<=128:=by omega
   simp[c1,jH,Tryz.results140]
  ·have jH:¬(l.length:Int)<=128:=by omega
   simp[c1,jH,Tryz.results140]
end Go.Av
namespace Go.aW
open Go.Av
structure eG where
 uri:List UInt8
 names:List (List UInt8)
 var:List UInt8
 st:Pf
 fields:List Go.Av.Fd
 asked:Int
 got:Int
 order:Int
 size:Int
 sum:Nat
 body:List (Int×Int)
def eG.wW(e:eG):Bool:=decide (e.uri≠[])&&(decide (e.uri.length<=100)&&(!(decide (0<=Ho e.uri 10))&&decide ((e.uri++10::e.var).length<=100)))
def eG.rL(e:eG):Bool:=(!(e.st.st==0))&&(Kz e.st&&((Hh e.fields==0)&&qp e.names))
def eG.yH(e:eG):Bool:=yC e.asked 1099511627776&&(yC e.got 1099511627776&&(yC e.order 1152921504606846975&&yC e.size 1048576))
def eG.right(e:eG):Bool:=e.wW&&(e.rL&&(e.yH&&iY e.body e.size))
structure eG.Ok(e:eG):Prop where
 uri:e.uri.length<=1000000000
 var:e.var.length<=1000000000
 m:e.st.m.length<=1000000000
 t:e.st.t.length<=1000000000
 r:e.st.r.length<=1000000000
 fl:e.fields.length<=1000000000
 fs:wO e.fields<=1000000000
 ff:∀f∈e.fields,f.1.length<=1000000000/\f.2.length<=1000000000
 nl:e.names.length<=1000000
 ns:∀s∈e.names,s.length<=1000000000
 bl:e.body.length<=1000000
 sum:e.sum<4294967296
end Go.aW
namespace Go.Av
open Go.Proofs Go.aW
abbrev dY(e:eG):PC:= .agg false [.str e.uri,.sl (e.names.map PC.str),.str e.var,.str e.st.m,.str e.st.t,.int e.st.st,.str e.st.r,.int e.st.mi,.sl (e.fields.map pQ),.int e.asked,.int e.got,.int e.order,.int e.size,mz e.sum,.sl (e.body.map gS)]
theorem vz(e:eG)(h:e.Ok):aB Tryz.prog 54 [dY e] (.bool e.right):=by
 refine Ca (ys:=[_]) [] [] [] Tryz.func54 rfl (by kernel_rfl) (by kernel_rfl) (by simp[Tryz.ntmps54]) rfl ?_;refine bS mixed (fun _:Unit=>True) (fun _=>[(1,.p (.ref (dY e)))]) (fun _=>⟨[],[],0⟩) ?_ (fun _ _=>?_)
 ·simp;exact aA (by simp)
 refine bS mixed (fun _:Unit=>True) (fun _=>[(1,.p (.ref (dY e))),(3,.p (.bool e.wW))]) (fun _=>⟨[],[],0⟩) ?_ (fun _ _=>?_)
 ·have hC:=BV e.uri 10;have hK:=Fq e.uri e.var h.uri h.var;have sQ:(e.uri++10::e.var).length=e.uri.length+(e.var.length+1):=by simp
  have Ee:e.wW=(decide (e.uri≠[])&&(decide (e.uri.length<=100)&&(!(decide (0<=Ho e.uri 10))&&decide ((e.uri++10::e.var).length<=100)))):=rfl;generalize e.wW=B at Ee⊢;generalize(e.uri++10::e.var)=K at hK Ee sQ;by_cases c1:e.uri=[]
  ·have hB:B=false:=by rw[Ee];simp[c1]
   simp[c1,bne,hB];exact aA (by simp)
  have jH:(e.uri==[])=false:=by simpa using c1
  by_cases c2:e.uri.length<=100
  ·have dX:(e.uri.length:Int)<=100:=by omega
   simp[jH,bne,dX];refine ai hC (by simp) ?_;by_cases c3:0<=Ho e.uri 10
   ·have hB:B=false:=by rw[Ee];simp[c3]
    simp[c3,hB];exact aA (by simp)
   ·simp[c3];refine ai hK (by simp) ?_;by_cases c4:K.length<=100
    ·have jU:(K.length:Int)<=100:=by omega
     have hB:B=true:=by rw[Ee];simp[c1,c2,c3,c4]
     simp[jU,hB];exact aA (by simp)
    ·have jU:¬(K.length:Int)<=100:=by omega
     have hB:B=false:=by rw[Ee];simp[c4]
     simp[jU,hB];exact aA (by simp)
  ·have dX:¬(e.uri.length:Int)<=100:=by omega
   have hB:B=false:=by rw[Ee];simp[c2]
   simp[jH,bne,dX,hB];exact aA (by simp)
 refine bS mixed (fun _:Unit=>True) (fun _=>[(1,.p (.ref (dY e))),(3,.p (.bool e.wW)),(4,.p (.bool e.rL))]) (fun _=>⟨[],[],0⟩) ?_ (fun _ _=>?_)
 ·have hS:=KA e.st h.m h.t h.r;have hF:=KF e.fields h.fl h.fs h.ff;have hN:=K8 e.names h.nl h.ns;have hh:e.rL=(!(e.st.st==0)&&(Kz e.st&&((Hh e.fields==0)&&qp e.names))):=rfl;generalize e.rL=B at hh⊢;generalize e.wW=U at*;generalize Kz e.st=s1 at hS hh;generalize(Hh e.fields==0)=s2 at hF hh;generalize qp e.names=s3 at hN hh;cases c1:(e.st.st==0)with
  |true=>
   have hB:B=false:=by rw[hh,c1];rfl
   simp[c1,bne,hB];exact aA (by simp)
  |false=>
   simp[c1,bne];refine ai hS (by simp) ?_;cases s1 with
   |false=>
    have hB:B=false:=by rw[hh];simp
    simp[hB];exact aA (by simp)
   |true=>
    simp;refine ai hF (by simp) ?_;cases s2 with
    |false=>
     have hB:B=false:=by rw[hh];simp
     simp[hB];exact aA (by simp)
    |true=>
     simp;refine ai hN (by simp) ?_;have hB:B=s3:=by rw[hh,c1];simp
     simp[hB];exact aA (by simp)
 refine bS mixed (fun _:Unit=>True) (fun _=>[(1,.p (.ref (dY e))),(3,.p (.bool e.wW)),(4,.p (.bool e.rL)),(5,.p (.bool e.yH))]) (fun _=>⟨[],[],0⟩) ?_ (fun _ _=>?_)
 ·have h1:=BU e.asked 1099511627776;have h2:=BU e.got 1099511627776;have h3:=BU e.order 1152921504606846975;have h4:=BU e.size 1048576;have hh:e.yH=(yC e.asked 1099511627776&&(yC e.got 1099511627776&&(yC e.order 1152921504606846975&&yC e.size 1048576))):=rfl;generalize e.yH=B at hh⊢;generalize e.wW=U at*;generalize e.rL=V at*;generalize yC e.asked 1099511627776=s1 at h1 hh;generalize yC e.got 1099511627776=s2 at h2 hh;generalize yC e.order 1152921504606846975=s3 at h3 hh;generalize yC e.size 1048576=s4 at h4 hh;simp;refine ai h1 (by simp) ?_;cases s1 with
  |false=>
   have hB:B=false:=by rw[hh];simp
   simp[hB];exact aA (by simp)
  |true=>
   simp;refine ai h2 (by simp) ?_;cases s2 with
   |false=>
    have hB:B=false:=by rw[hh];simp
    simp[hB];exact aA (by simp)
   |true=>
    simp;refine ai h3 (by simp) ?_;cases s3 with
    |false=>
     have hB:B=false:=by rw[hh];simp
     simp[hB];exact aA (by simp)
    |true=>
     simp;refine ai h4 (by simp) ?_;have hB:B=s4:=by rw[hh];simp
     simp[hB];exact aA (by simp)
 refine ga mixed ?_;have hs:e.yH=true->e.size<=1000000000:=by
  intro hn;unfold eG.yH yC at hn;simp at hn;omega
 have hh:e.right=(e.wW&&(e.rL&&(e.yH&&iY e.body e.size))):=rfl;generalize e.right=R at hh⊢;generalize e.wW=U at*;generalize e.rL=V at*;generalize e.yH=W at*;cases U with
 |false=>
  have hB:R=false:=by rw[hh];simp
  simp[hB,Tryz.results54]
 |true=>
  cases V with
  |false=>
   have hB:R=false:=by rw[hh];simp
   simp[hB,Tryz.results54]
  |true=>
   cases W with
   |false=>
    have hB:R=false:=by rw[hh];simp
    simp[hB,Tryz.results54]
   |true=>
    have hP:=HN e.body e.size h.bl (hs rfl);have hB:R=iY e.body e.size:=by rw[hh];simp
    rw[<-hB]at hP;simp;refine ai hP (by simp) ?_;simp[Tryz.results54]
@[reducible]def yD(r:Nat)(b:List UInt8):Ob:=⟨408,1,[.view r 0 b.length 1 none]⟩
theorem dZ(b:List UInt8)(hb:b.length<=1000000000)(n:Int)(size:Nat)(hs:size<=8):aI Tryz.prog 309 [.obj 0 0,.p (.int n),.p (.int size)] ⟨[(0,yD 1 b),(1,ew b)],[],2⟩ (.agg true []) ⟨[(0,yD 2 (b++aF n size)),(2,ew (b++aF n size))],[],3⟩:=by
 have hl:=aY n size;refine QgQ (rs:=[]) [] [(3,[(4,.r 1),(11,.w []),(14,.s 1 [])])] [(1,0)] Tryz.func309 rfl (by simp[Tryz.ntmps309]) ?_;have w0:IntKind.i64.wrap ((size:Int)-1)=(size:Int)-1:=af (by omega) (by omega);simp[w0];refine aN (fun k:Nat=>k<=size) (fun k=>[(0,.obj 0 0),(1,.p (.int n)),(6,.p (.int ((size:Int)-1-k)))]) (fun k=>⟨[(0,yD 2 (b++(aF n size).take k)),(2,ew (b++(aF n size).take k))],[],3⟩) (fun k=>size-k) 0 (by simp) _ (AS.le_refl _ _) (aE [(2,1)] (by simp)) ?_;intro k hk;by_cases ck:k<size
 ·have c1:(k:Int)<=(size:Int)-1:=by omega
  have w1:IntKind.i64.wrap ((size:Int)-1-k-1)=(size:Int)-1-((k+1:Nat):Int):=by rw[af (by omega) (by omega)];omega
  have w2:IntKind.i64.wrap (8*((size:Int)-1-k))=8*((size:Int)-1-k):=af (by omega) (by omega);have w3:IntKind.u8.wrap (n.fdiv (2^min (8*((size:Int)-1-k)).toNat IntKind.i64.bits))=((uG (n/2^(8*(size-1-k)))).toNat:Int):=by
   have e:min (8*((size:Int)-1-k)).toNat IntKind.i64.bits=8*(size-1-k):=by
    have e2:IntKind.i64.bits=64:=rfl;rw[e2];omega
   rw[e,Int.fdiv_eq_ediv_of_nonneg _ (Int.le_of_lt (Int.pow_pos (by omega))),jM]
  have hts:=xE n size k ck;have hlk:(b++(aF n size).take k).length=b.length+k:=by simp;omega
  have Xm:List.take (b.length+k) (List.map AV.p (ah (b++List.take k (aF n size))))=List.map AV.p (ah (b++List.take k (aF n size))):=List.take_of_length_le (by simp[ah];omega);have hmn:min k (aF n size).length=k:=by omega
  simp[c1,w1,w2,w3,Xm,hlk];refine⟨by omega,by omega,by omega,k+1,by omega,by omega,aE [(2,3)] ?_⟩;rw[hts];simp[ah,Nat.add_assoc,hmn]
 ·obtain rfl:k=size:=by omega
  have c1:¬(k:Int)<=(k:Int)-1:=by omega
  have ht:(aF n k).take k=aF n k:=List.take_of_length_le (by omega);simp[c1,Tryz.results309,ht];exact⟨[],by simp⟩
def a_(l:List (List UInt8)):List UInt8:=l.flatMap fun s=>aF s.length 2++s
theorem CM(l:List (List UInt8))(k:Nat):(a_ (l.take k)).length<=(a_ l).length:=by
 have h:a_ l=a_ (l.take k)++a_ (l.drop k):=by unfold a_;rw[<-List.flatMap_append,List.take_append_drop]
 rw[h,List.length_append];omega
theorem tj(b:List UInt8)(l:List (List UInt8))(hl:l.length<=1000000)(hb:b.length+(a_ l).length<=1000000000):aI Tryz.prog 310 [.obj 0 0,.p (.sl (l.map PC.str))] ⟨[(0,yD 1 b),(1,ew b)],[],2⟩ (.agg true []) ⟨[(0,yD 2 (b++a_ l)),(2,ew (b++a_ l))],[],3⟩:=by
 refine QgQ (rs:=[]) [] [(4,[(4,.r 1),(6,.w []),(9,.s 1 [])])] [(1,0)] Tryz.func310 rfl (by simp[Tryz.ntmps310]) ?_;simp;refine aN (fun k:Nat=>k<=l.length) (fun k=>[(0,.obj 0 0),(6,.p (.sl (l.map PC.str))),(7,.p (.int l.length)),(8,.p (.int k))]) (fun k=>⟨[(0,yD 2 (b++a_ (l.take k))),(2,ew (b++a_ (l.take k)))],[],3⟩) (fun k=>l.length-k) 0 (by simp) _ (AS.le_refl _ _) (aE [(2,1)] (by simp[a_])) ?_;intro k hk;by_cases ck:k<l.length
 ·have wk:IntKind.i64.wrap ((k:Int)+1)=((k+1:Nat):Int):=by rw[af (by omega) (by omega)];rfl
  obtain⟨s,hs⟩:∃s,l[k]=s:=⟨_,rfl⟩;have hts:a_ (l.take (k+1))=a_ (l.take k)++(aF s.length 2++s):=by rw[List.take_succ_eq_append_getElem ck,hs];simp[a_]
  have hle:=CM l (k+1);obtain⟨B,hB⟩:∃B,b++a_ (l.take k)=B:=⟨_,rfl⟩;have hBl:B.length<=1000000000:=by have:=CM l k;rw[<-hB,List.length_append];omega
  have hN:=dZ B hBl s.length 2 (by omega);have h2:=aY s.length 2;have Q1:B.length+2+s.length<=1000000000:=by rw[hts]at hle;simp only[List.length_append]at hle;rw[<-hB,List.length_append];omega
  have hnew:b++a_ (l.take (k+1))=B++aF s.length 2++s:=by rw[hts,<-hB];simp
  have W0:(B++aF s.length 2).length=B.length+2:=by rw[List.length_append,h2]
  rw[hB];simp[ck,hs];refine ak [0,2] hN (by simp) (by simp) (by simp[ay]) (by simp) ?_;generalize hX:B++aF s.length 2=X at W0 hnew;simp[wk,W0];have Xm:List.take (B.length+2) (List.map AV.p (ah X))=List.map AV.p (ah X):=List.take_of_length_le (by simp[ah];omega);refine⟨by omega,by omega,k+1,by omega,by omega,aE [(2,4)] ?_⟩;have hl4:(X++s).length=B.length+2+s.length:=by rw[List.length_append,W0]
  rw[hnew,Xm];simp[hl4];simp[ah]
 ·obtain rfl:k=l.length:=by omega
  rw[List.take_length];simp[Tryz.results310];exact⟨[],by simp⟩
end Go.Av
