/- TiersAgain, part 23: what functions compute, and its plain law; no condition. -/
import Derived.Test.YtgkdpbambfgahaaGreatDoorWav
set_option linter.all false
set_option maxRecDepth 100000
set_option maxHeartbeats 64000000
namespace Go.aL
open Go.Av
def cS.kk(e:cS):aF:=e.uri++10::e.var
def cS.of(e o:cS):cS:={e with order:=o.order,size:=o.size,sum:=o.sum,body:=o.body}
def Bd.rd{c:Nat}{s:St}(h:Bd c s)(a n:Int):Bd c (s.dev (s.D.read a n).1):=by
 have hk:(s.D.read a n).1.kept=s.D.kept:=by
  unfold bt.read;split
  .split<;>exact(Go.Av.lg _).1
  .rfl
 have:=h.dev (n:=0) (D:=(s.D.read a n).1) (λt _ hd=>by simpa using hd.read a n) (by rw[hk]);exact this
def SC{c:Nat}{s:St}(h:Bd c s)(un:aF->cS×Int)(key:aF):Bd c (s.get un key).1:=by
 unfold St.get;split
 .split
  .exact h.rd _ _
  .exact h.rd _ _
 .exact h
end Go.aL
namespace Go.Av
open Go.Proofs Go.aL
end Go.Av
namespace Go.aL
open Go.Av
open Go.cD (Nd rB jU dG)
def RA(key:aF)(v:Int):Nd:=⟨true,[key],[v]⟩
def acm(key:aF)(v:Int):Go.cD.k7 Go.cD.yo key v=RA key v:=by
 rw[Go.cD.Vz rfl rfl];simp[Go.cD.yo,RA,Go.cD.b_]
def ahH{key:aF}{v:Int}(h:Go.cD.rV key v=true):rB (RA key v)=true:=by
 unfold Go.cD.rV at h;simp only[bG,eZ]at h;simp[rB,RA,Go.cD.Gp,h]
def pgS(key:aF)(v:Int):List dY:=b9 (kH 1 (nh true [key] [v])).1
def ahI{N:Nat}{c:Cs}{key:aF}{v:Int}{n j:Nat}(hk:Go.cD.rV key v=true)(hF:c.s.sl.F=[(0,n)])(h1:1<n)(hG:Gd N c.s.D)(hj:c.s.jn=(j:Int))(hN:1+j+8<=N):∃R D,c.sv (RA key v)=({c with s:={c.s with sl:={c.s.sl with F:=[(1,n-1)],R:=R},D:=D},saved:=c.saved++[0]},1,0)/\Gd N D/\D.now=ov c.s.D.now (1+j) (pgS key v)/\D.q.length=c.s.D.q.length+8/\(pgS key v).length=8:=by
 have hr:=ahH hk;have hpl:=E8 (RA key v) hr;obtain⟨R,hR⟩:=take_one (M:=c.s.sl) (k:=1) hF O h1;rw[show((1:Nat):Int)=1 from rfl]at hR;have ha:x7 c.s.jn ((0:Nat):Int)=((1+j:Nat):Int):=by unfold x7;rw[hj];omega
 obtain⟨w1,w2,w3,w4,w5⟩:=Sz hG (a:=1+j) (b:=nh true [key] [v]) (by have:(nh true [key] [v]).length<=500:=hpl;omega) hN;refine⟨R,(lK c.s.D ((1+j:Nat):Int) 1 (nh true [key] [v])).1,?_,w2,w3,w4,w5⟩;unfold Cs.sv;rw[ai hr,hR];simp only[cr];rw[ha];show(_,_,(lK c.s.D ((1+j:Nat):Int) 1 (nh true [key] [v])).2)=_;rw[w1];simp[RA]
def ael{N:Nat}{s:St}{key:aF}{v:Int}{n j:Nat}(hk:Go.cD.rV key v=true)(hroot:s.root=0)(hF:s.sl.F=[(0,n)])(h1:1<n)(hG:Gd N s.D)(hj:s.jn=(j:Int))(hN:1+j+8<=N):∃R D,s.txR key v=⟨⟨{s with sl:={s.sl with F:=[(1,n-1)],R:=R},D:=D},[0],[]⟩,1,0,false,0⟩/\Gd N D/\D.now=ov s.D.now (1+j) (pgS key v)/\D.q.length=s.D.q.length+8/\(pgS key v).length=8/\s.txR key v=s.txR key v/\(bM.jm ⟨s,[],[]⟩ 0 key v).s=(Cs.sv ⟨s,[],[]⟩ (RA key v)).1:=by
 obtain⟨R,D,h2,h3,h4,h5,h6⟩:=ahI (c:=⟨s,[],[]⟩) hk hF h1 hG hj hN;have hw:bM.way key 40 ⟨s,[],[]⟩ 0 []=(⟨s,[],[]⟩,[],0):=by unfold dG.way;simp
 have DC:bM.sv ⟨s,[],[]⟩ (RA key v)=Cs.sv ⟨s,[],[]⟩ (RA key v):=rfl;have hl4:(RA key v).ks.length<=4:=by simp[RA]
 have hp:bM.jm ⟨s,[],[]⟩ 0 key v=⟨(Cs.sv ⟨s,[],[]⟩ (RA key v)).1,1,0,false,0⟩:=by
  unfold dG.jm;rw[ai hk,hw];simp only[cr];unfold dG.qE dG.lS;simp only[FL];rw[acm];unfold dG.put;rw[ai hl4,DC,h2];simp[dG.gZ,dG.gB,Go.cD.uC]
 refine⟨R,D,?_,h3,h4,h5,h6,rfl,by rw[hp]⟩;have e:s.txR key v=bM.jm ⟨s,[],[]⟩ 0 key v:=by unfold St.txR;rw[hroot]
 rw[e,hp,h2];rfl
end Go.aL
namespace Go.aL
open Go.Av
def aej{N:Nat}{D:bt}(h:Gd N D){a m:Nat}{L:List dY}(hL:L.length=m+1)(Ka:∀s∈L,s.length=64)(ha:1+a+m+1<=N):(bg (jd 1 L a) D).2=0/\(bg (jd 1 L a) D).1.flush.2=0/\Gd N (bg (jd 1 L a) D).1.flush.1/\(bg (jd 1 L a) D).1.flush.1.q=[]/\seg (bg (jd 1 L a) D).1.flush.1.now (1+a) (m+1)=L/\∀b n,b+n<=1+a\/1+a+m+1<=b->seg (bg (jd 1 L a) D).1.flush.1.now b n=seg D.now b n:=by
 have Hl:(L.take (L.length-1)++[Go.Av.fU []]).length=m+1:=by simp;omega
 obtain⟨w1,w2,w3,w4,w5⟩:=h.write (a:=1+a) (l:=L.take (L.length-1)++[Go.Av.fU []]) O (by
  intro s hs;rcases lD.1 hs with hs|hs
  .exact Ka s (oa hs)
  .simp at hs;subst hs;rfl)
 have e1:((1:Int)+(a:Int))=((1+a:Nat):Int):=O;obtain⟨f1,f2,f3,f4,f5⟩:=w2.flush;have akf:(L.getD (L.length-1) []).length=64:=by
  rw[u6,n_ O];exact Ka _ (bB _)
 have e2:((1:Int)+((a:Int)+((L.length-1:Nat):Int)))=((1+a+m:Nat):Int):=O;obtain⟨v1,v2,v3,v4,v5⟩:=f2.write (a:=1+a+m) (l:=[L.getD (L.length-1) []]) (by simp;omega) (by intro s hs;simp at hs;subst hs;exact akf);have ajR:bg (jd 1 L a) D=((D.write ((1+a:Nat):Int) (L.take (L.length-1)++[Go.Av.fU []])).1.flush.1.write ((1+a+m:Nat):Int) [L.getD (L.length-1) []]):=by
  unfold jd;simp only[bg];rw[e1,e2,ai w1,ai f1,ai v1,<-v1]
 rw[ajR];obtain⟨u1,u2,u3,u4,u5⟩:=v2.flush;have hN:=h.nl;have Ft:[L.getD (L.length-1) []].length=1:=rfl;refine⟨v1,u1,u2,u5,?_,λb n hb=>?_⟩
 .rw[u3,v3,f3,w3];have s1:=mN (L:=ov D.now (1+a) (L.take (L.length-1)++[Go.Av.fU []])) (a:=1+a+m) (l:=[L.getD (L.length-1) []]) (by rw[FX O];simp;omega);rw[Ft]at s1;rw[wQ,s1,kS (by rw[FX O];simp;omega) (.inl O)];have s2:=mN (L:=D.now) (a:=1+a) (l:=L.take (L.length-1)++[Go.Av.fU []]) O;rw[Hl,wQ]at s2;have hm:(L.take (L.length-1)).length=m:=by simp;omega
  have s3:=dg (List.take m) s2;rw[gN (YU (by rw[FX O];omega)),gN hm]at s3;rw[s3];have hd:L=L.take (L.length-1)++[L.getD (L.length-1) []]:=by
   have:L.getD (L.length-1) []=L[L.length-1]'O:=by rw[u6,n_ O];rfl
   rw[this,<-kG O,gv O]
  exact hd.symm
 .rw[u3,v3,f3,w3,kS (by rw[FX O];simp;omega) (by rw[Ft];omega),kS O (by rw[Hl];omega)]
def rU:Mk:=⟨1,1,2⟩
theorem AB(r c:Int):(pS r c).length=64:=by
 unfold pS;rw[gY,mo,AI];simp
def Yn(n:Int)(aI:List wB)(h:∀p∈aI,p.2.length=64)(hl:aI.length<=10):∀s∈nQ n aI,s.length=64:=by
 intro s hs;simp only[nQ,fF,lD,bE,gK,List.not_mem_nil,or_false]at hs;have h1:=tI n (UInt8.ofNat aI.length) aI;rcases hs with rfl|⟨p,hp,rfl⟩|rfl
 .show(nQ.zN _).length=64;unfold nQ.zN akg;simp;omega
 .simp[h p hp]
 .unfold nQ.zN;simp[bC]
def akh:hdU (pS 0 0)=((0,0),0):=bp
end Go.aL
namespace Go.aL
end Go.aL
namespace Go.Av
open Go.Proofs Go.aL
end Go.Av
namespace Go.aL
open Go.Av
def AX{n:Nat}(h1:1<=n)(h2:n<=65536):mh (Mp.new n):=by
 refine⟨h2,⟨ad2 h1,by simp[Mp.new]⟩,pz,pz,λs _ hm=>?_,λs _ hm=>?_⟩
 .obtain⟨e,he,_⟩:=hm;simp[Mp.new]at he
 .obtain⟨e,he,_⟩:=hm;simp[Mp.new]at he
end Go.aL
namespace Go.Av
open Go.Proofs Go.Proofs.Tryz Go.aL
def TH(s:St)(hl:s.ix.length<=1000000):bN 27 [.obj 6 0] ⟨[(6,aM 0 7 s),(15,aJ s.ix)],[],17⟩ (.p (.sl (s.ix.map λk=>PC.str k.key))) ⟨[(6,aM 0 7 s),(15,aJ s.ix)],[],18⟩:=by
 refine aC [_] func27 rfl ?_;simp[aM,aJ];refine aS (λk:Nat=>k<=s.ix.length) (λk=>[(9,.view 15 0 s.ix.length 4 none),(10,.p (.int s.ix.length)),(11,.p (.int k)),(3,.own 17 ((s.ix.take k).map λk=>PC.str k.key))]) (λ_=>⟨[(6,aM 0 7 s),(15,aJ s.ix)],[(17,9,1)],18⟩) (λk=>s.ix.length-k) 0 H
  _ (Ci 3 9 1 [] (.inr ⟨rfl,H⟩)) (aB (by simp[aM,aJ])) ?_
 intro k hk;by_cases ck:k<s.ix.length
 .have nE:=tM ck;generalize hK:s.ix[k]=K at nE;have hle:k*4+4<=s.ix.length*4:=O;have Cj:List.take 4 (List.drop (k*4) (List.map AV.p (nU s.ix)))=[.p (.str K.key),.p (.int K.order),.p (.int K.place),.p (.sl (K.body.map dO))]:=by
   rw[<-jG,<-fG,nE];rfl
  have wk:=ju k;have lF:s.ix.take (k+1)=s.ix.take k++[K]:=by rw[kG ck,hK]
  simp[ck,aM,aJ,hle,Cj,wk];have ye:(s.ix.take k).length<=1000000:=by simp;omega
  have SJ:List.take (k+1) (List.map (λk=>PC.str k.key) s.ix)=List.take k (List.map (λk=>PC.str k.key) s.ix)++[PC.str K.key]:=by
   rw[<-fG,lF,jB,fG];rfl
  exact⟨λx hx=>by obtain⟨y,_,rfl⟩:=bE.1 (oa hx);rfl,O,O,k+1,O,O,aE [(17,19)] (by simp[SJ])⟩
 .obtain rfl:k=s.ix.length:=O;simp[-az,aM,aJ,results27];exact⟨[],H⟩
end Go.Av
namespace Go.aL
open Go.Av
end Go.aL
namespace Go.Av
open Go.Proofs Go.aL
end Go.Av
namespace Go.aL
open Go.Av
@[simp]def aow(m:Mp)(es:eL):(m.hold es).1.R=m.R:=rfl
@[simp]def aox(m:Mp)(es:eL):(m.hold es).1.W=m.W:=rfl
@[simp]def aoy(m:Mp)(es:eL):(m.hold es).1.n=m.n:=rfl
end Go.aL
namespace Go.Av
open Go.Proofs Go.aL
open Go.cD (Hp)
end Go.Av
namespace Go.aL
end Go.aL
namespace Go.Av
open Go.Proofs Go.Proofs.Tryz Go.aL
def agN(l:List Kn)(hl:l.length<=1000000):bN 77 [.view 0 0 l.length 4 none] ⟨[(0,aJ l)],[],1⟩ (.view 1 0 l.length 4 none) ⟨[(1,aJ l)],[],2⟩:=by
 have lF:List.take (l.length*4) (List.map AV.p (nU l))=List.map AV.p (nU l):=gv H;refine aq [_] [8] [(1,[(5,.w [])])] [] func77 rfl ?_;simp[-az,aJ,lF,results77];exact⟨[],H⟩
end Go.Av
namespace Go.aL
open Go.Av
end Go.aL
namespace Go.Av
open Go.Proofs Go.aL
open Go.cD (Hp)
def mtO(s:St):Ob:=⟨151,11,[.obj 0 0,.p (.int s.jn),.p (.int s.pn),.obj 14 0,.p (.int s.root),.obj 15 0,.obj 16 0,.view 12 0 s.ix.length 4 none,.p (.int s.ord),.view 13 0 s.dR.length 3 none,.p (.bool s.sure)]⟩
def aeg(s:St):List (Nat×Ob):=[(0,aj 0 4 s.D),(1,ak s.D.kept),(2,ak s.D.now),(14,iB 0 5 s.J),(15,aR 6 s.sl),(16,aR 9 s.rm),(17,mtO s),(6,cI s.sl.F),(7,cI s.sl.R),(8,cI s.sl.W),(9,cI s.rm.F),(10,cI s.rm.R),(11,cI s.rm.W),(12,aJ s.ix),(13,aP s.dR)]
end Go.Av
namespace Go.aL
open Go.Av
end Go.aL
namespace Go.Av
open Go.Proofs Go.aL
def Bp(x m:Int)(hm:0<m):(x.tmod m+m).tmod m=x%m:=by
 have h1:=Fl x (by omega:m≠0);have h2:=Fm x hm;rcases Int.le_total 0 x with h|h
 .rw[sk h,sk O,Int.add_emod_right,Int.emod_emod_of_dvd _ (Int.dvd_refl m)]
 .obtain⟨y,rfl⟩:∃y,x=-y:=⟨-x,O⟩;have hy:0<=y:=O;have h3:=Fl y (by omega:m≠0);have h4:=Fm y hm;rw[Int.neg_tmod,sk hy,sk O];rw[Int.add_emod_right];have e:-y=-(y%m)+m*(-(y/m)):=by
   have:=Int.emod_add_mul_ediv y m;rw[Int.mul_neg];omega
  conv=>rhs;rw[e]
  rw[Int.add_mul_emod_self_left]
def x6(x m:Int)(hm:0<m):-m<x.tmod m/\x.tmod m<m:=by
 rcases Int.le_total 0 x with h|h
 .rw[sk h];have h1:=Fl x (by omega:m≠0);have h2:=Fm x hm;omega
 .obtain⟨y,rfl⟩:∃y,x=-y:=⟨-x,O⟩;have hy:0<=y:=O;have h3:=Fl y (by omega:m≠0);have h4:=Fm y hm;rw[Int.neg_tmod,sk hy];omega
def z49:List PC:=[.str [],.nil,.str [],.str [],.str [],.int 0,.str [],.int 0,.nil,.int 0,.int 0,.int 0,.int 0,kR 0,.nil]
def aey:PC:= .sc (.pointer none)
def zT:List PC:=[aey,aey,aey]++z49++z49++z49++[.nil,.nil,.nil,.int 0]
@[simp]def aol:zT.length=52:=rfl
end Go.Av
namespace Go.Av
open Go.Proofs Go.Proofs.Tryz
def I6{a b:aF}{k:Nat}(h:a.take k=b.take k)(ha:k<=a.length)(hb:k<=b.length):Op.bytesLess a b=Op.bytesLess (a.drop k) (b.drop k):=by
 induction k generalizing a b with
 |zero=>simp
 |succ k ih=>
  match a,b,ha,hb with
  |x::a,y::b,ha,hb=>
   simp at h ha hb;obtain⟨rfl,h⟩:=h;simp[Op.bytesLess,ih h ha hb]
def VI{a b:aF}{k:Nat}(h:a.take k=b.take k)(ha:k<a.length)(hb:k<b.length)(hn:a[k]≠b[k]):Op.bytesLess a b=decide (a[k]<b[k]):=by
 rw[I6 h O O,eK ha,eK hb];simp[Op.bytesLess,hn]
def EK{a b:aF}{k:Nat}(h:a.take k=b.take k)(ha:k<=a.length)(hb:k<=b.length)(hn:k=a.length\/k=b.length):Op.bytesLess a b=decide (a.length<b.length):=by
 rw[I6 h ha hb];rcases hn with rfl|rfl
 .rw[sM];cases hd:b.drop a.length with
  |nil=>have:=dg List.length hd;simp at this;simp[Op.bytesLess];omega
  |cons x l=>have:=dg List.length hd;simp at this;simp[Op.bytesLess];omega
 .rw[sM];simp[Op.bytesLess];omega
def ZG(a b:aF)(ha:a.length<=9223372036854775807)(hb:b.length<=9223372036854775807):cq 83 [.str a,.str b] (.bool (Op.bytesLess a b)):=by
 refine ay [.bool _] func83 rfl ?_;simp;refine bI (λk:Nat=>k<=a.length/\k<=b.length/\a.take k=b.take k) (λk=>[(0,.p (.str a)),(1,.p (.str b)),(5,.p (.int k))]) (λk=>a.length-k) 0 H (aB H) ?_;rintro k ⟨h1,h2,h3⟩;by_cases c1:k<a.length
 .by_cases c2:k<b.length
  .by_cases c3:a[k]=b[k]
   .simp[c1,c2,c3];refine⟨k+1,⟨O,O,?_⟩,O,aB ?_⟩
    .rw[kG c1,kG c2,h3,c3]
    .simp[aG (n:=(k:Int)+1)]
   .have c4:(a[k] !=b[k])=true:=U c3;simp[c1,c2,c4,results83,VI h3 c1 c2 c3,UInt8.lt_iff_toNat_lt]
  .simp[c1,c2,results83,EK h3 h1 h2 O]
 .simp[c1,results83,EK h3 h1 h2 O]
end Go.Av
namespace Go.aL
open Go.Av
end Go.aL
namespace Go.Av
open Go.Proofs Go.aL
def D0(x:Lg):PC:= .agg false [.int x.kind,.str x.key,.bool x.sure]
end Go.Av
namespace Go.Av
open Go.Proofs Go.Proofs.Tryz Go.aL
def VH:eE prog 91:=⟨Tryz.f91,func91,bp,bp⟩
def akT(l:List Lg):∀x∈l.map D0,x.width=3:=by intro y hy;obtain⟨x,_,rfl⟩:=bE.1 hy;rfl
def akU(l:List Lg):∀x∈l.map D0,cE x=true:=by intro y hy;obtain⟨x,_,rfl⟩:=bE.1 hy;rfl
def akV(l:List Lg):(l.map D0).flatMap bA=(Kk l).map AV.p:=by
 induction l with
 |nil=>rfl
 |cons x l ih=>rw[sZ,dB,cU,ih];rfl
def aaf(nx id:Nat)(hid:id<nx)(L:List Lg)(hl:L.length<=1000000):bN 91 [.view id 0 L.length 3 none] ⟨[(id,aP L)],[],nx⟩ (.view nx 0 L.length 3 none) ⟨[(id,aP L),(nx,aP L)],[],nx+1⟩:=by
 have hne:¬id=nx:=O;have fE:¬nx=id:=O;have hlt:id<nx+1:=O;have lF:List.take (L.length*3) ((Kk L).map AV.p)=(Kk L).map AV.p:=gv H;refine BI (pre:=[]) (post:=[]) VH (λc h1 h2 h3=>?_) ?_
 .obtain⟨c,rfl⟩:∃d,c=d+1:=⟨c-1,O⟩;refine aq [_] [7] [] [] func91 rfl ?_;simp[results91,aP,hne];exact⟨O,O,[],by simp[hne,hlt,lF]⟩
 .intro hn;have hL:L=[]:=o5 hn;subst hL;refine qM (pre:=[]) (post:=[]) VH (λ_=>?_) ?_
  .have key:bN 91 [.p .nil] ⟨[(id,aP [])],[],nx⟩ (.p .nil) ⟨[(id,aP [])],[],nx⟩:=by
    refine aq [.p .nil] [7] [] [] func91 rfl ?_;simp[results91];exact⟨[],by simp[aP,hid]⟩
   have:=eT (el:=198) (s:=3) key trivial;refine Au this (λi o ho=>?_) (λi o ho=>ho) (aX _);simp only[Tb.bD,lk]at ho⊢;split at ho
   .rename_i h;subst h;rw[ah hne];simpa using ho
   .split at ho
    .rename_i h;rw[ai h];exact ho
    .cases ho
  .refine aq [_] [7] [] [] func91 rfl ?_;have hz:Kk []=[]:=rfl;simp[results91,aP,hz,hne];exact⟨[],by simp[hne,hlt]⟩
def akW(s:St)(hb:s.dR.length<=1000000):bN 28 [.obj 6 0] ⟨[(6,aM 0 7 s),(16,aP s.dR)],[],17⟩ (.view 17 0 s.dR.length 3 none) ⟨[(6,aM 0 7 s),(16,aP s.dR),(17,aP s.dR)],[],18⟩:=by
 refine aC [_] func28 rfl ?_;simp[aM];refine oM (aaf 17 16 O s.dR hb) rfl ?_;simp[-az,aP,results28];exact⟨[],H⟩
end Go.Av
namespace Go.aL
open Go.Av
structure Ti where
 s:St
 c:dM
 lines:Int
def oG(c:dM)(l:List Lg):dM:=l.foldl (λc x=>if x.kind=3\/x.kind=4 then c.drop x.key else c) c
def Ti.follow(T:Ti):Ti:={T with c:=oG T.c (T.s.dR.drop T.lines.toNat),lines:=T.s.dR.length}
structure Hw(c n:Nat)(T:Ti):Prop where
 s:Bd c T.s
 c:CB n T.c
 b:0<=T.c.d_
 l:0<=T.lines/\T.lines<=T.s.dR.length
theorem WX{n:Nat}:∀(l:List Lg) {c:dM},CB n c->CB n (oG c l)
 |[],_,h=>h
 |x::l,c,h=>by
  have:oG c (x::l)=oG (if x.kind=3\/x.kind=4 then c.drop x.key else c) l:=rfl;rw[this];refine WX l ?_;split
  .exact h.drop _
  .exact h
theorem AZ:∀(l:List Lg) (c:dM),(oG c l).d_=c.d_/\(oG c l).share=c.share
 |[],_=>⟨rfl,rfl⟩
 |x::l,c=>by
  have:oG c (x::l)=oG (if x.kind=3\/x.kind=4 then c.drop x.key else c) l:=rfl;rw[this];obtain⟨h1,h2⟩:=AZ l (if x.kind=3\/x.kind=4 then c.drop x.key else c);rw[h1,h2];split<;>exact⟨rfl,rfl⟩
def Hw.follow{c n:Nat}{T:Ti}(h:Hw c n T):Hw c n T.follow:=⟨h.s,WX _ h.c,by show 0<=(oG _ _).d_;rw[(AZ _ _).1];exact h.b,by unfold Ti.follow;simp only;omega⟩
end Go.aL
namespace Go.Av
open Go.Proofs Go.Proofs.Tryz Go.aL
@[reducible]def tiO(l:Int):Ob:=⟨117,3,[.obj 6 0,.obj 7 0,.p (.int l)]⟩
def fu(u:Nat)(T:Ti):List (Nat×Ob):=(8,tiO T.lines)::(7,lcO (u+10) (u+11) T.c)::(u+10,Pu T.c.aK)::(u+11,Pu T.c.rest)::aH 0 u T.s
def BT(s:St)(hb:s.dR.length<=1000000):bN 28 [.obj 6 0] ⟨[(6,aM 0 7 s),(16,aP s.dR)],[],17⟩ (.p (.sl (s.dR.map D0))) ⟨[(6,aM 0 7 s),(16,aP s.dR)],[],19⟩:=by
 have hp:=nO (akW s hb) (ob:=aP s.dR) (ys:=s.dR.map D0) (by simp[lk]) rfl O (by simp[aP]) (by rw[akV];exact gv (by simp[aP])) H (akT _) (akU _);exact hp
structure FlI(c0:dM)(L:List Lg)(q:Nat×dM):Prop where
 k:q.1<=L.length
 d:oG q.2 (L.drop q.1)=oG c0 L
 c:CB 900 q.2
 f:q.2.d_=c0.d_/\q.2.share=c0.share
def yY{c n:Nat}(T:Ti)(h:Hw c n T)(hc:c<=20000)(hn:n<=890):bN 203 [.obj 8 0] ⟨fu 9 T,cH 9,21⟩ (.agg true []) ⟨fu 21 T.follow,cH 21,33⟩:=by
 have hS:=h.s.lM;have Yj:=hS.dR;have hlo:=BT T.s O;have hl:=h.l;obtain⟨F,hF⟩:=lT (T.follow);unfold Ti.follow at hF;rw[show T.follow=F from hF];obtain⟨m,hm⟩:∃m:Nat,T.lines=m:=⟨T.lines.toNat,O⟩;rw[hm]at hl hF;simp only[qS]at hF;obtain⟨L,hL⟩:=lT (T.s.dR.drop m);have hLl:L.length=T.s.dR.length-m:=by rw[<-hL];simp
 have hmap:List.drop m (List.map D0 T.s.dR)=L.map D0:=by rw[<-hL,jG]
 rw[hL]at hF;have hml:m<=T.s.dR.length:=O;refine aq [] [] [(5,[(3,.r 1),(5,.r 2),(7,.w [1,2])])] [(1,8),(2,23)] func203 rfl ?_;simp[fu,aH,aj,ak,aR,aM,aJ,aP,hm];refine xQ [0,1,2,3,4,5,6,9,10,11,12,13,14,15,16,17,18] hlo ?_;simp[hml,hmap,aH,aj,ak,aR,aM,aJ,aP];refine⟨λa _=>rfl,?_⟩;refine aS (λq:Nat×dM=>FlI T.c L q) (λq=>[(0,.obj 8 0),(2,.p (.sl (T.s.dR.map D0))),(15,.p (.sl (L.map D0))),(16,.p (.int L.length)),(17,.p (.int q.1))]) (λq=>⟨(8,tiO m)::(7,lcO 21 22 q.2)::(21,Pu q.2.aK)::(22,Pu q.2.rest)::aH 0 9 T.s,cH 9,23⟩) (λq=>L.length-q.1) (0,T.c) ⟨H,H,h.c.up O,rfl,rfl⟩ _ (AS.le_refl _ _) (aE [(21,19),(22,20)] (by simp[aH,aj,ak,aR,aM,aJ,aP,hLl])) ?_;rintro⟨k,q⟩ hq;obtain⟨q1,q2,q3,q4⟩:=hq;simp only at q1 q2 q3 q4;by_cases ck:k<L.length
 .obtain⟨x,hx⟩:=lT (L[k]);have wk:=ju k;have hge:(L.map D0)[k]?=some (D0 x):=by rw[sO,n_ ck,hx];rfl
  have DU:=Nw q (q3.ok O) x.key;rw[eK ck,hx]at q2;have Fu:oG (if x.kind=3\/x.kind=4 then q.drop x.key else q) (L.drop (k+1))=oG T.c L:=q2;by_cases c3:x.kind=3
  .rw[ai (.inl c3)]at Fu;simp[ck,hx,D0,c3];refine aD [7,21,22] DU H H (by simp[aA,cN]) H ?_;simp[cN];exact⟨k+1,q.drop x.key,⟨by simp only;omega,Fu,q3.drop _,q4⟩,O,aE [(21,24),(22,25)] (by simp[aH,aj,ak,aR,aM,aJ,aP,wk,D0])⟩
  .have mg:(x.kind==3)=false:=U c3;by_cases c4:x.kind=4
   .rw[ai (.inr c4)]at Fu;simp[ck,hx,D0,c4];refine aD [7,21,22] DU H H (by simp[aA,cN]) H ?_;simp[cN];exact⟨k+1,q.drop x.key,⟨by simp only;omega,Fu,q3.drop _,q4⟩,O,aE [(21,24),(22,25)] (by simp[aH,aj,ak,aR,aM,aJ,aP,wk,D0])⟩
   .have uy:(x.kind==4)=false:=U c4;rw[ah (by rintro(h|h);exact c3 h;exact c4 h)]at Fu;simp[ck,hx,D0,mg,uy];exact⟨k+1,q,⟨by simp only;omega,Fu,q3,q4⟩,O,aE [(21,21),(22,22)] (by simp[aH,aj,ak,aR,aM,aJ,aP,wk,D0])⟩
 .obtain rfl:k=L.length:=O;rw[sM]at q2;have hqq:q=oG T.c L:=q2;rw[<-hF,<-hqq];simp[-az,results203];exact⟨[(21,9),(22,10),(23,11),(24,12),(25,13),(26,14),(27,15),(28,16),(29,17),(30,18),(31,21),(32,22)],by simp[fu,aH,aj,ak,aR,aM,aJ,aP]⟩
def Nv(e:cS)(b:aF)(h1:e.uri.length<=100000)(h2:e.var.length<=100000):cq 123 [fK e,cK b] (k8 ⟨e.kk,e,b⟩):=by
 have hK:=HY e.uri e.var O O;refine dK [_] [] [(1,[(4,.w [1]),(8,.s 1 [])])] [(1,0)] func123 rfl ?_;simp;refine cm hK ?_;simp[cS.kk,results123]
def Nt{P:Program}{tb:Tb}{kt:AV->Tb->Prop}{gf:FuncId}{ys l:List AV}{ts ts':Tb}{r:AV}(rn:List Nat)(h:dm P gf ys ts r ts')(hk:kt (r.cp (fh rn tb.nx)) (tb.merge (ts.cp (fh rn tb.nx)) (ts'.cp (fh rn tb.nx))))(hs:rn.length=ts.nx/\ts.nx<=ts'.nx/\rn.Nodup/\∀j∈rn,j<tb.nx:=by simp)(hl:toAll l (AV.cp.eu (fh rn tb.nx) ys):=by simp)(hb:aA tb.bx (fD (fh rn tb.nx) ts.bx):=by simp[aA,aH,aj,ak,aR,aM,aJ,aP,fm,fC,eF,zU,iT,cN,fu])(hr:aA tb.rw (jj (fh rn tb.nx) ts.rw):=by simp[aA,ak]):jN P gf [] l tb kt:=aD rn h hs hl hb hr hk
end Go.Av
namespace Go.aL
open Go.Av
def Ti.get(un:aF->cS×Int)(T:Ti)(key:aF):Ti×Hd×Bool×Int:=match T.c.hit key with
 |some h=>({T with c:=T.c.get key},h,true,0)
 |none=>
  if(T.s.get un key).2.2.2=0/\(T.s.get un key).2.2.1=true then
   (if((T.s.get un key).1.body (T.s.get un key).2.1).2.2=0 then
    ({T with s:=((T.s.get un key).1.body (T.s.get un key).2.1).1,c:=T.c.put ⟨(T.s.get un key).2.1.kk,(T.s.get un key).2.1,((T.s.get un key).1.body (T.s.get un key).2.1).2.1⟩},⟨(T.s.get un key).2.1.kk,(T.s.get un key).2.1,((T.s.get un key).1.body (T.s.get un key).2.1).2.1⟩,true,0)
   else({T with s:=((T.s.get un key).1.body (T.s.get un key).2.1).1},J9,false,((T.s.get un key).1.body (T.s.get un key).2.1).2.2))
  else({T with s:=(T.s.get un key).1},J9,false,(T.s.get un key).2.2.2)
def Jz{c:dM}{key:aF}(h:c.hit key=none):iz c.aK key=none/\iz c.rest key=none:=by
 unfold dM.hit at h;cases h1:iz c.aK key with
 |some i=>
  rw[h1]at h;obtain⟨hi,_⟩:=ia h1;simp[hi]at h
 |none=>
  rw[h1]at h;cases h2:iz c.rest key with
  |some i=>
   rw[h2]at h;obtain⟨hi,_⟩:=ia h2;simp[hi]at h
  |none=>exact⟨rfl,rfl⟩
def WN{c:dM}{key:aF}(h:c.hit key=none):c.get key=c:=by
 obtain⟨h1,h2⟩:=Jz h;unfold dM.get;rw[h1,h2]
structure EB(e:cS):Prop where
 u:e.uri.length<=400/\e.var.length<=400
 nl:e.names.length<=100000
 fl:e.fields.length<=100000
 fc:Fo e.fields<=100000000
 body:qG e.body
def EB.hok{e:cS}(h:EB e){b:aF}(hb:b.length<=2000000):DE ⟨e.kk,e,b⟩:=by
 have:=h.u;have:=h.body.bl;refine⟨?_,hb,h.nl,h.fl,h.fc,by simp only;omega⟩;show(e.uri++10::e.var).length<=100000;simp;omega
def X8{c:Nat}{s:St}(h:Bd c s)(x:cS):Bd c (s.body x).1:=by
 unfold St.body;split
 .have hb:∀(l:eL) (r:Int) (D:bt) (o:aF) (b:Nat),fJ b D->fJ b (gU r l D o).1/\(gU r l D o).1.kept=D.kept:=by
   intro l
   induction l with
   |nil=>intro r D o b hd;exact⟨hd,rfl⟩
   |cons e l ih=>
    intro r D o b hd;have hk:(D.read (r+e.1) e.2).1.kept=D.kept:=by
     unfold bt.read;split
     .split<;>exact(Go.Av.lg _).1
     .rfl
    unfold gU;split
    .obtain⟨h1,h2⟩:=ih r (D.read (r+e.1) e.2).1 (o++(D.read (r+e.1) e.2).2.1.flatten) b (hd.read _ _);exact⟨h1,h2.trans hk⟩
    .exact⟨hd.read _ _,hk⟩
  have:=h.dev (n:=0) (D:=(gU (cY s.jn s.pn) x.body s.D []).1) (λt _ hd=>by simpa using(hb _ _ _ _ _ hd).1) (by rw[(hb x.body (cY s.jn s.pn) s.D [] _ h.lM.D).2]);exact this
 .exact h
end Go.aL
namespace Go.Av
open Go.Proofs Go.Proofs.Tryz Go.aL
def TG{c n:Nat}(un:aF->cS×Int)(T:Ti)(h:Hw c n T)(hc:c<=18000)(hn:n<=880)(key:aF)(hu:T.c.hit key=none->qn T.s.ix key=true->(T.s.D.read (cY T.s.jn T.s.pn+(T.s.ix.getD (gO T.s.ix key) ux).gP.1) (T.s.ix.getD (gO T.s.ix key) ux).gP.2).2.2=0->KA un (T.s.OW (T.s.ix.getD (gO T.s.ix key) ux).gP))(hE:T.c.hit key=none->(T.s.get un key).2.2.2=0->(T.s.get un key).2.2.1=true->EB (T.s.get un key).2.1/\((T.s.get un key).1.body (T.s.get un key).2.1).2.1.length<=2000000):bN 43 [.obj 8 0,.p (.str key)] ⟨fu 9 T,cH 9,21⟩ (.agg true [.p (k8 (T.get un key).2.1),.p (.bool (T.get un key).2.2.1),.p (.int (T.get un key).2.2.2)]) ⟨fu 21 (T.get un key).1,cH 21,33⟩:=by
 have hgc:=aeH T.c h.c O key;generalize hZ:T.get un key=Z;unfold Ti.get at hZ;refine aq [_,_,_] [] [(7,[(3,.r 1),(4,.r 2),(5,.w [1,2])]),(11,[(3,.r 1),(4,.r 3),(5,.w [1,3])])] [(1,8),(2,35),(3,46)] func43 rfl ?_;cases hh:T.c.hit key with
 |some x=>
  rw[hh]at hZ hgc;simp only[rf,Option.isSome_some]at hZ hgc;rw[<-hZ];simp[fu,aH,aj,ak,aR,aM,aJ,aP];refine Nt [7,19,20] hgc ?_;simp[-az,cN,fu,aH,aj,ak,aR,aM,aJ,aP,results43];exact⟨[(21,9),(22,10),(23,11),(24,12),(25,13),(26,14),(27,15),(28,16),(29,17),(30,18),(31,22),(32,23)],H⟩
 |none=>
  have UE:=WN hh;rw[hh,UE]at hgc;simp only[Option.getD_none,Option.isSome_none]at hgc;rw[hh]at hZ;simp only at hZ;have hg:=akM un c T.s h.s.lM key (hu hh);have hgb:=SC h.s un key;have hE:=hE hh;clear hu UE hh;generalize hG:T.s.get un key=G at hg hgb hZ hE;obtain⟨s1,e,b,e1⟩:=G;simp only at hg hgb hZ hE;clear hG;by_cases c1:e1=0/\b=true
  .rw[ai c1]at hZ;obtain⟨c1,c2⟩:=c1;subst c1;subst c2;obtain⟨hE1,o8⟩:=hE rfl rfl;have HB:=afG c s1 hgb.lM e (by have:=hE1.u;omega) ⟨hE1.body.bl,λx hx=>by have:=hE1.body.bo x hx;omega⟩;have hhe:=Nv e (s1.body e).2.1 (by have:=hE1.u;omega) (by have:=hE1.u;omega);have SB:=hE1.hok o8;generalize hB:s1.body e=B at HB hZ hhe SB;obtain⟨s2,o,e2⟩:=B;simp only at HB hZ hhe SB;clear hE hB o8;by_cases c3:e2=0
   .subst c3;rw[ai rfl]at hZ;have nu:=Uw T.c h.c O h.b _ SB;generalize hP:T.c.put ⟨e.kk,e,o⟩=P at nu hZ;rw[<-hZ];simp[fu,aH,aj,ak,aR,aM,aJ,aP];refine Nt [7,19,20] hgc ?_;simp[cN,aH,aj,ak,aR,aM,aJ,aP];refine pR [0,1,2,3,4,5,6,9,10,11,12,13,14,15,16,17,18] hg ?_;simp[aH,aj,ak,aR,aM,aJ,aP];refine pR [0,1,2,3,4,5,6,25,26,27,28,29,30,31,32,33,34] HB ?_;simp[aH,aj,ak,aR,aM,aJ,aP];refine cm hhe ?_;simp;refine Nt [7,22,23] nu ?_;simp[-az,cN,fu,aH,aj,ak,aR,aM,aJ,aP,results43];exact⟨[(21,36),(22,37),(23,38),(24,39),(25,40),(26,41),(27,42),(28,43),(29,44),(30,45),(31,47),(32,48)],H⟩
   .have mg:(e2 !=0)=true:=U c3;rw[ah c3]at hZ;rw[<-hZ];simp[fu,aH,aj,ak,aR,aM,aJ,aP];refine Nt [7,19,20] hgc ?_;simp[cN,aH,aj,ak,aR,aM,aJ,aP];refine pR [0,1,2,3,4,5,6,9,10,11,12,13,14,15,16,17,18] hg ?_;simp[aH,aj,ak,aR,aM,aJ,aP];refine pR [0,1,2,3,4,5,6,25,26,27,28,29,30,31,32,33,34] HB ?_;simp[-az,mg,J9,kI,fu,aH,aj,ak,aR,aM,aJ,aP,results43];exact⟨[(21,36),(22,37),(23,38),(24,39),(25,40),(26,41),(27,42),(28,43),(29,44),(30,45),(31,22),(32,23)],by simp[af]⟩
  .rw[ah c1]at hZ;rw[<-hZ];by_cases c2:e1=0
   .subst c2;have hbf:b=false:=by cases b with|false=>rfl|true=>exact absurd ⟨rfl,rfl⟩ c1
    subst hbf;simp[fu,aH,aj,ak,aR,aM,aJ,aP];refine Nt [7,19,20] hgc ?_;simp[cN,aH,aj,ak,aR,aM,aJ,aP];refine pR [0,1,2,3,4,5,6,9,10,11,12,13,14,15,16,17,18] hg ?_;simp[-az,J9,kI,fu,aH,aj,ak,aR,aM,aJ,aP,results43];exact⟨[(21,25),(22,26),(23,27),(24,28),(25,29),(26,30),(27,31),(28,32),(29,33),(30,34),(31,22),(32,23)],by simp[af]⟩
   .have eY:(e1 !=0)=true:=U c2;simp[fu,aH,aj,ak,aR,aM,aJ,aP];refine Nt [7,19,20] hgc ?_;simp[cN,aH,aj,ak,aR,aM,aJ,aP];refine pR [0,1,2,3,4,5,6,9,10,11,12,13,14,15,16,17,18] hg ?_;simp[-az,eY,J9,kI,fu,aH,aj,ak,aR,aM,aJ,aP,results43];exact⟨[(21,25),(22,26),(23,27),(24,28),(25,29),(26,30),(27,31),(28,32),(29,33),(30,34),(31,22),(32,23)],by simp[af]⟩
end Go.Av
namespace Go.aL
open Go.Av
structure Ts where
 T:Ti
 e:cS
 rest:aF
 ended:Bool
 kept:Bool
 key:aF
 body:aF
def Ts.w(X:Ts):Sm:=⟨X.T.s,X.e,X.rest,X.ended,X.kept⟩
def Ts.put(X:Ts)(w:Sm):Ts:={X with T:={X.T with s:=w.s},e:=w.e,rest:=w.rest,ended:=w.ended,kept:=w.kept}
def Ts.Fw(X:Ts):Ts:={X with T:=X.T.follow}
def Ts.aQ(X:Ts)(b:aF):Ts×Int:=if(X.w.aQ b).2=0 then({(X.put (X.w.aQ b).1).Fw with body:=X.body++b},0)else((X.put (X.w.aQ b).1).Fw,(X.w.aQ b).2)
def Ts.inC(X:Ts):Ts:={X with T:={X.T with c:=(X.T.c.drop X.key).put ⟨X.e.kk,X.e,X.body⟩}}
def Ts.bq(X:Ts):Ts×Bool×Int:=if X.w.bq.2.1=true then((X.put X.w.bq.1).Fw.inC,true,X.w.bq.2.2)else((X.put X.w.bq.1).Fw,false,X.w.bq.2.2)
def Ts.gb(T:Ti)(e:cS):Ts:=⟨T,e,[],false,false,e.kk,[]⟩
end Go.aL
namespace Go.Av
open Go.Proofs Go.Proofs.Tryz Go.aL
@[reducible]def tsO(s:Nat)(X:Ts):Ob:=⟨225,4,[.obj s 0,.obj 8 0,.p (.str X.key),.p (cK X.body)]⟩
def Lq(u:Nat)(X:Ts):List (Nat×Ob):=(10,tsO 9 X)::(9,fC 6 (u+12) X.w)::(u+12,eF X.e.body)::fu u X.T
def Zq(u:Nat)(X:Ts):List (Nat×Ob):=(10,tsO 9 X)::(9,iT 6 X.w)::fu u X.T
def Iy(T:Ti)(e:cS)(he:e.Ok)(hg:Lv e=true):bN 117 [.obj 8 0,.p (PF e)] ⟨fu 9 T,cH 9,21⟩ (.agg true [.obj 23 0,.p (.int 0)]) ⟨(23,tsO 21 (Ts.gb T e))::(21,fC 6 22 (Ts.gb T e).w)::(22,eF [])::fu 9 T,cH 9,24⟩:=by
 have hb:=aaW T.s e he hg;have hK:=HY e.uri e.var (by have:=he.uri;omega) (by have:=he.var;omega);have key:bN 117 [.obj 8 0,.p (PF e)] ⟨fu 9 T,cH 9,21⟩ (.agg true [.obj 23 0,.p (.int 0)]) ⟨(23,⟨225,4,[.obj 21 0,.obj 8 0,.p (.str e.kk),.p .nil]⟩)::(21,fC 6 22 (Ts.gb T e).w)::(22,eF [])::fu 9 T,cH 9,24⟩:=by
  refine aq [_,_] [28] [(1,[(3,.r 1),(5,.w [1])])] [(1,8)] func117 rfl ?_;simp[fu,aH,aj,ak,aR,aM,aJ,aP];refine pR [0,1,2,3,4,5,6,9,10,11,12,13,14,15,16,17,18] hb ?_;simp[fC,eF,aaV,xR,aH,aj,ak,aR,aM,aJ,aP];refine cm hK ?_;simp[-az,results117];exact⟨[],by simp[fu,aH,aj,ak,aR,aM,aJ,aP,cS.kk,Ts.gb,Ts.w,aaV,fC,eF,xR]⟩
 have k2:=mI (id:=23) (j:=3) (x:= .p .nil) (.p (cK [])) key rfl rfl (.inr (.inl ⟨.nil,rfl,.inr rfl⟩));refine uW k2 _ ?_ ?_ ?_ ?_
 .simp[aA,fu,aH,aj,ak,aR,aM,aJ,aP,Tb.aY,del,Ts.gb]
 .simp[aA,Tb.aY]
 .simp[fu,aH,aj,ak,aR,aM,aJ,aP]
 .simp[Tb.aY]
structure HE(c n:Nat)(X:Ts)(b:aF):Prop where
 w:HD c X.w b
 t:Hw c n X.T
 n:n<=880
 c:c<=16000
 ln:X.T.lines<=(X.w.aQ b).1.s.dR.length
def yd{c:Nat}{w:Sm}{b:aF}(h:HD c w b):Bd (c+524) (w.aQ b).1.s:=by
 obtain⟨h1,h2,h3⟩:=Fx h;unfold Sm.aQ;split
 .exact h2
 .exact h2.back _
def HE.put{c n:Nat}{X:Ts}{b:aF}(h:HE c n X b):Hw (c+524) n (X.put (X.w.aQ b).1).T:=⟨yd h.w,h.t.c,h.t.b,⟨h.t.l.1,h.ln⟩⟩
def rcJ{P:Program}{tb:Tb}{kt:AV->Tb->Prop}{gf:FuncId}{ys l:List AV}{ts ts':Tb}{r:AV}(rn:List Nat)(h:dm P gf ys ts r ts')(hk:kt (r.cp (fh rn tb.nx)) (tb.merge (ts.cp (fh rn tb.nx)) (ts'.cp (fh rn tb.nx))))(hs:rn.length=ts.nx/\ts.nx<=ts'.nx/\rn.Nodup/\∀j∈rn,j<tb.nx:=by simp)(hl:toAll l (AV.cp.eu (fh rn tb.nx) ys):=by simp)(hb:aA tb.bx (fD (fh rn tb.nx) ts.bx):=by simp[aA,aH,aj,ak,aR,aM,aJ,aP,fm,fC,eF,zU,iT,cN,fu,Lq,Zq,Ts.gb,Ts.w])(hr:aA tb.rw (jj (fh rn tb.nx) ts.rw):=by simp[aA,ak]):jN P gf [] l tb kt:=aD rn h hs hl hb hr hk
def Pv(L:List (List PC))(hw:∀l∈L,∀x∈l,x.width=1)(ht:∀l∈L,∀x∈l,cE x=true)(hb:(L.map List.length).sum<=1000000000000)(oK:L.length<=1000000000000):bN 57 [.own 0 (L.map .sl)] ⟨[],[(0,22,1)],1⟩ (.view 1 0 (L.map List.length).sum 1 none) ⟨[(1,⟨5,1,(L.flatten.flatMap fM).map .p⟩)],[(0,22,1)],2⟩:=by
 refine aC [_] func57 rfl ?_;simp;refine aS (λk:Nat=>k<=L.length) (λk=>[(0,.own 0 (L.map .sl)),(2,.p .nil),(9,.own 0 (L.map .sl)),(10,.p (.int L.length)),(3,.p (.int ((L.map List.length).take k).sum)),(11,.p (.int k))]) (λ_=>⟨[],[(0,22,1)],1⟩) (λk=>L.length-k) 0 H _ (AS.le_refl _ _) (aB H) ?_;intro k hk;by_cases c1:k<L.length
 .have e1:decide ((k:Int)<L.length)=true:=by simp;omega
  have hs:((L.map List.length).take (k+1)).sum=((L.map List.length).take k).sum+L[k].length:=by
   rw[dS (U c1)];simp
  have DS:=eD (L.map List.length) (k+1);have w1:IntKind.i64.wrap ((((L.map List.length).take k).sum:Int)+(L[k].length:Int))=(((L.map List.length).take (k+1)).sum:Int):=by rw[hs];push_cast;exact aG
  have w2:=ju k;have e2:decide ((((L.map List.length).take (k+1)).sum:Int)<0)=false:=H;simp[c1,w1,w2];refine⟨k+1,O,O,aB ?_⟩;simp
 .have e1:decide ((k:Int)<L.length)=false:=by simp;omega
  have hk':(L.map List.length).take k=L.map List.length:=gv (by simp;omega);simp[c1,hk'];refine aN (Nb 1 (L.map List.length).sum O) H trivial trivial rfl ?_;simp;refine aS (λk:Nat=>k<=L.length) (λk=>[(0,.own 0 (L.map .sl)),(2,.p .nil),(25,.own 0 (L.map .sl)),(26,.p (.int L.length)),(6,.view 1 0 ((L.map List.length).take k).sum 1 none),(27,.p (.int k))]) (λk=>⟨[(1,⟨5,1,((L.take k).flatten.flatMap fM).map .p⟩)],[(0,22,1)],2⟩) (λk=>L.length-k) 0 H _ (AS.le_refl _ _) (aB H) ?_;clear hk c1 e1 hk' k;intro k hk;by_cases c1:k<L.length
  .have e1:decide ((k:Int)<L.length)=true:=by simp;omega
   have hs:((L.map List.length).take (k+1)).sum=((L.map List.length).take k).sum+L[k].length:=by
    rw[dS (U c1)];simp
   have DS:=eD (L.map List.length) (k+1);have w2:=ju k;have hwk:=hw L[k] H;have lF:=ht L[k] H;have hfl:(L.take (k+1)).flatten=(L.take k).flatten++L[k]:=by rw[dS c1];simp only[vg,jz,qW,gL]
   have hlen:(((L.take k).flatten.flatMap fM).map AV.p).length=((L.map List.length).take k).sum:=by
    have Y_:∀x∈(L.take k).flatten,x.width=1:=λx hx=>by
     obtain⟨l,hl,hx⟩:=mQ.1 hx;exact hw l (oa hl) x hx
    have:=lR Y_;simp only[pe,this,je,fG,o4]
   have An:List.take ((L.map List.length).take k).sum (((L.take k).flatten.flatMap fM).map AV.p)=((L.take k).flatten.flatMap fM).map AV.p:=gv O;simp[c1,w2];refine⟨by simpa using qI hlen.symm,hwk,lF,O,O,k+1,O,O,aE [(1,2)] ?_⟩;rw[hfl,hs,An];simp
  .have e1:decide ((k:Int)<L.length)=false:=by simp;omega
   have T8:k=L.length:=O;subst T8;have hk':(L.map List.length).take L.length=L.map List.length:=gv H;simp[results57,hk'];exact⟨[],H⟩
def aeL(L:List (aF))(hb:L.flatten.length<=1000000000000)(oK:L.length<=1000000000000):bN 57 [.own 0 (L.map cK)] ⟨[],[(0,22,1)],1⟩ (.p (cK L.flatten)) ⟨[],[(0,22,1)],3⟩:=by
 have e0:((L.map af).map List.length).sum=L.flatten.length:=by
  rw[je,jF];congr 1;refine yG λb _=>by simp[af]
 have h:=Pv (L.map af) (λl hl x hx=>by obtain⟨b,_,rfl⟩:=bE.1 hl;exact cJ b x hx) (λl hl x hx=>by obtain⟨b,_,rfl⟩:=bE.1 hl;exact j8 b x hx) O (U oK);have e:(L.map af).flatten=af L.flatten:=by simp[af,F4];rfl
 rw[e,jF,e0]at h;have h':bN 57 [.own 0 (L.map cK)] ⟨[],[(0,22,1)],1⟩ (.view 1 0 L.flatten.length 1 none) ⟨[(1,⟨5,1,((af L.flatten).flatMap fM).map .p⟩)],[(0,22,1)],2⟩:=h;generalize L.flatten=B at*;have hB:(af B).length=B.length:=by simp[af]
 have hp:=nO h' (ob:=⟨5,1,((af B).flatMap fM).map .p⟩) (ys:=af B) H rfl O (by simp[j7]) (by rw[wX];exact gv (by simp[j7])) hB (cJ _) (j8 _);exact hp
def Iq{c n:Nat}(X:Ts)(L:List (aF))(hL:L.length<=1000)(h:HE c n X L.flatten)(uk:X.body.length<=2000000)(hz:(X.w.aQ L.flatten).2=0):bN 118 [.obj 10 0,.p (.sl (L.map cK))] ⟨Lq 11 X,cH 11,24⟩ (.p (.int 0)) ⟨Lq 24 (X.aQ L.flatten).1,cH 24,37⟩:=by
 have hw:=Lr X.w L O h.w hz;have hfo:=yY (X.put (X.w.aQ L.flatten).1).T h.put (by have:=h.c;omega) (by have:=h.n;omega);have Lj:=aeL (X.body::L) (by have:=h.w.bn;rw[jz,mo];omega) (by simp;omega);have e1:(X.aQ L.flatten).1={(X.put (X.w.aQ L.flatten).1).Fw with body:=X.body++L.flatten}:=by unfold Ts.aQ;rw[ai hz]
 rw[e1];rw[jz]at Lj;clear h hz e1;unfold Ts.Fw Ts.put at*;simp only at hfo⊢;generalize L.flatten=b at*;generalize hW:(X.w.aQ b).1=W at hw hfo⊢;clear hW;obtain⟨T,e,rest,ended,kept,key,body⟩:=X;obtain⟨s0,c0,l0⟩:=T;simp only[Ts.w]at hw hfo Lj⊢;generalize hF:Ti.follow ⟨W.s,c0,l0⟩=F at hfo⊢;clear hF;refine aC [_] func118 rfl ?_;simp[Lq,fu,fC,eF,Ts.w,aH,aj,ak,aR,aM,aJ,aP];refine xQ [0,1,2,3,4,5,6,9,11,12,13,14,15,16,17,18,19,20,23] hw ?_;simp[fm,fC,eF,aH,aj,ak,aR,aM,aJ,aP];refine Nt [0,1,2,3,4,5,6,7,8,24,25,26,27,28,29,30,31,32,33,21,22] hfo ?_;simp[fu,aH,aj,ak,aR,aM,aJ,aP];refine⟨O,O,?_⟩;refine xQ [47] Lj ?_;simp[-az,results118];exact⟨[(24,35),(25,36),(26,37),(27,38),(28,39),(29,40),(30,41),(31,42),(32,43),(33,44),(34,45),(35,46),(36,34)],H⟩
def Ir{c n:Nat}(X:Ts)(L:List (aF))(hL:L.length<=1000)(h:HE c n X L.flatten)(hz:(X.w.aQ L.flatten).2≠0):bN 118 [.obj 10 0,.p (.sl (L.map cK))] ⟨Lq 11 X,cH 11,24⟩ (.p (.int (X.aQ L.flatten).2)) ⟨Zq 24 (X.aQ L.flatten).1,cH 24,36⟩:=by
 have hw:=Ls X.w L O h.w hz;have hfo:=yY (X.put (X.w.aQ L.flatten).1).T h.put (by have:=h.c;omega) (by have:=h.n;omega);have e1:X.aQ L.flatten=((X.put (X.w.aQ L.flatten).1).Fw,(X.w.aQ L.flatten).2):=by unfold Ts.aQ;rw[ah hz]
 rw[e1];clear h e1;unfold Ts.Fw Ts.put at*;simp only at hfo⊢;generalize L.flatten=b at*;generalize hW:X.w.aQ b=W at hw hfo hz⊢;clear hW;obtain⟨W,er⟩:=W;simp only at hw hfo hz⊢;have DV:(er==0)=false:=U hz;obtain⟨T,e,rest,ended,kept,key,body⟩:=X;obtain⟨s0,c0,l0⟩:=T;simp only[Ts.w]at hw hfo⊢;generalize hF:Ti.follow ⟨W.s,c0,l0⟩=F at hfo⊢;clear hF;refine aC [_] func118 rfl ?_;simp[Lq,fu,fC,eF,Ts.w,aH,aj,ak,aR,aM,aJ,aP];refine xQ [0,1,2,3,4,5,6,9,11,12,13,14,15,16,17,18,19,20,23] hw ?_;simp[zU,iT,fm,fC,eF,aH,aj,ak,aR,aM,aJ,aP];refine Nt [0,1,2,3,4,5,6,7,8,24,25,26,27,28,29,30,31,32,33,21,22] hfo ?_;simp[-az,DV,fu,aH,aj,ak,aR,aM,aJ,aP,results118];exact⟨[(24,34),(25,35),(26,36),(27,37),(28,38),(29,39),(30,40),(31,41),(32,42),(33,43),(34,44),(35,45)],by simp[Zq,fu,iT,Ts.w,aH,aj,ak,aR,aM,aJ,aP]⟩
structure SU(c n:Nat)(X:Ts):Prop where
 s:Bd c X.T.s
 t:Hw c n X.T
 B:Bd (c+300) X.w.bq.1.s
 nn:n<=880
 cc:c<=15000
 body:qG X.e.body
 ended:X.ended=false
 rs:X.rest.length<=64
 ord:0<=X.w.cM.1.s.ord/\X.w.cM.1.s.ord<=1000000
 aoB:X.w.cM.2=0->0<=X.w.cM.1.kq.1.ord/\X.w.cM.1.kq.1.ord<=1000000
 aeT:X.w.cM.1.ended=false
 E:X.w.cM.2=0->RL X.w.cM.1.u9.e
 ln:X.T.lines<=X.w.bq.1.s.dR.length
 hb:EB X.w.bq.1.e
 bl:X.body.length<=2000000
 kp:X.w.bq.1.kept=X.w.bq.2.1
def SU.put{c n:Nat}{X:Ts}(h:SU c n X):Hw (c+300) n (X.put X.w.bq.1).T:=⟨h.B,h.t.c,h.t.b,⟨h.t.l.1,h.ln⟩⟩
def Zr{c n:Nat}(X:Ts)(h:SU c n X):bN 120 [.obj 10 0] ⟨Lq 11 X,cH 11,24⟩ (.agg true [.p (.bool X.bq.2.1),.p (.int X.bq.2.2)]) ⟨Zq 24 X.bq.1,cH 24,36⟩:=by
 have hw:=Zs h.cc X.w h.s h.body h.ended h.rs h.ord h.aoB h.aeT h.E;have hTf:=h.put.follow;have hfo:=yY (X.put X.w.bq.1).T h.put (by have:=h.cc;omega) (by have:=h.nn;omega);have hn:=h.nn;have hkp:=h.kp;have hhb:=h.hb;have uk:=h.bl;generalize hZ:X.bq=Z;unfold Ts.bq at hZ;clear h;unfold Ts.inC Ts.Fw Ts.put at*;simp only at hfo hZ hTf;generalize hW:X.w.bq=W at hw hfo hZ hTf hkp hhb;clear hW;obtain⟨W,d,er⟩:=W;simp only at hw hfo hZ hTf hkp hhb;have hk:=Nu W (by have:=hhb.nl;omega) (by have:=hhb.fl;omega) (by have:=hhb.body.bl;omega);have hhe:=Nv W.e X.body (by have:=hhb.u;omega) (by have:=hhb.u;omega);have SB:=hhb.hok uk;obtain⟨T,e,rest,ended,kept,key,body⟩:=X;obtain⟨s0,c0,l0⟩:=T;simp only[Ts.w]at hw hfo hZ hTf hhe SB⊢;generalize hF:Ti.follow ⟨W.s,c0,l0⟩=F at hfo hZ hTf;clear hF;have DU:=Nw F.c (hTf.c.ok O) key;have nu:=Uw (F.c.drop key) (hTf.c.drop key) O hTf.b _ SB;generalize hP:(F.c.drop key).put ⟨W.e.kk,W.e,body⟩=P at nu hZ;generalize F.c.drop key=c1 at*;refine aq [_,_] [] [(5,[(3,.r 1),(6,.r 2),(10,.r 1),(12,.w [1,2])]),(8,[(3,.r 1),(6,.r 2),(7,.r 3),(11,.r 1),(12,.w [1,2,3]),(13,.w [1,2,3])])] [(1,10),(2,8),(3,48)] func120 rfl ?_;cases d with
 |false=>
  simp only[dZ,dc]at hZ;rw[<-hZ];simp[Lq,fu,fC,eF,Ts.w,aH,aj,ak,aR,aM,aJ,aP];refine xQ [0,1,2,3,4,5,6,9,11,12,13,14,15,16,17,18,19,20,23] hw ?_;simp[zU,iT,fm,fC,eF,aH,aj,ak,aR,aM,aJ,aP];refine Nt [0,1,2,3,4,5,6,7,8,24,25,26,27,28,29,30,31,32,33,21,22] hfo ?_;simp[-az,fu,aH,aj,ak,aR,aM,aJ,aP,results120];exact⟨[(24,34),(25,35),(26,36),(27,37),(28,38),(29,39),(30,40),(31,41),(32,42),(33,43),(34,44),(35,45)],by simp[Zq,fu,iT,Ts.w,aH,aj,ak,aR,aM,aJ,aP]⟩
 |true=>
  simp only[cr]at hZ;rw[hkp]at hk;rw[ai rfl]at hk;rw[<-hZ];simp[Lq,fu,fC,eF,Ts.w,aH,aj,ak,aR,aM,aJ,aP];refine xQ [0,1,2,3,4,5,6,9,11,12,13,14,15,16,17,18,19,20,23] hw ?_;simp[zU,iT,fm,fC,eF,aH,aj,ak,aR,aM,aJ,aP];refine Nt [0,1,2,3,4,5,6,7,8,24,25,26,27,28,29,30,31,32,33,21,22] hfo ?_;simp[fu,aH,aj,ak,aR,aM,aJ,aP];refine Nt [7,44,45] DU ?_;simp[cN,aH,aj,ak,aR,aM,aJ,aP];refine aD [0,1,2,3,4,5,6,9,34,35,36,37,38,39,40,41,42,43] hk H H (by simp[aA,iT,hkp]) H ?_;simp[iT,hkp];refine cm hhe ?_;simp;refine Nt [7,46,47] nu ?_;simp[-az,cN,fu,aH,aj,ak,aR,aM,aJ,aP,results120];exact⟨[(24,34),(25,35),(26,36),(27,37),(28,38),(29,39),(30,40),(31,41),(32,42),(33,43),(34,49),(35,50)],by simp[Zq,fu,iT,Ts.w,hkp,aH,aj,ak,aR,aM,aJ,aP]⟩
end Go.Av
namespace Go.aL
open Go.Av
abbrev stQ(a b:XA):Prop:=a.m=b.m/\a.t=b.t/\a.st=b.st/\a.r=b.r/\a.mi=b.mi
def jg(a b:cS):Bool:=decide (a.uri=b.uri)&&(decide (a.var=b.var)&&(decide (stQ a.st b.st)&&(decide (a.asked=b.asked/\a.got=b.got)&&(decide (a.names=b.names)&&decide (a.fields=b.fields)))))
def Bz(a:cS):jg a a=true:=by simp[jg]
def Qp{a b:cS}:jg a b=true↔a.uri=b.uri/\a.var=b.var/\stQ a.st b.st/\(a.asked=b.asked/\a.got=b.got)/\a.names=b.names/\a.fields=b.fields:=by simp[jg]
end Go.aL
namespace Go.Av
open Go.Proofs Go.Proofs.Tryz Go.aL
def MR(a b:List (aF))(ha:a.length<=1000000)(hb:b.length<=1000000):cq 47 [.sl (a.map PC.str),.sl (b.map PC.str)] (.bool (decide (a=b))):=by
 refine kU (ys:=[_]) [] [] [] mixed func47 rfl bp bp H rfl ?_;obtain⟨R,hR⟩:=mH (decide (a=b));rw[<-hR];by_cases hl:a.length=b.length
 case neg=>
  have hn:¬a=b:=λe=>hl (by rw[e]);have d:((a.length:Int) !=(b.length:Int))=true:=by grind
  rw[kF hn]at hR;subst hR;simp[d,results47]
 have d:((a.length:Int) !=(b.length:Int))=false:=by grind
 simp[d];refine bI (λi:Nat=>i<=a.length/\a.take i=b.take i) (λi=>[(0,.p (.sl (a.map PC.str))),(1,.p (.sl (b.map PC.str))),(5,.p (.int i))]) (λi=>a.length-i) 0 ⟨H,H⟩ (aB H) ?_;rintro i ⟨h1,h2⟩;by_cases c:i<a.length
 .have c2:i<b.length:=O;have wi:IntKind.i64.wrap ((i:Int)+1)=((i+1:Nat):Int):=by grind [bQ]
  by_cases e:a[i]=b[i]
  .simp[c,c2,e,wi];exact⟨i+1,⟨O,by grind [kG]⟩,O,aB H⟩
  .have hd:(a[i] !=b[i])=true:=by grind
   have hn:¬a=b:=λh=>e (by grind);rw[kF hn]at hR;subst hR;simp[c,c2,hd,results47]
 .obtain rfl:i=a.length:=O;have e:a=b:=by
   grind
  simp_all
def Xc(a b:List Fd)(ha:a.length<=1000000)(hb:b.length<=1000000):cq 213 [.sl (a.map oL),.sl (b.map oL)] (.bool (decide (a=b))):=by
 refine kU (ys:=[_]) [] [] [] mixed func213 rfl bp bp H rfl ?_;obtain⟨R,hR⟩:=mH (decide (a=b));rw[<-hR];by_cases hl:a.length=b.length
 case neg=>
  have hn:¬a=b:=λe=>hl (by rw[e]);have d:((a.length:Int) !=(b.length:Int))=true:=by grind
  rw[kF hn]at hR;subst hR;simp[d,results213]
 have d:((a.length:Int) !=(b.length:Int))=false:=by grind
 simp[d];refine bI (λi:Nat=>i<=a.length/\a.take i=b.take i) (λi=>[(0,.p (.sl (a.map oL))),(1,.p (.sl (b.map oL))),(5,.p (.int i))]) (λi=>a.length-i) 0 ⟨H,H⟩ (aB H) ?_;rintro i ⟨h1,h2⟩;by_cases c:i<a.length
 .have c2:i<b.length:=O;have wi:IntKind.i64.wrap ((i:Int)+1)=((i+1:Nat):Int):=by grind [bQ]
  by_cases e:a[i]=b[i]
  .have hd:(!a[i].1==b[i].1||!a[i].2==b[i].2)=false:=by grind
   simp[c,c2,hd,wi];exact⟨i+1,⟨O,by grind [kG]⟩,O,aB H⟩
  .have hd:(!a[i].1==b[i].1||!a[i].2==b[i].2)=true:=by
    grind
   have hn:¬a=b:=λh=>e (by grind);rw[kF hn]at hR;subst hR;simp[c,c2,hd,results213]
 .obtain rfl:i=a.length:=O;have e:a=b:=by
   grind
  simp_all
abbrev abp(e:cS):PC:= .agg false [.str e.uri,.sl (e.names.map PC.str),.str e.var,.str e.st.m,.str e.st.t,.int e.st.st,.str e.st.r,.int e.st.mi,.sl (e.fields.map oL),.int e.asked,.int e.got,.int 0,.int 0,kR 0,.sl []]
def abq(a b:cS)(ha:a.names.length<=1000000/\a.fields.length<=1000000)(hb:b.names.length<=1000000/\b.fields.length<=1000000):cq 125 [abp a,abp b] (.bool (jg a b)):=by
 have s1:=MR a.names b.names ha.1 hb.1;have s2:=Xc a.fields b.fields ha.2 hb.2;refine kU (ys:=[_]) [] [] [] mixed func125 rfl bp bp H rfl ?_;generalize hR:jg a b=R;unfold jg at hR;by_cases c1:a.uri=b.uri
 case neg=>
  rw[kF c1,gy]at hR;have d1:(a.uri !=b.uri)=true:=by grind
  simp[d1,<-hR,results125]
 have d1:(a.uri !=b.uri)=false:=by grind
 rw[nw c1,ox]at hR;by_cases c2:a.var=b.var
 case neg=>
  rw[kF c2,gy]at hR;have d2:(a.var !=b.var)=true:=by grind
  simp[d1,d2,<-hR,results125]
 have d2:(a.var !=b.var)=false:=by grind
 rw[nw c2,ox]at hR;by_cases c3:stQ a.st b.st
 case neg=>
  rw[kF c3,gy]at hR;have d3:(!a.st.m==b.st.m||(!a.st.t==b.st.t||(!a.st.st==b.st.st||(!a.st.r==b.st.r||!a.st.mi==b.st.mi))))=true:=by
   grind
  simp[d1,d2,d3,<-hR,results125]
 obtain⟨e1,e2,e3,e4,e5⟩:=c3;rw[nw ⟨e1,e2,e3,e4,e5⟩,ox]at hR;by_cases c4:a.asked=b.asked/\a.got=b.got
 case neg=>
  rw[kF c4,gy]at hR;have d4:(!a.asked==b.asked||!a.got==b.got)=true:=by
   grind
  simp[d1,d2,e1,e2,e3,e4,e5,d4,<-hR,results125]
 obtain⟨f1,f2⟩:=c4;rw[nw ⟨f1,f2⟩,ox]at hR;by_cases c5:a.names=b.names
 case neg=>
  rw[kF c5,gy]at hR;rw[kF c5]at s1;simp[d1,d2,e1,e2,e3,e4,e5,f1,f2];refine cm s1 ?_;simp_all
 rw[nw c5]at s1;rw[nw c5,ox]at hR;rw[hR]at s2;cases R with
 |false=>
  simp[d1,d2,e1,e2,e3,e4,e5,f1,f2];refine cm s1 ?_;simp;refine cm s2 ?_;simp
 |true=>
  simp[d1,d2,e1,e2,e3,e4,e5,f1,f2];refine cm s1 ?_;simp;refine cm s2 ?_;simp;refine bI (λ_:Unit=>True) (λ_=>[(2,.p (.ref (abp a))),(3,.p (.ref (abp b))),(5,.p (.int 0))]) (λ_=>0) () trivial (aB H) ?_;intro _ _;simp[results125]
def TI(a b:cS)(ha:a.names.length<=1000000/\a.fields.length<=1000000)(hb:b.names.length<=1000000/\b.fields.length<=1000000):cq 46 [fK a,fK b] (.bool (jg a b)):=by
 have hs:=abq a b ha hb;refine kU (ys:=[_]) [2,3] [] [] mixed func46 rfl bp bp H rfl ?_;simp;refine cm hs ?_;simp
end Go.Av
namespace Go.aL
open Go.Av
structure Kp where
 key:aF
 e:cS
 b:aF
 order:Int
def isB(k:Kp)(e:cS)(b:aF):Bool:=jg e k.e&&(decide (e.order=k.order)&&(decide (e.size=k.b.length)&&(decide (b=k.b)&&decide (e.sum=m8 0 k.b))))
end Go.aL
namespace Go.Av
open Go.Proofs Go.Proofs.Tryz Go.aL
abbrev y7(k:Kp):PC:= .agg false [.str k.key,.str k.e.uri,.sl (k.e.names.map PC.str),.str k.e.var,.str k.e.st.m,.str k.e.st.t,.int k.e.st.st,.str k.e.st.r,.int k.e.st.mi,.sl (k.e.fields.map oL),.int k.e.asked,.int k.e.got,.int k.e.order,.int k.e.size,kR k.e.sum,.sl (k.e.body.map dO),cK k.b,.int k.order]
structure apQ(k:Kp):Prop where
 n:k.e.names.length<=1000000/\k.e.fields.length<=1000000
 b:k.b.length<=1000000000
def alz(k:Kp)(e:cS)(b:aF)(hk:apQ k)(he:e.names.length<=1000000/\e.fields.length<=1000000)(hb:b.length<=1000000000):cq 112 [y7 k,fK e,cK b] (.bool (isB k e b)):=by
 have h1:=TI e k.e he hk.n;have h2:=afw k.b (by have:=hk.b;omega);refine kU (ys:=[_]) [] [] [] mixed func112 rfl bp bp H rfl ?_;generalize hR:isB k e b=R;unfold isB at hR;cases c1:jg e k.e with
 |false=>
  rw[c1,gy]at hR;rw[c1]at h1;simp;refine aZ h1 ?_;simp_all
 |true=>
  rw[c1,ox]at hR;rw[c1]at h1;by_cases c2:e.order=k.order
  case neg=>
   rw[kF c2,gy]at hR;have d2:(e.order==k.order)=false:=by grind
   simp;refine aZ h1 ?_;simp[d2,<-hR,results112]
  rw[nw c2,ox]at hR;have d2:(e.order==k.order)=true:=by grind
  by_cases c3:e.size=k.b.length
  case neg=>
   rw[kF c3,gy]at hR;have d3:(e.size==(k.b.length:Int))=false:=by grind
   simp;refine aZ h1 ?_;simp[d2,d3,<-hR,results112]
  rw[nw c3,ox]at hR;have d3:(e.size==(k.b.length:Int))=true:=by grind
  by_cases c4:b=k.b
  case neg=>
   rw[kF c4,gy]at hR;simp;refine aZ h1 ?_;have d4:(b==k.b)=false:=by grind
   simp[d2,d3,d4,<-hR,results112]
  rw[nw c4,ox]at hR;subst c4;simp;refine aZ h1 ?_;simp[d2,d3];refine aZ h2 ?_;have d5:(((e.sum:Nat):Int)==((m8 0 k.b:Nat):Int))=decide (e.sum=m8 0 k.b):=by
   grind
  simp_all
end Go.Av
namespace Go.aL
open Go.Av
def Gs(l:List Kp)(key:aF):Nat:=(l.takeWhile λk=>Op.bytesLess k.key key).length
def Cv(l:List Kp)(key:aF):Bool:=match l[Gs l key]? with
 |some k=>k.key==key
 |none=>false
def sw(l:List Kp)(k:Kp):List Kp:=l.take (Gs l k.key)++k::l.drop (if Cv l k.key=true then Gs l k.key+1 else Gs l k.key)
def UI(l:List Kp)(key:aF):List Kp:=if Cv l key=true then l.take (Gs l key)++l.drop (Gs l key+1)else l
def UJ(l:List Kp)(key:aF):Gs l key<=l.length:=by
 have:=List.takeWhile_sublist (l:=l) λk=>Op.bytesLess k.key key;exact this.length_le
def UK(l:List Kp)(key:aF)(i:Nat)(h:∀k∈l.take i,Op.bytesLess k.key key=true)(hi:i<=l.length):Gs l key=i+Gs (l.drop i) key:=by
 unfold Gs
 conv=>lhs;rw[<-eO i l]
 rw[List.takeWhile_append_of_pos (U h)];simp;omega
end Go.aL
namespace Go.Av
open Go.Proofs Go.Proofs.Tryz Go.aL
abbrev PR(l:List Kp):PC:= .agg false [.sl (l.map y7)]
def acv(l:List Kp)(key:aF)(hl:l.length<=1000000)(hk:∀k∈l,k.key.length<=9223372036854775807)(hy:key.length<=9223372036854775807):cq 126 [PR l,.str key] (.tp [.int (Gs l key),.bool (Cv l key)]):=by
 refine ay [_,_] func126 rfl ?_;simp;refine bI (λi:Nat=>i<=l.length/\∀k∈l.take i,Op.bytesLess k.key key=true) (λi=>[(1,.p (.str key)),(2,.p (.ref (PR l))),(6,.p (.int i))]) (λi=>l.length-i) 0 ⟨H,H⟩ (aB H) ?_;rintro i ⟨h1,h2⟩;have hf:=UK l key i h2 h1;by_cases ci:i<l.length
 .obtain⟨x,hx⟩:=lT (l[i]);have hxm:x∈l:=by rw[<-hx];exact bB ci
  have hls:=ZG x.key key (hk x hxm) hy;have wi:=ju i;rw[eK ci,hx]at hf;cases hb:Op.bytesLess x.key key with
  |true=>
   rw[hb]at hls;simp[ci,hx];refine cm hls ?_;simp[wi];refine⟨i+1,⟨O,λk hk'=>?_⟩,O,aB H⟩;rw[kG ci,lD]at hk';rcases hk' with hk'|hk'
   .exact h2 _ hk'
   .simp at hk';rw[hk',hx];exact hb
  |false=>
   rw[hb]at hls;have ha:Gs l key=i:=by rw[hf];unfold Gs;rw[uN,hb];simp
   have hh:Cv l key=(x.key==key):=by unfold Cv;rw[ha,n_ ci,hx]
   rw[ha,hh];simp[ci,hx];refine cm hls ?_;simp[ci,hx,results126]
 .obtain rfl:i=l.length:=O;have ha:Gs l key=l.length:=by rw[hf,sM];rfl
  have hh:Cv l key=false:=by unfold Cv;rw[ha,sN (aX _)]
  simp[ha,hh,results126]
def ND{l:List Kp}{key:aF}(h:Cv l key=true):Gs l key<l.length:=by
 unfold Cv at h;by_cases c:Gs l key<l.length
 .exact c
 .rw[sN O]at h;cases h
def Ew(l:List Kp):∀y∈l.map y7,y.width=18:=by intro y hy;obtain⟨x,_,rfl⟩:=bE.1 hy;rfl
def ZH(l:List Kp)(k:Kp)(hl:l.length<=1000000)(hk:∀k∈l,k.key.length<=9223372036854775807)(hy:k.key.length<=9223372036854775807):cq 195 [PR l,y7 k] (PR (sw l k)):=by
 have ha:=acv l k.key hl hk hy;have hle:=UJ l k.key;refine ay [_] func195 rfl ?_;generalize hR:sw l k=R;unfold sw at hR;cases hh:Cv l k.key with
 |true=>
  have hlt:=ND hh;rw[hh]at ha hR;simp only[cr]at hR;generalize Gs l k.key=i at*;have wi:=ju i;have ae0:i+1<=l.length:=O;simp;refine cm ha ?_;simp[hle,wi,ae0];have ht:∀y∈List.take i (List.map y7 l),y.width=18:=λy hy=>Ew l y (oa hy);have hd:∀y∈List.drop (i+1) (List.map y7 l),y.width=18:=λy hy=>Ew l y (fq hy);refine⟨ht,O,O,ht,O,O,O,λx hx=>?_,hd,O,O,?_⟩
  .rcases hx with hx|rfl
   .exact ht x hx
   .rfl
  .rw[<-hR];simp
 |false=>
  rw[hh]at ha hR;simp only[dZ,dc]at hR;generalize Gs l k.key=i at*;simp;refine cm ha ?_;simp[hle];have ht:∀y∈List.take i (List.map y7 l),y.width=18:=λy hy=>Ew l y (oa hy);have hd:∀y∈List.drop i (List.map y7 l),y.width=18:=λy hy=>Ew l y (fq hy);refine⟨ht,O,O,ht,O,O,λx hx=>?_,hd,O,O,?_⟩
  .rcases hx with hx|rfl
   .exact ht x hx
   .rfl
  .rw[<-hR];simp
def akx(l:List Kp)(key:aF)(hl:l.length<=1000000)(hk:∀k∈l,k.key.length<=9223372036854775807)(hy:key.length<=9223372036854775807):cq 129 [PR l,.str key] (PR (UI l key)):=by
 have ha:=acv l key hl hk hy;have hle:=UJ l key;refine ay [_] func129 rfl ?_;generalize hR:UI l key=R;unfold UI at hR;cases hh:Cv l key with
 |true=>
  have hlt:=ND hh;rw[hh]at ha hR;simp only[cr]at hR;generalize Gs l key=i at*;have wi:=ju i;have ae0:i+1<=l.length:=O;simp;refine cm ha ?_;simp[hle,wi,ae0];have ht:∀y∈List.take i (List.map y7 l),y.width=18:=λy hy=>Ew l y (oa hy);have hd:∀y∈List.drop (i+1) (List.map y7 l),y.width=18:=λy hy=>Ew l y (fq hy);refine⟨ht,O,O,O,ht,hd,O,O,?_⟩;rw[<-hR];simp
 |false=>
  rw[hh]at ha hR;simp only[dZ,dc]at hR;simp;refine cm ha ?_;simp[results129,hR]
end Go.Av
namespace Go.aL
def aU(n:Int):cS:=⟨[104,116,116,112,58,47,47,104,47,UInt8.ofNat (97+(n%5).toNat)],[[120]],if n%2=0 then[120,58,49,10]else[],⟨[],[],200,[79,75],1⟩,[([65],[UInt8.ofNat (97+(n%5).toNat)])],5,6,0,0,0,[]⟩
def pV(x:UInt8)(k:Nat):List UInt8:=(List.range k).map λi=>x+UInt8.ofNat i
def Ug(x:UInt8)(k:Nat):pV x (k+1)=pV x k++[x+UInt8.ofNat k]:=by simp[pV,List.range_succ]
@[simp]def qR(x:UInt8)(k:Nat):(pV x k).length=k:=by simp[pV]
end Go.aL
namespace Go.Av
open Go.Proofs Go.Proofs.Tryz Go.aL
def aeP(x:UInt8)(i:Nat):IntKind.u8.wrap ((x.toNat:Int)+IntKind.u8.wrap (i:Int))=((x+UInt8.ofNat i).toNat:Int):=by
 have e1:IntKind.u8.bits=8:=rfl;have e2:IntKind.u8.signed=false:=rfl;unfold IntKind.wrap;simp only[e1,e2,gy,dZ,dc];rw[UInt8.toNat_add,xY];omega
def Nh(n:Int):n.tmod 2=0↔n%2=0:=by rw[<-Int.dvd_iff_emod_eq_zero,Int.dvd_iff_tmod_eq_zero]
def FW(n:Int)(hn:-9223372036854775808<=n/\n<=9223372036854775807):cq 45 [.int n] (PF (aU n)):=by
 obtain⟨k,hk⟩:∃k:Nat,n%5=k:=⟨(n%5).toNat,O⟩;have b1:=x6 n 5 O;have m1:=Bp n 5 O;have b2:=x6 n 2 O;rw[hk]at m1;have a1:IntKind.i64.wrap (n.tmod 5)=n.tmod 5:=aG;have a2:IntKind.i64.wrap (n.tmod 5+5)=n.tmod 5+5:=aG;have a3:IntKind.i64.wrap (k:Int)=(k:Int):=aG;have a4:IntKind.i64.wrap (97+(k:Int))=97+(k:Int):=aG;have a5:IntKind.i64.wrap (n.tmod 2)=n.tmod 2:=aG;have hx:IntKind.u8.wrap (97+(k:Int))=((UInt8.ofNat (97+k)).toNat:Int):=by
  have e1:IntKind.u8.bits=8:=rfl;have e2:IntKind.u8.signed=false:=rfl;unfold IntKind.wrap;simp only[e1,e2,gy,dZ,dc];rw[xY];omega
 have hkn:(n%5).toNat=k:=O;generalize hR:aU n=R;unfold aU at hR;rw[hkn]at hR;generalize UInt8.ofNat (97+k)=x at*;refine bF (xs:=[.int n]) (r:= .p (PF R)) (a_:=⟨[],[],1⟩) ?_ ⟨_,rfl,.inl rfl⟩;refine aC [_] func45 rfl ?_;by_cases c2:n%2=0
 .have eY:=(Nh n).2 c2;rw[ai c2]at hR;simp[-az,a1,a2,m1,a3,a4,a5,hx];rw[show(PC.sl [PC.sc (Value.int IntKind.u8 (x.toNat:Int))])=cK [x]from rfl];simp[-az,eY,results45];exact⟨[],by simp[<-hR]⟩
 .have eY:(n.tmod 2==0)=false:=by simpa using λh=>c2 ((Nh n).1 h)
  rw[ah c2]at hR;simp[-az,a1,a2,m1,a3,a4,a5,hx];rw[show(PC.sl [PC.sc (Value.int IntKind.u8 (x.toNat:Int))])=cK [x]from rfl];simp[-az,eY,results45];exact⟨[],by simp[<-hR]⟩
def Ni(n:Int)(hn:-9223372036854775808<=n/\n<=9223372036854775807)(x:UInt8):cq 116 [.int n,.sc (.int .u8 (x.toNat:Int))] (cK (pV x (n%600).toNat)):=by
 obtain⟨k,hk⟩:∃k:Nat,n%600=k:=⟨(n%600).toNat,O⟩;have b1:=x6 n 600 O;have m1:=Bp n 600 O;rw[hk]at m1⊢;have hk6:k<600:=O;have a1:IntKind.i64.wrap (n.tmod 600)=n.tmod 600:=aG;have a2:IntKind.i64.wrap (n.tmod 600+600)=n.tmod 600+600:=aG;have a3:IntKind.i64.wrap (k:Int)=(k:Int):=aG;simp only[qS];have hw:∀y∈af (pV x k),y.width=1:=λy hy=>by unfold af at hy;obtain⟨c,_,rfl⟩:=bE.1 hy;rfl
 have ht:∀y∈af (pV x k),cE y=true:=λy hy=>by unfold af at hy;obtain⟨c,_,rfl⟩:=bE.1 hy;rfl
 have hc:(af (pV x k)).flatMap bA=(af (pV x k)).map AV.p:=by
  unfold af;generalize pV x k=l
  induction l with
  |nil=>rfl
  |cons c l ih=>rw[dB,cU,ih];rfl
 have hl:(af (pV x k)).length=k:=by simp[af]
 have key:bN 116 ([PC.int n,.sc (.int .u8 (x.toNat:Int))].map .p) ⟨[],[],0⟩ (.view 0 0 k 1 (some k)) ⟨[(0,⟨5,1,(af (pV x k)).map .p⟩)],[],1⟩:=by
  refine aC [_] func116 rfl ?_;simp[a1,a2,m1,a3];refine⟨O,by unfold maxLen;omega,?_⟩;have hz:List.replicate k (AV.p (PC.sc (Value.int IntKind.u8 0)))=List.map AV.p (af (List.replicate k 0)):=by simp[af]
  refine aS (λi:Nat=>i<=k) (λi=>[(1,.p (.sc (.int .u8 (x.toNat:Int)))),(5,.view 0 0 k 1 (some k)),(6,.p (.int i))]) (λi=>⟨[(0,⟨5,1,(af (pV x i++List.replicate (k-i) 0)).map .p⟩)],[],1⟩) (λi=>k-i) 0 H _ (AS.le_refl _ _) (aB (by simp[pV,hz])) ?_;intro i hi;by_cases ci:i<k
  .have w1:=ju i;have hv:=aeP x i;have hsu:=Ug x i;generalize x+UInt8.ofNat i=y at hv hsu;have aoz:List.take i (List.map AV.p (af (pV x i++List.replicate (k-i) 0)))++AV.p (PC.sc (.int .u8 (y.toNat:Int)))::List.drop (i+1) (List.map AV.p (af (pV x i++List.replicate (k-i) 0)))=List.map AV.p (af (pV x (i+1)++List.replicate (k-(i+1)) 0)):=by
    have hL:pV x i++List.replicate (k-i) 0=pV x i++(0::List.replicate (k-(i+1)) 0):=by rw[show k-i=(k-(i+1))+1 by omega,uX]
    have hd:∀(A R:List AV) (a:AV),A.length=i->List.drop (i+1) (A++a::R)=R:=λA R a h=>by
     rw[show A++a::R=(A++[a])++R by simp];exact kr (by simp[h])
    rw[hL,hsu];simp only[af,jB,dB,qN];rw[gN H,hd _ _ _ H];simp
   simp[ci,w1,hv];exact⟨O,i+1,O,O,aB (by simp[aoz])⟩
  .obtain rfl:i=k:=O;simp[-az,results116];exact⟨[],H⟩
 have hp:=nO key (ob:=⟨5,1,(af (pV x k)).map .p⟩) (ys:=af (pV x k)) (by simp[lk]) rfl O (by simp[hl]) (by rw[hc];exact gv (by simp[hl])) hl hw ht;exact bF (xs:=[_,_]) hp ⟨_,rfl,.inl rfl⟩
end Go.Av
namespace Go.aL
open Go.Av
structure Wd where
 T:Ti
 now:List Kp
 lines:Int
 order:Int
def kY(now:List Kp)(l:List Lg):List Kp:=l.foldl (λa x=>UI a x.key) now
def LL(now:List Kp)(l:List Lg)(x:Lg):kY now (l++[x])=UI (kY now l) x.key:=by simp[kY]
def aag(l:List Kp)(key:aF):∀k∈UI l key,k∈l:=by
 intro k hk;unfold UI at hk;split at hk
 .rcases lD.1 hk with h|h
  .exact oa h
  .exact fq h
 .exact hk
def aah(l:List Kp)(key:aF):(UI l key).length<=l.length:=by
 unfold UI;split
 .rw[mo,lV,yz];omega
 .exact aX _
def v7(l:List Lg):∀(now:List Kp),(kY now l).length<=now.length/\∀k∈kY now l,k∈now:=by
 induction l with
 |nil=>intro now;exact⟨aX _,λk h=>h⟩
 |cons x l ih=>
  intro now;have e:kY now (x::l)=kY (UI now x.key) l:=rfl;rw[e];obtain⟨h1,h2⟩:=ih (UI now x.key);exact⟨cT h1 (aah _ _),λk hk=>aag _ _ _ (h2 k hk)⟩
structure Lu(W:Wd)(kind:Int)(k:Kp)(done:Bool)(D:List Lg):Prop where
 eq:∃P last,W.T.s.dR=P++D++last/\W.lines=P.length/\(done=false/\last=[]\/done=true/\∃x,last=[x]/\x.kind=kind/\x.key=k.key)
 dr:∀x∈D,x.kind=4
 nl:W.now.length<=1000
 kl:∀y∈W.now,y.key.length<=1000000
 dl:∀x∈D,x.key.length<=1000000
 kk:k.key.length<=1000000
 ll:W.T.s.dR.length<=1000000
def Wd.told(W:Wd)(k:Kp)(done:Bool)(D:List Lg):Wd:={W with now:=if done=true then sw (kY W.now D) k else kY W.now D,lines:=W.T.s.dR.length}
end Go.aL
namespace Go.Av
open Go.Proofs Go.Proofs.Tryz Go.aL
@[reducible]def w22(W:Wd):Ob:=⟨115,6,[.obj 0 0,.obj 7 0,.obj 8 0,.p (.sl (W.now.map y7)),.p (.int W.lines),.p (.int W.order)]⟩
def lA(u:Nat)(W:Wd):List (Nat×Ob):=(9,w22 W)::fu u W.T
def NC(W:Wd)(kind:Int)(k:Kp)(done:Bool)(D:List Lg)(h:Lu W kind k done D):bN 119 [.obj 9 0,.p (.int kind),.p (y7 k),.p (.bool done)] ⟨lA 10 W,cH 10,22⟩ (.p (.bool true)) ⟨lA 10 (W.told k done D),cH 10,24⟩:=by
 obtain⟨⟨P,last,e1,e2,e3⟩,DU,RH,ye,FO,hkk,J8⟩:=h;have hlo:=BT W.T.s J8;obtain⟨R,hR⟩:=lT ((if done=true then sw (kY W.now D) k else kY W.now D));unfold Wd.told;rw[hR];obtain⟨T,now,lines,order⟩:=W;simp only at e1 e2 RH ye J8 hlo hR⊢;subst e2;obtain⟨ed,hed⟩:=lT (P.length+D.length);have hlen:T.s.dR.length=ed+last.length:=by rw[e1,mo,mo];omega
 have hmD:=v7 D now;have hel:∀j,P.length<=j->j<ed->∃h:j<T.s.dR.length,∃x∈D,T.s.dR[j]=x/\D.take (j+1-P.length)=D.take (j-P.length)++[x]:=by
  intro j h1 h2;have hj:j-P.length<D.length:=O;refine⟨O,D[j-P.length],bB hj,?_,?_⟩
  .simp only[e1];rw[List.getElem_append_left (by rw[mo];omega),List.getElem_append_right h1]
  .rw[show j+1-P.length=(j-P.length)+1 by omega,kG hj]
 have hxl:∀x,last=[x]->∃h:ed<T.s.dR.length,T.s.dR[ed]=x:=by
  intro x hx;refine⟨by rw[hlen,hx];simp,?_⟩;simp only[e1,hx];rw[List.getElem_append_right (by rw[mo];omega)];simp[hed]
 have hwi:=ZH (kY now D) k O (λy hy=>by have:=ye y (hmD.2 y hy);omega) O;have cle:¬(ed:Int)<(P.length:Int):=O;clear e1;refine aq [_] [] [(12,[(4,.r 1),(10,.w [1]),(13,.s 1 [])]),(16,[(4,.r 1),(6,.w [1]),(9,.s 1 [])])] [(1,9)] func119 rfl ?_;rcases e3 with⟨hd,rfl⟩|⟨hd,x0,rfl,hxk,hxy⟩
 all_goals
  simp only[fQ,cF,qQ,pq]at hlen
  first
   |have hli:(T.s.dR.length:Int)=(ed:Int):=O
   |have hli:IntKind.i64.wrap ((T.s.dR.length:Int)-1)=(ed:Int):=by rw[aG];omega
  simp[lA,fu,aH,aj,ak,aR,aM,aJ,aP];refine xQ [0,1,2,3,4,5,6,10,11,12,13,14,15,16,17,18,19] hlo ?_;simp[hli,cle,hd,aH,aj,ak,aR,aM,aJ,aP];refine aS (λj:Nat=>P.length<=j/\j<=ed) (λj=>[(0,.obj 9 0),(1,.p (.int kind)),(3,.p (.bool done)),(6,.p (.ref (y7 k))),(9,.p (.sl (T.s.dR.map D0))),(10,.p (.int ed)),(11,.p (.int j))]) (λj=>⟨(9,w22 ⟨T,kY now (D.take (j-P.length)),P.length,order⟩)::fu 10 T,cH 10,24⟩) (λj=>ed-j) P.length O _ (AS.le_refl _ _) (aB (by simp[fu,aH,aj,ak,aR,aM,aJ,aP,hli,hd,kY])) ?_;rintro j ⟨h1,h2⟩;have cls:¬T.s.dR.length<ed:=O;by_cases cj:j<ed
  .obtain⟨q1,x,q2,q3,q4⟩:=hel j h1 cj;have cji:(j:Int)<(ed:Int):=O;have wj:=ju j;have hm:=v7 (D.take (j-P.length)) now;have hwo:=akx (kY now (D.take (j-P.length))) x.key O (λy hy=>by have:=ye y (hm.2 y hy);omega) (by have:=FO x q2;omega);rw[<-LL,<-q4]at hwo;have hk4:=DU x q2;simp[fu,cj,q1,q3,D0,hk4];refine cm hwo ?_;simp[-az];exact⟨j+1,O,O,aB (by simp[fu,aH,aj,ak,aR,aM,aJ,aP,wj,D0])⟩
  .obtain rfl:j=ed:=O;have hDt:D.take (j-P.length)=D:=gv O
   first
    |obtain⟨q1,q3⟩:=hxl x0 rfl;simp [fu,hd,hDt,q1,q3,D0,hxk,hxy];refine cm hwi ?_;simp [-az,results119];exact ⟨[],by simp[<-hR,hd,hli,fu,aH,aj,ak,aR,aM,aJ,aP]⟩
    |simp[-az,fu,hd,hDt,results119];exact ⟨[],by simp[<-hR,hd,hli,fu,aH,aj,ak,aR,aM,aJ,aP]⟩
def rcK{P:Program}{tb:Tb}{kt:AV->Tb->Prop}{gf:FuncId}{ys l:List AV}{ts ts':Tb}{r:AV}(rn:List Nat)(h:dm P gf ys ts r ts')(hk:kt (r.cp (fh rn tb.nx)) (tb.merge (ts.cp (fh rn tb.nx)) (ts'.cp (fh rn tb.nx))))(hs:rn.length=ts.nx/\ts.nx<=ts'.nx/\rn.Nodup/\∀j∈rn,j<tb.nx:=by simp)(hl:toAll l (AV.cp.eu (fh rn tb.nx) ys):=by simp)(hb:aA tb.bx (fD (fh rn tb.nx) ts.bx):=by simp[aA,aH,aj,ak,aR,aM,aJ,aP,fm,fC,eF,zU,iT,cN,fu,Lq,Zq,Ts.gb,Ts.w,lA])(hr:aA tb.rw (jj (fh rn tb.nx) ts.rw):=by simp[aA,ak]):jN P gf [] l tb kt:=aD rn h hs hl hb hr hk
end Go.Av
namespace Go.aL
open Go.Av
def dM.new(b s:Int):dM:=⟨b,b*s/100,[],[]⟩
end Go.aL
namespace Go.Av
open Go.Proofs Go.Proofs.Tryz Go.aL
def aee(b s:Int)(hb:0<=b/\b<=4000)(hs:0<=s/\s<=100):bN 114 [.p (.int b),.p (.int s)] ⟨[],[],0⟩ (.agg true [.obj 0 0,.p (.int 0)]) ⟨cN 1 2 (dM.new b s),[],3⟩:=by
 have c1:¬b<0:=O;have c2:¬(1099511627776:Int)<b:=O;have c3:¬s<0:=O;have c4:¬(100:Int)<s:=O;have hm:0<=b*s:=Int.mul_nonneg hb.1 hs.1;have hm2:b*s<=4000*100:=Int.mul_le_mul hb.2 hs.2 hs.1 O;have w1:IntKind.i64.wrap (b*s)=b*s:=aG;have w2:IntKind.i64.wrap (b*s/100)=b*s/100:=aG;have t1:(b*s).tdiv 100=b*s/100:=FQ hm;have key:bN 114 [.p (.int b),.p (.int s)] ⟨[],[],0⟩ (.agg true [.obj 0 0,.p (.int 0)]) ⟨[(0,⟨310,6,[.p (.int b),.p (.int (b*s/100)),.p .nil,.p (.int 0),.p .nil,.p (.int 0)]⟩)],[],1⟩:=by
  refine aq [_,_] [26] [] [] func114 rfl ?_;simp[-az,c1,c2,c3,c4,w1,w2,t1,results114];exact⟨[],H⟩
 have k2:=mJ (id:=0) (j:=2) 119 17 key rfl rfl;have k3:=mJ (id:=0) (j:=4) 119 17 k2 rfl rfl;refine uW k3 _ ?_ ?_ ?_ ?_
 .simp[aA,Tb.aY,Tb.bD,cN,dM.new,yM,cO]
 .simp[aA,Tb.aY,Tb.bD]
 .simp[cN]
 .simp[Tb.aY,Tb.bD]
def aef(s:St)(c:dM)(hl:s.dR.length<=1000000)(h1:c.aK=[])(h2:c.rest=[]):bN 115 [.obj 7 0,.obj 6 0] ⟨(7,lcO 18 19 c)::(18,Pu c.aK)::(19,Pu c.rest)::aH 0 8 s,cH 8,20⟩ (.agg true [.obj 22 0,.p (.int 0)]) ⟨(22,tiO s.dR.length)::(7,lcO 18 19 c)::(18,Pu c.aK)::(19,Pu c.rest)::aH 0 8 s,cH 8,23⟩:=by
 have hu:=M7 c ⟨by rw[h1,h2];simp,by rw[h1];simp,by rw[h2];simp⟩;have hlo:=BT s hl;rw[h1,h2]at hu;refine aq [_,_] [23] [] [] func115 rfl ?_;simp[aH,aj,ak,aR,aM,aJ,aP,h1,h2];refine aD [7,18,19] hu H H (by simp[aA,cN,h1,h2]) H ?_;simp[cN,cO,h1,h2];refine xQ [0,1,2,3,4,5,6,8,9,10,11,12,13,14,15,16,17] hlo ?_;simp[-az,aH,aj,ak,aR,aM,aJ,aP,results115];exact⟨[],by simp[h1,h2,cO]⟩
end Go.Av
