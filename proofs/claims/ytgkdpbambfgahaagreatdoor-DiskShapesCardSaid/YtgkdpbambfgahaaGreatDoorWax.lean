/- DiskShapes, part 24: what functions compute, and its plain law; no condition. -/
import Derived.Test.YtgkdpbambfgahaaGreatDoorWaw
set_option linter.all false
set_option maxRecDepth 100000
set_option maxHeartbeats 64000000
namespace Go.Av
open Go.Proofs Go.Proofs.Tryz Go.aT
@[reducible]def J0(key:List UInt8):Ob:=⟨9,1,[.p (.str key)]⟩
@[reducible]def knO(k:Kn):Ob:=⟨159,4,[.p (.str k.key),.p (.int k.order),.p (.int k.place),.p (.sl (k.body.map kG))]⟩
theorem NW(t:Nat)(c:Cs)(h:fL t c)(ht:t<=20000)(root:Int)(hroot:lD root)(key:List UInt8)(k:Kn)(rQ:key.length<=1000000):aE prog 149 [.obj 20 0,.obj 21 0,.obj 22 0] ⟨kg.B 0 8 c++[(20,cI root),(21,J0 key),(22,knO k)],kY 8,23⟩ (.p (.int (bA.oP c root key k.place).e)) ⟨kg.B 0 23 (bA.oP c root key k.place).s++[(20,cI (bA.oP c root key k.place).root),(21,J0 key),(22,knO k)],kY 23,35⟩:=by
 have hp:=Wp t c h ht root hroot key k.place rQ;generalize bA.oP c root key k.place=R at hp⊢;refine ah (rs:=[_]) [] [] [] func149 rfl ?_;simp;refine jI (rI 8 [20]) hp ?_;simp[-az,results149];exact⟨[],by simp⟩
theorem V9(t t2:Nat)(s:St)(h:jU t s)(ht:t<=20000)(count:Int)(key:List UInt8)(k:Kn)(rQ:key.length<=1000000)(hR:(s.uL key k.place).e=0)(h2:fL t2 (s.uL key k.place).s)(V8:t2<=30000)(hd:((s.uL key k.place).s.s.commit (s.uL key k.place).root count).2.1=true):aE prog 148 [.obj 6 0,.p (.int count),.lJ (.func 149) [.obj 17 0,.obj 18 0]] ⟨(17,J0 key)::(18,knO k)::bO 0 7 s,fh 7,19⟩ (.agg true [.p (.bool true),.p (.int (s.FO count key k.place).2)]) ⟨(17,J0 key)::(18,knO k)::bO 0 19 (s.FO count key k.place).1,fh 19,29⟩:=by
 have hroot:=h.root;have htu:=NW t ⟨s,[],[]⟩ ⟨h,by simp,by simp,by simp,by simp⟩ ht s.root hroot key k rQ;rw[show bA.oP ⟨s,[],[]⟩ s.root key k.place=s.uL key k.place from rfl,hR]at htu;have Uw:=Nt s.root;obtain⟨Z,hZ⟩:∃Z,s.FO count key k.place=Z:=⟨_,rfl⟩;rw[hZ];unfold St.FO at hZ;obtain⟨R,hRe⟩:∃R,s.uL key k.place=R:=⟨_,rfl⟩;rw[hRe]at htu hZ h2 hd;clear hRe hR;have hro:=Sr R.s R.root;have hco:=J2 t2 R.s.s h2.s V8 R.root count;have lZ:(R.s.s.commit R.root count).1.sl=R.s.s.sl:=rfl;obtain⟨C,hC⟩:∃C,R.s.s.commit R.root count=C:=⟨_,rfl⟩;rw[hC]at hd hZ hco lZ;obtain⟨u,b,e⟩:=C;simp only at hd hZ hco lZ;subst hd;have hgi:=Sv u (by rw[lZ];exact h2.s.sl) R.s.old (by have:=h2.old;omega);refine ji (rs:=[_,_]) [14] [] [] func148 rfl (by kernel_rfl) (by kernel_rfl) (by simp[ntmps148]) rfl ?_;refine bM mixed (fun _:Unit=>True) (fun _=>[(0,.obj 6 0),(1,.p (.int count)),(2,.lJ (.func 149) [.obj 17 0,.obj 18 0])]) (fun _=>⟨(17,J0 key)::(18,knO k)::bO 0 7 s,fh 7,19⟩) ?_ (fun _ _=>?_)
 ·simp[bO,aG,aj,cM,bR,bN,cz];exact ak (by simp)
 refine bM mixed (fun _:Unit=>True) (fun _=>[(0,.obj 6 0),(1,.p (.int count)),(2,.lJ (.func 149) [.obj 17 0,.obj 18 0]),(8,.obj 19 0)]) (fun _=>⟨(19,⟨278,3,[.obj 6 0,.p .nil,.p .nil]⟩)::(17,J0 key)::(18,knO k)::bO 0 7 s,fh 7,20⟩) ?_ (fun _ _=>?_)
 ·simp[bO,aG,aj,cM,bR,bN,cz];exact ak (by simp)
 refine qo (ja 19 1 3 1 ⟨278,3,[.obj 6 0,.p .nil,.p .nil]⟩ [] rfl (.inr ⟨rfl,rfl⟩)) ?_;refine qo (ja 19 2 3 1 ⟨278,3,[.obj 6 0,.own 20 [],.p .nil]⟩ [] rfl (.inr ⟨rfl,rfl⟩)) ?_;refine iH mixed ?_;simp[bO,aG,aj,cM,bR,bN,cz,Tb.aP,Tb.bU,del];refine jI [19] Uw ?_;simp;refine dg [0,1,2,3,4,5,6,19,7,8,9,10,11,12,13,14,15,16,20,21,22,17,18] htu (by simp) (by simp) (by simp[ay,kg,sS,AE,bO,aG,aj,cM,bR,bN,cz]) (by simp[ay]) ?_;simp[kg,sS,AE,bO,aG,aj,cM,bR,bN,cz];refine bq [0,1,2,3,4,5,6,19,23,24,25,26,27,28,29,30,31,32,33,34,22] hro (by simp) (by simp) (by simp[ay,kg,sS,AE,bO,aG,aj,cM,bR,bN,cz]) (by simp[ay]) ?_;simp[kg,sS,AE,bO,aG,aj,cM,bR,bN,cz];refine Fy [0,1,2,3,4,5,6,23,24,25,26,27,28,29,30,31,32] hco ?_;simp[bO,aG,aj,cM,bR,bN,cz];refine Fy [0,1,2,3,4,5,6,35,36,37,38,39,40,41,42,43,44] hgi ?_;rw[<-hZ];simp[-az,bO,aG,aj,cM,bR,bN,cz,results148];exact⟨[(19,45),(20,46),(21,47),(22,48),(23,49),(24,50),(25,51),(26,52),(27,53),(28,54)],by simp⟩
theorem FP(l:List Kn)(hl:l.length<=1000000)(k:Kn):aE prog 152 [.view 0 0 l.length 4 none,.p (.int l.length),.p (.sl [RS k])] ⟨[(0,bN l)],[],1⟩ (.view 1 0 (l.length+1) 4 none) ⟨[(1,bN (l++[k]))],[],2⟩:=by
 have oK:List.take (l.length*4) (List.map AV.p (A0 l))=List.map AV.p (A0 l):=fY (by simp);have zZ:A0 [k]=[PC.str k.key,.int k.order,.int k.place,.sl (k.body.map kG)]:=rfl;refine ah (rs:=[_]) [] [(11,[(8,.w [])]),(15,[(8,.w [])])] [] func152 rfl ?_;simp[-az,bN,HW,zZ,oK,results152];exact⟨by omega,by omega,[],by simp⟩
end Go.Av
namespace Go.aT
open Go.Av
def St.Di(s1:St)(kind:Int)(k:Kn):St×Int:=(({(s1.FO (s1.ix.length+1) k.key k.place).1 with ix:=s1.ix++[k]}:St).wrote kind (s1.FO (s1.ix.length+1) k.key k.place).2 k.key,(s1.FO (s1.ix.length+1) k.key k.place).2)
end Go.aT
namespace Go.Av
open Go.Proofs Go.Proofs.Tryz Go.aT
theorem acO(t t2 t3:Nat)(s s1:St)(e:cZ)(he:e.Ok)(x:Int×Int)(hx:(0<=x.1/\x.1<=65536)/\0<=x.2/\x.2<=255)(hF:z_ s.sl.F)(QW:s.ix.length<=100000)(hsp:4*depth s.ix.length+4<=Aa s.sl.F)(QX:aE prog 147 [.obj 6 0,.p (dI e)] ⟨bO 0 7 s,fh 7,17⟩ (.agg true [.p (kG x),.p (.int 0)]) ⟨bO 0 17 s1,fh 17,27⟩)(qP:s1.ix=s.ix)(h1:jU t s1)(ht:t<=20000)(k:Kn)(hk:k=⟨e.uri++10::e.var,e.order,x.1*256+x.2,e.body⟩)(rQ:k.key.length<=1000)(hat:Uo s.ix k.key=false/\Fx s.ix k.key=s.ix.length)(hR:(s1.uL k.key k.place).e=0)(h2:fL t2 (s1.uL k.key k.place).s)(V8:t2<=30000)(hd:((s1.uL k.key k.place).s.s.commit (s1.uL k.key k.place).root (s1.ix.length+1)).2.1=true)(hTx:(s1.FO (s1.ix.length+1) k.key k.place).1.ix=s1.ix)(h3:jU t3 {(s1.FO (s1.ix.length+1) k.key k.place).1 with ix:=s1.ix++[k]})(ht3:t3<=30000):aE prog 60 [.obj 6 0,.p (.int 1),.p (dI e)] ⟨bO 0 7 s,fh 7,17⟩ (.agg true [.p (.bool true),.p (.int (s1.Di 1 k).2)]) ⟨bO 0 17 (s1.Di 1 k).1,fh 17,27⟩:=by
 have hK:=Dk e.uri e.var (by have:=he.uri;omega) (by have:=he.var;omega);have hs:=Mc s hF (by omega) hsp;have ha:=acP s1 (by rw[qP];omega) k.key;rw[qP,hat.1,hat.2]at ha;have htx:=V9 t t2 s1 h1 ht (s1.ix.length+1) k.key k (by omega) hR h2 V8 hd;have aiF:=FP s.ix (by omega) k;have hwr:=Md t3 _ h3 ht3 1 (s1.FO (s1.ix.length+1) k.key k.place).2 k.key (by omega);obtain⟨Z,hZ⟩:∃Z,s1.Di 1 k=Z:=⟨_,rfl⟩;rw[hZ];unfold St.Di at hZ;obtain⟨T,hT⟩:∃T,s1.FO (s1.ix.length+1) k.key k.place=T:=⟨_,rfl⟩;rw[hT]at htx hwr hZ hTx;obtain⟨u,c⟩:=T;simp only at htx hwr hZ hTx;clear h2 hR hd h3;rw[qP]at htx hwr hZ hTx;have w1:IntKind.i64.wrap (x.1*256)=x.1*256:=aD;have w2:IntKind.i64.wrap (x.1*256+x.2)=x.1*256+x.2:=aD;have w3:IntKind.i64.wrap ((s.ix.length:Int)+1)=(s.ix.length:Int)+1:=aD;obtain⟨V,hV⟩:∃V,St.wrote {u with ix:=s.ix++[k]} 1 c k.key=V:=⟨_,rfl⟩;rw[hV]at hwr hZ;rw[<-hZ];subst hk;simp only at*;refine ah (rs:=[_,_]) [] [(20,[(4,.r 1),(6,.r 2),(8,.w [1,2]),(11,.s 1 [])])] [(1,6),(2,29)] func60 rfl ?_;simp[bO,aG,aj,cM,bR,bN,cz];refine bS hK ?_;simp;refine Fy [0,1,2,3,4,5,6,7,8,9,10,11,12,13,14,15,16] hs ?_;simp[bO,aG,aj,cM,bR,bN,cz];refine Fy [0,1,2,3,4,5,6,7,8,9,10,11,12,13,14,15,16] QX ?_;simp[bO,aG,aj,cM,bR,bN,cz,qP,w1,w2];refine bq [0,1,2,3,4,5,6,18,19,20,21,22,23,24,25,26,27] ha (by simp) (by simp) (by simp[ay,bR,bN,qP]) (by simp) ?_;simp[bR,bN,qP,w3];refine bq [0,1,2,3,4,5,6,18,19,20,21,22,23,24,25,26,27,17,29] htx (by simp) (by simp) (by simp[ay,bO,aG,aj,cM,bR,bN,cz,qP]) (by simp[ay]) ?_;simp[bO,aG,aj,cM,bR,bN,cz,hTx];refine bq [38] aiF (by simp) (by simp) (by simp[ay,bN]) (by simp) ?_;simp[bN];refine Fy [0,1,2,3,4,5,6,30,31,32,33,34,35,36,37,40,39] hwr ?_;simp[-az,bO,aG,aj,cM,bR,bN,cz,results60];exact⟨[(17,41),(18,42),(19,43),(20,44),(21,45),(22,46),(23,47),(24,48),(25,49),(26,50)],by simp⟩
end Go.Av
namespace Go.aT
open Go.Av
open Go.cC (Nd rB nZ eu)
theorem Ho{n:Nd}(hr:rB n=true):pG (iO n.lf n.ks n.vs)=(n,0):=by
 have h:fE n.lf n.ks n.vs=true:=by rw[mL];exact hr
 obtain⟨l,ks,vs⟩:=n;simp only at h⊢;obtain⟨_,k4,hf,E8⟩:=ri h;have e:iO l ks vs=(if l then 1 else 2)::UInt8.ofNat ks.length::(dK ks++dS vs):=by simp[iO,mq]
 have t:(UInt8.ofNat ks.length).toNat=ks.length:=by simp;omega
 unfold pG;rw[e,zg];simp only;rw[zg];simp only;rw[t];have hK:s9 ks.length (dK ks++dS vs,false)=(ks,(dS vs,false)):=by
  have:=Ku (R:=dS vs) E8 ks.length (Nat.le_refl _);simpa[dK,s9]using this
 have hm:vs.length=ks.length+(if l then 0 else 1):=by simpa[pN]using hf
 have hV:Hx (if l then 1 else 2:UInt8).toNat ks.length (dS vs,false)=(vs,([],false)):=by
  have e2:ks.length+(if(if l then 1 else 2:UInt8).toNat=1 then 0 else 1)=vs.length:=by rw[hm];cases l<;>simp
  unfold Hx;rw[e2,SX [] _ _ (by rw[El];omega)];congr 1
  ·apply List.ext_getElem
   ·simp
   ·intro i h1 h2;have Ad:i<vs.length:=h2;simp[OG Ad,OE (GB h _ (List.getElem_mem Ad))]
  ·rw[List.drop_of_length_le (by rw[El];omega)]
 rw[hK];simp only;rw[hV];cases l<;>simp[xd,h]
def dN(key:List UInt8)(v:Int):Nd:=⟨true,[key],[v]⟩
theorem Ul(key:List UInt8)(v:Int):Go.cC.ju Go.cC.uZ key v=dN key v:=by
 rw[Go.cC.OV rfl rfl];simp[Go.cC.uZ,dN,Go.cC.bV]
theorem Hp{key:List UInt8}{v:Int}(h:Go.cC.lH key v=true):rB (dN key v)=true:=by
 unfold Go.cC.lH at h;simp only[Bool.and_eq_true,decide_eq_true_eq]at h;simp[rB,dN,Go.cC.Cp,h]
def Lz(key:List UInt8)(v:Int):List dh:=bn (iN 1 (iO true [key] [v])).1
theorem Z8{N:Nat}{c:Cs}{key:List UInt8}{v:Int}{n j:Nat}(hk:Go.cC.lH key v=true)(hF:c.s.sl.F=[(0,n)])(h1:1<n)(hG:Gd N c.s.D)(hj:c.s.jn=(j:Int))(hN:1+j+8<=N):∃R D,c.sv (dN key v)=({c with s:={c.s with sl:={c.s.sl with F:=[(1,n-1)],R:=R},D:=D},saved:=c.saved++[0]},1,0)/\Gd N D/\D.now=ov c.s.D.now (1+j) (Lz key v)/\D.q.length=c.s.D.q.length+8/\(Lz key v).length=8:=by
 have hr:=Hp hk;have hpl:=vS (dN key v) hr;obtain⟨R,hR⟩:=take_one (M:=c.s.sl) (k:=1) hF (by omega) h1;rw[show((1:Nat):Int)=1 from rfl]at hR;have ha:xB c.s.jn ((0:Nat):Int)=((1+j:Nat):Int):=by unfold xB;rw[hj];omega
 obtain⟨w1,w2,w3,w4,w5⟩:=L9 hG (a:=1+j) (b:=iO true [key] [v]) (by have:(iO true [key] [v]).length<=500:=hpl;omega) hN;refine⟨R,(lX c.s.D ((1+j:Nat):Int) 1 (iO true [key] [v])).1,?_,w2,w3,w4,w5⟩;unfold Cs.sv;rw[if_pos hr,hR];simp only[if_true];rw[ha];show(_,_,(lX c.s.D ((1+j:Nat):Int) 1 (iO true [key] [v])).2)=_;rw[w1];simp[dN]
theorem Xk{N:Nat}{s:St}{key:List UInt8}{v:Int}{n j:Nat}(hk:Go.cC.lH key v=true)(hroot:s.root=0)(hF:s.sl.F=[(0,n)])(h1:1<n)(hG:Gd N s.D)(hj:s.jn=(j:Int))(hN:1+j+8<=N):∃R D,s.uL key v=⟨⟨{s with sl:={s.sl with F:=[(1,n-1)],R:=R},D:=D},[0],[]⟩,1,0,false,0⟩/\Gd N D/\D.now=ov s.D.now (1+j) (Lz key v)/\D.q.length=s.D.q.length+8/\(Lz key v).length=8/\s.uL key v=s.uL key v/\(bA.oP ⟨s,[],[]⟩ 0 key v).s=(Cs.sv ⟨s,[],[]⟩ (dN key v)).1:=by
 obtain⟨R,D,h2,h3,h4,h5,h6⟩:=Z8 (c:=⟨s,[],[]⟩) hk hF h1 hG hj hN;have hw:bA.way key 40 ⟨s,[],[]⟩ 0 []=(⟨s,[],[]⟩,[],0):=by unfold eu.way;simp
 have hsv:bA.sv ⟨s,[],[]⟩ (dN key v)=Cs.sv ⟨s,[],[]⟩ (dN key v):=rfl;have hl4:(dN key v).ks.length<=4:=by simp[dN]
 have hp:bA.oP ⟨s,[],[]⟩ 0 key v=⟨(Cs.sv ⟨s,[],[]⟩ (dN key v)).1,1,0,false,0⟩:=by
  unfold eu.oP;rw[if_pos hk,hw];simp only[if_true];unfold eu.Dy eu.mV;simp only[List.getLast?_nil];rw[Ul];unfold eu.put;rw[if_pos hl4,hsv,h2];simp[eu.gD,eu.iJ,Go.cC.pI]
 refine⟨R,D,?_,h3,h4,h5,h6,rfl,by rw[hp]⟩;have e:s.uL key v=bA.oP ⟨s,[],[]⟩ 0 key v:=by unfold St.uL;rw[hroot]
 rw[e,hp,h2];rfl
theorem Z9{N:Nat}{c:Cs}{key:List UInt8}{v:Int}{j:Nat}(hk:Go.cC.lH key v=true)(hG:Gd N c.s.D)(hj:c.s.jn=(j:Int))(hp:1<=c.s.pn)(hN:1+j+8<=N)(hs:seg c.s.D.now (1+j) 8=Lz key v):∃D,c.ld 1=(c.dev D,dN key v,0)/\Gd N D/\D.now=c.s.D.now/\D.q=c.s.D.q:=by
 have hr:=Hp hk;have hpl:(iO true [key] [v]).length<=500:=vS (dN key v) hr;have ha:xB c.s.jn (1-1)=((1+j:Nat):Int):=by unfold xB;rw[hj];omega
 have hU:pG (iO true [key] [v])=(dN key v,0):=Ho (n:=dN key v) hr;unfold Lz at hs;generalize iO true [key] [v]=B at hpl hU hs;obtain⟨r1,r2,r3,r4⟩:=L_ hG (a:=1+j) (b:=B) (by omega) hN hs;refine⟨(fZ c.s.D ((1+j:Nat):Int)).1,?_,r2,r3,r4⟩;unfold Cs.ld;rw[if_neg (by omega),ha,r1];simp only[if_true];rw[hU];simp
theorem Hq{N:Nat}{c:Cs}{key:List UInt8}{v:Int}{j:Nat}(hk:Go.cC.lH key v=true)(hG:Gd N c.s.D)(hj:c.s.jn=(j:Int))(hp:1<=c.s.pn)(hN:1+j+8<=N)(hs:seg c.s.D.now (1+j) 8=Lz key v):∃D,bA.tl c 1=(c.dev D,dN key v,0)/\Gd N D/\D.now=c.s.D.now/\D.q=c.s.D.q:=by
 obtain⟨D,h1,h2,h3,h4⟩:=Z9 hk hG hj hp hN hs;refine⟨D,?_,h2,h3,h4⟩;have hl:bA.ld c 1=(c.dev D,dN key v,0):=h1;unfold eu.tl;rw[hl];simp[Hp hk]
theorem JG{N:Nat}{c:Cs}{key:List UInt8}{v:Int}{j:Nat}(hk:Go.cC.lH key v=true)(hG:Gd N c.s.D)(hj:c.s.jn=(j:Int))(hp:1<=c.s.pn)(hN:1+j+8<=N)(hs:seg c.s.D.now (1+j) 8=Lz key v):∃D,bA.check c 1=(c.dev D,0)/\Gd N D/\D.now=c.s.D.now/\D.q=c.s.D.q:=by
 obtain⟨D,h1,h2,h3,h4⟩:=Hq hk hG hj hp hN hs;refine⟨D,?_,h2,h3,h4⟩;have hn:bA.eH 40 0 c 1 [] none ⟨[],-1⟩=(c.dev D,⟨[1],0⟩,0):=by
  unfold eu.eH;rw[if_neg (by simp),h1];simp[dN,Go.cC.vf,Go.cC.rP,Op.bytesLess]
 unfold eu.check;rw[if_neg (by omega),hn]
theorem JH{N:Nat}{c:Cs}{key:List UInt8}{v:Int}{j:Nat}(hk:Go.cC.lH key v=true)(hG:Gd N c.s.D)(hj:c.s.jn=(j:Int))(hp:1<=c.s.pn)(hN:1+j+8<=N)(hs:seg c.s.D.now (1+j) 8=Lz key v):∃D,bA.pages c 1=(c.dev D,[1],0)/\Gd N D/\D.now=c.s.D.now/\D.q=c.s.D.q:=by
 obtain⟨D,h1,h2,h3,h4⟩:=Hq hk hG hj hp hN hs;refine⟨D,?_,h2,h3,h4⟩;unfold eu.pages;rw[if_neg (by omega)];unfold eu.gi;rw[h1];simp[dN]
theorem M_{N:Nat}{c:Cs}{key:List UInt8}{v:Int}{j:Nat}(hk:Go.cC.lH key v=true)(hG:Gd N c.s.D)(hj:c.s.jn=(j:Int))(hp:1<=c.s.pn)(hN:1+j+8<=N)(hs:seg c.s.D.now (1+j) 8=Lz key v):∃D,bA.scan c 1 [] 65536=(c.dev D,[(key,v)],0)/\Gd N D/\D.now=c.s.D.now/\D.q=c.s.D.q:=by
 obtain⟨D,h1,h2,h3,h4⟩:=Hq hk hG hj hp hN hs;refine⟨D,?_,h2,h3,h4⟩;unfold eu.scan;rw[if_neg (by omega)];unfold eu.eZ;rw[h1];simp[dN,Go.cC.ou,Op.bytesLess]
end Go.aT
namespace Go.aT
open Go.Av
theorem MY{N:Nat}{D:aN}(h:Gd N D){a m:Nat}{L:List dh}(hL:L.length=m+1)(xD:∀s∈L,s.length=64)(ha:1+a+m+1<=N):(aI (gv 1 L a) D).2=0/\(aI (gv 1 L a) D).1.flush.2=0/\Gd N (aI (gv 1 L a) D).1.flush.1/\(aI (gv 1 L a) D).1.flush.1.q=[]/\seg (aI (gv 1 L a) D).1.flush.1.now (1+a) (m+1)=L/\∀b n,b+n<=1+a\/1+a+m+1<=b->seg (aI (gv 1 L a) D).1.flush.1.now b n=seg D.now b n:=by
 have rR:(L.take (L.length-1)++[Go.Av.cW []]).length=m+1:=by simp;omega
 obtain⟨w1,w2,w3,w4,w5⟩:=h.write (a:=1+a) (l:=L.take (L.length-1)++[Go.Av.cW []]) (by omega) (by
  intro s hs;rcases iR.1 hs with hs|hs
  ·exact xD s (jH hs)
  ·simp at hs;subst hs;rfl)
 have e1:((1:Int)+(a:Int))=((1+a:Nat):Int):=by omega
 obtain⟨f1,f2,f3,f4,f5⟩:=w2.flush;have adb:(L.getD (L.length-1) []).length=64:=by
  rw[pR,kq (by omega)];exact xD _ (List.getElem_mem _)
 have e2:((1:Int)+((a:Int)+((L.length-1:Nat):Int)))=((1+a+m:Nat):Int):=by omega
 obtain⟨v1,v2,v3,v4,v5⟩:=f2.write (a:=1+a+m) (l:=[L.getD (L.length-1) []]) (by simp;omega) (by intro s hs;simp at hs;subst hs;exact adb);have F9:aI (gv 1 L a) D=((D.write ((1+a:Nat):Int) (L.take (L.length-1)++[Go.Av.cW []])).1.flush.1.write ((1+a+m:Nat):Int) [L.getD (L.length-1) []]):=by
  unfold gv;simp only[aI];rw[e1,e2,if_pos w1,if_pos f1,if_pos v1,<-v1]
 rw[F9];obtain⟨u1,u2,u3,u4,u5⟩:=v2.flush;have hN:=h.nl;have Jm:[L.getD (L.length-1) []].length=1:=rfl;refine⟨v1,u1,u2,u5,?_,fun b n hb=>?_⟩
 ·rw[u3,v3,f3,w3];have s1:=dQ (L:=ov D.now (1+a) (L.take (L.length-1)++[Go.Av.cW []])) (a:=1+a+m) (l:=[L.getD (L.length-1) []]) (by rw[nT (by omega)];simp;omega);rw[Jm]at s1;rw[kU,s1,aV (by rw[nT (by omega)];simp;omega) (.inl (by omega))];have s2:=dQ (L:=D.now) (a:=1+a) (l:=L.take (L.length-1)++[Go.Av.cW []]) (by omega);rw[rR,kU]at s2;have hm:(L.take (L.length-1)).length=m:=by simp;omega
  have s3:=congrArg (List.take m) s2;rw[List.take_left' (RD (by rw[nT (by omega)];omega)),List.take_left' hm]at s3;rw[s3];have hd:L=L.take (L.length-1)++[L.getD (L.length-1) []]:=by
   have:L.getD (L.length-1) []=L[L.length-1]'(by omega):=by rw[pR,kq (by omega)];rfl
   rw[this,<-iA (by omega),fY (by omega)]
  exact hd.symm
 ·rw[u3,v3,f3,w3,aV (by rw[nT (by omega)];simp;omega) (by rw[Jm];omega),aV (by omega) (by rw[rR];omega)]
def fH:Mk:=⟨1,1,2⟩
def mk2:Mk:=⟨2,2,5⟩
theorem nD(r c:Int):(ey r c).length=64:=by
 unfold ey;rw[gH,dU,xI];simp
theorem HN(n:Int)(aF:List xe)(h:∀p∈aF,p.2.length=64)(hl:aF.length<=10):∀s∈jF n aF,s.length=64:=by
 intro s hs;simp only[jF,List.mem_cons,iR,List.mem_map,List.mem_singleton,List.not_mem_nil,or_false]at hs;have h1:=qV n (UInt8.ofNat aF.length) aF;rcases hs with rfl|⟨p,hp,rfl⟩|rfl
 ·show(jF.v7 _).length=64;unfold jF.v7 ade;simp;omega
 ·simp[h p hp]
 ·unfold jF.v7;simp[aW]
def DK:List dh:=[Go.Av.kI,bX fH,Go.Av.kI,Go.Av.kI,Go.Av.kI]
def rU:List dh:=[Go.Av.kI,bX fH]++jF 1 [(0,ey 1 1)]
def om:List dh:=[bX mk2,bX fH]++jF 1 [(0,ey 1 1)]
def MZ:Jr:=⟨1,5,fH,2,5,2,false,[(0,ey 1 1)],1⟩
theorem adf:rO DK=(fH,true):=by kernel_rfl
theorem adg:rO rU=(fH,true):=by kernel_rfl
theorem adh:rO om=(mk2,true):=by kernel_rfl
theorem adi{N:Nat}(hN:N=262\/N=462):(k9 N DK 5 (fq 1 5 fH))=fq 1 5 fH:=by rcases hN with rfl|rfl<;>kernel_rfl
theorem adj{N:Nat}(hN:N=262\/N=462):(k9 N rU 5 (fq 1 5 fH))={MZ with cnt:=0}:=by rcases hN with rfl|rfl<;>kernel_rfl
theorem adk{N:Nat}(hN:N=262\/N=462):(k9 N om 5 (fq 1 5 mk2))=fq 1 5 mk2:=by rcases hN with rfl|rfl<;>kernel_rfl
theorem Uz:UA (ey 0 0)=((0,0),0):=by kernel_rfl
theorem adl:UA (ey 1 1)=((1,1),0):=by kernel_rfl
end Go.aT
namespace Go.aT
def cK:cZ:=⟨[104,116,116,112,58,47,47,104,47,98],[[120]],[],⟨[],[],200,[79,75],1⟩,[([65],[98])],5,6,0,0,0,[]⟩
end Go.aT
namespace Go.Av
open Go.Proofs Go.Proofs.Tryz Go.aT
theorem XM:aq prog 13 [.int 1] (OH cK):=by
 have r6:IntKind.i64.wrap ((1:Int).tmod 6)=1:=by decide
 have r7:IntKind.i64.wrap (1+6)=7:=by decide
 have w7:IntKind.i64.wrap 7=7:=by decide
 have t7:(7:Int).tmod 6=1:=by decide
 have w98:IntKind.i64.wrap 98=98:=by decide
 have t1:(1:Int).tmod 2=1:=by decide
 have r8:IntKind.i64.wrap ((7:Int).tmod 6)=1:=by decide
 have r9:IntKind.i64.wrap (97+1)=98:=by decide
 have r10:IntKind.u8.wrap 98=98:=by decide
 have r14:IntKind.i64.wrap ((1:Int).tmod 2)=1:=by decide
 refine bI (xs:=[.int 1]) (r:= .p (OH cK)) (aM:=⟨[],[],1⟩) ?_ ⟨_,rfl,.inl rfl⟩;refine ah (rs:=[_]) [] [] [] func13 rfl ?_;simp[-az,r10,w7,t7,w98];rw[show(PC.sl [PC.sc (Value.int IntKind.u8 98)])=cy [98]from rfl];simp[-az,t1,results13];exact⟨[],by simp[cK]⟩
end Go.Av
namespace Go.aT
open Go.Av
def bQ(b:List UInt8):Nat:=(b.length+63)/64
def bW(b:List UInt8):cZ:={cK with order:=1,size:=b.length,sum:=uW 0 b,body:=rS (bQ b)}
def key1:List UInt8:=cK.uri++10::cK.var
theorem HS(m:Nat)(hm:m<=60000):(rS m).length<=1/\∀e∈rS m,e.1=0/\e.2=(m:Int)/\1<=e.2:=by
 unfold rS;split
 ·simp
 ·refine⟨by simp,fun e he=>?_⟩;simp at he;subst he;exact⟨rfl,rfl,by simp only;omega⟩
theorem B_(b:List UInt8)(h:b.length<=1000000):(bW b).Ok:=by
 have hb:=HS (bQ b) (by unfold bQ;omega);refine⟨by simp[bW,cK],by simp[bW,cK],by simp[bW,cK],by simp[bW,cK],by simp[bW,cK],by simp[bW,cK],by simp[bW,cK,nC],by simp[bW,cK],by simp[bW,cK],by simp[bW,cK],?_,?_⟩
 ·show(rS (bQ b)).length<=_;omega
 ·exact tL (by omega) b
theorem RE(b:List UInt8)(h:b.length<=1000000):WG (bW b):=by
 have hb:=HS (bQ b) (by unfold bQ;omega);refine⟨by simp[bW,cK],by simp[bW,cK],by simp[bW,cK],by simp[bW,cK],by simp[bW],?_,tL (by omega) b,by simp[bW,cK],by simp[bW,cK],by simp[bW,cK],by simp[bW,cK],by simp[bW,cK],by simp[bW,cK],by simp[bW,cK],?_,?_⟩
 ·show 0<=(b.length:Int)/\(b.length:Int)<_;omega
 ·show(rS (bQ b)).length<_;omega
 ·intro x hx;have:=hb.2 x hx;have hn:bQ b<=60000:=by unfold bQ;omega
  omega
theorem yE(b:List UInt8)(h:b.length<=1000000):(bW b).right=true:=by
 have h1:(bW b).s7=true:=by kernel_rfl
 have h2:(bW b).qc=true:=by kernel_rfl
 have h3:(bW b).uS=true:=by
  have e1:(bW b).asked=5:=rfl;have e2:(bW b).got=6:=rfl;have e3:(bW b).order=1:=rfl;have e4:(bW b).size=b.length:=rfl;unfold cZ.uS rL;rw[e1,e2,e3,e4];simp;omega
 have h4:iY (bW b).body (bW b).size=true:=by
  show iY (rS (bQ b)) (b.length:Int)=true;unfold rS bQ;by_cases c:(b.length+63)/64=0
  ·rw[if_pos c];have h0:(b.length:Int)<1:=by omega
   simp[iY,jD,qb,h0]
  ·rw[if_neg c];have h0:¬(b.length:Int)<1:=by omega
   simp[iY,k7,rL,jD,qb,h0];omega
 unfold cZ.right;rw[h1,h2,h3,h4];rfl
theorem Na(b:List UInt8):(bW b).pack.length=66+8*(rS (bQ b)).length:=by
 have hl:((bW b).body.flatMap sB).length=8*(rS (bQ b)).length:=by
  show((rS (bQ b)).flatMap sB).length=_;unfold rS;split<;>simp[sB,aW]
 have h1:(kL (bW b).uri).length=12:=by kernel_rfl
 have h2:(kL (bW b).var).length=2:=by kernel_rfl
 have h3:(kL (bW b).st.r).length=4:=by kernel_rfl
 have h4:(aY (bW b).names).length=3:=by kernel_rfl
 have h5:((bW b).fields.flatMap tM).length=6:=by kernel_rfl
 rw[HT];simp only[dU,aW,h1,h2,h3,h4,h5,hl];clear h1 h2 h3 h4 h5 hl;omega
theorem tJ(b:List UInt8)(h:b.length<=1000000):(bW b).pack.length=66\/(bW b).pack.length=74:=by
 have hb:=HS (bQ b) (by unfold bQ;omega);rw[Na];omega
theorem RH(b:List UInt8)(h:b.length<=1000000):(bW b).yz=((bW b).pack,0):=by
 have:=tJ b h;unfold cZ.yz;rw[if_pos (yE b h),if_neg (by omega)]
theorem Nb(b:List UInt8)(h:b.length<=1000000):(kZ (bW b)).length=2:=by
 have:=tJ b h;unfold kZ;rw[eO,gH,dU,aW];omega
structure nU(N r:Nat)(b:List UInt8)(hd:dh)(all:List dh)(D:aN):Prop where
 gd:Gd N D
 q:D.q=[]
 head:seg D.now 0 1=[hd]
 Ak:seg D.now 1 all.length=all
 page:seg D.now (1+all.length) 8=Lz key1 ((bQ b:Int)*256+2)
 body:∃z,(seg D.now r (bQ b)).flatten=b++List.replicate z 0
 rc:seg D.now (r+bQ b) 2=kZ (bW b)
theorem nU.same{N r:Nat}{b:List UInt8}{hd:dh}{all:List dh}{D D':aN}(h:nU N r b hd all D)(hG:Gd N D')(hn:D'.now=D.now)(hq:D'.q=D.q):nU N r b hd all D':=⟨hG,hq.trans h.q,by rw[hn];exact h.head,by rw[hn];exact h.Ak,by rw[hn];exact h.page,by rw[hn];exact h.body,by rw[hn];exact h.rc⟩
def zZ(b:List UInt8):Kn:=⟨key1,1,(bQ b:Int)*256+2,rS (bQ b)⟩
theorem WD{N r:Nat}{b:List UInt8}{hd:dh}{all:List dh}{s:St}(h:nU N r b hd all s.D)(hb:b.length<=1000000)(hl:cG s.jn s.pn=(r:Int))(hN:r+bQ b+2<=N):∃D,s.read (fun _=>(bW b,0)) ((bQ b:Int),2)=(s.dev D,bW b,0)/\nU N r b hd all D/\BO (s.D.read (cG s.jn s.pn+(bQ b:Int)) 2).2.1.flatten=(bW b).pack:=by
 have hp:=tJ b hb;obtain⟨r1,r2,r3,r4,r5⟩:=h.gd.read (a:=r+bQ b) (n:=2) hN;obtain⟨q1,q2⟩:=Ma (e:=bW b) (by omega) (fun _=>(bW b,0)) rfl;have ha:cG s.jn s.pn+(bQ b:Int)=((r+bQ b:Nat):Int):=by rw[hl];omega
 rw[show((2:Nat):Int)=2 from rfl]at r1 r2 r3 r5;refine⟨(s.D.read ((r+bQ b:Nat):Int) 2).1,?_,h.same r2 r3 r5,?_⟩
 ·unfold St.read;simp only;rw[ha,r1];simp only;rw[h.rc,q1];simp
 ·rw[ha,r1];simp only;rw[h.rc,q2]
end Go.aT
namespace Go.Av
open Go.RowKit
theorem RN{fC:Nat}{st:AS}(o j d n s:Nat)(m:Option Nat)(ob od:Ob)(ys:List PC)(hlo:lk o st.tb.bx=some ob)(hj:ob.xs[j]?=some (.view d 0 n s m))(hod:¬o=d)(hl:lk d st.tb.bx=some od)(hsz:od.sz=s)(hs:0<s)(hx:n*s<=od.xs.length)(hc:od.xs.take (n*s)=ys.flatMap aU)(hy:ys.length=n)(hw':∀y∈ys,y.width=s)(ht:∀y∈ys,cw y=true):st.le fC ⟨st.sl,(⟨(st.tb.cD d).bx,st.tb.rw,st.tb.nx+1⟩:Tb).aP o {ob with xs:=ob.xs.set j (.p (.sl ys))}⟩:=by
 rintro fr a w hf ⟨g,h0,h1,h2,h3,h4⟩;obtain⟨b,c,f1,frl,f0⟩:=h1.boxes o ob hlo;have y8:ob.xs≠[]:=fun hz=>by rw[hz]at hj;simp at hj
 have g_:0<c:=Nat.pos_of_ne_zero fun hz=>y8 (f0 hz);obtain⟨cur,f2,f3,⟨tt,fz,f4,fo⟩,f5,f6,f7,f8,f9⟩:=frl g_;obtain⟨u,hu,hr⟩:=f8.get hj;obtain⟨g',k1,k2,k3⟩:=Iq hl hsz hs hx hc hy hw' ht _ _ _ g w u h1 hr;have ai':lk o (⟨(st.tb.cD d).bx,st.tb.rw,st.tb.nx+1⟩:Tb).bx=some ob:=by
  simp only[Tb.cD,cu];rw[if_neg (by first|exact hod|exact fun h=>hod h.symm)];exact hlo
 have key:=k2.aP (o':={ob with xs:=ob.xs.set j (.p (.sl ys))}) (cur':=cur) ai' (k1.ob _ _ f1) g_ f4 rfl rfl rfl (by simpa using f7) (by
  simp only[List.length_set];exact ry j _ hu (f8.mono k1) k3) (by simpa using f9)
 have hw:w.setRow b cur=w:=setRow_self f4;rw[hw]at key;exact⟨g',h0.trans k1,key,fun t=>(h2 t).mono k1,h3,h4⟩
end Go.Av
namespace Go.Av
open Go.Proofs Go.Proofs.Tryz Go.aT
theorem RL(l:List (Int×Int)):(l.map kG).flatMap aU=(AY l).map AV.p:=by
 induction l with
 |nil=>rfl
 |cons x l ih=>rw[List.map_cons,List.flatMap_cons,ih];rfl
theorem WJ(w w1:Sm)(s2:St)(c:Int)(he:w.ended=false)(alY:0<=w1.s.ord/\w1.s.ord<=1000000000000)(ho2:0<=s2.ord/\s2.ord<=1000000000000)(FD:aE prog 59 [.obj 7 0,.p (cy w.rest)] ⟨jG 0 8 w,fh 8,19⟩ (.p (.int 0)) ⟨jG 0 19 w1,fh 19,30⟩)(xF:aE prog 60 [.obj 6 0,.p (.int 1),.p (dI {w1.e with order:=w1.s.ord+1})] ⟨bO 0 7 w1.s,fh 7,17⟩ (.agg true [.p (.bool true),.p (.int c)]) ⟨bO 0 17 s2,fh 17,27⟩):aE prog 15 [.obj 7 0] ⟨jG 0 8 w,fh 8,19⟩ (.agg true [.p (.bool true),.p (.int c)]) ⟨bO 0 19 {s2 with ord:=s2.ord+1},fh 19,29⟩:=by
 have w2:IntKind.i64.wrap (w1.s.ord+1)=w1.s.ord+1:=aD;have w3:IntKind.i64.wrap (s2.ord+1)=s2.ord+1:=aD;refine ji (rs:=[_,_]) [] [(7,[(3,.r 1),(7,.r 1),(8,.w [1])])] [(1,7)] func15 rfl (by kernel_rfl) (by kernel_rfl) (by simp[ntmps15]) rfl ?_;refine bM mixed (fun _:Unit=>True) (fun _=>[(0,.obj 7 0)]) (fun _=>⟨jG 0 8 w,fh 8,19⟩) ?_ (fun _ _=>?_)
 ·simp[jG,nE,ni,bO,aG,aj,cM,bR,bN,cz];exact ak (by simp)
 refine bM mixed (fun _:Unit=>True) (fun _=>[(0,.obj 7 0)]) (fun _=>⟨jG 0 8 w,fh 8,19⟩) ?_ (fun _ _=>?_)
 ·simp[jG,nE,ni,bO,aG,aj,cM,bR,bN,cz,he];exact ak (by simp)
 refine bM mixed (fun _:Unit=>True) (fun _=>[(0,.obj 7 0),(4,.p (.int 0))]) (fun _=>⟨jG 0 19 w1,fh 19,30⟩) ?_ (fun _ _=>?_)
 ·simp[jG,nE,ni,bO,aG,aj,cM,bR,bN,cz];refine aA FD (by simp) (by simp[ay,jG,nE,ni,bO,aG,aj,cM,bR,bN,cz]) (by simp[ay]) rfl ?_;simp[jG,nE,ni,bO,aG,aj,cM,bR,bN,cz];exact ak (by simp)
 refine qo (RN 7 15 29 w1.e.body.length 2 none (nE 6 29 w1) (ni w1.e.body) (w1.e.body.map kG) rfl rfl (by omega) rfl rfl (by omega) (by simp[ni]) (by rw[RL];exact fY (by simp[ni])) (by simp) (by intro y hy;obtain⟨a,_,rfl⟩:=List.mem_map.1 hy;rfl) (by intro y hy;obtain⟨a,_,rfl⟩:=List.mem_map.1 hy;rfl)) ?_;refine iH mixed ?_;simp[jG,nE,ni,bO,aG,aj,cM,bR,bN,cz,Tb.aP,Tb.cD,del,w2];refine Fy [0,1,2,3,4,5,6,19,20,21,22,23,24,25,26,27,28] xF ?_;simp[-az,bO,aG,aj,cM,bR,bN,cz,w3,results15];exact⟨[(19,31),(20,32),(21,33),(22,34),(23,35),(24,36),(25,37),(26,38),(27,39),(28,40)],by simp⟩
end Go.Av
namespace Go.aT
open Go.Av
theorem i_{n:Nat}(h1:1<=n)(h2:n<=65536):su (Mp.new n):=by
 refine⟨h2,⟨VY h1,by simp[Mp.new]⟩,qp,qp,fun s _ hm=>?_,fun s _ hm=>?_⟩
 ·obtain⟨e,he,_⟩:=hm;simp[Mp.new]at he
 ·obtain⟨e,he,_⟩:=hm;simp[Mp.new]at he
def lI(N:Nat)(D:aN):St:=⟨D,fq 1 5 fH,5,30,0,Mp.new 30,Mp.new (N-246),[],0,[],true⟩
theorem adn(t:Nat){m:Mk}(h1:2<=m.at')(h2:m.at'<=5):JB t 5 (fq 1 5 m):=by
 refine⟨⟨by simp[fq],by simp[fq],by simp[fq],?_,?_⟩,by simp[fq],by simp[fq],?_,by simp[fq]⟩
 ·simp only[fq];omega
 ·simp only[fq];omega
 ·simp only[fq];omega
theorem M7{N t:Nat}(hN:N=262\/N=462){D:aN}(h:Gd N D)(hq:D.q.length<=t*t):jU t (lI N D):=by
 have hk:=h.kl;refine⟨h.FC (by omega) hq,adn t (by simp[fH]) (by simp[fH]),by simp[lI],by simp[lI],?_,i_ (by omega) (by omega),i_ (by omega) (by omega),rfl,?_,by simp[lI],by simp[lI],by simp[lI],by simp[lI],by simp[lI],by simp[lI]⟩
 ·simp only[lI,cG,hk];omega
 ·simp only[lI,cG,hk,Mp.new];omega
structure nw(N:Nat)(D:aN):Prop where
 gd:Gd N D
 q:D.q=[]
 head:seg D.now 0 1=[ey 0 0]
 Ak:seg D.now 1 5=DK
structure adw(t t2 t3:Nat)(s s1:St)(e:cZ)(x:Int×Int)(k:Kn):Prop where
 eok:e.Ok
 xb:(0<=x.1/\x.1<=65536)/\0<=x.2/\x.2<=255
 F:z_ s.sl.F
 il:s.ix.length<=100000
 sp:4*depth s.ix.length+4<=Aa s.sl.F
 ix:s1.ix=s.ix
 ok1:jU t s1
 kk:k=⟨e.uri++10::e.var,e.order,x.1*256+x.2,e.body⟩
 kl:k.key.length<=1000
 at':Uo s.ix k.key=false/\Fx s.ix k.key=s.ix.length
 R:(s1.uL k.key k.place).e=0
 cok:fL t2 (s1.uL k.key k.place).s
 d:((s1.uL k.key k.place).s.s.commit (s1.uL k.key k.place).root (s1.ix.length+1)).2.1=true
 tx:(s1.FO (s1.ix.length+1) k.key k.place).1.ix=s1.ix
 ok3:jU t3 {(s1.FO (s1.ix.length+1) k.key k.place).1 with ix:=s1.ix++[k]}
theorem Xj(key:List UInt8):Uo [] key=false/\Fx [] key=0:=by
 have h:Fx [] key=0:=by unfold Fx;simp[Ci]
 exact⟨by unfold Uo;simp,h⟩
theorem M9{v:Int}(h0:0<=v)(h1:v<1099511627776):Go.cC.lH key1 v=true:=by
 have:key1.length=11:=rfl;unfold Go.cC.lH;rw[this];simp;omega
theorem Ca(b:List UInt8)(h:b.length<=1000000):KOk (zZ b):=by
 have hb:=HS (bQ b) (by unfold bQ;omega);have hn:bQ b<=60000:=by unfold bQ;omega
 refine⟨?_,by simp[zZ],?_,?_,?_⟩
 ·show key1.length<=1000;decide
 ·simp only[zZ];omega
 ·show(rS (bQ b)).length<=8;omega
 ·intro e he;have:=hb.2 e he;omega
theorem jU.idx{t:Nat}{s:St}(h:jU t s)(k:Kn)(hk:KOk k):jU t {s with ix:=[]++[k]}:={h with ixl:=by simp,ix:=by simp;exact hk,srt:=by simp}
theorem Nx{N t:Nat}(hN:N=262\/N=462)(ht:1000<=t/\t<=10000){D0 D:aN}(h0:nw N D0){b:List UInt8}(hb:b.length<=3000)(UB:bQ b+2<N-246){R:List Ext}(hG:Gd N D)(hq:D.q.length<=200)(hS:jU t {lI N D0 with D:=D,rm:={(lI N D0).rm with F:=[(bQ b,N-246-bQ b)],R:=R}})(D9:∀a n,a+n<=246->seg D.now a n=seg D0.now a n)(hc:∃z,(seg D.now 246 (bQ b)).flatten=b++List.replicate z 0):∃s s1 s2:St,s={lI N D0 with D:=D,rm:={(lI N D0).rm with F:=[(bQ b,N-246-bQ b)],R:=R}}/\s1=s.Cn (bW b)/\s.Cm (bW b)=((bQ b:Int),2)/\(s.Gf (bW b)).2=0/\(s.rm.F.any fun x=>decide ((kZ (bW b)).length<=x.2))=true/\s.rm.run (kZ (bW b)).length<s.rm.F.length/\adw t (t+8) (t+100) s s1 (bW b) ((bQ b:Int),2) (zZ b)/\(s1.Di 1 (zZ b))=(s2,0)/\jU (t+200) s2/\nU N 246 b (ey 0 0) rU s2.D/\s2.ix=[zZ b]/\s2.jn=5/\s2.pn=30/\s2.ord=0:=by
 have hm:bQ b<=47:=by unfold bQ;omega
 have hrc:=Nb b (by omega);have V8:t*t>=1000*t:=Nat.mul_le_mul_right _ ht.1;obtain⟨s,hs⟩:∃s,s={lI N D0 with D:=D,rm:={(lI N D0).rm with F:=[(bQ b,N-246-bQ b)],R:=R}}:=⟨_,rfl⟩;rw[<-hs]at hS;have hsF:s.rm.F=[(bQ b,N-246-bQ b)]:=by rw[hs]
 have Ai:cG s.jn s.pn=((246:Nat):Int):=by rw[hs];rfl
 obtain⟨R1,hR1⟩:=take_one (M:=s.rm) (k:=2) hsF (by omega) (by omega);rw[<-hrc]at hR1;have hx:s.Cm (bW b)=((bQ b:Int),2):=by unfold St.Cm;rw[hR1,hrc];rfl
 obtain⟨w1,w2,w3,w4,w5⟩:=hG.write (a:=246+bQ b) (l:=kZ (bW b)) (by rw[hrc];omega) (mS _);have hW:s.Gf (bW b)=D.write ((246+bQ b:Nat):Int) (kZ (bW b)):=by
  unfold St.Gf;rw[hx,Ai];have e:((246:Nat):Int)+((bQ b:Int),(2:Int)).1=((246+bQ b:Nat):Int):=by simp only;omega
  rw[e,hs]
 rw[hrc]at w5;generalize y7:(D.write ((246+bQ b:Nat):Int) (kZ (bW b))).1=D1 at w2 w3 w4 w5;have hs1:s.Cn (bW b)={lI N D0 with D:=D1,rm:={(lI N D0).rm with F:=[(bQ b+2,N-246-bQ b-2)],R:=R1}}:=by
  unfold St.Cn;rw[hR1,hW,y7,hrc,hs]
 have QH:su {(lI N D0).rm with F:=[(bQ b+2,N-246-bQ b-2)],R:=R1}:=by
  have:=(hS.rm.take (kZ (bW b)).length).1;rw[hR1,hrc,hs]at this;exact this
 have NH:jU t {lI N D0 with D:=D1,rm:={(lI N D0).rm with F:=[(bQ b+2,N-246-bQ b-2)],R:=R1}}:=by
  have:=hS.adO w2 (by rw[hs];exact hG.kl.symm) (by omega) (by rw[w5];omega) QH (by rw[hs]);rw[hs]at this;exact this
 obtain⟨s1,xj⟩:∃s1,s1={lI N D0 with D:=D1,rm:={(lI N D0).rm with F:=[(bQ b+2,N-246-bQ b-2)],R:=R1}}:=⟨_,rfl⟩;rw[<-xj]at hs1 NH;have WC:Go.cC.lH key1 ((bQ b:Int)*256+2)=true:=M9 (by omega) (by omega);obtain⟨R2,D2,t1,t2,t3,t4,t5,_,t6⟩:=Xk (s:=s1) (n:=30) (j:=5) (N:=N) WC (by rw[xj];rfl) (by rw[xj];rfl) (by omega) (by rw[xj];exact w2) (by rw[xj];rfl) (by omega);have adP:fL (t+8) (s1.uL key1 ((bQ b:Int)*256+2)).s:=by
  have h:=fL.sv (t:=t) (c:=⟨s1,[],[]⟩) ⟨NH,by simp,by simp,by simp,by simp⟩ (dN key1 ((bQ b:Int)*256+2));rw[<-t6]at h;have hroot:s1.root=0:=by rw[xj];rfl
  unfold St.uL;rw[hroot];exact h
 have Im:=adP;rw[t1]at Im;obtain⟨c,hce⟩:∃c:St,c={s1 with sl:={s1.sl with F:=[(1,30-1)],R:=R2},D:=D2}:=⟨_,rfl⟩;rw[<-hce]at t1 Im;simp only at Im;have hcS:=Im.s;simp only at hcS;have hcJ:c.J=fq 1 5 fH:=by rw[hce,xj];rfl
 have hcD:c.D=D2:=by rw[hce]
 have F9:c.J.commit c.D [(0,ey 1 1)]=((fq 1 5 fH).done [(0,ey 1 1)] 2,(aI (gv 1 (jF 1 [(0,ey 1 1)]) ((2:Nat):Int)) D2).1.flush.1,true,(aI (gv 1 (jF 1 [(0,ey 1 1)]) ((2:Nat):Int)) D2).1.flush.2)/\Gd N (aI (gv 1 (jF 1 [(0,ey 1 1)]) ((2:Nat):Int)) D2).1.flush.1:=by
  rw[hcJ,hcD];obtain⟨g1,g2,g3,g4,g5,g6⟩:=MY t2 (a:=2) (m:=2) (L:=jF 1 [(0,ey 1 1)]) (by simp[ud]) (HN _ _ (by simp[nD]) (by simp)) (by omega);refine⟨?_,g3⟩;have hf:oZ D2.kept.length (fq 1 5 fH) [(0,ey 1 1)]=0:=by
   rw[t2.kl];rcases hN with rfl|rfl<;>kernel_rfl
  have hr:mg (fq 1 5 fH) (([(0,ey 1 1)]:List xe).length+2)=(((2:Nat):Int),true):=by kernel_rfl
  unfold Jr.commit;rw[if_pos hf,hr];simp only[if_true];unfold Jr.Cv;show(if(aI (gv 1 (jF 1 [(0,ey 1 1)]) ((2:Nat):Int)) D2).2=0 then _ else _)=_;rw[if_pos g1];rfl
 obtain⟨F9,_⟩:=F9;obtain⟨g1,g2,g3,g4,g5,g6⟩:=MY t2 (a:=2) (m:=2) (L:=jF 1 [(0,ey 1 1)]) (by simp[ud]) (HN _ _ (by simp[nD]) (by simp)) (by omega);rw[g2]at F9;generalize hD3:(aI (gv 1 (jF 1 [(0,ey 1 1)]) ((2:Nat):Int)) D2).1.flush.1=D3 at F9 g3 g4 g5 g6;have hcc:c.commit 1 1=({c with J:=(fq 1 5 fH).done [(0,ey 1 1)] 2,D:=D3,root:=1,sure:=false},true,0):=by
  unfold St.commit;rw[F9];simp
 have Xl:=hcS.commit (by omega) 1 1 (by omega);rw[hcc]at Xl;simp only at Xl;have qP:s1.ix=[]:=by rw[xj];rfl
 have Xm:s1.FO (s1.ix.length+1) key1 ((bQ b:Int)*256+2)=({c with J:=(fq 1 5 fH).done [(0,ey 1 1)] 2,D:=D3,root:=1,sure:=false},0):=by
  unfold St.FO;rw[t1,qP];rw[show(((([]:List Kn).length:Nat):Int)+1)=1 from rfl,hcc];simp[dH]
 have ai7:c.ix=[]:=by rw[hce,qP]
 have hkn:(zZ b).key=key1/\(zZ b).place=(bQ b:Int)*256+2:=⟨rfl,rfl⟩;have hS3:jU (t+100) {({c with J:=(fq 1 5 fH).done [(0,ey 1 1)] 2,D:=D3,root:=1,sure:=false}:St)with ix:=s1.ix++[zZ b]}:=by
  rw[qP];exact(Xl.up (by omega)).idx _ (Ca b (by omega))
 have hput:s1.Di 1 (zZ b)=((({({c with J:=(fq 1 5 fH).done [(0,ey 1 1)] 2,D:=D3,root:=1,sure:=false}:St)with ix:=s1.ix++[zZ b]}:St).wrote 1 0 key1),0):=by
  unfold St.Di;rw[hkn.1,hkn.2,Xm]
 have ai8:=(hS3.wrote 1 0 key1).up (t':=t+200) (by omega);refine⟨s,s1,_,hs,hs1.symm,hx,by rw[hW];exact w1,?_,?_,?_,hput,ai8,?_,?_,?_,?_,?_⟩
 ·rw[hsF,hrc];simp;omega
 ·have hr:=Cw (M:=s.rm) (k:=2) hsF (by omega);rw[hrc,hr,hsF];simp
 ·have lZ:s.sl=Mp.new 30:=by rw[hs];rfl
  have hsx:s.ix=[]:=by rw[hs];rfl
  refine⟨B_ b (by omega),by simp only;omega,by rw[lZ];exact(i_ (n:=30) (by omega) (by omega)).F.Lx (by show 30<=65536;omega),by rw[hsx];simp,?_,by rw[qP,hsx],NH,rfl,(Ca b (by omega)).key,by rw[hsx];exact Xj _,?_,?_,?_,?_,?_⟩
  ·rw[hsx,lZ];decide
  ·rw[hkn.1,hkn.2,t1]
  ·rw[hkn.1,hkn.2];exact adP
  ·rw[hkn.1,hkn.2,t1,qP];rw[show(((([]:List Kn).length:Nat):Int)+1)=1 from rfl,hcc]
  ·rw[hkn.1,hkn.2,Xm];simp only;rw[ai7,qP]
  ·rw[hkn.1,hkn.2,Xm];exact hS3
 ·
  have hfree:(({({c with J:=(fq 1 5 fH).done [(0,ey 1 1)] 2,D:=D3,root:=1,sure:=false}:St)with ix:=s1.ix++[zZ b]}:St).wrote 1 0 key1).D=D3:=by
   unfold St.wrote;rw[if_pos rfl];rfl
  rw[hfree];have h1:=hG.nl;have al0:=w2.nl;have ai9:s1.D=D1:=by rw[xj]
  rw[ai9]at t3;have Xn:rU.length=5:=rfl;refine⟨g3,g4,?_,?_,?_,?_,?_⟩
  ·rw[g6 0 1 (by omega),t3,aV (by rw[t5];omega) (by rw[t5];omega),w3,aV (by rw[hrc];omega) (by rw[hrc];omega),D9 0 1 (by omega),h0.head]
  ·rw[Xn,show(5:Nat)=2+3 from rfl,kU];have e1:seg D3.now 1 2=[Go.Av.kI,bX fH]:=by
    rw[g6 1 2 (by omega),t3,aV (by rw[t5];omega) (by rw[t5];omega),w3,aV (by rw[hrc];omega) (by rw[hrc];omega),D9 1 2 (by omega)];have:=rq D0.now 1 5 0 2 (by omega);rw[h0.Ak]at this;exact this.symm
   have e2:seg D3.now (1+2) 3=jF 1 [(0,ey 1 1)]:=g5;rw[e1,e2];rfl
  ·rw[Xn,g6 (1+5) 8 (by omega),t3];have:=dQ (L:=D1.now) (a:=1+5) (l:=Lz key1 ((bQ b:Int)*256+2)) (by rw[t5];omega);rw[t5]at this;exact this
  ·obtain⟨z,hz⟩:=hc;refine⟨z,?_⟩;rw[g6 246 (bQ b) (by omega),t3,aV (by rw[t5];omega) (by rw[t5];omega),w3,aV (by rw[hrc];omega) (by rw[hrc];omega),hz]
  ·rw[g6 (246+bQ b) 2 (by omega),t3,aV (by rw[t5];omega) (by rw[t5];omega),w3];have:=dQ (L:=D.now) (a:=246+bQ b) (l:=kZ (bW b)) (by rw[hrc];omega);rw[hrc]at this;exact this
 ·unfold St.wrote;rw[if_pos rfl];simp only[St.free];rw[qP];rfl
 ·unfold St.wrote;rw[if_pos rfl];simp only[St.free];rw[hce,xj];rfl
 ·unfold St.wrote;rw[if_pos rfl];simp only[St.free];rw[hce,xj];rfl
 ·unfold St.wrote;rw[if_pos rfl];simp only[St.free];rw[hce,xj];rfl
theorem ac5{N:Nat}(hN:N=262\/N=462):∃D,xh (aN.made N) 5 30=(D,0)/\nw N D:=by
 have h0:Gd N (aN.made N):=Gd.made;obtain⟨a1,a2,a3,a4,a5⟩:=h0.write (a:=0) (l:=[ey 0 0]) (by simp;omega) (by intro s hs;simp at hs;subst hs;exact nD _ _);have z5:(List.replicate 5 (Go.Av.cW [])).length=5:=by simp
 obtain⟨b1,b2,b3,b4,b5⟩:=a2.write (a:=1) (l:=List.replicate 5 (Go.Av.cW [])) (by rw[z5];omega) (by intro s hs;rw[(List.mem_replicate.1 hs).2];rfl);obtain⟨c1,c2,c3,c4,c5⟩:=b2.flush;obtain⟨d1,d2,d3,d4,d5⟩:=c2.write (a:=2) (l:=[bX fH]) (by simp;omega) (by intro s hs;simp at hs;subst hs;exact rf _);obtain⟨e1,e2,e3,e4,e5⟩:=d2.flush;have hf:xh (aN.made N) 5 30=(((((aN.made N).write ((0:Nat):Int) [ey 0 0]).1.write ((1:Nat):Int) (List.replicate 5 (Go.Av.cW []))).1.flush.1.write ((2:Nat):Int) [bX fH]).1.flush.1,0):=by
  unfold xh;have q1:ig ((aN.made N).kept.length:Int) 5 30=0:=by rw[h0.kl];rcases hN with rfl|rfl<;>rfl
  rw[if_pos q1];show(if((aN.made N).write ((0:Nat):Int) [ey 0 0]).2=0 then DY ((aN.made N).write ((0:Nat):Int) [ey 0 0]).1 1 5 else _)=_;rw[if_pos a1];unfold DY;have q2:pU ((aN.made N).write ((0:Nat):Int) [ey 0 0]).1.kept.length 1 5=0:=by rw[a2.kl];rcases hN with rfl|rfl<;>rfl
  rw[if_pos q2];unfold fmtS;simp only[aI];show(if(((aN.made N).write ((0:Nat):Int) [ey 0 0]).1.write ((1:Nat):Int) (List.replicate 5 (Go.Av.cW []))).2=0 then
   (if(((aN.made N).write ((0:Nat):Int) [ey 0 0]).1.write ((1:Nat):Int) (List.replicate 5 (Go.Av.cW []))).1.flush.2=0 then
   (if((((aN.made N).write ((0:Nat):Int) [ey 0 0]).1.write ((1:Nat):Int) (List.replicate 5 (Go.Av.cW []))).1.flush.1.write ((2:Nat):Int) [bX fH]).2=0 then
   (if((((aN.made N).write ((0:Nat):Int) [ey 0 0]).1.write ((1:Nat):Int) (List.replicate 5 (Go.Av.cW []))).1.flush.1.write ((2:Nat):Int) [bX fH]).1.flush.2=0 then
    (((((aN.made N).write ((0:Nat):Int) [ey 0 0]).1.write ((1:Nat):Int) (List.replicate 5 (Go.Av.cW []))).1.flush.1.write ((2:Nat):Int) [bX fH]).1.flush.1,0)else _)else _)else _)else _)=_
  rw[if_pos b1,if_pos c1,if_pos d1,if_pos e1]
 refine⟨_,hf,e2,e5,?_,?_⟩
 ·rw[e3,d3,aV (by rw[c2.nl];simp;omega) (by simp),c3,b3,aV (by rw[a2.nl,z5];omega) (by omega),a3];exact dQ (a:=0) (l:=[ey 0 0]) (by rw[h0.nl];simp;omega)
 ·rw[e3,d3,c3];have h1:((((aN.made N).write ((0:Nat):Int) [ey 0 0]).1.write ((1:Nat):Int) (List.replicate 5 (Go.Av.cW []))).1.now).length=N:=b2.nl;have hin:=dQ (L:=((aN.made N).write ((0:Nat):Int) [ey 0 0]).1.now) (a:=1) (l:=List.replicate 5 (Go.Av.cW [])) (by rw[a2.nl,z5];omega);rw[z5,<-b3]at hin;generalize((((aN.made N).write ((0:Nat):Int) [ey 0 0]).1.write ((1:Nat):Int) (List.replicate 5 (Go.Av.cW []))).1.now)=L at h1 hin;have s1:seg (ov L 2 [bX fH]) 1 1=seg L 1 1:=aV (by rw[h1];simp;omega) (by simp);have s2:seg (ov L 2 [bX fH]) 2 1=[bX fH]:=dQ (a:=2) (l:=[bX fH]) (by rw[h1];simp;omega);have s3:seg (ov L 2 [bX fH]) 3 3=seg L 3 3:=aV (by rw[h1];simp;omega) (by simp);have t1:=rq L 1 5 0 1 (by omega);have t3:=rq L 1 5 2 3 (by omega);rw[hin]at t1 t3;rw[show(5:Nat)=1+(1+3)from rfl,kU,kU,s1,s2,s3];rw[show 1+0=1 from rfl]at t1;rw[show 1+2=3 from rfl]at t3;rw[<-t1,<-t3];rfl
theorem nw.same{N:Nat}{D D':aN}(h:nw N D)(hG:Gd N D')(hn:D'.now=D.now)(hq:D'.q=D.q):nw N D':=⟨hG,hq.trans h.q,by rw[hn];exact h.head,by rw[hn];exact h.Ak⟩
theorem WS{N:Nat}(hN:N=262\/N=462){D:aN}(h:nw N D):∃D',nG D 1 5=(D',some (fq 1 5 fH),0,0)/\nw N D':=by
 obtain⟨r1,r2,r3,r4,r5⟩:=h.gd.read (a:=1) (n:=5) (by omega);rw[h.Ak]at r1;refine⟨(D.read ((1:Nat):Int) ((5:Nat):Int)).1,?_,h.same r2 r3 r5⟩;have q2:pU D.kept.length 1 5=0:=by rw[h.gd.kl];rcases hN with rfl|rfl<;>rfl
 unfold nG;rw[if_pos q2];have e:D.read 1 5=D.read ((1:Nat):Int) ((5:Nat):Int):=rfl;rw[e,r1];simp only[if_true];rw[adf];simp only[if_true];rw[h.gd.kl];have hl:k9 N DK DK.length (fq 1 5 fH)=fq 1 5 fH:=adi hN;rw[hl];have hc:(fq 1 5 fH).oB fH=fq 1 5 fH:=by kernel_rfl
 rw[hc];have h0:¬(0:Int)<(fq 1 5 fH).cnt:=by simp[fq]
 rw[if_neg h0];have hs:(fq 1 5 fH).settled=fq 1 5 fH:=by kernel_rfl
 rw[hs];rfl
theorem open_1{N:Nat}(hN:N=262\/N=462){D:aN}{b:List UInt8}(UB:bQ b+2<N-246)(h:nU N 246 b (ey 0 0) rU D):∃D',nG D 1 5=(D',some (fq 1 5 mk2),1,0)/\nU N 246 b (ey 1 1) om D':=by
 have Xn:rU.length=5:=rfl;have afB:om.length=5:=rfl;obtain⟨r1,r2,r3,r4,r5⟩:=h.gd.read (a:=1) (n:=5) (by omega);have QA:=h.Ak;rw[Xn]at QA;rw[QA]at r1;have q2:pU D.kept.length 1 5=0:=by rw[h.gd.kl];rcases hN with rfl|rfl<;>rfl
 have e:D.read 1 5=D.read ((1:Nat):Int) ((5:Nat):Int):=rfl;generalize y7:(D.read ((1:Nat):Int) ((5:Nat):Int)).1=D1 at r2 r3 r5;obtain⟨a1,a2,a3,a4,a5⟩:=r2.write (a:=0) (l:=[ey 1 1]) (by simp;omega) (by intro s hs;simp at hs;subst hs;exact nD _ _);obtain⟨c1,c2,c3,c4,c5⟩:=a2.flush;obtain⟨d1,d2,d3,d4,d5⟩:=c2.write (a:=1) (l:=[bX mk2]) (by simp;omega) (by intro s hs;simp at hs;subst hs;exact rf _);obtain⟨e1,e2,e3,e4,e5⟩:=d2.flush;have hop:aI (oJ MZ) D1=(((D1.write ((0:Nat):Int) [ey 1 1]).1.flush.1.write ((1:Nat):Int) [bX mk2]).1.flush.1,0):=by
  have hmk:MZ.mZ=mk2:=by kernel_rfl
  have ht:∀E:aN,MZ.tell E=E.write ((1:Nat):Int) [bX mk2]:=fun E=>by
   unfold Jr.tell;rw[hmk];rfl
  have hh:gU MZ.bY D1=((D1.write ((0:Nat):Int) [ey 1 1]).1,0):=by
   show(if(D1.write ((0:Nat):Int) [ey 1 1]).2=0 then gU [] (D1.write ((0:Nat):Int) [ey 1 1]).1 else _)=_;rw[if_pos a1];rfl
  unfold oJ;simp only[aI];rw[hh];simp only[if_true];rw[if_pos c1,ht,if_pos d1,if_pos e1]
 refine⟨((D1.write ((0:Nat):Int) [ey 1 1]).1.flush.1.write ((1:Nat):Int) [bX mk2]).1.flush.1,?_,e2,e5,?_,?_,?_,?_,?_⟩
 ·unfold nG;rw[if_pos q2,e,r1];simp only[if_true];rw[adg];simp only[if_true];rw[h.gd.kl];have hl:k9 N rU rU.length (fq 1 5 fH)={MZ with cnt:=0}:=adj hN;rw[hl];have hc:({MZ with cnt:=0}:Jr).oB fH=MZ:=by kernel_rfl
  rw[hc];have h0:(0:Int)<MZ.cnt:=by simp[MZ]
  rw[if_pos h0,y7,hop];simp only[if_true];have hs:MZ.settled=fq 1 5 mk2:=by kernel_rfl
  rw[hs];rfl
 all_goals rw[e3,d3,c3,a3,r3]
 ·rw[aV (by rw[nT (by rw[h.gd.nl];simp;omega),h.gd.nl];simp;omega) (by simp)];exact dQ (a:=0) (l:=[ey 1 1]) (by rw[h.gd.nl];simp;omega)
 ·rw[afB,show(5:Nat)=1+4 from rfl,kU];have s1:seg (ov (ov D.now 0 [ey 1 1]) 1 [bX mk2]) 1 1=[bX mk2]:=dQ (a:=1) (l:=[bX mk2]) (by rw[nT (by rw[h.gd.nl];simp;omega),h.gd.nl];simp;omega);rw[s1,aV (by rw[nT (by rw[h.gd.nl];simp;omega),h.gd.nl];simp;omega) (by simp),aV (by rw[h.gd.nl];simp;omega) (by simp)];have t1:=rq D.now 1 5 1 4 (by omega);rw[QA]at t1;rw[<-t1];rfl
 ·rw[afB,aV (by rw[nT (by rw[h.gd.nl];simp;omega),h.gd.nl];simp;omega) (by simp),aV (by rw[h.gd.nl];simp;omega) (by simp)];have:=h.page;rw[Xn]at this;exact this
 ·rw[aV (by rw[nT (by rw[h.gd.nl];simp;omega),h.gd.nl];simp;omega) (by simp),aV (by rw[h.gd.nl];simp;omega) (by simp)];exact h.body
 ·rw[aV (by rw[nT (by rw[h.gd.nl];simp;omega),h.gd.nl];simp;omega) (by simp;omega),aV (by rw[h.gd.nl];simp;omega) (by simp;omega)];exact h.rc
theorem WT{N:Nat}(hN:N=262\/N=462){D:aN}{b:List UInt8}(h:nU N 246 b (ey 1 1) om D):∃D',nG D 1 5=(D',some (fq 1 5 mk2),0,0)/\nU N 246 b (ey 1 1) om D':=by
 have Xn:om.length=5:=rfl;obtain⟨r1,r2,r3,r4,r5⟩:=h.gd.read (a:=1) (n:=5) (by omega);have QA:=h.Ak;rw[Xn]at QA;rw[QA]at r1;refine⟨(D.read ((1:Nat):Int) ((5:Nat):Int)).1,?_,h.same r2 r3 r5⟩;have q2:pU D.kept.length 1 5=0:=by rw[h.gd.kl];rcases hN with rfl|rfl<;>rfl
 unfold nG;rw[if_pos q2];have e:D.read 1 5=D.read ((1:Nat):Int) ((5:Nat):Int):=rfl;rw[e,r1];simp only[if_true];rw[adh];simp only[if_true];rw[h.gd.kl];have hl:k9 N om om.length (fq 1 5 mk2)=fq 1 5 mk2:=adk hN;rw[hl];have hc:(fq 1 5 mk2).oB mk2=fq 1 5 mk2:=by kernel_rfl
 rw[hc];have h0:¬(0:Int)<(fq 1 5 mk2).cnt:=by simp[fq]
 rw[if_neg h0];have hs:(fq 1 5 mk2).settled=fq 1 5 mk2:=by kernel_rfl
 rw[hs];rfl
end Go.aT
namespace Go.Av
open Go.Proofs Go.Proofs.Tryz Go.aT
theorem NA(s:St)(hl:s.ix.length<=1000000):aE prog 27 [.obj 6 0] ⟨[(6,bR 0 7 s),(15,bN s.ix)],[],17⟩ (.p (.sl (s.ix.map fun k=>PC.str k.key))) ⟨[(6,bR 0 7 s),(15,bN s.ix)],[],18⟩:=by
 refine ah (rs:=[_]) [] [] [] func27 rfl ?_;simp[bR,bN];refine aL (fun k:Nat=>k<=s.ix.length) (fun k=>[(9,.view 15 0 s.ix.length 4 none),(10,.p (.int s.ix.length)),(11,.p (.int k)),(3,.own 17 ((s.ix.take k).map fun k=>PC.str k.key))]) (fun _=>⟨[(6,bR 0 7 s),(15,bN s.ix)],[(17,9,1)],18⟩) (fun k=>s.ix.length-k) 0 (by simp)
  _ (yJ 3 9 1 [] (.inr ⟨rfl,by simp⟩)) (ak (by simp[bR,bN])) ?_
 intro k hk;by_cases ck:k<s.ix.length
 ·have Sb:=Sc ck;obtain⟨K,hK⟩:∃K,s.ix[k]=K:=⟨_,rfl⟩;rw[hK]at Sb;have hle:k*4+4<=s.ix.length*4:=by omega
  have ady:List.take 4 (List.drop (k*4) (List.map AV.p (A0 s.ix)))=[.p (.str K.key),.p (.int K.order),.p (.int K.place),.p (.sl (K.body.map kG))]:=by
   rw[<-List.map_drop,<-List.map_take,Sb];rfl
  have wk:=jq k;have oK:s.ix.take (k+1)=s.ix.take k++[K]:=by rw[iA ck,hK]
  simp[ck,bR,bN,hle,ady,wk];have rQ:(s.ix.take k).length<=1000000:=by simp;omega
  have WI:List.take (k+1) (List.map (fun k=>PC.str k.key) s.ix)=List.take k (List.map (fun k=>PC.str k.key) s.ix)++[PC.str K.key]:=by
   rw[<-List.map_take,oK,List.map_append,List.map_take];rfl
  exact⟨fun x hx=>by obtain⟨y,_,rfl⟩:=List.mem_map.1 (jH hx);rfl,by omega,by omega,k+1,by omega,by omega,aB [(17,19)] (by simp[WI])⟩
 ·obtain rfl:k=s.ix.length:=by omega
  simp[-az,bR,bN,results27];exact⟨[],by simp⟩
end Go.Av
namespace Go.aT
open Go.Av
def St.dJ(s:St)(key:List UInt8)(place:Int):St:={s with rm:=(s.rm.hold [(Kn.mk key 0 place []).eJ]).1}
def St.know(s:St)(un:List UInt8->cZ×Int)(key:List UInt8)(place:Int):St:={((s.dJ key place).read un (Kn.mk key 0 place []).eJ).1 with
 rm:=((s.dJ key place).rm.hold ((s.dJ key place).read un (Kn.mk key 0 place []).eJ).2.1.body).1,
 ord:=max s.ord ((s.dJ key place).read un (Kn.mk key 0 place []).eJ).2.1.order,
 ix:=s.ix++[⟨key,((s.dJ key place).read un (Kn.mk key 0 place []).eJ).2.1.order,place,((s.dJ key place).read un (Kn.mk key 0 place []).eJ).2.1.body⟩]}
end Go.aT
namespace Go.Av
open Go.Proofs Go.Proofs.Tryz Go.aT
theorem RU(un:List UInt8->cZ×Int)(t:Nat)(s:St)(h:jU t s)(QW:s.ix.length<=100000)(key:List UInt8)(place:Int)(rQ:key.length<=1000)(hpl:0<=place/\place<=1000000000)(hn0:(Kn.mk key 0 place []).eJ.2≠0)(hh:(s.rm.hold [(Kn.mk key 0 place []).eJ]).2=true)(hu:Mn un ((s.dJ key place).Wa (Kn.mk key 0 place []).eJ))(hr:((s.dJ key place).read un (Kn.mk key 0 place []).eJ).2.2=0)(ho:((s.dJ key place).read un (Kn.mk key 0 place []).eJ).2.1.Ok)(hk:((s.dJ key place).read un (Kn.mk key 0 place []).eJ).2.1.uri++10::((s.dJ key place).read un (Kn.mk key 0 place []).eJ).2.1.var=key)(pH:((s.dJ key place).read un (Kn.mk key 0 place []).eJ).2.1.body.length<=8)(Jk:((s.dJ key place).rm.hold ((s.dJ key place).read un (Kn.mk key 0 place []).eJ).2.1.body).2=true):aE prog 175 [.obj 6 0,.p (.agg false [.str key,.int place])] ⟨bO 0 7 s,fh 7,17⟩ (.p (.int 0)) ⟨bO 0 17 (s.know un key place),fh 17,27⟩:=by
 have LC:=OI (Kn.mk key 0 place []) hpl;have JI:(0<=(Kn.mk key 0 place []).eJ.1/\(Kn.mk key 0 place []).eJ.1<=4000000):=by unfold Kn.eJ;simp only;omega
 have NH:jU t (s.dJ key place):={h with rm:=(h.rm.hold _).1,Jf:=by have:=(h.rm.hold [(Kn.mk key 0 place []).eJ]).2;unfold St.dJ;simp only[this];exact h.Jf};have hrd:=Yg un t (s.dJ key place) NH (Kn.mk key 0 place []).eJ JI hu;have h1:=Cb 5 12 13 14 18 s.rm.n (by constructor<;>omega) h.rm.n _ _ _ h.rm.F h.rm.R h.rm.W [(Kn.mk key 0 place []).eJ] (by simp);obtain⟨Z,hZ⟩:∃Z,s.know un key place=Z:=⟨_,rfl⟩;rw[hZ];unfold St.know at hZ;have f1:(s.dJ key place).rm=(s.rm.hold [(Kn.mk key 0 place []).eJ]).1:=rfl;have hq1:eC s.rm.n s.rm.F [(Kn.mk key 0 place []).eJ]=true:=hh;rw[hq1]at h1;simp only[if_true]at h1;obtain⟨F1,hF1⟩:∃F1,([(Kn.mk key 0 place []).eJ].map toE).foldl fN s.rm.F=F1:=⟨_,rfl⟩;have hs1:s.dJ key place={s with rm:={s.rm with F:=F1}}:=by
  unfold St.dJ Mp.hold;simp only[hq1,if_true,hF1]
 rw[hF1]at h1;rw[hs1]at hrd hr ho hk pH Jk hZ NH;have hxn:(Kn.mk key 0 place []).eJ.2≠0:=hn0;obtain⟨rx,ajx⟩:∃rx,(Kn.mk key 0 place []).eJ=rx:=⟨_,rfl⟩;rw[ajx]at LC hrd h1 hr ho hk pH Jk hZ hxn;obtain⟨Y,hY⟩:∃Y,St.read un {s with rm:={s.rm with F:=F1}} rx=Y:=⟨_,rfl⟩;have Yh:Y.1={s with rm:={s.rm with F:=F1},D:=Y.1.D}:=by rw[<-hY];rfl
 rw[hY]at hrd hr ho hk pH Jk hZ;obtain⟨u,o,c⟩:=Y;simp only at hrd hr ho hk pH Jk hZ Yh;subst hr;obtain⟨D',hD'⟩:∃D',u.D=D':=⟨_,rfl⟩;rw[hD']at Yh;subst Yh;simp only at hrd Jk hZ;have Yi:=NH.rm;have h2:=Cb 5 24 25 26 30 s.rm.n (by constructor<;>omega) h.rm.n F1 s.rm.R s.rm.W Yi.F Yi.R Yi.W o.body (by omega);have hq2:eC s.rm.n F1 o.body=true:=Jk;rw[hq2]at h2;simp only[if_true]at h2;have hK:=Dk o.uri o.var (by have:=ho.uri;omega) (by have:=ho.var;omega);rw[hk]at hK;refine Bk (rs:=[_]) [] [(2,[(0,.r 1),(1,.w [1,2]),(8,.r 2),(9,.r 1),(10,.w [1,2]),(12,.w [1,2])]),(7,[(1,.r 3),(3,.r 3),(4,.w [2,3]),(12,.r 2),(14,.r 3),(15,.w [2,3])]),(9,[(1,.r 3),(3,.r 3),(5,.s 1 [3]),(7,.s 1 [3])]),(10,[(4,.r 2),(6,.r 3),(10,.s 2 [3])]),(11,[(4,.r 2),(5,.r 1),(7,.w [1,2]),(10,.s 2 [1])])] [(1,17),(2,6),(3,29)] mixed func175 rfl (by kernel_rfl) (by kernel_rfl) (by simp[ntmps175]) rfl ?_;have c0:(rx.2==0)=false:=by simpa using hxn
 simp[bO,aG,aj,cM,bR,bN,cz];refine bS LC ?_;simp[c0];refine bS LC ?_;simp;refine aA h1 (by simp) (by simp[ay]) (by simp[ay]) rfl ?_;simp;refine bS LC ?_;simp;refine Fy [0,1,2,3,4,5,6,7,8,9,10,11,18,13,14,15,16] hrd ?_;simp[bO,aG,aj,cM,bR,bN,cz];refine bS hK ?_;simp;refine aA h2 (by simp) (by simp[ay]) (by simp[ay]) rfl ?_;rw[<-hZ];have hmx:(if s.ord<o.order then o.order else s.ord)=max s.ord o.order:=by omega
 have oK:List.take (s.ix.length*4) (List.map AV.p (A0 s.ix))=List.map AV.p (A0 s.ix):=fY (by simp);have zZ:A0 [⟨key,o.order,place,o.body⟩]=[PC.str key,.int o.order,.int place,.sl (o.body.map kG)]:=rfl;have hhl:Mp.hold {n:=s.rm.n,F:=F1,R:=s.rm.R,W:=s.rm.W} o.body=({n:=s.rm.n,F:=(o.body.map toE).foldl fN F1,R:=s.rm.R,W:=s.rm.W},true):=by unfold Mp.hold;simp only[hq2,if_true]
 simp[-az,hmx,oK,HW,zZ,hhl,results175];exact⟨by omega,by omega,[(17,19),(18,20),(19,21),(20,22),(21,23),(22,30),(23,25),(24,26),(25,31),(26,28)],by simp⟩
end Go.Av
namespace Go.aT
open Go.Av
def fF(m:Mp)(l:List Int):Mp:=l.foldl (fun m p=>(m.hold [(p-1,1)]).1) m
theorem FT(m:Mp)(l:List Int)(p:Int):fF m (l++[p])=((fF m l).hold [(p-1,1)]).1:=by simp[fF]
theorem td{m:Mp}(h:su m)(l:List Int):su (fF m l)/\(fF m l).n=m.n/\(fF m l).R=m.R/\(fF m l).W=m.W:=by
 induction l generalizing m with
 |nil=>exact⟨h,rfl,rfl,rfl⟩
 |cons p l ih=>
  obtain⟨h1,h2⟩:=h.hold [(p-1,1)];obtain⟨k1,k2,k3,k4⟩:=ih h1;exact⟨k1,k2.trans h2,k3,k4⟩
def jt(un:List UInt8->cZ×Int):List (List UInt8×Int)->St->St
 |[],s=>s
 |x::l,s=>jt un l (s.know un x.1 x.2)
theorem yc(un:List UInt8->cZ×Int):∀(l:List (List UInt8×Int)) (x:List UInt8×Int) (s:St),jt un (l++[x]) s=(jt un l s).know un x.1 x.2
 |[],_,_=>rfl
 |_::l,x,s=>yc un l x _
structure FU(un:List UInt8->cZ×Int)(t:Nat)(s:St)(key:List UInt8)(place:Int):Prop where
 ok:jU t s
 il:s.ix.length<=100000
 kl:key.length<=1000
 pl:0<=place/\place<=1000000000
 n0:(Kn.mk key 0 place []).eJ.2≠0
 hh:(s.rm.hold [(Kn.mk key 0 place []).eJ]).2=true
 hu:Mn un ((s.dJ key place).Wa (Kn.mk key 0 place []).eJ)
 hr:((s.dJ key place).read un (Kn.mk key 0 place []).eJ).2.2=0
 ho:((s.dJ key place).read un (Kn.mk key 0 place []).eJ).2.1.Ok
 hk:((s.dJ key place).read un (Kn.mk key 0 place []).eJ).2.1.uri++10::((s.dJ key place).read un (Kn.mk key 0 place []).eJ).2.1.var=key
 pH:((s.dJ key place).read un (Kn.mk key 0 place []).eJ).2.1.body.length<=8
 Jk:((s.dJ key place).rm.hold ((s.dJ key place).read un (Kn.mk key 0 place []).eJ).2.1.body).2=true
structure yd(un:List UInt8->cZ×Int)(t:Nat)(s:St)(c1 c2 c4:Cs)(P:List Int)(L:List (List UInt8×Int)):Prop where
 ok:jU t s
 check:bA.check ⟨s,[],[]⟩ s.root=(c1,0)
 pages:bA.pages c1 s.root=(c2,P,0)
 pl:P.length<=1000000
 pb:∀p∈P,-1000000<=p/\p<=1000000
 hold:∀k (hk:k<P.length),((fF c2.s.sl (P.take k)).hold [(P[k]-1,1)]).2=true
 scan:bA.scan {c2 with s:={c2.s with sl:=fF c2.s.sl P}} s.root [] 65536=(c4,L,0)
 ll:L.length<=65536
 know:∀k (hk:k<L.length),FU un t (jt un (L.take k) c4.s) L[k].1 L[k].2
theorem WA(un:List UInt8->cZ×Int){N t:Nat}(hN:N=262\/N=462){D:aN}(h:nw N D):yd un t (lI N D) ⟨lI N D,[],[]⟩ ⟨lI N D,[],[]⟩ ⟨lI N D,[],[]⟩ [] []:=by
 have hr:(lI N D).root=0:=rfl;refine⟨M7 hN h.gd (by rw[h.q];simp),?_,?_,by simp,by simp,fun k hk=>by simp at hk,?_,by simp,fun k hk=>by simp at hk⟩
 ·rw[hr];simp[Go.cC.eu.check]
 ·rw[hr];simp[Go.cC.eu.pages]
 ·rw[hr];simp[Go.cC.eu.scan,fF]
def pS(N:Nat)(D:aN):St:=⟨D,fq 1 5 mk2,5,30,1,Mp.new 30,Mp.new (N-246),[],0,[],true⟩
theorem M8{N t:Nat}(hN:N=262\/N=462){D:aN}(h:Gd N D)(hq:D.q.length<=t*t):jU t (pS N D):=by
 have hk:=h.kl;refine⟨h.FC (by omega) hq,adn t (by simp[mk2]) (by simp[mk2]),by simp[pS],by simp[pS],?_,i_ (by omega) (by omega),i_ (by omega) (by omega),rfl,?_,by simp[pS],by simp[pS],by simp[pS],by simp[pS],by simp[pS],by simp[pS]⟩
 ·simp only[pS,cG,hk];omega
 ·simp only[pS,cG,hk,Mp.new];omega
theorem DM{n m k:Nat}(h1:1<=k)(h2:m+k<=n):((Mp.new n).hold [((m:Int),(k:Int))]).2=true:=by
 have ha:iM [(0,n)] m=0:=xJ (by omega);show eC n [(0,n)] _=true;unfold eC;rw[u_ h1 h2];simp[toE_nat,hasB,ha];omega
theorem JF{n m k:Nat}(h1:1<=k)(h2:m+k<n):(((Mp.new n).hold [((m:Int),(k:Int))]).1.hold (rS m)).2=true:=by
 have ha:iM [(0,n)] m=0:=xJ (by omega);have hh:=DM (n:=n) (m:=m) (k:=k) h1 (by omega);have hF:((Mp.new n).hold [((m:Int),(k:Int))]).1.F=fN [(0,n)] (m,k):=by
  have VZ:eC n [(0,n)] [((m:Int),(k:Int))]=true:=hh;unfold Mp.hold;show(if eC n [(0,n)] [((m:Int),(k:Int))]=true then _ else _)=_;rw[if_pos VZ];simp[toE_nat,Mp.new]
 unfold rS;by_cases c:m=0
 ·rw[if_pos c];have h0:∀(n:Nat) (F:List Ext),eC n F []=true:=fun n F=>by simp[eC,jj]
  show eC ((Mp.new n).hold [((m:Int),(k:Int))]).1.n ((Mp.new n).hold [((m:Int),(k:Int))]).1.F []=true;exact h0 _ _
 ·rw[if_neg c];show eC n ((Mp.new n).hold [((m:Int),(k:Int))]).1.F [(0,(m:Int))]=true;rw[hF];have hc:∃T,fN [(0,n)] (m,k)=(0,m)::T:=by
   unfold fN;rw[ha];have:0<m:=by omega
   simp[jL,this]
  obtain⟨T,hT⟩:=hc;have hz:iM ((0,m)::T) 0=0:=by
   unfold iM;rw[List.takeWhile_cons_of_neg (by simp;omega)];rfl
  unfold eC;have hr:=u_ (n:=n) (a:=0) (k:=m) (by omega) (by omega);rw[show((0:Nat):Int)=0 from rfl]at hr;rw[hr,hT];have he:toE (0,(m:Int))=(0,m):=by simp[toE]
  simp[he,hasB,hz]
theorem WB{N t:Nat}(hN:N=262\/N=462){D:aN}{b:List UInt8}(hb:b.length<=3000)(UB:bQ b+2<N-246){hd:dh}{all:List dh}(hall:all.length=5)(h:nU N 246 b hd all D):∃c1 c2 c4 s',yd (fun _=>(bW b,0)) t (pS N D) c1 c2 c4 [1] [(key1,(bQ b:Int)*256+2)]/\s'=jt (fun _=>(bW b,0)) [(key1,(bQ b:Int)*256+2)] c4.s/\s'.ix=[zZ b]/\s'.jn=5/\s'.pn=30/\nU N 246 b hd all s'.D/\jU t s'/\s'.sl.n=30/\s'.rm.n=(N-246):=by
 obtain⟨v,hv⟩:∃v,(bQ b:Int)*256+2=v:=⟨_,rfl⟩;have FQ:=h.page;rw[hall,hv]at FQ;have WC:Go.cC.lH key1 v=true:=M9 (by omega) (by omega);have hroot:(pS N D).root=1:=rfl;obtain⟨D1,a1,a2,a3,a4⟩:=JG (c:=⟨pS N D,[],[]⟩) (j:=5) WC h.gd rfl (by simp[pS]) (by omega) FQ;obtain⟨D2,b1,b2,b3,b4⟩:=JH (c:=(⟨pS N D,[],[]⟩:Cs).dev D1) (j:=5) WC a2 rfl (by simp[pS,Cs.dev]) (by omega) (by show seg D1.now _ _=_;rw[a3];exact FQ);have hF:=DN (M:=Mp.new 30) (a:=0) (n:=30) (k:=1) rfl (by omega) (by omega) (by simp[Mp.new]);rw[show((0:Nat):Int)=0 from rfl,show((1:Nat):Int)=1 from rfl]at hF;have b3':D2.now=D.now:=b3.trans a3;obtain⟨D3,d1,d2,d3,d4⟩:=M_ (c:=⟨{pS N D2 with sl:=fF (Mp.new 30) [1]},[],[]⟩) (j:=5) WC b2 rfl (by simp[pS]) (by omega) (by show seg D2.now _ _=_;rw[b3'];exact FQ);have hD3:nU N 246 b hd all D3:=h.same d2 (d3.trans b3') ((d4.trans b4).trans a4);obtain⟨s4,Ah⟩:∃s4:St,s4={pS N D3 with sl:=fF (Mp.new 30) [1]}:=⟨_,rfl⟩;have lZ:=td (i_ (n:=30) (by omega) (by omega)) [1];have Ly:jU t s4:=by
  have:=M8 (t:=t) hN hD3.gd (by rw[hD3.q];simp);rw[Ah];exact{this with sl:=lZ.1,UC:=by simp only[lZ.2.1];rfl}
 have Ai:cG s4.jn s4.pn=((246:Nat):Int):=by rw[Ah];rfl
 have JI:(Kn.mk key1 0 v []).eJ=((bQ b:Int),2):=by
  unfold Kn.eJ;simp only;rw[<-hv];congr 1<;>omega
 have fM:=DM (n:=(N-246)) (m:=bQ b) (k:=2) (by omega) (by omega);have Jk:=JF (n:=(N-246)) (m:=bQ b) (k:=2) (by omega) (by omega);rw[show((2:Nat):Int)=2 from rfl]at fM Jk;have C9:s4.rm=Mp.new (N-246):=by rw[Ah];rfl
 have aiS:(s4.dJ key1 v).D=D3:=by rw[Ah];rfl
 obtain⟨D4,r1,r2,r3⟩:=WD (s:=s4.dJ key1 v) (by rw[aiS];exact hD3) (by omega) Ai (by omega);have hun:Mn (fun _=>(bW b,0)) (bW b).pack:=by
  have:=JJ (bW b) (RE b (by omega)) (by have:=tJ b (by omega);omega) (B_ b (by omega)) (yE b (by omega)) rfl rfl;exact this
 have hK:FU (fun _=>(bW b,0)) t s4 key1 v:=by
  refine⟨Ly,by rw[Ah];simp[pS],by decide,by omega,by rw[JI];simp,?_,?_,?_,?_,?_,?_,?_⟩
  ·rw[JI,C9];exact fM
  ·rw[JI];unfold St.Wa;rw[r3];exact hun
  ·rw[JI,r1]
  ·rw[JI,r1];exact B_ b (by omega)
  ·rw[JI,r1];rfl
  ·rw[JI,r1];have:=(Ca b (by omega)).bl;exact this
  ·rw[JI,r1];show(((s4.rm.hold [(Kn.mk key1 0 v []).eJ]).1).hold (rS (bQ b))).2=true;rw[JI,C9];exact Jk
 refine⟨(⟨pS N D,[],[]⟩:Cs).dev D1,((⟨pS N D,[],[]⟩:Cs).dev D1).dev D2,⟨s4,[],[]⟩,_,⟨M8 hN h.gd (by rw[h.q];simp),?_,?_,by simp,by simp,?_,?_,by simp,?_⟩,rfl,?_,?_,?_,?_,?_,?_,?_⟩
 ·rw[hroot];exact a1
 ·rw[hroot];exact b1
 ·intro k hk;simp at hk;subst hk;show(((Mp.new 30).hold [(1-1,1)])).2=true;rw[show((1:Int)-1)=0 from rfl,hF]
 ·rw[hroot];have e:(⟨{pS N D2 with sl:=fF (Mp.new 30) [1]},[],[]⟩:Cs)={((⟨pS N D,[],[]⟩:Cs).dev D1).dev D2 with s:={(((⟨pS N D,[],[]⟩:Cs).dev D1).dev D2).s with sl:=fF (((⟨pS N D,[],[]⟩:Cs).dev D1).dev D2).s.sl [1]}}:=rfl;rw[<-e,d1,Ah];rw[hv];rfl
 ·intro k hk;simp at hk;subst hk;show FU _ t s4 key1 _;rw[hv];exact hK
 all_goals
  simp only[jt,hv];unfold St.know;rw[JI,r1]
 ·rw[Ah];simp only[pS,List.nil_append];rw[<-hv];rfl
 ·rw[Ah];rfl
 ·rw[Ah];rfl
 ·exact r2
 ·have hk1:(s4.dJ key1 v).rm=(s4.rm.hold [((bQ b:Int),2)]).1:=by unfold St.dJ;rw[JI]
  have hmm:=(Ly.rm.hold [((bQ b:Int),2)]);have ado:=(hmm.1.hold (bW b).body);refine{Ly with D:=?_,sz:=?_,rm:=?_,Jf:=?_,ixl:=?_,ix:=?_,srt:=?_,ord:=?_,jn:=Ly.jn,pn:=Ly.pn,sl:=Ly.sl,UC:=Ly.UC,k_:=Ly.k_,root:=Ly.root,J:=Ly.J}
  ·exact r2.gd.FC (by omega) (by rw[r2.q];simp)
  ·show cG s4.jn s4.pn+16<=(D4.kept.length:Int);rw[Ai,r2.gd.kl];omega
  ·show su ((s4.dJ key1 v).rm.hold _).1;rw[hk1];exact ado.1
  ·show((((s4.dJ key1 v).rm.hold _).1.n:Nat):Int)=(D4.kept.length:Int)-cG s4.jn s4.pn;rw[hk1,ado.2,hmm.2,Ai,r2.gd.kl,C9];simp[Mp.new];omega
  ·rw[Ah];simp[pS]
  ·rw[Ah];intro k hk;simp[pS]at hk;subst hk;have:=Ca b (by omega);rw[<-hv];exact this
  ·rw[Ah];simp[pS]
  ·rw[Ah];show 0<=max 0 (bW b).order/\max 0 (bW b).order<=_;have:(bW b).order=1:=rfl;rw[this];omega
 ·rw[Ah];exact lZ.2.1
 ·show((s4.dJ key1 v).rm.hold _).1.n=(N-246);rw[Ah];rfl
def UG(s:St):Sm:=⟨s,cK,[],false,false⟩
theorem WO{N t:Nat}(hN:N=262\/N=462)(ht:1000<=t/\t<=20000){D:aN}(h:nw N D):Ac N t 246 (lI N D) cK [] (UG (lI N D)):=by
 refine⟨⟨D,[],?_⟩,?_,rfl,rfl,rfl,M7 hN h.gd (by rw[h.q];simp),h.gd,?_,fun a n _=>rfl,?_⟩
 ·simp[UG,lI,Mp.new]
 ·have h0:uW 0 []=0:=by decide
  simp only[UG];rw[h0];rfl
 ·simp[UG,lI,h.q]
 ·simp[seg]
theorem UH{N t:Nat}(hN:N=262\/N=462)(ht:1000<=t/\t<=20000){D:aN}(h:nw N D):SmS N t 246 (lI N D):=by
 refine⟨by omega,rfl,?_,by simp[lI,h.q],ht⟩;simp[lI,Mp.new];omega
structure UI(N t:Nat)(b:List UInt8)(w w1:Sm)(s2:St):Prop where
 ended:w.ended=false
 sec:d_ (bn w.rest) w=(w1,0)
 rest:w.rest.length<=2000000
 hC:∀k w',k<(bn w.rest).length->d_ ((bn w.rest).take k) w=(w',0)->rT t w'
 ent:{w1.e with order:=w1.s.ord+1}=bW b
 ord:w1.s.ord=0
 pk:(bW b).yz=((bW b).pack,0)
 pl:(bW b).pack.length<=8000
 s:jU t w1.s
 fit:(w1.s.rm.F.any fun x=>decide ((kZ (bW b)).length<=x.2))=true
 rx:w1.s.Cm (bW b)=((bQ b:Int),2)
 run:w1.s.rm.run (kZ (bW b)).length<w1.s.rm.F.length
 wr:(w1.s.Gf (bW b)).2=0
 put:adw t (t+8) (t+100) w1.s (w1.s.Cn (bW b)) (bW b) ((bQ b:Int),2) (zZ b)
 res:(w1.s.Cn (bW b)).Di 1 (zZ b)=(s2,0)
 ok:jU (t+200) s2
 aiW:nU N 246 b (ey 0 0) rU s2.D
 ix:s2.ix=[zZ b]
 jn:s2.jn=5
 pn:s2.pn=30
 aiX:s2.ord=0
theorem RW{N t:Nat}(hN:N=262\/N=462)(ht:1000<=t/\t<=10000){D0:aN}(h0:nw N D0){b:List UInt8}(hb:b.length<=3000)(UB:bQ b+2<N-246){w:Sm}(h:Ac N t 246 (lI N D0) cK b w):∃w1 s2,UI N t b w w1 s2:=by
 have hs:=UH (t:=t) hN (by omega) h0;have hrn:(lI N D0).rm.n=N-246:=rfl;have hq0:(lI N D0).D.q.length=0:=by simp[lI,h0.q]
 obtain⟨R,D,l1,l2,l3,l4,l5,l6,l7⟩:=h.last hs (by rw[hrn];unfold bQ at UB;omega) (by omega);rw[hrn]at l1 l4;rw[hq0]at l3;have hm:bQ b<=47:=by unfold bQ;omega
 have hD:(b.length+63)/64=bQ b:=rfl;rw[hD]at l1 l3 l4 l6;obtain⟨s,s1,s2,p1,p2,p3,p4,p5,p6,p7,p8,p9,iU,iV,iW,jB,jC⟩:=Nx hN ht h0 hb UB (R:=R) l2 (by omega) l4 l5 l6;subst p1;subst p2;refine⟨_,s2,⟨h.ended,l1,?_,l7,?_,rfl,RH b (by omega),?_,?_,?_,?_,?_,?_,?_,?_,p9,iU,iV,iW,jB,jC⟩⟩
 ·rw[h.rest];simp;omega
 ·simp only;rw[h.he];rfl
 ·have:=tJ b (by omega);omega
 ·simp only;exact l4
 ·exact p5
 ·exact p3
 ·exact p6
 ·exact p4
 ·exact p7
 ·exact p8
end Go.aT
