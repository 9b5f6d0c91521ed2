/- TiersAgain, part 10: what functions compute, and its plain law; no condition. -/
import Derived.Test.YtgkdpbambfgahaaGreatDoorWai
set_option linter.all false
set_option maxRecDepth 100000
set_option maxHeartbeats 64000000
namespace Go.Av
open Go.Proofs Go.Proofs.Tryz Go.aL
def IC(D:bt)(hl:D.kept.length<=65536)(a n:Int)(ha:-9223372036854775808<=a/\a<=9223372036854775807):bN 102 [.obj 0 0,.p (.int a),.p (.int n)] ⟨[(0,Gf 3 D)],[],4⟩ (.p (.bool (D.there a n))) ⟨[(0,Gf 3 D)],[],4⟩:=by
 refine aC [_] func102 rfl ?_;unfold bt.there;by_cases c1:0<=a
 .by_cases c2:a<=D.kept.length
  .have w1:IntKind.i64.wrap ((D.kept.length:Int)-a)=D.kept.length-a:=aG;by_cases c3:0<=n
   .simp[c1,c2,c3,w1,results102];exact⟨[],H⟩
   .simp[c1,c2,c3,results102];exact⟨[],H⟩
  .simp[c1,c2,results102];exact⟨[],H⟩
 .simp[c1,results102];exact⟨[],H⟩
def La(D:bt):bN 74 [.obj 0 0] ⟨[(0,Gf 3 D)],[],4⟩ (.p (.int D.kept.length)) ⟨[(0,Gf 3 D)],[],4⟩:=by
 refine aC [_] func74 rfl ?_;simp[results74];exact⟨[],H⟩
def ae7(b:aF):cq 106 [cK b] (.bool (!(b.length==64))):=by
 refine ay [_] func106 rfl ?_;have e:(!(b.length==64))=((b.length:Int) !=64):=by
  by_cases c:b.length=64
  .simp[c]
  .have c1:(b.length==64)=false:=U c;have c2:((b.length:Int)==64)=false:=by simp;omega
   simp[c1,bne,c2]
 rw[e];simp[results106]
def aoE(D:bt)(a:Nat)(l:List dY)(s:dY):D.lay a (l++[s])={(D.lay a l)with q:=(D.lay a l).q++[(a+l.length,s)],now:=(D.lay a l).now.set (a+l.length) s}:=by
 induction l generalizing D a with
 |nil=>rfl
 |cons x l ih=>
  rw[kP];unfold bt.lay;rw[ih];simp only[cF];rw[show a+1+l.length=a+(l.length+1) by omega]
def Cz(D:bt)(a:Nat)(l:List dY):(D.lay a l).kept=D.kept/\(D.lay a l).n=D.n/\(D.lay a l).bad=D.bad/\(D.lay a l).left=D.left/\(D.lay a l).now.length=D.now.length/\(D.lay a l).q.length=D.q.length+l.length:=by
 induction l generalizing D a with
 |nil=>exact⟨rfl,rfl,rfl,rfl,rfl,rfl⟩
 |cons x l ih=>
  obtain⟨h1,h2,h3,h4,h5,h6⟩:=ih ({D with q:=D.q++[(a,x)],now:=D.now.set a x}:bt) (a+1);unfold bt.lay;refine⟨h1,h2,h3,h4,by rw[h5];simp,by rw[h6];simp;omega⟩
theorem _root_.Go.aL.fJ.lay{b:Nat}{D:bt}(h:fJ b D)(a:Nat)(l:List dY)(hl:∀s∈l,s.length=64)(ha:a+l.length<=D.kept.length):fJ (b+l.length) (D.lay a l):=by
 induction l generalizing D a b with
 |nil=>exact h
 |cons x l ih=>
  have h':fJ (b+1) ({D with q:=D.q++[(a,x)],now:=D.now.set a x}:bt):=by
   obtain⟨h1,h2,h3,h4,h5,h6,h7,h8,h9,h10⟩:=h;refine⟨U h1,h2,h3,h4,λs hs=>?_,by simp;omega,λw hw=>?_,h8,h9,h10⟩
   .rcases F5 hs with hs|rfl
    .exact h5 s hs
    .exact hl _ H
   .simp only[lD,gK]at hw;rcases hw with hw|rfl
    .exact h7 w hw
    .exact⟨by simp at ha;simp only;omega,hl _ H⟩
  have:=ih h' (a+1) (λs hs=>hl s (by simp[hs])) (by simp at ha⊢;omega);unfold bt.lay;rw[cF,show b+(l.length+1)=b+1+l.length by omega];exact this
def IE(b:aF):∀y∈af b,y.plain=true:=λy hy=>by
 obtain⟨x,_,rfl⟩:=bE.1 hy;rfl
def tT(L:List dY)(h:∀s∈L,s.length=64):(L.flatMap af).length=L.length*64:=by
 induction L with
 |nil=>rfl
 |cons s L ih=>
  rw[cU,mo,ih (λs hs=>h s (by simp[hs])),cF];simp[af,h s H];omega
def IF(L:List dY)(h:∀s∈L,s.length=64)(k:Nat):(L.flatMap af).drop (k*64)=(L.drop k).flatMap af:=by
 induction L generalizing k with
 |nil=>simp
 |cons s L ih=>
  cases k with
  |zero=>simp
  |succ k=>
   have hs:(af s).length=64:=by simp[af,h s H]
   rw[cU,qU,gM O,o3,hs,show(k+1)*64-64=k*64 by omega,ih (λs hs=>h s (by simp[hs]))];rfl
def US(L:List dY)(h:∀s∈L,s.length=64)(k:Nat):(L.flatMap af).take (k*64)=(L.take k).flatMap af:=by
 induction L generalizing k with
 |nil=>simp
 |cons s L ih=>
  cases k with
  |zero=>simp
  |succ k=>
   have hs:(af s).length=64:=by simp[af,h s H]
   rw[cU,BZ,gv O,hs,show(k+1)*64-64=k*64 by omega,ih (λs hs=>h s (by simp[hs]))];rfl
def UT(L:List dY)(h:∀s∈L,s.length=64)(k:Nat)(hk:k<L.length):((L.flatMap af).drop (k*64)).take 64=af L[k]:=by
 have hs:(af L[k]).length=64:=by simp[af,h _ (bB hk)]
 rw[IF L h,eK hk,cU,BZ,hs,gv O];simp
def NG(L:List dY)(h:∀s∈L,s.length=64)(k:Nat)(hk:k<L.length)(s:dY):(L.flatMap af).take (k*64)++(af s++(L.flatMap af).drop (k*64+64))=(L.set k s).flatMap af:=by
 rw[show k*64+64=(k+1)*64 by omega,US L h,IF L h,BX,ai hk];simp
def lg(D:bt):D.next.1.kept=D.kept/\D.next.1.now=D.now/\D.next.1.q=D.q/\D.next.1.bad=D.bad:=by
 unfold bt.next;split<;>exact⟨rfl,rfl,rfl,rfl⟩
def tL(D:bt)(b:Nat)(hD:fJ b D)(a:Int)(ha:-9223372036854775808<=a/\a<=9223372036854775807)(l:List dY)(hl:l.length<=1000000000)(hb:b+l.length<=1000000000000):bN 33 [.obj 0 0,.p (.int a),.p (.sl (l.map cK))] ⟨eG 3 D,dN 3,4⟩ (.p (.int (D.write a l).2)) ⟨eG 4 (D.write a l).1,dN 4,5⟩:=by
 have hT:=IC D hD.top a l.length ha;have hA:=afb 106 [] (λb=>!(b.length==64)) l O (λx _=>ae7 x);have hN:=GR 170 6 D b hD [.view 1 0 D.kept.length 64 none,.view 2 0 D.now.length 64 none,.own 3 (D.q.map ZD)] H;have hall:(l.any λb=>!(b.length==64))=!(l.all λb=>b.length==64):=by rw[List.not_all_eq_any_not]
 rw[hall]at hA;have RV:=hD.next;obtain⟨n1,n2,n3,n4⟩:=lg D;refine aq [_] [] [(10,[(4,.r 1),(5,.r 2),(7,.f [1,2]),(10,.s 1 [2])]),(11,[(3,.r 1),(5,.r 2),(7,.r 2),(9,.s 3 [])])] [(1,0),(2,5),(3,2)] func33 rfl ?_;by_cases c1:D.there a l.length=true
 .by_cases c2:(l.all λb=>b.length==64)=true
  .have hs:∀s∈l,s.length=64:=U c2;by_cases c3:D.next.2=0
   .have ht:=c1;unfold bt.there at ht;simp only[bG,eZ]at ht;obtain⟨⟨⟨t1,t2⟩,t3⟩,t4⟩:=ht;obtain⟨A,rfl⟩:∃A:Nat,a=A:=⟨a.toNat,O⟩;have hw:D.write A l=(D.next.1.lay A l,0):=by unfold bt.write;rw[ai ⟨c1,c2⟩,ai c3];rfl
    rw[hw];generalize D.next=N at*;obtain⟨E,e⟩:=N;simp only at*;subst c3;have Bi:=RV.top;rw[<-n1]at t4;have hA2:A+l.length<=E.kept.length:=O;simp;refine oM hT rfl ?_;simp[c1];refine cm hA ?_;simp[c2];refine oM hN rfl ?_;simp;refine aS (λk:Nat=>k<=l.length) (λk=>[(0,.obj 0 0),(1,.p (.int A)),(28,.p (.sl (l.map cK))),(29,.p (.int l.length)),(30,.p (.int k))]) (λk=>⟨eG 4 (E.lay A (l.take k)),dN 4,5⟩) (λk=>l.length-k) 0 H _ (AS.le_refl _ _) ?_ ?_
    .refine aE [(4,3)] ?_;simp[bt.lay,n1,n2,n3,n4,ak]
    .intro k hk;obtain⟨k1,k2,k3,k4,k5,k6⟩:=Cz E A (l.take k);have hDk:=RV.lay A (l.take k) (λs h=>hs s (oa h)) (by simp;omega);by_cases ck:k<l.length
     .have Ka:l[k].length=64:=hs _ (bB ck);have w1:IntKind.i64.wrap ((A:Int)+k)=((A+k:Nat):Int):=by rw[aG];rfl
      have w2:=ju k;have bl:(af l[k]).length=64:=by rw[<-Ka];simp[af]
      have tk:List.take 64 (af l[k])=af l[k]:=gv O;have pl:=IE l[k];have tk2:List.take 64 (List.map AV.p (af l[k]))=List.map AV.p (af l[k]):=gv (by simp;omega);simp[ck,w1,w2,bl,tk,tk2];have hq:=hDk.q;have RH:(E.lay A (l.take k)).now.length=E.now.length:=k5;have hlen:=RV.len;have e1:((A:Int)+k).toNat=A+k:=O;have sl:=tT _ hDk.now;have Pz:E.lay A (l.take (k+1))={(E.lay A (l.take k))with q:=(E.lay A (l.take k)).q++[(A+k,l[k])],now:=(E.lay A (l.take k)).now.set (A+k) l[k]}:=by
       rw[kG ck,aoE,lV,eS O]
      have iG:=NG _ hDk.now (A+k) O l[k];have hqs:=hDk.qs;refine⟨pl,?_,by simp at hq;omega,by simp at hq;omega,O,O,by simp[ak,sl];omega,k+1,O,O,aE [(4,6)] ?_⟩
      .rintro x a b hm rfl;have:=(hqs _ hm).2;simp[PC.width,af,this]
      .rw[Pz];generalize E.lay A (l.take k)=G at*;have Iv:List.take ((A+k)*64) ((G.now.flatMap af).map AV.p)++((af l[k]).map AV.p++List.drop ((A+k)*64+64) ((G.now.flatMap af).map AV.p))=(((G.now.set (A+k) l[k]).flatMap af).map AV.p):=by
        rw[<-iG];simp
       simp[ak,e1,Iv]
     .obtain rfl:k=l.length:=O;have alA:l.take l.length=l:=eH;simp[results33,alA];exact⟨[],by simp[ak]⟩
   .have hw:D.write a l=D.next:=by unfold bt.write;rw[ai ⟨c1,c2⟩,ah c3]
    rw[hw];generalize D.next=N at*;obtain⟨E,e⟩:=N;simp only at*;have mg:(e !=0)=true:=U c3;simp;refine oM hT rfl ?_;simp[c1];refine cm hA ?_;simp[c2];refine oM hN rfl ?_;simp[mg,results33];exact⟨[(4,3)],by simp[ak,n1,n2,n3,n4]⟩
  .have eY:(l.all λb=>b.length==64)=false:=U c2;have hw:D.write a l=(D,2):=by unfold bt.write;rw[ah (λh=>c2 h.2)]
   rw[hw];simp;refine oM hT rfl ?_;simp[c1];refine cm hA ?_;simp[eY,results33];exact⟨[(4,3)],by simp[ak]⟩
 .have jR:D.there a l.length=false:=U c1;have hw:D.write a l=(D,2):=by unfold bt.write;rw[ah (λh=>c1 h.1)]
  rw[hw];simp;refine oM hT rfl ?_;simp[jR,results33];exact⟨[(4,3)],by simp[ak]⟩
end Go.Av
namespace Go.Av
open Go.RowKit
section
variable{P:Program}{f:FuncId}{xs:List AV}{tb a_ uj:Tb}{r:AV}
def Vw{id j:Nat}(el sz:Nat){ob:Ob}(ys:List PC)(hl:lk id tb.bx=some ob)(h:ob.xs[j]?=some (.full ys)\/ys=[]/\ob.xs[j]?=some (.p .nil)):RLe r tb r ((tb.cC el sz).aY id {ob with xs:=ob.xs.set j (.own tb.nx ys)}):=by
 intro w0 M0 F g w v h1 hv;obtain⟨b,c,f1,fr,f0⟩:=h1.boxes id ob hl;have CF:ob.xs≠[]:=λhz=>by grind
 have iQ:0<c:=qZ λhz=>CF (f0 hz);obtain⟨cur,f2,f3,⟨tt,fz,f4,fo⟩,f5,f6,f7,f8,f9⟩:=fr iQ;have ht:∃u ad n,(cur.toList.take ob.xs.length)[j]?=some u/\u= .slice ad n n/\jc g.M (.slice ad n n) (.sl ys):=by
  rcases h with h|⟨rfl,h⟩
  .obtain⟨u,hu,hr⟩:=f8.get h;cases hr with|full hr=>grind
  .obtain⟨u,hu,hr⟩:=f8.get h;have:=bO hr;cases this;exact⟨_,none,0,hu,rfl,.dX⟩
 obtain⟨u,ad,n,hu,rfl,hr⟩:=ht;have hle:=h1.DF (.slice ad n n);have jS:=h1.yb el sz ad n;have hl':lk id (tb.cC el sz).bx=some ob:=hl;have xA:∀{vs:List Value} {zs:List AV} (j:Nat) (v:Value),vs[j]?=some v->aV (g.ez tb.nx (.slice ad n n)) vs zs->bJ (g.ez tb.nx (.slice ad n n)) v (.own tb.nx ys)->aV (g.ez tb.nx (.slice ad n n)) vs (zs.set j (.own tb.nx ys)):=by
  intro vs zs
  induction zs generalizing vs with
  |nil=>grind
  |cons y zs ih=>
   intro j v hv hs hn;cases hs with
   |cons h hs=>
    cases j with
    |zero=>simp at hv;subst hv;exact .cons hn hs
    |succ j=>simp at hv;exact .cons h (ih j v hv hs hn)
 have key:=jS.aY (o':={ob with xs:=ob.xs.set j (.own tb.nx ys)}) (cur':=cur) hl' (show(g.ez tb.nx (.slice ad n n)).ob id=some (b,c)from f1) iQ f4 rfl rfl rfl (by grind) (by
  simp only[vh];exact xA j _ hu (f8.mono hle) (.own (by simp[G.ez]) (hr.mono hle.M))) O
 have hw:w.setRow b cur=w:=setRow_self f4;rw[hw]at key;exact⟨_,hle,key,hv.mono hle⟩
def BH{id j:Nat}(el sz:Nat){ob:Ob}(ys:List PC)(h:dm P f xs tb r a_)(hl:lk id a_.bx=some ob)(hj:ob.xs[j]?=some (.full ys)\/ys=[]/\ob.xs[j]?=some (.p .nil)):dm P f xs tb r ((a_.cC el sz).aY id {ob with xs:=ob.xs.set j (.own a_.nx ys)}):=se h (Vw el sz ys hl hj)
def uW{P:Program}{f:FuncId}{xs:List AV}{tb a_:Tb}{r:AV}(h:dm P f xs tb r a_)(uj:Tb)(hb:aA a_.bx uj.bx)(hr:aA a_.rw uj.rw)(hd:(uj.bx.map Prod.fst).Nodup/\(uj.rw.map Prod.fst).Nodup)(hn:a_.nx<=uj.nx):dm P f xs tb r uj:=by
 have key:∀{α:Type} (l m:List (Nat×α)),aA m l->(l.map Prod.fst).Nodup->∀i o,lk i l=some o->lk i m=some o:=by
  intro α l m
  induction l with
  |nil=>simp
  |cons p l ih=>
   grind [aA,lk]
 exact se h λw0 M0 F g w v hw hv=>⟨g,G.le_refl g,hw.sub (key _ _ hb hd.1) (key _ _ hr hd.2) hn,hv⟩
end
end Go.Av
namespace Go.Av
open Go.Proofs Go.Proofs.Tryz Go.aL
def abk:eE prog 104:=⟨Tryz.f104,func104,bp,bp⟩
def Ej(nx:Nat)(xs:List PC)(hw:∀x∈xs,x.width=1)(ht:∀x∈xs,cE x=true)(hb:xs.length<=1000000000000):bN 104 [.p (.sl xs)] ⟨[],[],nx⟩ (.view nx 0 xs.length 1 none) ⟨[(nx,⟨5,1,(xs.flatMap fM).map .p⟩)],[],nx+1⟩:=by
 refine qM (pre:=[]) (post:=[]) abk ?_ ?_
 .rintro rfl;refine eT (r:= .p .nil) (a_:=⟨[],[],nx⟩) (el:=5) (s:=1) ?_ trivial;refine aq [.p .nil] [7] [] [] func104 rfl ?_;simp[results104];exact⟨[],H⟩
 .refine aq [_] [7] [] [] func104 rfl ?_;simp[results104];refine⟨hw,ht,O,O,[],?_⟩;simp
def cJ(l:aF):∀x∈af l,x.width=1:=λx h=>by obtain⟨c,_,rfl⟩:=bE.1 h;rfl
def j8(l:aF):∀x∈af l,cE x=true:=λx h=>by obtain⟨c,_,rfl⟩:=bE.1 h;rfl
def wX(l:aF):(af l).flatMap bA=((af l).flatMap fM).map AV.p:=by
 induction l with
 |nil=>rfl
 |cons c l ih=>
  have e:af (c::l)=sS c::af l:=rfl;rw[e,cU,cU,ih,jB];rfl
def j7(l:aF):(af l).flatMap fM=af l:=by
 induction l with
 |nil=>rfl
 |cons c l ih=>
  have e:af (c::l)=sS c::af l:=rfl;rw[e,cU,ih];rfl
def kM(l:aF)(hl:l.length<=1000000000000):cq 104 [.sl (af l)] (.sl (af l)):=by
 have hb:(af l).length=l.length:=by simp[af]
 have h:=Ej 0 (af l) (cJ l) (j8 l) O;have hp:=nO h (ob:=⟨5,1,((af l).flatMap fM).map .p⟩) (ys:=af l) H rfl O (by simp[j7]) (by rw[wX];exact gv (by simp[j7])) rfl (cJ l) (j8 l);exact bF (xs:=[.sl (af l)]) hp ⟨_,rfl,.inl rfl⟩
def _root_.Go.aL.fJ.up{b c:Nat}{D:bt}(h:fJ b D)(hb:b<=c):fJ c D:=⟨h.len,h.pos,h.top,h.kept,h.now,cT h.q hb,h.qs,h.left,h.n,h.bad⟩
def CV(D:bt)(b:Nat)(hD:fJ b D)(a n:Int)(ha:-9223372036854775808<=a/\a<=9223372036854775807):bN 32 [.obj 0 0,.p (.int a),.p (.int n)] ⟨eG 3 D,dN 3,4⟩ (.agg true [.p (.sl ((D.read a n).2.1.map cK)),.p (.int (D.read a n).2.2)]) ⟨eG 4 (D.read a n).1,dN 4,5⟩:=by
 have hT:=IC D hD.top a n ha;have hN:=GR 170 6 D b hD [.view 1 0 D.kept.length 64 none,.view 2 0 D.now.length 64 none,.own 3 (D.q.map ZD)] H;have RV:=hD.next;obtain⟨n1,n2,n3,n4⟩:=lg D;refine aC [_,_] func32 rfl ?_;by_cases c1:D.there a n=true
 .have ht:=c1;unfold bt.there at ht;simp only[bG,eZ]at ht;obtain⟨⟨⟨t1,t2⟩,t3⟩,t4⟩:=ht;obtain⟨A,rfl⟩:∃A:Nat,a=A:=⟨a.toNat,O⟩;obtain⟨K,rfl⟩:∃K:Nat,n=K:=⟨n.toNat,O⟩;by_cases c3:D.next.2=0
  .have hw:D.read A K=(D.next.1,(D.now.drop A).take K,0):=by unfold bt.read;rw[ai c1,ai c3];rfl
   rw[hw];generalize D.next=N at*;obtain⟨E,e⟩:=N;simp only at*;subst c3;have Bi:=RV.top;have hlen:=hD.len;rw[n1]at Bi;have w1:IntKind.i64.wrap ((A:Int)+K)=((A+K:Nat):Int):=by rw[aG];rfl
   simp;refine oM hT rfl ?_;simp[c1];refine oM hN rfl ?_;have e1:((A:Int)+K).toNat-A=K:=O;simp[w1,e1];refine⟨O,O,O,?_⟩;have oO:=tT _ hD.now;refine aS (λk:Nat=>k<=K) (λk=>[(0,.obj 0 0),(9,.own 4 (((D.now.drop A).take k).map cK)),(32,.view 2 A K 64 none),(33,.p (.int K)),(34,.p (.int k))]) (λ_=>⟨eG 3 E,[(4,22,1),(3,174,65)],5⟩) (λk=>K-k) 0 H _ (Ci 9 22 1 [] (.inr ⟨rfl,H⟩)) (aB (by simp[ak,n1,n2,n3,n4])) ?_;intro k hk;by_cases ck:k<K
   .have hAk:A+k<D.now.length:=O;have Ka:D.now[A+k].length=64:=hD.now _ (bB hAk);have w2:=ju k;have hsa:=UT _ hD.now (A+k) hAk;have bl:(af D.now[A+k]).length=64:=by simp[af,Ka]
    have ahf:List.take 64 (List.drop ((A+k)*64) (List.map AV.p (D.now.flatMap af)))=(af D.now[A+k]).map AV.p:=by
     rw[<-hsa];simp
    have kW:=kM D.now[A+k] O;have oK:(A+k)*64+64<=D.now.length*64:=O;have hts:(D.now.drop A).take (k+1)=(D.now.drop A).take k++[D.now[A+k]]:=by
     rw[kG (by simp;omega)];simp
    simp[ck,ak,n2,oO,oK,ahf,bl];refine⟨by unfold maxLen;omega,fY kW H ?_⟩;have apG:List.take (k+1) (List.drop A (List.map cK D.now))=List.take k (List.drop A (List.map cK D.now))++[cK D.now[A+k]]:=by
     have:=dg (List.map cK) hts;simpa using this
    simp[w2];refine⟨λx hx=>?_,O,O,k+1,O,O,aE [(4,7)] (by simp[apG,n2,ak])⟩;obtain⟨y,_,rfl⟩:=bE.1 (fq (oa hx));rfl
   .obtain rfl:k=K:=O;simp[results32];exact⟨[(4,3)],by simp[ak,n1,n2,n3,n4]⟩
  .have hw:D.read A K=(D.next.1,[],D.next.2):=by unfold bt.read;rw[ai c1,ah c3]
   rw[hw];generalize D.next=N at*;obtain⟨E,e⟩:=N;simp only at*;have mg:(e !=0)=true:=U c3;simp;refine oM hT rfl ?_;simp[c1];refine oM hN rfl ?_;simp[mg,results32];exact⟨[(4,3)],by simp[ak,n1,n2,n3,n4]⟩
 .have jR:D.there a n=false:=U c1;have hw:D.read a n=(D,[],2):=by unfold bt.read;rw[ah c1]
  rw[hw];simp;refine oM hT rfl ?_;simp[jR,results32];exact⟨[(4,3)],by simp[ak]⟩
def lq(now:List dY)(q:List (Nat×dY))(k:List dY):(gH now q k).length=k.length:=by
 induction q generalizing k with
 |nil=>rfl
 |cons w q ih=>unfold gH;rw[ih];simp
def He(now:List dY)(q:List (Nat×dY))(w:Nat×dY)(k:List dY):gH now (q++[w]) k=(gH now q k).set w.1 (now.getD w.1 []):=by
 induction q generalizing k with
 |nil=>rfl
 |cons v q ih=>rw[kP];unfold gH;exact ih _
def Dq(now:List dY)(q:List (Nat×dY))(k:List dY)(hn:∀s∈now,s.length=64)(hk:∀s∈k,s.length=64)(hq:∀w∈q,w.1<now.length):∀s∈gH now q k,s.length=64:=by
 induction q generalizing k with
 |nil=>exact hk
 |cons w q ih=>
  unfold gH;refine ih _ (λs hs=>?_) (λv hv=>hq v (by simp[hv]));rcases F5 hs with h|rfl
  .exact hk s h
  .have:=hq w H;rw[u6,n_ this];exact hn _ (bB this)
theorem _root_.Go.aL.fJ.settle{b:Nat}{D:bt}(h:fJ b D):fJ 0 D.settle:=⟨by unfold bt.settle;simp only;rw[lq];exact h.len,by unfold bt.settle;simp only;rw[lq];exact h.pos,by unfold bt.settle;simp only;rw[lq];exact h.top,Dq _ _ _ h.now h.kept (λw hw=>by rw[h.len];exact(h.qs w hw).1),h.now,aX _,by unfold bt.settle;simp,h.left,h.n,h.bad⟩
def Rc(D:bt)(b:Nat)(hD:fJ b D)(hb:b<=1000000000000):bN 260 [.obj 0 0] ⟨eG 3 D,dN 3,4⟩ (.agg true []) ⟨eG 4 D.settle,dN 4,5⟩:=by
 have key:bN 260 [.obj 0 0] ⟨eG 3 D,dN 3,4⟩ (.agg true []) ⟨[(0,⟨170,6,[.p (.int D.n),.p (.sl (D.bad.map PC.int)),.p (.int D.left),.view 1 0 D.settle.kept.length 64 none,.view 2 0 D.now.length 64 none,.p .nil]⟩),(1,ak D.settle.kept),(2,ak D.now)],[],4⟩:=by
  have hq:=hD.q;have hlen:=hD.len;refine aq [] [] [(3,[(3,.r 1),(5,.r 2),(9,.r 1),(11,.r 2),(13,.r 3),(15,.s 4 [])])] [(1,0),(2,4),(3,2),(4,1)] func260 rfl ?_;simp;refine aS (λk:Nat=>k<=D.q.length) (λk=>[(0,.obj 0 0),(7,.p (.sl (D.q.map ZD))),(8,.p (.int D.q.length)),(9,.p (.int k))]) (λk=>⟨eG 3 {D with kept:=gH D.now (D.q.take k) D.kept},dN 3,4⟩) (λk=>D.q.length-k) 0 H _ (AS.le_refl _ _) (aB (by simp[ak,gH])) ?_;intro k hk;by_cases ck:k<D.q.length
  .obtain⟨q1,q2⟩:=hD.qs _ (bB ck);have w2:=ju k;have RB:(ZD D.q[k]).width=65:=by simp[PC.width,af,q2]
   have hgk:(ZD D.q[k])= .agg false (.int D.q[k].1::af D.q[k].2):=rfl;have bl2:(af D.q[k].2).length=64:=by simp[af,q2]
   have ye:=lq D.now (D.q.take k) D.kept;have Ka:=Dq D.now (D.q.take k) D.kept hD.now hD.kept (λw hw=>by rw[hlen];exact(hD.qs w (oa hw)).1);have oO:=tT _ hD.now;have hsk:=tT _ Ka;have hqn:D.q[k].1<D.now.length:=O;have hsa:=UT _ hD.now D.q[k].1 hqn;have bl:(af D.now[D.q[k].1]).length=64:=by simp[af,hD.now _ (bB hqn)]
   have ahf:List.take 64 (List.drop (D.q[k].1*64) (List.map AV.p (D.now.flatMap af)))=(af D.now[D.q[k].1]).map AV.p:=by
    rw[<-hsa];simp
   have iG:=NG _ Ka D.q[k].1 O D.now[D.q[k].1];have hts:gH D.now (D.q.take (k+1)) D.kept=(gH D.now (D.q.take k) D.kept).set D.q[k].1 D.now[D.q[k].1]:=by
    rw[kG ck,He,u6,n_ hqn];rfl
   generalize gH D.now (D.q.take k) D.kept=K at*;have Iv:List.take (D.q[k].1*64) ((K.flatMap af).map AV.p)++((af D.now[D.q[k].1]).map AV.p++List.drop (D.q[k].1*64+64) ((K.flatMap af).map AV.p))=(((K.set D.q[k].1 D.now[D.q[k].1]).flatMap af).map AV.p):=by
    rw[<-iG];simp
   have b1:D.q[k].1*64+64<=D.now.length*64:=O;have b2:D.q[k].1*64+64<=K.length*64:=O;simp[ck,w2,ak,RB,bl2,q1,hqn,oO,hsk,ahf,Iv,bl,b1,ye];refine⟨O,k+1,O,O,aB (by simp[hts,ak])⟩
  .obtain rfl:k=D.q.length:=O;simp[results260];exact⟨[],by simp[ak,bt.settle]⟩
 have h2:=BH (id:=0) (j:=5) 174 65 [] key rfl (.inr ⟨rfl,rfl⟩);exact uW h2 _ (by simp[aA,Tb.aY,Tb.cC,del,lk,bt.settle]) (by simp[aA,Tb.aY,Tb.cC]) H (by simp[Tb.aY,Tb.cC])
def iP(D:bt)(b:Nat)(hD:fJ b D)(hb:b<=1000000000000):bN 166 [.obj 0 0] ⟨eG 3 D,dN 3,4⟩ (.p (.int D.flush.2)) ⟨eG 4 D.flush.1,dN 4,5⟩:=by
 have hN:=GR 170 6 D b hD [.view 1 0 D.kept.length 64 none,.view 2 0 D.now.length 64 none,.own 3 (D.q.map ZD)] H;have RV:=hD.next;obtain⟨n1,n2,n3,n4⟩:=lg D;have hS:=Rc D.next.1 b RV hb;refine aC [_] func166 rfl ?_;by_cases c3:D.next.2=0
 .have hw:D.flush=(D.next.1.settle,0):=by unfold bt.flush;rw[ai c3]
  rw[hw];generalize D.next=N at*;obtain⟨E,e⟩:=N;simp only at*;subst c3;simp;refine oM hN rfl ?_;simp;refine aN hS H (by simp[aA,n1,n2,n3,n4]) (by simp[aA]) rfl ?_;simp[results166];exact⟨[],by simp[ak]⟩
 .have hw:D.flush=D.next:=by unfold bt.flush;rw[ah c3]
  rw[hw];generalize D.next=N at*;obtain⟨E,e⟩:=N;simp only at*;have mg:(e !=0)=true:=U c3;simp;refine oM hN rfl ?_;simp[mg,results166];exact⟨[(4,3)],by simp[ak,n1,n2,n3,n4]⟩
def pT:dY:=List.replicate 64 0
def _root_.Go.aL.bt.made(n:Nat):bt:=⟨0,[],-1,List.replicate n pT,List.replicate n pT,[]⟩
def S5(n:Nat)(h1:1<=n)(h2:n<=65536):fJ 0 (bt.made n):=⟨rfl,by simpa[bt.made]using h1,by simpa[bt.made]using h2,λs hs=>by rw[(xZ.1 hs).2];rfl,λs hs=>by rw[(xZ.1 hs).2];rfl,aX _,by simp[bt.made],by simp[bt.made],by simp[bt.made],by simp[bt.made]⟩
def HL(n:Nat):jD n HM=(List.replicate n pT).flatMap af:=by
 have e:af pT=HM:=rfl
 induction n with
 |zero=>rfl
 |succ n ih=>
  show List.flatten (List.replicate (n+1) HM)=_;have ih':List.flatten (List.replicate n HM)=(List.replicate n pT).flatMap af:=ih;rw[uX,jz,ih',uX,cU,e]
def ajP(n:Nat)(h1:1<=n)(h2:n<=65536):bN 20 [.p (.int n)] ⟨[],[],0⟩ (.agg true [.obj 0 0,.p (.int 0)]) ⟨eG 3 (bt.made n),dN 3,4⟩:=by
 have key:bN 20 [.p (.int n)] ⟨[],[],0⟩ (.agg true [.obj 0 0,.p (.int 0)]) ⟨[(0,⟨170,6,[.p (.int 0),.p .nil,.p (.int (-1)),.view 1 0 n 64 (some n),.view 2 0 n 64 (some n),.p .nil]⟩),(1,ak (List.replicate n pT)),(2,ak (List.replicate n pT))],[],3⟩:=by
  refine qL (rs:=[_,_]) [16] [] [] [(3,(.one 0 (.one 1 (.one 3 (.br 2 (.br 4 (.one 5 (.br 6 (.one 7 (.one 8 .lf)) .lf)) .lf) (.br 4 (.br 2 (.one 5 (.br 6 (.one 7 (.one 8 .lf)) .lf)) .lf) .lf))))))] mixed func20 rfl bp bp (by simp[ntmps20]) rfl ?_;have c1:¬(n:Int)<1:=O;have c2:¬(65536:Int)<n:=O;have c3:n≠0:=O;have b1:64*n<=281474976710656:=O;have b2:n<=maxLen:=by unfold maxLen;omega
  simp[c1,c2,results20,b1,b2]
  repeat' apply And.intro
  all_goals first
   |(refine⟨[(0,2),(1,0),(2,1)],?_⟩;simp[ak,HL];done)
   |(refine⟨[(0,2),(1,1),(2,0)],?_⟩;simp[ak,HL];done)
 have k1:=mI (id:=0) (j:=3) (.view 1 0 n 64 none) key rfl rfl H;have k2:=mI (id:=0) (j:=4) (.view 2 0 n 64 none) k1 rfl rfl H;have k3:=mI (id:=0) (j:=1) (.p (.sl [])) k2 rfl rfl H;have k4:=BH (id:=0) (j:=5) 174 65 [] k3 rfl (.inr ⟨rfl,rfl⟩);exact uW k4 _ (by simp[aA,Tb.aY,Tb.cC,del,lk,bt.made]) (by simp[aA,Tb.aY,Tb.cC]) H (by simp[Tb.aY,Tb.cC])
end Go.Av
namespace Go.Av
open Go.Proofs Go.aL
end Go.Av
namespace Go.Av
open Go.Proofs
abbrev dU(l:Bool)(ks:List (aF))(vs:List Int):PC:= .agg false [.bool l,.sl (ks.map PC.str),.sl (vs.map PC.int)]
def below(p:aF->Bool)(ks:List (aF)):Nat:=(ks.takeWhile p).length
def Bk(p:aF->Bool)(ks:List (aF)):below p ks<=ks.length:=by
 induction ks with
 |nil=>simp[below]
 |cons a ks ih=>unfold below at*;simp only[uN,cF];split<;>simp<;>omega
def H6{p:aF->Bool}{ks:List (aF)}{k:Nat}(h:∀x∈ks.take k,p x=true)(hk:k<=ks.length)(he:(hk:k<ks.length)->p ks[k]=false):below p ks=k:=by
 induction ks generalizing k with
 |nil=>simp at hk;simp[below,hk]
 |cons a ks ih=>
  cases k with
  |zero=>have:=he H;simp at this;simp[below,this]
  |succ k=>
   have ha:=h a H;have:=ih (k:=k) (λx hx=>h x (by simp[hx])) (U hk) (λhk'=>by have:=he (by simp;omega);simpa using this);unfold below at*;simp[ha,this]
end Go.Av
namespace Go.Av
open Go.Proofs Go.Proofs.Tryz
def Ym:Lw prog 364:=⟨Tryz.f364,40,4,9,func364,bp,bp,bp,bp,bp,bp⟩
def MP:Lw prog 366:=⟨Tryz.f366,87,4,3,func366,bp,bp,bp,bp,bp,bp⟩
def ae6:eE prog 55:=⟨Tryz.f55,func55,bp,bp⟩
def NF(nx:Nat)(xs:List PC)(hw:∀x∈xs,x.width=1)(ht:∀x∈xs,cE x=true)(hb:xs.length<=1000000000000):bN 55 [.p (.sl xs)] ⟨[],[],nx⟩ (.view nx 0 xs.length 1 none) ⟨[(nx,⟨9,1,(xs.flatMap fM).map .p⟩)],[],nx+1⟩:=by
 refine qM (pre:=[]) (post:=[]) ae6 ?_ ?_
 .rintro rfl;refine eT (r:= .p .nil) (a_:=⟨[],[],nx⟩) (el:=9) (s:=1) ?_ trivial;refine aq [.p .nil] [7] [] [] func55 rfl ?_;simp[results55];exact⟨[],H⟩
 .refine aq [_] [7] [] [] func55 rfl ?_;simp[results55];refine⟨hw,ht,O,O,[],?_⟩;simp
def ZL:eE prog 132:=⟨Tryz.f132,func132,bp,bp⟩
def Cr(nx:Nat)(xs:List PC)(hw:∀x∈xs,x.width=1)(ht:∀x∈xs,cE x=true)(hb:xs.length<=1000000000000):bN 132 [.p (.sl xs)] ⟨[],[],nx⟩ (.view nx 0 xs.length 1 none) ⟨[(nx,⟨3,1,(xs.flatMap fM).map .p⟩)],[],nx+1⟩:=by
 refine qM (pre:=[]) (post:=[]) ZL ?_ ?_
 .rintro rfl;refine eT (r:= .p .nil) (a_:=⟨[],[],nx⟩) (el:=3) (s:=1) ?_ trivial;refine aq [.p .nil] [7] [] [] func132 rfl ?_;simp[results132];exact⟨[],H⟩
 .refine aq [_] [7] [] [] func132 rfl ?_;simp[results132];refine⟨hw,ht,O,O,[],?_⟩;simp
def ZM:eE prog 321:=⟨Tryz.f321,func321,bp,bp⟩
def PX(nx id:Nat)(hid:id<nx)(cs:List PC)(n i j:Nat)(hn:cs.length=n*1)(hij:i<=j)(hj:j<=n)(hb:n<=1000000000000):bN 321 [.view id 0 n 1 none,.p (.int i),.p (.int j)] ⟨[(id,⟨9,1,cs.map .p⟩)],[],nx⟩ (.view nx 0 (n-(j-i)) 1 none) ⟨[(nx,⟨9,1,(cs.take (i*1)++cs.drop (j*1)).map .p⟩)],[],nx+1⟩:=by
 have hne:¬id=nx:=O;have fE:¬nx=id:=O;have kW:(cs.map AV.p).length=n:=by simp;omega
 refine iX (pre:=[]) (post:=[_,_]) ZM (λc h1 h2 h3=>?_) ?_
 .refine aq [_] [] [(5,[(6,.w [])])] [] func321 rfl ?_;generalize hA:cs.map AV.p=A at*;by_cases c0:i=j
  .subst c0;have hd:List.take i A++List.drop i A=A:=eO _ _;simp[results321,hne,fE];exact⟨hj,[(nx,id)],by simp[hA]⟩
  .have e0:((i:Int)==(j:Int))=false:=by rw[kC];omega
   have t1:((i:Int)+((n-j:Nat):Int)).toNat=i+(n-j):=O;have key:=λR=>wW (R:=R) kW hij hj rfl;simp[e0,t1,results321,hne,fE]
   repeat' refine And.intro ?_ ?_
   all_goals first|omega|skip
   refine .inl ?_
   repeat' refine And.intro ?_ ?_
   all_goals first|omega|(simp;omega)|skip
   refine⟨[(nx,id)],?_⟩;simp[hA,key];omega
 .intro hn0;have Ho:i=0:=O;have hj0:j=0:=O;have hc0:cs=[]:=o5 O;subst Ho;subst hj0;subst hc0;subst hn0;refine eT (r:= .full []) (a_:=⟨[],[],nx⟩) (el:=9) (s:=1) ?_ trivial;refine aq [_] [] [(5,[(6,.w [])])] [] func321 rfl ?_;simp[results321]
  repeat' refine And.intro ?_ ?_
  all_goals first|omega|exact⟨[],H⟩|simp
def ZN:eE prog 322:=⟨Tryz.f322,func322,bp,bp⟩
def PY(nx id:Nat)(hid:id<nx)(cs:List PC)(n i j:Nat)(hn:cs.length=n*1)(hij:i<=j)(hj:j<=n)(hb:n<=1000000000000):bN 322 [.view id 0 n 1 none,.p (.int i),.p (.int j)] ⟨[(id,⟨3,1,cs.map .p⟩)],[],nx⟩ (.view nx 0 (n-(j-i)) 1 none) ⟨[(nx,⟨3,1,(cs.take (i*1)++cs.drop (j*1)).map .p⟩)],[],nx+1⟩:=by
 have hne:¬id=nx:=O;have fE:¬nx=id:=O;have kW:(cs.map AV.p).length=n:=by simp;omega
 refine iX (pre:=[]) (post:=[_,_]) ZN (λc h1 h2 h3=>?_) ?_
 .refine aq [_] [] [(5,[(6,.w [])])] [] func322 rfl ?_;generalize hA:cs.map AV.p=A at*;by_cases c0:i=j
  .subst c0;have hd:List.take i A++List.drop i A=A:=eO _ _;simp[results322,hne,fE];exact⟨hj,[(nx,id)],by simp[hA]⟩
  .have e0:((i:Int)==(j:Int))=false:=by rw[kC];omega
   have t1:((i:Int)+((n-j:Nat):Int)).toNat=i+(n-j):=O;have key:=λR=>wW (R:=R) kW hij hj rfl;simp[e0,t1,results322,hne,fE]
   repeat' refine And.intro ?_ ?_
   all_goals first|omega|skip
   refine .inl ?_
   repeat' refine And.intro ?_ ?_
   all_goals first|omega|(simp;omega)|skip
   refine⟨[(nx,id)],?_⟩;simp[hA,key];omega
 .intro hn0;have Ho:i=0:=O;have hj0:j=0:=O;have hc0:cs=[]:=o5 O;subst Ho;subst hj0;subst hc0;subst hn0;refine eT (r:= .full []) (a_:=⟨[],[],nx⟩) (el:=3) (s:=1) ?_ trivial;refine aq [_] [] [(5,[(6,.w [])])] [] func322 rfl ?_;simp[results322]
  repeat' refine And.intro ?_ ?_
  all_goals first|omega|exact⟨[],H⟩|simp
def dS{α:Type}{l:List α}{k:Nat}(h:k<l.length):l.take (k+1)=l.take k++[l[k]]:=kG h
def eD(l:List Nat)(k:Nat):(l.take k).sum<=l.sum:=by
 have:=List.sum_append (l₁:=l.take k) (l₂:=l.drop k);rw[eO]at this;omega
def ZO(nx k:Nat)(hb:k<=4000000000000):bN 390 [.p .nil,.p (.int k)] ⟨[],[],nx⟩ (.view nx 0 0 1 none) ⟨[(nx,⟨9,1,[]⟩)],[],nx+1⟩:=by
 have w1:IntKind.i64.wrap (k:Int)=k:=aG;by_cases h0:k=0
 .subst h0;refine eT (r:= .p .nil) (a_:=⟨[],[],nx⟩) (el:=9) (s:=1) ?_ trivial;refine aq [_] [22] [] [] func390 rfl ?_;have z:IntKind.i64.wrap 0=0:=aG;simp[results390,z];exact⟨[],H⟩
 .have e0:0<k:=O;have z:IntKind.i64.wrap 0=0:=aG;refine aq [_] [22] [] [] func390 rfl ?_;simp[results390,w1,z,e0];exact⟨O,O,[],H⟩
def ZP(nx k:Nat)(hb:k<=4000000000000):bN 391 [.p .nil,.p (.int k)] ⟨[],[],nx⟩ (.view nx 0 0 1 none) ⟨[(nx,⟨3,1,[]⟩)],[],nx+1⟩:=by
 have w1:IntKind.i64.wrap (k:Int)=k:=aG;by_cases h0:k=0
 .subst h0;refine eT (r:= .p .nil) (a_:=⟨[],[],nx⟩) (el:=3) (s:=1) ?_ trivial;refine aq [_] [22] [] [] func391 rfl ?_;have z:IntKind.i64.wrap 0=0:=aG;simp[results391,z];exact⟨[],H⟩
 .have e0:0<k:=O;have z:IntKind.i64.wrap 0=0:=aG;refine aq [_] [22] [] [] func391 rfl ?_;simp[results391,w1,z,e0];exact⟨O,O,[],H⟩
def PZ(nx:Nat)(L:List (List PC))(hw:∀l∈L,∀x∈l,x.width=1)(ht:∀l∈L,∀x∈l,cE x=true)(hb:(L.map List.length).sum<=1000000000000)(oK:L.length<=1000000000000):bN 374 [.p (.sl (L.map .sl))] ⟨[],[],nx⟩ (.view nx 0 (L.map List.length).sum 1 none) ⟨[(nx,⟨9,1,(L.flatten.flatMap fM).map .p⟩)],[],nx+1⟩:=by
 refine aC [_] func374 rfl ?_;simp;refine bI (λk:Nat=>k<=L.length) (λk=>[(0,.p (.sl (L.map .sl))),(2,.p .nil),(9,.p (.sl (L.map .sl))),(10,.p (.int L.length)),(3,.p (.int ((L.map List.length).take k).sum)),(11,.p (.int k))]) (λk=>L.length-k) 0 H (aB H) ?_;intro k hk;by_cases c1:k<L.length
 .have e1:decide ((k:Int)<L.length)=true:=by simp;omega
  have hs:((L.map List.length).take (k+1)).sum=((L.map List.length).take k).sum+L[k].length:=by
   rw[dS (U c1)];simp
  have DS:=eD (L.map List.length) (k+1);have w1:IntKind.i64.wrap ((((L.map List.length).take k).sum:Int)+(L[k].length:Int))=(((L.map List.length).take (k+1)).sum:Int):=by rw[hs];push_cast;exact aG
  have w2:=ju k;have e2:decide ((((L.map List.length).take (k+1)).sum:Int)<0)=false:=H;simp[c1,e1,w1,w2,e2];refine⟨k+1,O,O,aB ?_⟩;simp
 .have e1:decide ((k:Int)<L.length)=false:=by simp;omega
  have hk':(L.map List.length).take k=L.map List.length:=gv (by simp;omega);simp[c1,e1,hk'];refine aN (ZO nx (L.map List.length).sum O) H trivial trivial rfl ?_;simp;refine aS (λk:Nat=>k<=L.length) (λk=>[(0,.p (.sl (L.map .sl))),(2,.p .nil),(25,.p (.sl (L.map .sl))),(26,.p (.int L.length)),(6,.view nx 0 ((L.map List.length).take k).sum 1 none),(27,.p (.int k))]) (λk=>⟨[(nx,⟨9,1,((L.take k).flatten.flatMap fM).map .p⟩)],[],nx+1⟩) (λk=>L.length-k) 0 H _ (AS.le_refl _ _) (aB H) ?_;clear hk c1 e1 hk' k;intro k hk;by_cases c1:k<L.length
  .have e1:decide ((k:Int)<L.length)=true:=by simp;omega
   have hs:((L.map List.length).take (k+1)).sum=((L.map List.length).take k).sum+L[k].length:=by
    rw[dS (U c1)];simp
   have DS:=eD (L.map List.length) (k+1);have w2:=ju k;have hwk:=hw L[k] H;have lF:=ht L[k] H;have hfl:(L.take (k+1)).flatten=(L.take k).flatten++L[k]:=by rw[dS c1];simp only[vg,jz,qW,gL]
   have hlen:(((L.take k).flatten.flatMap fM).map AV.p).length=((L.map List.length).take k).sum:=by
    have Y_:∀x∈(L.take k).flatten,x.width=1:=λx hx=>by
     obtain⟨l,hl,hx⟩:=mQ.1 hx;exact hw l (oa hl) x hx
    have:=lR Y_;simp only[pe,this,je,fG,o4]
   have An:List.take ((L.map List.length).take k).sum (((L.take k).flatten.flatMap fM).map AV.p)=((L.take k).flatten.flatMap fM).map AV.p:=gv O;simp[c1,e1,w2];refine⟨by simpa using qI hlen.symm,hwk,lF,O,O,k+1,O,O,aE [(nx,nx+1)] ?_⟩;rw[hfl,hs,An];simp
  .have e1:decide ((k:Int)<L.length)=false:=by simp;omega
   have T8:k=L.length:=O;subst T8;have hk':(L.map List.length).take L.length=L.map List.length:=gv H;simp[c1,e1,results374,hk'];exact⟨[],H⟩
def P_(nx:Nat)(L:List (List PC))(hw:∀l∈L,∀x∈l,x.width=1)(ht:∀l∈L,∀x∈l,cE x=true)(hb:(L.map List.length).sum<=1000000000000)(oK:L.length<=1000000000000):bN 375 [.p (.sl (L.map .sl))] ⟨[],[],nx⟩ (.view nx 0 (L.map List.length).sum 1 none) ⟨[(nx,⟨3,1,(L.flatten.flatMap fM).map .p⟩)],[],nx+1⟩:=by
 refine aC [_] func375 rfl ?_;simp;refine bI (λk:Nat=>k<=L.length) (λk=>[(0,.p (.sl (L.map .sl))),(2,.p .nil),(9,.p (.sl (L.map .sl))),(10,.p (.int L.length)),(3,.p (.int ((L.map List.length).take k).sum)),(11,.p (.int k))]) (λk=>L.length-k) 0 H (aB H) ?_;intro k hk;by_cases c1:k<L.length
 .have e1:decide ((k:Int)<L.length)=true:=by simp;omega
  have hs:((L.map List.length).take (k+1)).sum=((L.map List.length).take k).sum+L[k].length:=by
   rw[dS (U c1)];simp
  have DS:=eD (L.map List.length) (k+1);have w1:IntKind.i64.wrap ((((L.map List.length).take k).sum:Int)+(L[k].length:Int))=(((L.map List.length).take (k+1)).sum:Int):=by rw[hs];push_cast;exact aG
  have w2:=ju k;have e2:decide ((((L.map List.length).take (k+1)).sum:Int)<0)=false:=H;simp[c1,e1,w1,w2,e2];refine⟨k+1,O,O,aB ?_⟩;simp
 .have e1:decide ((k:Int)<L.length)=false:=by simp;omega
  have hk':(L.map List.length).take k=L.map List.length:=gv (by simp;omega);simp[c1,e1,hk'];refine aN (ZP nx (L.map List.length).sum O) H trivial trivial rfl ?_;simp;refine aS (λk:Nat=>k<=L.length) (λk=>[(0,.p (.sl (L.map .sl))),(2,.p .nil),(25,.p (.sl (L.map .sl))),(26,.p (.int L.length)),(6,.view nx 0 ((L.map List.length).take k).sum 1 none),(27,.p (.int k))]) (λk=>⟨[(nx,⟨3,1,((L.take k).flatten.flatMap fM).map .p⟩)],[],nx+1⟩) (λk=>L.length-k) 0 H _ (AS.le_refl _ _) (aB H) ?_;clear hk c1 e1 hk' k;intro k hk;by_cases c1:k<L.length
  .have e1:decide ((k:Int)<L.length)=true:=by simp;omega
   have hs:((L.map List.length).take (k+1)).sum=((L.map List.length).take k).sum+L[k].length:=by
    rw[dS (U c1)];simp
   have DS:=eD (L.map List.length) (k+1);have w2:=ju k;have hwk:=hw L[k] H;have lF:=ht L[k] H;have hfl:(L.take (k+1)).flatten=(L.take k).flatten++L[k]:=by rw[dS c1];simp only[vg,jz,qW,gL]
   have hlen:(((L.take k).flatten.flatMap fM).map AV.p).length=((L.map List.length).take k).sum:=by
    have Y_:∀x∈(L.take k).flatten,x.width=1:=λx hx=>by
     obtain⟨l,hl,hx⟩:=mQ.1 hx;exact hw l (oa hl) x hx
    have:=lR Y_;simp only[pe,this,je,fG,o4]
   have An:List.take ((L.map List.length).take k).sum (((L.take k).flatten.flatMap fM).map AV.p)=((L.take k).flatten.flatMap fM).map AV.p:=gv O;simp[c1,e1,w2];refine⟨by simpa using qI hlen.symm,hwk,lF,O,O,k+1,O,O,aE [(nx,nx+1)] ?_⟩;rw[hfl,hs,An];simp
  .have e1:decide ((k:Int)<L.length)=false:=by simp;omega
   have T8:k=L.length:=O;subst T8;have hk':(L.map List.length).take L.length=L.map List.length:=gv H;simp[c1,e1,results375,hk'];exact⟨[],H⟩
def Yl:eE prog 324:=⟨Tryz.f324,func324,bp,bp⟩
def Ee(nx id:Nat)(hid:id<nx)(cs:List PC)(n i:Nat)(vs:List PC)(hn:cs.length=n*1)(hi:i<=n)(hw:∀x∈vs,x.width=1)(ht:∀x∈vs,cE x=true)(hb:n<=1000000000000)(oK:vs.length<=1000000000000):bN 324 [.view id 0 n 1 none,.p (.int i),.p (.sl vs)] ⟨[(id,⟨9,1,cs.map .p⟩)],[],nx⟩ (.view nx 0 (n+vs.length) 1 none) ⟨[(nx,⟨9,1,(cs.take (i*1)++vs.flatMap fM++cs.drop (i*1)).map .p⟩)],[],nx+1⟩:=by
 have hne:¬id=nx:=O;refine iX (pre:=[]) (post:=[_,_]) Yl (λc h1 h2 h3=>?_) ?_
 .have jC:∀k:Int,0<=k->k<=4000000000000->IntKind.i64.wrap k=k:=λk h1 h2=>aG;refine aq [_] [] [(11,[(8,.w [])]),(15,[(8,.w [])])] [] func324 rfl ?_;have w1:IntKind.i64.wrap ((n:Int)+(vs.length:Int))=(n:Int)+(vs.length:Int):=jC _ O O;have w2:IntKind.i64.wrap ((n:Int)+(vs.length:Int)-(i:Int))=(n:Int)+(vs.length:Int)-(i:Int):=jC _ O O;have w3:IntKind.i64.wrap ((i:Int)+(vs.length:Int))=(i:Int)+(vs.length:Int):=jC _ O O;have t1:((n:Int)+(vs.length:Int)).toNat=n+vs.length:=O;have t2:((n:Int)+(vs.length:Int)-(i:Int)).toNat=n+vs.length-i:=O;have t3:((i:Int)+(vs.length:Int)).toNat=i+vs.length:=O;have fE:¬nx=id:=O;by_cases c0:vs.length=0
  .have:vs=[]:=o5 c0;subst this;simp[results324,hi,h1];exact⟨[(nx,id)],H⟩
  .have e0:(((vs.length:Nat):Int)==0)=false:=U c0;by_cases c1:i=n
   .subst c1;have hcs:List.drop i (cs.map AV.p)=[]:=gM (by simp;omega);simp[e0,results324,h1,hne,fE,hcs];refine⟨O,hw,ht,?_⟩;rcases iD c (i+vs.length)with h|h
    .exact .inr ⟨h,O,O,[],H⟩
    .exact .inl ⟨h,[(nx,id)],H⟩
   .have e1:((i:Int)==(n:Int))=false:=by rw[kC];omega
    have kW:(cs.map AV.p).length=n:=by simp;omega
    have hvl:(vs.flatMap fM).length=vs.length:=by have:=lR hw;omega
    have m1:vs.length.min (n+vs.length-i)=vs.length:=eS O;have m2:(n-i).min (i+(n+vs.length-i)-(i+vs.length))=n-i:=eS O;have m3:List.take vs.length vs=vs:=eH;have FD:((vs.flatMap fM).map AV.p).length=vs.length:=U hvl;by_cases c2:c<n+vs.length
    .have e2:(decide ((c:Int)<(n:Int)+(vs.length:Int)))=true:=by simp;omega
     have key:=HG (z:= .p (.str [])) kW FD hi;generalize hA:cs.map AV.p=A at*;simp[e0,e1,w1,e2,w2,w3,t1,t2,t3,results324,hi,h1,hne,fE,m1,m2,m3,key]
     repeat' refine And.intro ?_ ?_
     all_goals first|omega|assumption|skip
     exact⟨[],by simp[hA];omega⟩
    .have e2:(decide ((c:Int)<(n:Int)+(vs.length:Int)))=false:=by simp;omega
     have m4:(n+vs.length-i).min (n+vs.length-(i+vs.length))=n-i:=by
      rw[show n+vs.length-(i+vs.length)=n-i by omega];exact BF O
     have key:=HI kW FD hi rfl;generalize hA:cs.map AV.p=A at*;simp[e0,e1,w1,e2,w2,w3,t1,t2,t3,results324,hi,h1,hne,fE];refine⟨O,O,O,O,sC Ym (.inr rfl) (ob:=⟨9,1,A⟩) H rfl O H (by simp[uz]) ?_⟩;simp[e0,e1,w1,e2,w2,w3,t1,t2,t3,results324,hi,h1,hne,fE,m1,m3,m4,key]
     repeat' refine And.intro ?_ ?_
     all_goals first|omega|assumption|(rw[jW];omega)|skip
     exact⟨[(nx,id)],by simp[hA]⟩
 .intro hn0;have Ho:i=0:=O;have hc0:cs=[]:=o5 O;subst Ho;subst hc0;subst hn0;by_cases c0:vs.length=0
  .have:vs=[]:=o5 c0;subst this;refine eT (r:= .full []) (a_:=⟨[],[],nx⟩) (el:=9) (s:=1) ?_ trivial;refine aq [_] [] [(11,[(8,.w [])]),(15,[(8,.w [])])] [] func324 rfl ?_;simp[results324];exact⟨[],H⟩
  .have e0:(((vs.length:Nat):Int)==0)=false:=U c0;refine aq [_] [25] [(11,[(8,.w [])]),(15,[(8,.w [])])] [] func324 rfl ?_;simp[e0,results324];exact⟨hw,ht,O,O,[],H⟩
def YM:eE prog 325:=⟨Tryz.f325,func325,bp,bp⟩
def Pn(nx id:Nat)(hid:id<nx)(cs:List PC)(n i:Nat)(vs:List PC)(hn:cs.length=n*1)(hi:i<=n)(hw:∀x∈vs,x.width=1)(ht:∀x∈vs,cE x=true)(hb:n<=1000000000000)(oK:vs.length<=1000000000000):bN 325 [.view id 0 n 1 none,.p (.int i),.p (.sl vs)] ⟨[(id,⟨3,1,cs.map .p⟩)],[],nx⟩ (.view nx 0 (n+vs.length) 1 none) ⟨[(nx,⟨3,1,(cs.take (i*1)++vs.flatMap fM++cs.drop (i*1)).map .p⟩)],[],nx+1⟩:=by
 have hne:¬id=nx:=O;refine iX (pre:=[]) (post:=[_,_]) YM (λc h1 h2 h3=>?_) ?_
 .have jC:∀k:Int,0<=k->k<=4000000000000->IntKind.i64.wrap k=k:=λk h1 h2=>aG;refine aq [_] [] [(11,[(8,.w [])]),(15,[(8,.w [])])] [] func325 rfl ?_;have w1:IntKind.i64.wrap ((n:Int)+(vs.length:Int))=(n:Int)+(vs.length:Int):=jC _ O O;have w2:IntKind.i64.wrap ((n:Int)+(vs.length:Int)-(i:Int))=(n:Int)+(vs.length:Int)-(i:Int):=jC _ O O;have w3:IntKind.i64.wrap ((i:Int)+(vs.length:Int))=(i:Int)+(vs.length:Int):=jC _ O O;have t1:((n:Int)+(vs.length:Int)).toNat=n+vs.length:=O;have t2:((n:Int)+(vs.length:Int)-(i:Int)).toNat=n+vs.length-i:=O;have t3:((i:Int)+(vs.length:Int)).toNat=i+vs.length:=O;have fE:¬nx=id:=O;by_cases c0:vs.length=0
  .have:vs=[]:=o5 c0;subst this;simp[results325,hi,h1];exact⟨[(nx,id)],H⟩
  .have e0:(((vs.length:Nat):Int)==0)=false:=U c0;by_cases c1:i=n
   .subst c1;have hcs:List.drop i (cs.map AV.p)=[]:=gM (by simp;omega);simp[e0,results325,h1,hne,fE,hcs];refine⟨O,hw,ht,?_⟩;rcases iD c (i+vs.length)with h|h
    .exact .inr ⟨h,O,O,[],H⟩
    .exact .inl ⟨h,[(nx,id)],H⟩
   .have e1:((i:Int)==(n:Int))=false:=by rw[kC];omega
    have kW:(cs.map AV.p).length=n:=by simp;omega
    have hvl:(vs.flatMap fM).length=vs.length:=by have:=lR hw;omega
    have m1:vs.length.min (n+vs.length-i)=vs.length:=eS O;have m2:(n-i).min (i+(n+vs.length-i)-(i+vs.length))=n-i:=eS O;have m3:List.take vs.length vs=vs:=eH;have FD:((vs.flatMap fM).map AV.p).length=vs.length:=U hvl;by_cases c2:c<n+vs.length
    .have e2:(decide ((c:Int)<(n:Int)+(vs.length:Int)))=true:=by simp;omega
     have key:=HG (z:= .p (.sc (.int .i64 0))) kW FD hi;generalize hA:cs.map AV.p=A at*;simp[e0,e1,w1,e2,w2,w3,t1,t2,t3,results325,hi,h1,hne,fE,m1,m2,m3,key]
     repeat' refine And.intro ?_ ?_
     all_goals first|omega|assumption|skip
     exact⟨[],by simp[hA];omega⟩
    .have e2:(decide ((c:Int)<(n:Int)+(vs.length:Int)))=false:=by simp;omega
     have m4:(n+vs.length-i).min (n+vs.length-(i+vs.length))=n-i:=by
      rw[show n+vs.length-(i+vs.length)=n-i by omega];exact BF O
     have key:=HI kW FD hi rfl;generalize hA:cs.map AV.p=A at*;simp[e0,e1,w1,e2,w2,w3,t1,t2,t3,results325,hi,h1,hne,fE];refine⟨O,O,O,O,sC MP (.inr rfl) (ob:=⟨3,1,A⟩) H rfl O H (by simp[uz]) ?_⟩;simp[e0,e1,w1,e2,w2,w3,t1,t2,t3,results325,hi,h1,hne,fE,m1,m3,m4,key]
     repeat' refine And.intro ?_ ?_
     all_goals first|omega|assumption|(rw[jW];omega)|skip
     exact⟨[(nx,id)],by simp[hA]⟩
 .intro hn0;have Ho:i=0:=O;have hc0:cs=[]:=o5 O;subst Ho;subst hc0;subst hn0;by_cases c0:vs.length=0
  .have:vs=[]:=o5 c0;subst this;refine eT (r:= .full []) (a_:=⟨[],[],nx⟩) (el:=3) (s:=1) ?_ trivial;refine aq [_] [] [(11,[(8,.w [])]),(15,[(8,.w [])])] [] func325 rfl ?_;simp[results325];exact⟨[],H⟩
  .have e0:(((vs.length:Nat):Int)==0)=false:=U c0;refine aq [_] [25] [(11,[(8,.w [])]),(15,[(8,.w [])])] [] func325 rfl ?_;simp[e0,results325];exact⟨hw,ht,O,O,[],H⟩
def aaY:eE prog 326:=⟨Tryz.f326,func326,bp,bp⟩
def LR(nx id:Nat)(hid:id<nx)(cs:List PC)(n i j:Nat)(vs:List PC)(hn:cs.length=n*1)(hij:i<j)(hj:j<=n)(hw:∀x∈vs,x.width=1)(ht:∀x∈vs,cE x=true)(hb:n<=1000000000000)(oK:vs.length<=1000000000000):bN 326 [.view id 0 n 1 none,.p (.int i),.p (.int j),.p (.sl vs)] ⟨[(id,⟨3,1,cs.map .p⟩)],[],nx⟩ (.view nx 0 (i+vs.length+(n-j)) 1 none) ⟨[(nx,⟨3,1,(cs.take (i*1)++vs.flatMap fM++cs.drop (j*1)).map .p⟩)],[],nx+1⟩:=by
 have hne:¬id=nx:=O;have fE:¬nx=id:=O;have kW:(cs.map AV.p).length=n:=by simp;omega
 have hvl:(vs.flatMap fM).length=vs.length:=by have:=lR hw;omega
 have FD:((vs.flatMap fM).map AV.p).length=vs.length:=U hvl;have m3:List.take vs.length vs=vs:=eH;refine iX (pre:=[]) (post:=[_,_,_]) aaY (λc h1 h2 h3=>?_) (λh0=>O);have jC:∀k:Int,0<=k->k<=4000000000000->IntKind.i64.wrap k=k:=λk h1 h2=>aG;refine aq [_] [] [(13,[(9,.w [])]),(18,[(9,.w [])]),(22,[(9,.w [])])] [] func326 rfl ?_;have e0:((i:Int)==(j:Int))=false:=by rw[kC];omega
 generalize hA:cs.map AV.p=A at*;have hVl:∀m,AV.ja.iA m ((vs.flatMap fM).map AV.p)=true:=λm=>afO;have hVr:∀ρ,AV.cp.eu ρ ((vs.flatMap fM).map AV.p)=(vs.flatMap fM).map AV.p:=λρ=>afN;generalize hV:(vs.flatMap fM).map AV.p=V at*;by_cases c1:j=n
 .subst c1;have DU:List.drop j A=[]:=gM O;by_cases c2:i+vs.length<j
  .have e2:decide ((i:Int)+(vs.length:Int)<(j:Int))=true:=by simp;omega
   have t1:((i:Int)+(vs.length:Int)).toNat=i+vs.length:=O;simp[e0,e2,t1,results326,hne,fE,hV]
   repeat' refine And.intro ?_ ?_
   all_goals first|omega|assumption|skip
   refine .inl ?_
   repeat' refine And.intro ?_ ?_
   all_goals first|omega|assumption|(simp;omega)|skip
   refine⟨[(nx,id)],?_⟩;have l1:(List.take i A++V).length=i+vs.length:=by simp;omega
   have e4:∀R,List.take (i+vs.length) (List.take i A++(V++R))=List.take i A++V:=λR=>by rw[<-cW];exact gN l1
   simp[hA,hVl,hVr,DU,e4]
  .have e2:decide ((i:Int)+(vs.length:Int)<(j:Int))=false:=by simp;omega
   simp[e0,e2,results326,hne,fE,hV]
   repeat' refine And.intro ?_ ?_
   all_goals first|omega|assumption|skip
   rcases iD c (i+vs.length)with h|h
   .exact .inr ⟨h,O,O,[],by simp[hA,hVl,hVr,DU]⟩
   .exact .inl ⟨h,[(nx,id)],by simp[hA,hVl,hVr,DU]⟩
 .have e1:((j:Int)==(n:Int))=false:=by rw[kC];omega
  have w1:IntKind.i64.wrap ((i:Int)+(vs.length:Int))=(i:Int)+(vs.length:Int):=jC _ O O;have w2:IntKind.i64.wrap ((i:Int)+(vs.length:Int)+((n-j:Nat):Int))=(i:Int)+(vs.length:Int)+((n-j:Nat):Int):=jC _ O O;have w3:IntKind.i64.wrap ((i:Int)+(vs.length:Int)+((n-j:Nat):Int)-(i:Int))=(i:Int)+(vs.length:Int)+((n-j:Nat):Int)-(i:Int):=jC _ O O;have t1:((i:Int)+(vs.length:Int)).toNat=i+vs.length:=O;have t2:((i:Int)+(vs.length:Int)+((n-j:Nat):Int)).toNat=i+vs.length+(n-j):=O;have t3:((i:Int)+(vs.length:Int)+((n-j:Nat):Int)-(i:Int)).toNat=vs.length+(n-j):=O;rcases iD c (i+vs.length+(n-j))with h|h
  .have e2:decide ((c:Int)<(i:Int)+(vs.length:Int)+((n-j:Nat):Int))=true:=by simp;omega
   have m1:vs.length.min (vs.length+(n-j))=vs.length:=eS O;have m2:(n-j).min (i+(vs.length+(n-j))-(i+vs.length))=n-j:=eS O;simp[e0,e1,e2,w1,w2,w3,t1,t2,t3,results326,hne,fE,m1,m2,m3,hV]
   repeat' refine And.intro ?_ ?_
   all_goals first|omega|assumption|skip
   refine⟨[],?_⟩;have key:=QH (Q:=List.take i A) (V:=V) (S:=List.take (n-j) (List.drop j A)) (R:=List.replicate (vs.length+(n-j)) (AV.p (.sc (.int .i64 0)))) (i:=i) (m:=vs.length) (k:=n-j) (by simp;omega) FD (by simp;omega) H;have e4:List.take (n-j) (List.drop j A)=List.drop j A:=gv (by simp;omega);rw[e4]at key;simp[hA,hVl,hVr,e4,key];omega
  .have e2:decide ((c:Int)<(i:Int)+(vs.length:Int)+((n-j:Nat):Int))=false:=by simp;omega
   by_cases c2:i+vs.length<=j
   .have e3:decide ((i:Int)+(vs.length:Int)<=(j:Int))=true:=by simp;omega
    have m1:vs.length.min (i+vs.length+(n-j)-i)=vs.length:=eS O;have m2:(n-j).min (i+vs.length+(n-j)-(i+vs.length))=n-j:=eS O;have p1:bH i A=A:=fj O;have p2:bH (i+vs.length) (List.take i A++(V++List.drop (i+vs.length) A))=List.take i A++(V++List.drop (i+vs.length) A):=fj (by simp;omega);have key:=λR=>LS (A:=A) (V:=V) kW FD hj c2 rfl R;simp[e0,e1,e2,e3,w1,w2,w3,t1,t2,t3,results326,hne,fE,m1,m2,m3,hV,p1,p2]
    repeat' refine And.intro ?_ ?_
    all_goals first|omega|assumption|skip
    refine⟨[(nx,id)],?_⟩;simp[hA,hVl,hVr,key]
   .have e3:decide ((i:Int)+(vs.length:Int)<=(j:Int))=false:=by simp;omega
    have m1:vs.length.min (i+vs.length+(n-j)-i)=vs.length:=eS O;have m2:(n-j).min (i+vs.length+(n-j)-(i+vs.length))=n-j:=eS O;simp[e0,e1,e2,e3,w1,w2,w3,t1,t2,t3,results326,hne,fE]
    repeat' refine And.intro ?_ ?_
    all_goals first|omega|assumption|skip
    refine sC MP (.inl rfl) (ob:=⟨3,1,A⟩) H rfl O H (by simp[uz]) ?_;have key:=QI (A:=A) (V:=V) (i:=i) (j:=j) kW FD O hj O rfl;simp[e0,e1,e2,e3,w1,w2,w3,t1,t2,t3,results326,hne,fE,m1,m2,m3,hV]
    repeat' refine And.intro ?_ ?_
    all_goals first|omega|assumption|(rw[jW];omega)|skip
    refine⟨[(nx,id)],?_⟩;simp[hA,hVl,hVr,key]
def OE{a b:Nat}:((a:Int)==(b:Int))=(a==b):=by rw[uO];simp;omega
def me(l:Bool)(ks:List (aF))(vs:List Int):cq 320 [dU l ks vs] (.int (if l then 0 else 1)):=by
 refine ay [_] func320 rfl ?_;cases l<;>simp[results320]
def r9(l:Bool)(ks:List (aF))(vs:List Int):Bool:=vs.length==ks.length+(if l then 0 else 1)
def lJ(l:Bool)(ks:List (aF))(vs:List Int)(hk:ks.length<=1000000000000):cq 319 [dU l ks vs] (.bool (r9 l ks vs)):=by
 refine ay [_] func319 rfl ?_;simp;refine aZ (me l ks vs) ?_;cases l
 .have w:IntKind.i64.wrap ((ks.length:Int)+1)=((ks.length+1:Nat):Int):=aG;simp[results319,w,r9,<-OE]
 .have w:IntKind.i64.wrap (ks.length:Int)=(ks.length:Int):=aG;simp[results319,w,r9,<-OE]
def al0(ks:List (aF)):∀x∈ks.map PC.str,x.width=1:=H
def al1(ks:List (aF)):∀x∈ks.map PC.str,cE x=true:=H
def al2(vs:List Int):∀x∈vs.map PC.int,x.width=1:=H
def al3(vs:List Int):∀x∈vs.map PC.int,cE x=true:=H
@[simp]def Xa(ks:List (aF)):(ks.map PC.str).flatMap fM=ks.map PC.str:=by induction ks<;>simp_all
@[simp]def Xb(vs:List Int):(vs.map PC.int).flatMap fM=vs.map PC.int:=by induction vs<;>simp_all
def tj(nx:Nat)(l:Bool)(ks:List (aF))(vs:List Int)(hk:ks.length<=1000000000000)(hv:vs.length<=1000000000000):bN 318 [.p (dU l ks vs)] ⟨[],[],nx⟩ (.agg false [.p (.bool l),.view nx 0 ks.length 1 none,.view (nx+1) 0 vs.length 1 none]) ⟨[(nx,⟨9,1,(ks.map PC.str).map .p⟩),(nx+1,⟨3,1,(vs.map PC.int).map .p⟩)],[],nx+2⟩:=by
 have c1:=λn=>NF n (ks.map PC.str) (al0 ks) (al1 ks) (U hk);have c2:=λn=>Cr n (vs.map PC.int) (al2 vs) (al3 vs) (U hv);simp only[pe,Xa,Xb]at c1 c2;refine aq [_] [1] [(1,[(1,.r 1),(2,.f [1]),(4,.r 1),(5,.f [1]),(7,.s 1 []),(9,.s 1 [])])] [(1,nx)] func318 rfl ?_;simp;refine ua (c1 _) H trivial trivial rfl H ?_;simp;refine ua (c2 _) H trivial trivial rfl H ?_;simp[results318];exact⟨[(nx,nx+2),(nx+1,nx+3)],by simp;intro a b h;omega⟩
def tkS(ks:List (aF)):List.take ks.length (ks.map (AV.p∘PC.str))=ks.map (AV.p∘PC.str):=gv H
def tkI(vs:List Int):List.take vs.length (vs.map (AV.p∘PC.int))=vs.map (AV.p∘PC.int):=gv H
def qj{bx:List (Nat×Ob)}{l:Bool}{a b n m:Nat}{c d:Option Nat}{K:List (aF)}{V:List Int}(ha:lk a bx=some ⟨9,1,(K.map PC.str).map .p⟩)(hb:lk b bx=some ⟨3,1,(V.map PC.int).map .p⟩)(hn:n=K.length)(hm:m=V.length):dA bx 4 (.agg false [.p (.bool l),.view a 0 n 1 c,.view b 0 m 1 d]) (dU l K V):=by
 subst hn;subst hm;simp[dA,j_,ha,hb,tkS,tkI]
def QO(l:Bool)(ks:List (aF))(vs:List Int)(hk:ks.length<=1000000000000)(hv:vs.length<=1000000000000):cq 318 [dU l ks vs] (dU l ks vs):=bF (xs:=[_]) (tj 0 l ks vs hk hv) (qj H H rfl rfl)
def alI(l:Bool)(ks:List (aF))(vs:List Int)(i:Nat)(key:aF)(us:List Int):PC:=dU l (ks.take i++[key]++ks.drop i) (vs.take i++us++vs.drop (if l then i else i+1))
def QV(l:Bool)(ks:List (aF))(vs:List Int)(i:Nat)(key:aF)(us:List Int)(hf:r9 l ks vs=true)(hi:i<=ks.length)(hk:ks.length<=1000000000)(hv:vs.length<=1000000000)(hu:us.length<=1000000000):cq 242 [dU l ks vs,.int i,.str key,.sl (us.map PC.int)] (alI l ks vs i key us):=by
 have hc:=λn=>tj n l ks vs O O;have e1:¬ks.length<i:=O;have hlen:vs.length=ks.length+(if l then 0 else 1):=by simpa[r9]using hf
 have w1:=ju i;cases l
 .simp at hlen;refine bF (xs:=[_,_,_,_]) (r:= .agg false [.p (.bool false),.view 0 0 (ks.length+1) 1 none,.view 1 0 (i+us.length+(vs.length-(i+1))) 1 none]) (a_:=⟨[(0,⟨9,1,((ks.take i++[key]++ks.drop i).map PC.str).map .p⟩),(1,⟨3,1,((vs.take i++us++vs.drop (i+1)).map PC.int).map .p⟩)],[],2⟩) ?_ (qj rfl rfl (by simp;omega) (by simp;omega));refine aq [_] [4] [] [] func242 rfl ?_;simp;refine aN (hc _) H trivial trivial rfl ?_;simp;refine bZ (lJ false ks vs O) (by simp[dA,j_,tkS,tkI]) rfl ?_;simp[hf,e1];refine oM (Ee _ 2 O (ks.map PC.str) ks.length i [.str key] H hi H H O H) rfl ?_;simp;refine aN (LR _ 3 O (vs.map PC.int) vs.length i (i+1) (us.map PC.int) H O O H H O (by simp;omega)) (by simp[w1]) (by simp[aA]) trivial rfl ?_;simp[results242];exact⟨[(0,4),(1,5)],H⟩
 .simp at hlen;refine bF (xs:=[_,_,_,_]) (r:= .agg false [.p (.bool true),.view 0 0 (ks.length+1) 1 none,.view 1 0 (vs.length+us.length) 1 none]) (a_:=⟨[(0,⟨9,1,((ks.take i++[key]++ks.drop i).map PC.str).map .p⟩),(1,⟨3,1,((vs.take i++us++vs.drop i).map PC.int).map .p⟩)],[],2⟩) ?_ (qj rfl rfl (by simp;omega) (by simp;omega));refine aq [_] [4] [] [] func242 rfl ?_;simp;refine aN (hc _) H trivial trivial rfl ?_;simp;refine bZ (lJ true ks vs O) (by simp[dA,j_,tkS,tkI]) rfl ?_;simp[hf,e1];refine oM (Ee _ 2 O (ks.map PC.str) ks.length i [.str key] H hi H H O H) rfl ?_;simp;refine oM (Pn _ 3 O (vs.map PC.int) vs.length i (us.map PC.int) H O H H O (by simp;omega)) rfl ?_;simp[results242];exact⟨[(0,4),(1,5)],H⟩
def L0(l:Bool)(ks:List (aF))(vs:List Int)(at_:Int)(key:aF)(us:List Int)(hf:r9 l ks vs=false\/at_<0\/(ks.length:Int)<at_)(hk:ks.length<=1000000000)(hv:vs.length<=1000000000):cq 242 [dU l ks vs,.int at_,.str key,.sl (us.map PC.int)] (dU l ks vs):=by
 have hc:=λn=>tj n l ks vs O O;refine bF (xs:=[_,_,_,_]) (r:= .agg false [.p (.bool l),.view 0 0 ks.length 1 none,.view 1 0 vs.length 1 none]) (a_:=⟨[(0,⟨9,1,(ks.map PC.str).map .p⟩),(1,⟨3,1,(vs.map PC.int).map .p⟩)],[],2⟩) ?_ (qj rfl rfl rfl rfl);refine aq [_] [4] [] [] func242 rfl ?_;simp;refine aN (hc _) H trivial trivial rfl ?_;simp;refine bZ (lJ l ks vs O) (by simp[dA,j_,tkS,tkI]) rfl ?_;by_cases f0:r9 l ks vs=false
 .simp[f0,results242];exact⟨[(0,2),(1,3)],H⟩
 .have f0':r9 l ks vs=true:=U f0;by_cases f1:at_<0
  .simp[f0',f1,results242];exact⟨[(0,2),(1,3)],H⟩
  .have f2:(ks.length:Int)<at_:=by
    rcases hf with h|h|h
    .exact absurd h f0
    .exact absurd h f1
    .exact h
   simp[f0',f1,f2,results242];exact⟨[(0,2),(1,3)],H⟩
def Ks(q:aF->Bool)(ks:List (aF)):Int:=if below (λs=>!q s) ks<ks.length then(below (λs=>!q s) ks:Nat)else-1
def Mu{g:FuncId}{caps:List PC}(q:aF->Bool)(ks:List (aF))(hk:ks.length<=9223372036854775807)(h:∀s∈ks,cq g (.str s::caps) (.bool (q s))):cq 362 [.sl (ks.map PC.str),.fn (.func g) caps] (.int (Ks q ks)):=by
 refine ay [_] func362 rfl ?_;simp;refine bI (λk:Nat=>k<=ks.length/\∀x∈ks.take k,(!q x)=true) (λk=>[(0,.p (.sl (ks.map PC.str))),(1,.p (.fn (.func g) caps)),(7,.p (.int ks.length)),(8,.p (.int k))]) (λk=>ks.length-k) 0 H (aB H) ?_;rintro k ⟨h1,h2⟩;by_cases c1:k<ks.length
 .simp[c1];refine cm (h ks[k] H) ?_;by_cases c2:q ks[k]=true
  .have e:=H6 h2 h1 (λ_=>by simpa using c2);simp[c2,Ks,e,c1,results362]
  .simp[c2];refine⟨k+1,⟨O,?_⟩,O,aB ?_⟩
   .rw[kG c1];simp only[lD,gK];rintro x (hx|rfl);(have:=h2 x hx;simpa using this);simpa using c2
   .simp[aG (n:=(k:Int)+1)]
 .have e:=H6 h2 h1 (λh=>absurd h c1);simp[e,c1,Ks,results362]
theorem H7:∀(a b:aF),Op.bytesLess b a=(!Op.bytesLess a b&&!a==b)
 |[],[]=>rfl
 |[],_::_=>rfl
 |_::_,[]=>rfl
 |x::a,y::b=>by
  have ih:=H7 a b;rcases Nat.lt_trichotomy x.toNat y.toNat with h|h|h
  .have h1:x<y:=h;have h2:¬y<x:=λk=>by have:y.toNat<x.toNat:=k;omega
   have h3:(y==x)=false:=by simp;intro e;subst e;omega
   simp[Op.bytesLess,h1,h2,h3]
  .have h1:x=y:=yt.mp h;subst h1;have h2:¬x<x:=λk=>by have:x.toNat<x.toNat:=k;omega
   simp[Op.bytesLess,h2,ih]
  .have h1:y<x:=h;have h2:¬x<y:=λk=>by have:x.toNat<y.toNat:=k;omega
   have h3:(x==y)=false:=by simp;intro e;subst e;omega
   have h4:x≠y:=by intro e;subst e;omega
   simp[Op.bytesLess,h1,h2,h3,h4]
def aeB(s key:aF):cq 317 [.str s,.ref (.str key)] (.bool (Op.bytesLess s key)):=by
 refine ay [_] func317 rfl ?_;simp[results317]
def YN(s key:aF):cq 361 [.str s,.ref (.str key)] (.bool (!Op.bytesLess key s)):=by
 refine ay [_] func361 rfl ?_;simp[results361,H7 s key]
def YO{g:FuncId}{caps:List PC}{s:aF}{b:Bool}(h:cq g (.str s::caps) (.bool b)):cq 363 [.str s,.ref (.fn (.func g) caps)] (.bool (!b)):=by
 refine ay [_] func363 rfl ?_;simp;refine cm h ?_;simp[results363]
def MQ{g:FuncId}{caps:List PC}(p:aF->Bool)(l:Bool)(ks:List (aF))(vs:List Int)(hk:ks.length<=9223372036854775807)(h:∀s∈ks,cq g (.str s::caps) (.bool (p s))):cq 316 [dU l ks vs,.fn (.func g) caps] (.int (below p ks)):=by
 refine ay [_] func316 rfl ?_;simp;refine cm (Mu (λs=>!p s) ks hk λs hs=>YO (h s hs)) ?_;have hb:=Bk p ks;by_cases c:below p ks<ks.length
 .simp[Ks,c,results316]
 .have e:below p ks=ks.length:=O;simp[Ks,e,results316]
abbrev aj_(ks:List (aF))(key:aF):PC:= .tp [.int (below (λs=>Op.bytesLess s key) ks),.bool (ks[below (λs=>Op.bytesLess s key) ks]?==some key)]
def aeC(l:Bool)(ks:List (aF))(vs:List Int)(key:aF)(hk:ks.length<=9223372036854775807):cq 239 [dU l ks vs,.str key] (aj_ ks key):=by
 refine ay [_,_] func239 rfl ?_;simp;refine cm (MQ (λs=>Op.bytesLess s key) l ks vs hk λs _=>aeB s key) ?_;have hb:=Bk (λs=>Op.bytesLess s key) ks;by_cases c:below (λs=>Op.bytesLess s key) ks<ks.length
 .simp[c,results239]
 .have e:below (λs=>Op.bytesLess s key) ks=ks.length:=O;simp[e,results239]
def YP(l:Bool)(ks:List (aF))(vs:List Int)(key:aF)(hk:ks.length<=9223372036854775807):cq 315 [dU l ks vs,.str key] (.int (below (λs=>!Op.bytesLess key s) ks)):=by
 refine ay [_] func315 rfl ?_;simp;refine cm (MQ (λs=>!Op.bytesLess key s) l ks vs hk λs _=>YN s key) ?_;simp[results315]
def yX(l:Bool)(ks:List (aF))(vs:List Int):PC:=if r9 l ks vs&&decide (2<=ks.length)then
 .tp [dU l (ks.take (ks.length/2)) (vs.take (ks.length/2+if l then 0 else 1)),.str (ks.getD (ks.length/2) []),dU l (ks.drop (ks.length/2+if l then 0 else 1)) (vs.drop (ks.length/2+if l then 0 else 1))]else .tp [dU l ks vs,.str [],dU l [] []]
def Zk(l:Bool)(ks:List (aF))(vs:List Int)(hk:ks.length<=1000000000)(hv:vs.length<=1000000000):cq 323 [dU l ks vs] (yX l ks vs):=by
 have hc:=λl ks vs a b=>QO l ks vs a b;by_cases f0:r9 l ks vs=true
 .by_cases f1:2<=ks.length
  .have hlen:vs.length=ks.length+(if l then 0 else 1):=by simpa[r9]using f0
   have e1:¬(ks.length:Int)<2:=O;obtain⟨h,hh⟩:=mH (ks.length/2);have b1:h<ks.length:=O;have b2:(h:Int)<=ks.length:=O;have b3:h<=ks.length:=O;have w0:IntKind.i64.wrap ((ks.length:Int)/2)=(h:Int):=by
    rw[aG];omega
   simp only[yX,f0,f1,decide_true,Bool.and_true,cr,<-hh];refine dK [_,_,_] [] [(2,[(5,.s 1 []),(7,.s 2 [])]),(4,[(15,.w []),(16,.w [])]),(5,[(18,.w []),(19,.w [])]),(6,[(0,.r 3),(6,.r 4),(7,.s 1 [3,4]),(9,.s 2 [3,4])])] [(1,0),(2,1),(3,2),(4,3)] func323 rfl ?_;simp;refine cm (lJ l ks vs O) ?_;cases l
   .simp at hlen;have w1:=ju h;have b4:(h:Int)+1<=vs.length:=O;have b5:h+1<=vs.length:=O;have b6:h+1<=ks.length:=O;have b7:(h:Int)+1<=ks.length:=O;have b8:(0:Int)<=(h:Int)+1:=O;simp[f0,e1,w0,b2,b3];have c1:=hc false (ks.take h) (vs.take (h+1)) (by simp;omega) (by simp;omega);have c2:=hc false (ks.drop (h+1)) (vs.drop (h+1)) (by simp;omega) (by simp;omega);simp only[dU,fG,jG]at c1;simp only[dU,fG,jG]at c2;refine aZ (me false ks vs) ?_;simp[w1,b4,b5,b6,↓b7,↓b8];refine aZ c1 ?_;simp;refine aZ (me false ks vs) ?_;simp[w1,b4,b5,b6,↓b7,↓b8];refine aZ (me false ks vs) ?_;simp[w1,b4,b5,b6,↓b7,↓b8];refine aZ c2 ?_;simp[b1,results323]
   .simp at hlen;have w1:IntKind.i64.wrap (h:Int)=(h:Int):=aG;have b4:(h:Int)<=vs.length:=O;have b5:h<=vs.length:=O;have b6:h<=ks.length:=O;have b7:(h:Int)<=ks.length:=O;simp[f0,e1,w0,b2,b3];have c1:=hc true (ks.take h) (vs.take (h)) (by simp;omega) (by simp;omega);have c2:=hc true (ks.drop (h)) (vs.drop (h)) (by simp;omega) (by simp;omega);simp only[dU,fG,jG]at c1;simp only[dU,fG,jG]at c2;refine aZ (me true ks vs) ?_;simp[w1,b4,b5,b6,↓b7];refine aZ c1 ?_;simp;refine aZ (me true ks vs) ?_;simp[w1,b4,b5,b6,↓b7];refine aZ (me true ks vs) ?_;simp[w1,b4,b5,b6,↓b7];refine aZ c2 ?_;simp[b1,results323]
  .have e1:(ks.length:Int)<2:=O;simp only[yX,f0,f1,B3,F1];have c:=hc l ks vs O O;refine dK [_,_,_] [] [(2,[(5,.s 1 []),(7,.s 2 [])]),(4,[(15,.w []),(16,.w [])]),(5,[(18,.w []),(19,.w [])]),(6,[(0,.r 3),(6,.r 4),(7,.s 1 [3,4]),(9,.s 2 [3,4])])] [(1,0),(2,1),(3,2),(4,3)] func323 rfl ?_;simp;refine cm (lJ l ks vs O) ?_;simp[f0,e1];refine aZ c ?_;simp[results323]
   trace_state
 .have e1:True:=trivial;have f0:r9 l ks vs=false:=U f0;simp only[yX,f0,gy];have c:=hc l ks vs O O;refine dK [_,_,_] [] [(2,[(5,.s 1 []),(7,.s 2 [])]),(4,[(15,.w []),(16,.w [])]),(5,[(18,.w []),(19,.w [])]),(6,[(0,.r 3),(6,.r 4),(7,.s 1 [3,4]),(9,.s 2 [3,4])])] [(1,0),(2,1),(3,2),(4,3)] func323 rfl ?_;simp;refine cm (lJ l ks vs O) ?_;simp[f0,e1];refine aZ c ?_;simp[results323]
  trace_state
def QS(l:Bool)(ks:List (aF))(vs:List Int)(i:Nat)(hf:r9 l ks vs=true)(hi:i<ks.length)(hk:ks.length<=1000000000)(hv:vs.length<=1000000000):cq 240 [dU l ks vs,.int i] (dU l (ks.take i++ks.drop (i+1)) (vs.take (i+(if l then 0 else 1))++vs.drop (i+(if l then 0 else 1)+1))):=by
 have hc:=λn=>tj n l ks vs O O;have e1:¬ks.length<=i:=O;have hlen:vs.length=ks.length+(if l then 0 else 1):=by simpa[r9]using hf
 obtain⟨b,hb⟩:∃b:Nat,b=if l then 0 else 1:=⟨_,rfl⟩
 have oK:b<=1:=by rw[hb];split<;>omega
 have hbi:(if l=true then(0:Int)else 1)=(b:Int):=by rw[hb];split<;>rfl
 rw[<-hb]at hlen⊢;have w1:=ju i;have w2:IntKind.i64.wrap ((i:Int)+(b:Int))=((i+b:Nat):Int):=by rw[aG];rfl
 have w3:IntKind.i64.wrap (((i+b:Nat):Int)+1)=((i+b+1:Nat):Int):=by rw[aG];rfl
 refine bF (xs:=[_,_]) (r:= .agg false [.p (.bool l),.view 0 0 (ks.length-1) 1 none,.view 1 0 (vs.length-1) 1 none]) (a_:=⟨[(0,⟨9,1,((ks.take i++ks.drop (i+1)).map PC.str).map .p⟩),(1,⟨3,1,((vs.take (i+b)++vs.drop (i+b+1)).map PC.int).map .p⟩)],[],2⟩) ?_ (qj rfl rfl (by simp;omega) (by simp;omega));refine aq [_] [2] [(5,[(1,.r 1),(5,.f [1]),(7,.r 1),(11,.f [1]),(13,.s 1 []),(15,.s 1 [])])] [(1,0)] func240 rfl ?_;simp;refine aN (hc _) H trivial trivial rfl ?_;simp;refine bZ (lJ l ks vs O) (by simp[dA,j_,tkS,tkI]) rfl ?_;simp[hf,e1];refine bZ (me l ks vs) (by simp[dA,j_,tkS,tkI]) rfl ?_;simp[hbi,w2];refine ua (PX _ 2 O (ks.map PC.str) ks.length i (i+1) H O O O) (by simp[w1]) (by simp[aA]) trivial rfl H ?_;simp;refine ua (PY _ 3 O (vs.map PC.int) vs.length (i+b) (i+b+1) H O O O) (by simp;exact w3.symm) (by simp[aA]) trivial rfl H ?_;simp[results240];exact⟨[(0,4),(1,5)],H⟩
def LZ(l:Bool)(ks:List (aF))(vs:List Int)(at_:Int)(hf:r9 l ks vs=false\/at_<0\/(ks.length:Int)<=at_)(hk:ks.length<=1000000000)(hv:vs.length<=1000000000):cq 240 [dU l ks vs,.int at_] (dU l ks vs):=by
 have hc:=λn=>tj n l ks vs O O;refine bF (xs:=[_,_]) (r:= .agg false [.p (.bool l),.view 0 0 ks.length 1 none,.view 1 0 vs.length 1 none]) (a_:=⟨[(0,⟨9,1,(ks.map PC.str).map .p⟩),(1,⟨3,1,(vs.map PC.int).map .p⟩)],[],2⟩) ?_ (qj rfl rfl rfl rfl);refine aq [_] [2] [(5,[(1,.r 1),(5,.f [1]),(7,.r 1),(11,.f [1]),(13,.s 1 []),(15,.s 1 [])])] [(1,0)] func240 rfl ?_;simp;refine aN (hc _) H trivial trivial rfl ?_;simp;refine bZ (lJ l ks vs O) (by simp[dA,j_,tkS,tkI]) rfl ?_;by_cases f0:r9 l ks vs=false
 .simp[f0,results240];exact⟨[(0,2),(1,3)],H⟩
 .have f0':r9 l ks vs=true:=U f0;by_cases f1:at_<0
  .simp[f0',f1,results240];exact⟨[(0,2),(1,3)],H⟩
  .have f2:(ks.length:Int)<=at_:=by
    rcases hf with h|h|h
    .exact absurd h f0
    .exact absurd h f1
    .exact h
   simp[f0',f1,f2,results240];exact⟨[(0,2),(1,3)],H⟩
def xd(l:Bool)(ks:List (aF))(vs:List Int)(a:Int):Bool:=r9 l ks vs&&decide (0<=a)&&decide (a<=ks.length)
def Nl(l:Bool)(ks:List (aF))(vs:List Int)(a:Int)(key:aF):List (aF):=if xd l ks vs a then ks.take a.toNat++[key]++ks.drop a.toNat else ks
def Nn(l:Bool)(ks:List (aF))(vs:List Int)(a:Int)(us:List Int):List Int:=if xd l ks vs a then vs.take a.toNat++us++vs.drop (if l then a.toNat else a.toNat+1)else vs
def xe(l:Bool)(ks:List (aF))(vs:List Int)(a:Int):Bool:=r9 l ks vs&&decide (0<=a)&&decide (a<ks.length)
def Np(l:Bool)(ks:List (aF))(vs:List Int)(a:Int):List (aF):=if xe l ks vs a then ks.take a.toNat++ks.drop (a.toNat+1)else ks
def Nq(l:Bool)(ks:List (aF))(vs:List Int)(a:Int):List Int:=if xe l ks vs a then vs.take (a.toNat+(if l then 0 else 1))++vs.drop (a.toNat+(if l then 0 else 1)+1)else vs
def Wv{l:Bool}{ks:List (aF)}{vs:List Int}{a:Int}(h:xd l ks vs a=false):r9 l ks vs=false\/a<0\/(ks.length:Int)<a:=by
 simp only[xd,Bool.and_eq_false_iff,Kr]at h;rcases h with(h|h)|h
 .exact .inl h
 .exact .inr (.inl O)
 .exact .inr (.inr O)
def Ww{l:Bool}{ks:List (aF)}{vs:List Int}{a:Int}(h:xe l ks vs a=false):r9 l ks vs=false\/a<0\/(ks.length:Int)<=a:=by
 simp only[xe,Bool.and_eq_false_iff,Kr]at h;rcases h with(h|h)|h
 .exact .inl h
 .exact .inr (.inl O)
 .exact .inr (.inr O)
def QT{l:Bool}{ks:List (aF)}{vs:List Int}{a:Int}(h:xd l ks vs a=true):r9 l ks vs=true/\∃i:Nat,a=i/\i<=ks.length:=by
 simp only[xd,bG,eZ]at h;exact⟨h.1.1,a.toNat,O,O⟩
def QU{l:Bool}{ks:List (aF)}{vs:List Int}{a:Int}(h:xe l ks vs a=true):r9 l ks vs=true/\∃i:Nat,a=i/\i<ks.length:=by
 simp only[xe,bG,eZ]at h;exact⟨h.1.1,a.toNat,O,O⟩
def Un(l:Bool)(ks:List (aF))(vs:List Int)(a:Int)(key:aF)(us:List Int)(hk:ks.length<=1000000000)(hv:vs.length<=1000000000)(hu:us.length<=1000000000):cq 242 [dU l ks vs,.int a,.str key,.sl (us.map PC.int)] (dU l (Nl l ks vs a key) (Nn l ks vs a us)):=by
 cases h:xd l ks vs a with
 |false=>simpa[Nl,Nn,h]using L0 l ks vs a key us (Wv h) hk hv
 |true=>obtain⟨hf,i,rfl,hi⟩:=QT h;simpa[Nl,Nn,h,alI]using QV l ks vs i key us hf hi hk hv hu
def Uo(l:Bool)(ks:List (aF))(vs:List Int)(a:Int)(hk:ks.length<=1000000000)(hv:vs.length<=1000000000):cq 240 [dU l ks vs,.int a] (dU l (Np l ks vs a) (Nq l ks vs a)):=by
 cases h:xe l ks vs a with
 |false=>simpa[Np,Nq,h]using LZ l ks vs a (Ww h) hk hv
 |true=>obtain⟨hf,i,rfl,hi⟩:=QU h;simpa[Np,Nq,h]using QS l ks vs i hf hi hk hv
end Go.Av
