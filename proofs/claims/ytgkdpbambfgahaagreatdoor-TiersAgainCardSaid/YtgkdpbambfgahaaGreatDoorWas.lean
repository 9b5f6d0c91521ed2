/- TiersAgain, part 19: what functions compute, and its plain law; no condition. -/
import Derived.Test.YtgkdpbambfgahaaGreatDoorWar
set_option linter.all false
set_option maxRecDepth 100000
set_option maxHeartbeats 64000000
namespace Go.Av
open Go.Proofs Go.Proofs.Tryz Go.aL
def abr:eE prog 191:=⟨Tryz.f191,func191,bp,bp⟩
def Qr(nx id:Nat)(hid:id<nx)(cs:List PC)(n i j:Nat)(hn:cs.length=n*4)(hij:i<=j)(hj:j<=n)(hb:n<=1000000000000):bN 191 [.view id 0 n 4 none,.p (.int i),.p (.int j)] ⟨[(id,⟨159,4,cs.map .p⟩)],[],nx⟩ (.view nx 0 (n-(j-i)) 4 none) ⟨[(nx,⟨159,4,(cs.take (i*4)++cs.drop (j*4)).map .p⟩)],[],nx+1⟩:=by
 have hne:¬id=nx:=O;have fE:¬nx=id:=O;have kW:(cs.map AV.p).length=n*4:=by simp;omega
 refine iX (pre:=[]) (post:=[_,_]) abr (λc h1 h2 h3=>?_) ?_
 .refine aq [_] [] [(5,[(6,.w [])])] [] func191 rfl ?_;generalize hA:cs.map AV.p=A at*;by_cases c0:i=j
  .subst c0;have hd:List.take (i*4) A++List.drop (i*4) A=A:=eO _ _;simp[results191,hne,fE];exact⟨hj,[(nx,id)],by simp[hA]⟩
  .have e0:((i:Int)==(j:Int))=false:=by rw[kC];omega
   have t1:((i:Int)+((n-j:Nat):Int)).toNat=i+(n-j):=O;have key:∀R,List.take ((i+(n-j))*4) (List.take (i*4) A++(List.take ((n-j)*4) (List.drop (j*4) A)++R))=List.take (i*4) A++List.drop (j*4) A:=λR=>by
    have:=wW (R:=R) (n:=n*4) (i:=i*4) (j:=j*4) (k:=(i+(n-j))*4) kW O O O;rw[<-Nat.sub_mul]at this;exact this
   simp[e0,t1,results191,hne,fE]
   repeat' refine And.intro ?_ ?_
   all_goals first|omega|skip
   refine .inl ?_
   repeat' refine And.intro ?_ ?_
   all_goals first|omega|(simp;omega)|skip
   refine⟨[(nx,id)],?_⟩;simp[hA,key];omega
 .intro hn0;have Ho:i=0:=O;have hj0:j=0:=O;have hc0:cs=[]:=o5 O;subst Ho;subst hj0;subst hc0;subst hn0;refine eT (r:= .full []) (a_:=⟨[],[],nx⟩) (el:=159) (s:=4) ?_ trivial;refine aq [_] [] [(5,[(6,.w [])])] [] func191 rfl ?_;simp[results191]
  repeat' refine And.intro ?_ ?_
  all_goals first|omega|exact⟨[],H⟩|simp
end Go.Av
namespace Go.aL
open Go.Av
def St.Le(u:St)(i:Nat):St:={u with rm:=u.rm.gG (u.ix.getD i ux).exts,ix:=u.ix.take i++u.ix.drop (i+1)}
def St.w7(T:St×Bool×Int)(kind:Int)(key:aF):St×Bool×Int:=if T.2.1=true then((T.1.Le (gO T.1.ix key)).wrote kind T.2.2 key,true,T.2.2)else(T.1,false,T.2.2)
end Go.aL
namespace Go.Av
open Go.Proofs Go.Proofs.Tryz Go.aL
def Z6(l:List Kn)(i:Nat):(nU l).take (i*4)++(nU l).drop ((i+1)*4)=nU (l.take i++l.drop (i+1)):=by
 have ht:∀(l:List Kn) (i:Nat),(nU l).take (i*4)=nU (l.take i):=λl=>by
  induction l with
  |nil=>intro i;simp[nU]
  |cons x l ih=>
   intro i;cases i with
   |zero=>simp[nU]
   |succ i=>
    have:=ih i;rw[iR,show(i+1)*4=i*4+1+1+1+1 by omega,jH,jH,jH,jH,this,jH,iR]
 have hd:∀(l:List Kn) (i:Nat),(nU l).drop (i*4)=nU (l.drop i):=λl=>by
  induction l with
  |nil=>intro i;simp[nU]
  |cons x l ih=>
   intro i;cases i with
   |zero=>simp
   |succ i=>
    have:=ih i;rw[iR,show(i+1)*4=i*4+1+1+1+1 by omega,gJ,gJ,gJ,gJ,this,gJ]
 rw[ht,hd,Gc]
def Vn(t3:Nat)(s:St)(T:St×Bool×Int)(kind:Int)(key:aF)(ye:key.length<=1000000)(hil:s.ix.length<=1000000)(PL:bN 148 [.obj 6 0,.p (.int ((s.ix.length:Int)-1)),.p (.fn (.func 189) [.ref (.str key)])] ⟨aH 0 7 s,cH 7,17⟩ (.agg true [.p (.bool T.2.1),.p (.int T.2.2)]) ⟨aH 0 17 T.1,cH 17,27⟩)(qz:T.1.ix=s.ix)(qo:mh T.1.rm)(hi:gO s.ix key<s.ix.length)(eM:qn s.ix key=true)(hK:KH s.ix[gO s.ix key])(hx:s.ix[gO s.ix key].exts.length<=900)(h3:gR t3 (T.1.Le (gO T.1.ix key)))(ht3:t3<=30000):bN 89 [.obj 6 0,.p (.int kind),.p (.str key)] ⟨aH 0 7 s,cH 7,17⟩ (.agg true [.p (.bool (St.w7 T kind key).2.1),.p (.int (St.w7 T kind key).2.2)]) ⟨aH 0 17 (St.w7 T kind key).1,cH 17,27⟩:=by
 have jC:=Iu t3 _ h3 ht3 kind T.2.2 key ye;have ha:=TX s hil key;generalize hZ:St.w7 T kind key=Z;unfold St.w7 at hZ;obtain⟨u,b,c⟩:=T;simp only at PL jC hZ qz qo h3;have arb:=qo.n;have UD:=Ga 5 22 23 24 27 u.rm.n (by constructor<;>omega) qo.n u.rm.F u.rm.R u.rm.W qo.F qo.R qo.W s.ix[gO s.ix key].exts hx;have he:=Cu s.ix[gO s.ix key] hK;have hw1:IntKind.i64.wrap ((s.ix.length:Int)-1)=(s.ix.length:Int)-1:=aG;clear h3;cases b with
 |false=>
  simp only[dZ,dc]at hZ;rw[<-hZ];refine aC [_,_] func89 rfl ?_;simp[aH,aj,ak,aR,aM,aJ,aP,hw1];refine pR [0,1,2,3,4,5,6,7,8,9,10,11,12,13,14,15,16] PL ?_;simp[-az,aH,aj,ak,aR,aM,aJ,aP,results89];exact⟨[],H⟩
 |true=>
  simp only[cr]at hZ;rw[<-hZ];have KO:bN 61 [.obj 6 0,.p (.str key)] ⟨[(6,aM 0 7 u),(15,aJ u.ix)],[],17⟩ (.agg true [.p (.int (gO s.ix key)),.p (.bool true)]) ⟨[(6,aM 0 7 u),(15,aJ u.ix)],[],17⟩:=by
   have:=TX u (by rw[qz];exact hil) key;rw[qz,eM]at this;rw[qz];exact this
  have FO:=Qr 1 0 O (nU s.ix) s.ix.length (gO s.ix key) (gO s.ix key+1) H O O O;have hgd:s.ix.getD (gO s.ix key) ux=s.ix[gO s.ix key]:=by simp[List.getD,hi]
  unfold St.Le at jC⊢;simp only at jC⊢;rw[qz,hgd]at jC⊢;rw[Z6]at FO;have nE:=tM hi;generalize gO s.ix key=i at*;generalize hKe:s.ix[i]=K at jC UD he nE⊢;have Yj:s.ix.length-(i+1-i)=(s.ix.take i++s.ix.drop (i+1)).length:=by simp;omega
  rw[Yj]at FO;generalize s.ix.take i++s.ix.drop (i+1)=L2 at*;generalize hV:St.wrote {u with rm:=u.rm.gG K.exts,ix:=L2} kind c key=V at jC⊢;have m1:(u.rm.gG K.exts).n=u.rm.n:=rfl;have m2:(u.rm.gG K.exts).F=u.rm.F:=rfl;have m3:(u.rm.gG K.exts).R=u.rm.R:=rfl;have m4:(u.rm.gG K.exts).W=if fH u.rm.n u.rm.F u.rm.W K.exts=true then(K.exts.map toE).foldl gu u.rm.W else u.rm.W:=rfl
  rw[<-m4]at UD;generalize u.rm.gG K.exts=gm at*;have w2:=ju i;have hle:i*4+4<=s.ix.length*4:=O;have Cj:List.take 4 (List.drop (i*4) (List.map AV.p (nU s.ix)))=[.p (.str K.key),.p (.int K.order),.p (.int K.place),.p (.sl (K.body.map dO))]:=by
   rw[<-jG,<-fG,nE];rfl
  refine aq [_,_] [] [(5,[(3,.r 1),(7,.r 1),(10,.r 2),(12,.w [1,2])])] [(1,6),(2,25)] func89 rfl ?_;simp[aH,aj,ak,aR,aM,aJ,aP,hw1];refine pR [0,1,2,3,4,5,6,7,8,9,10,11,12,13,14,15,16] PL ?_;simp[aH,aj,ak,aR,aM,aJ,aP];refine xQ [0,1,2,3,4,5,6,17,18,19,20,21,22,23,24,25,26] KO ?_;simp[aM,aJ,qz,hi,hle,Cj];refine aZ he ?_;simp;refine o7 UD rfl ?_;simp[w2];refine Dy [25] FO ?_;simp;refine aD [0,1,2,3,4,5,6,17,18,19,20,21,22,23,27,28,26] jC H H (by simp[aA,aH,aj,ak,aR,aM,aJ,aP,m1,m2,m3]) (by simp[aA]) ?_;simp[-az,aH,aj,ak,aR,aM,aJ,aP,results89];exact⟨[(17,29),(18,30),(19,31),(20,32),(21,33),(22,34),(23,35),(24,36),(25,37),(26,38)],H⟩
def ZI:Lw prog 247:=⟨Tryz.f247,149,4,159,func247,bp,bp,bp,bp,bp,bp⟩
def ZJ:eE prog 152:=⟨Tryz.f152,func152,bp,bp⟩
def PS{A V Z R:List AV}{n i k:Nat}(hA:A.length=n*4)(hi:i<=n)(hV:V.length=4)(hZ:4<=Z.length)(hk:k=(n-i)*4):List.take ((i+1)*4) (bH ((i+1)*4) (List.take (i*4) (bH (i*4) (List.take (i*4) A++Z))++(V++List.drop (i*4+4) (bH (i*4) (List.take (i*4) A++Z)))))++(List.take k (List.drop (i*4) A)++R)=List.take (i*4) A++(V++(List.drop (i*4) A++R)):=by
 have h1:(List.take (i*4) A).length=i*4:=by simp;omega
 have h2:List.take k (List.drop (i*4) A)=List.drop (i*4) A:=gv (by simp;omega);rw[h2];generalize List.take (i*4) A=P at*;rw[fj (k:=i*4) (by simp;omega),gN h1];have h3:List.drop (i*4+4) (P++Z)=List.drop 4 Z:=by rw[qU,h1,gM O];simp
 rw[h3,fj (by simp;omega),<-cW P V,gN (by simp;omega)];simp
def PT{A V:List AV}{n i k:Nat}(hA:A.length=n*4)(hi:i<n)(hV:V.length=4)(hk:k=(n-i)*4):List.take (i*4) (bH (i*4) (List.take ((i+1)*4) (bH ((i+1)*4) A)++(List.take k (List.drop (i*4) (bH ((i+1)*4) A))++List.drop ((i+1)*4+k) (bH ((i+1)*4) A))))++(V++List.drop (i*4+4) (bH (i*4) (List.take ((i+1)*4) (bH ((i+1)*4) A)++(List.take k (List.drop (i*4) (bH ((i+1)*4) A))++List.drop ((i+1)*4+k) (bH ((i+1)*4) A)))))=List.take (i*4) A++(V++List.drop (i*4) A):=by
 have e1:bH ((i+1)*4) A=A:=fj O;have e2:List.take k (List.drop (i*4) A)=List.drop (i*4) A:=gv (by simp;omega);have e3:List.drop ((i+1)*4+k) A=[]:=gM O;rw[e1,e2,e3,gL];have l1:(List.take ((i+1)*4) A).length=(i+1)*4:=by simp;omega
 rw[fj (by simp;omega)];congr 1
 .rw[vi O,qY,eS O]
 .congr 1;rw[qU,l1,gM O,show i*4+4-(i+1)*4=0 by omega];simp
def PO(nx id:Nat)(hid:id<nx)(cs:List PC)(n i:Nat)(e:Kn)(hn:cs.length=n*4)(hi:i<=n)(hb:n<=1000000000000):bN 152 [.view id 0 n 4 none,.p (.int i),.p (.sl [Pt e])] ⟨[(id,⟨159,4,cs.map .p⟩)],[],nx⟩ (.view nx 0 (n+1) 4 none) ⟨[(nx,⟨159,4,(cs.take (i*4)++[PC.str e.key,.int e.order,.int e.place,.sl (e.body.map dO)]++cs.drop (i*4)).map .p⟩)],[],nx+1⟩:=by
 have hne:¬id=nx:=O;refine iX (pre:=[]) (post:=[_,_]) ZJ (λc h1 h2 h3=>?_) ?_
 .have jC:∀k:Int,0<=k->k<=4000000000000->IntKind.i64.wrap k=k:=λk h1 h2=>aG;refine aq [_] [] [(11,[(8,.w [])]),(15,[(8,.w [])])] [] func152 rfl ?_;have w1:IntKind.i64.wrap ((n:Int)+1)=(n:Int)+1:=jC _ O O;have w2:IntKind.i64.wrap ((n:Int)+1-(i:Int))=(n:Int)+1-(i:Int):=jC _ O O;have w3:IntKind.i64.wrap ((i:Int)+1)=(i:Int)+1:=jC _ O O;have t1:((n:Int)+1).toNat=n+1:=O;have t2:((n:Int)+1-(i:Int)).toNat=n+1-i:=O;have t3:((i:Int)+1).toNat=i+1:=O;have fE:¬nx=id:=O;by_cases c1:i=n
  .subst c1;have hcs:List.drop (i*4) (cs.map AV.p)=[]:=gM (by simp;omega);simp[results152,h1,hne,fE,hcs];refine⟨O,?_⟩;rcases iD c (i+1)with h|h
   .exact .inr ⟨O,O,O,[],H⟩
   .exact .inl ⟨h,[(nx,id)],H⟩
  .have e1:((i:Int)==(n:Int))=false:=by rw[kC];omega
   have kW:(cs.map AV.p).length=n*4:=by simp;omega
   by_cases c2:c<n+1
   .have e2:(decide ((c:Int)<(n:Int)+1))=true:=by simp;omega
    generalize hA:cs.map AV.p=A at*;have m1:Nat.min 1 (n+1-i)=1:=eS O;have m2:(n-i).min (i+(n+1-i)-(i+1))=n-i:=eS O;have key:=λR=>PS (V:=[.p (.str e.key),.p (.int e.order),.p (.int e.place),.p (.sl (e.body.map dO))]) (R:=R) (Z:=List.map AV.p (jD (n+1-i) [PC.sc (.string {data:=#[]}),.sc (.int .i64 0),.sc (.int .i64 0),.nil])) kW hi rfl (by simp[oC];omega) rfl;simp at key;simp[e1,w1,e2,w2,w3,t1,t2,t3,results152,hi,h1,hne,fE,m1,m2,key]
    repeat' refine And.intro ?_ ?_
    all_goals first|omega|skip
    refine⟨[],?_⟩;simp[hA,oC];omega
   .have e2:(decide ((c:Int)<(n:Int)+1))=false:=by simp;omega
    generalize hA:cs.map AV.p=A at*;simp[e1,w1,e2,w2,w3,t1,t2,t3,results152,hi,h1,hne,fE];refine⟨O,O,O,O,sC ZI (.inr rfl) (ob:=⟨159,4,A⟩) H rfl O H (by simp[uz]) ?_⟩;have m1:Nat.min 1 (n+1-i)=1:=eS O;have m4:(n+1-i).min (n-i)=n-i:=BF O;have key:=PT (V:=[.p (.str e.key),.p (.int e.order),.p (.int e.place),.p (.sl (e.body.map dO))]) kW (by omega:i<n) rfl rfl;simp at key;simp[e1,w1,e2,w2,w3,t1,t2,t3,results152,hi,h1,hne,fE,m1,m4,key]
    repeat' refine And.intro ?_ ?_
    all_goals first|omega|(rw[jW];omega)|skip
    exact⟨[(nx,id)],by simp[hA]⟩
 .intro hn0;have Ho:i=0:=O;have hc0:cs=[]:=o5 O;subst Ho;subst hc0;subst hn0;refine aq [_] [25] [(11,[(8,.w [])]),(15,[(8,.w [])])] [] func152 rfl ?_;simp[results152];exact⟨[],H⟩
end Go.Av
namespace Go.aL
def IB(m x:Kn):Kn:=if x.order<m.order then x else m
def fy(l:List Kn)(i:Nat):Kn:=(l.take i).tail.foldl IB (l.getD 0 Go.aL.ux)
def Vv(l:List Kn):fy l 1=l.getD 0 ux:=by
 cases l<;>simp[fy]
def Qt(l:List Kn)(i:Nat)(h0:0<i)(h:i<l.length):fy l (i+1)=IB (fy l i) l[i]:=by
 unfold fy;have h1:l.take (i+1)=l.take i++[l[i]]:=by rw[List.take_add_one];simp[h]
 rw[h1,List.tail_append_of_ne_nil (by intro e;rw[List.take_eq_nil_iff]at e;rcases e with e|e;omega;subst e;simp at h),List.foldl_append];rfl
end Go.aL
namespace Go.Av
open Go.Proofs Go.Proofs.Tryz Go.aL
def afB(a b:Kn):cq 353 [Pt a,Pt b] (.int (vD a.order b.order)):=by
 refine ay [_] func353 rfl ?_;simp;refine cm (EG a.order b.order) ?_;simp[results353]
def afC(l:List Kn)(hl:l.length<=1000000)(h0:0<l.length):bN 352 [.view 0 0 l.length 4 none,.p (.fn (.func 353) [])] ⟨[(0,aJ l)],[],1⟩ (.p (Pt (fy l l.length))) ⟨[(0,aJ l)],[],1⟩:=by
 refine aq [_] [] [(7,[(4,.r 2),(5,.r 1)])] [(1,2),(2,0)] func352 rfl ?_;have e0:¬((l.length:Int)<1):=O;have nE:∀i (h:i<l.length),List.take 4 (List.drop (i*4) (List.map AV.p (nU l)))=[.p (.str l[i].key),.p (.int l[i].order),.p (.int l[i].place),.p (.sl (l[i].body.map dO))]:=λi h=>by
  rw[<-jG,<-fG,tM h];rfl
 have hg0:=nE 0 h0;simp only[sQ,jx]at hg0;have h4:4<=l.length*4:=O;simp[e0,h0,aJ,hg0,h4];have m1:fy l 1=l[0]:=by rw[Vv];simp[List.getD,h0]
 generalize hZ:fy l l.length=Z;refine aS (λk:Nat=>0<k/\k<=l.length) (λk=>[(0,.view 0 0 l.length 4 none),(1,.p (.fn (.func 353) [])),(4,.obj 1 0),(5,.obj 2 0),(6,.p (.int k))]) (λk=>⟨[(2,Uy (fy l k)),(1,⟨159,4,[.p (.str []),.p (.int 0),.p (.int 0),.p .nil]⟩),(0,aJ l)],[],3⟩) (λk=>l.length-k) 1 ⟨O,O⟩ _ (AS.le_refl _ _) (aB (by simp[m1,aJ])) ?_;rintro k ⟨h1,h2⟩;by_cases c1:k<l.length
 .have hs:=Qt l k h1 c1;have w1:=ju k;have hle:k*4+4<=l.length*4:=O;simp[c1,w1,aJ,hle,nE k c1];generalize hm:fy l k=m at hs⊢;refine aZ (afB l[k] m) ?_;by_cases c2:l[k].order<m.order
  .have e2:vD l[k].order m.order<0:=by unfold vD;rw[ai c2];decide
   have hs':fy l (k+1)=l[k]:=by rw[hs];unfold IB;rw[ai c2]
   simp[e2,c1,w1,hle,nE k c1];exact⟨k+1,⟨O,O⟩,O,aB (by simp[hs',aJ])⟩
  .have e2:¬vD l[k].order m.order<0:=by unfold vD;rw[ah c2];split<;>decide
   have hs':fy l (k+1)=m:=by rw[hs];unfold IB;rw[ah c2]
   simp[e2,c1,w1];exact⟨k+1,⟨O,O⟩,O,aB (by simp[hs',aJ])⟩
 .obtain rfl:k=l.length:=O;simp[-az,results352,hZ,aJ];exact⟨[],H⟩
def zi(s:St)(hl:s.ix.length<=1000000)(h0:0<s.ix.length):bN 305 [.obj 6 0] ⟨[(6,aM 0 7 s),(15,aJ s.ix)],[],17⟩ (.p (.str (fy s.ix s.ix.length).key)) ⟨[(6,aM 0 7 s),(15,aJ s.ix)],[],17⟩:=by
 have hb:=afC s.ix hl h0;refine aC [_] func305 rfl ?_;simp[aM];refine xQ [15] hb ?_;simp[-az,results305];exact⟨[],by simp[aJ]⟩
end Go.Av
namespace Go.aL
open Go.Av
def Nf{α:Type}(l:List α)(i:Nat):(l.take i++l.drop (i+1)).Sublist l:=by
 conv=>rhs;rw[<-eO i l]
 refine List.Sublist.append (qT _) ?_;rw[<-oy];exact List.drop_sublist _ _
def gR.out{t:Nat}{u:St}(h:gR t u)(i:Nat):gR t (u.Le i):=by
 have hg:=h.rm.gG (u.ix.getD i ux).exts;have hs:=Nf u.ix i;refine⟨h.D,h.J,h.jn,h.pn,h.sz,h.sl,hg.1,h.MS,?_,h.dR,cT hs.length_le h.RQ,λk hk=>h.ix k (hs.subset hk),h.RJ.sublist hs,h.root,h.ord⟩;show((u.rm.gG (u.ix.getD i ux).exts).n:Int)=_;rw[hg.2];exact h.OX
def St.remove(s:St)(kind:Int)(key:aF):St×Bool×Int:=St.w7 (pM (bM.jk ⟨s,[],[]⟩ s.root key) (s.ix.length-1)) kind key
end Go.aL
namespace Go.Av
open Go.Proofs Go.Proofs.Tryz Go.aL
def Jj(t t2 t3:Nat)(s:St)(h:gR t s)(ht:t<=20000)(kind:Int)(key:aF)(ye:key.length<=1000000)(h2:lN t2 (bM.jk ⟨s,[],[]⟩ s.root key).s)(ht2:t2<=30000)(h3:gR t3 (pM (bM.jk ⟨s,[],[]⟩ s.root key) (s.ix.length-1)).1)(ht3:t3<=30000)(qz:(pM (bM.jk ⟨s,[],[]⟩ s.root key) (s.ix.length-1)).1.ix=s.ix)(eM:qn s.ix key=true):bN 89 [.obj 6 0,.p (.int kind),.p (.str key)] ⟨aH 0 7 s,cH 7,17⟩ (.agg true [.p (.bool (s.remove kind key).2.1),.p (.int (s.remove kind key).2.2)]) ⟨aH 0 17 (s.remove kind key).1,cH 17,27⟩:=by
 have hi:=yZ eM;have hK:=h.ix _ (bB hi);have uk:=hK.bl;have htu:=aao t ⟨s,[],[]⟩ ⟨h,H,H,H,H⟩ ht s.root h.root key;have PL:=afP t t2 s h (s.ix.length-1) key _ htu h2 ht2;exact Vn t3 s _ kind key ye h.RQ PL qz h3.rm hi eM hK (by simp[Kn.exts];omega) (h3.out _) ht3
end Go.Av
namespace Go.aL
open Go.Av
def St.back(s:St)(es:eL):St:=if es=[]then s else{s with rm:=if s.sure=true then(s.rm.gG es).commit else s.rm.gG es}
end Go.aL
namespace Go.Av
open Go.Proofs Go.Proofs.Tryz Go.aL
def wZ(s:St)(h:mh s.rm)(es:eL)(hl:es.length<=900):bN 113 [.obj 6 0,.p (.sl (es.map dO))] ⟨aH 0 7 s,cH 7,17⟩ (.agg true []) ⟨aH 0 17 (s.back es),cH 17,27⟩:=by
 have UD:=Ga 5 12 13 14 17 s.rm.n (by constructor<;>omega) h.n s.rm.F s.rm.R s.rm.W h.F h.R h.W es hl;have m4:(s.rm.gG es).W=if fH s.rm.n s.rm.F s.rm.W es=true then(es.map toE).foldl gu s.rm.W else s.rm.W:=rfl
 rw[<-m4]at UD;have hok:=(h.gG es).1;generalize hZ:s.back es=Z;unfold St.back at hZ;have m1:(s.rm.gG es).n=s.rm.n:=rfl;have m2:(s.rm.gG es).F=s.rm.F:=rfl;have m3:(s.rm.gG es).R=s.rm.R:=rfl;generalize s.rm.gG es=gm at*;have UL:=lX 5 12 13 17 18 gm.n (by constructor<;>omega) hok.n gm.F gm.R gm.W hok.F hok.W hok.fw;rw[m1,m2,m3]at UL;refine aC [] func113 rfl ?_;cases es with
 |nil=>
  rw[ai rfl]at hZ;rw[<-hZ];simp[-az,results113];exact⟨[(17,7),(18,8),(19,9),(20,10),(21,11),(22,12),(23,13),(24,14),(25,15),(26,16)],by simp[aH,aj,ak,aR,aM,aJ,aP]⟩
 |cons x es=>
  rw[ah H]at hZ;have e0:((((es.length+1:Nat):Int))==0)=false:=by rw[kC];omega
  have e1:(((es.length:Int)+1)==0)=false:=by rw[kC];omega
  rw[<-hZ];simp[e0,e1,aH,aj,ak,aR,aM,aJ,aP];refine o7 UD rfl ?_;cases cs:s.sure with
  |true=>
   simp[cs];refine o7 UL rfl ?_;simp[-az,cs,Mp.commit,m1,m2,m3,results113];exact⟨[(17,7),(18,8),(19,9),(20,10),(21,11),(22,18),(23,19),(24,20),(25,15),(26,16)],by simp[aH,aj,ak,aR,aM,aJ,aP,Mp.commit,m1,m2,m3]⟩
  |false=>
   simp[-az,cs,m1,m2,m3,results113];exact⟨[(17,7),(18,8),(19,9),(20,10),(21,11),(22,12),(23,13),(24,17),(25,15),(26,16)],by simp[aH,aj,ak,aR,aM,aJ,aP,m1,m2,m3]⟩
end Go.Av
namespace Go.aL
open Go.Av
def St.uA(p:St->Bool):Nat->St->St×Int
 |0,s=>(s,0)
 |n+1,s=>
  if p s=true then(s,0)
  else if s.sure=false then(if s.sync.2=0 then s.sync.1.uA p n else s.sync)
  else if s.ix.length=0 then(s,30)
  else
   let R:=s.remove 4 (fy s.ix s.ix.length).key
   if R.2.2=0 then R.1.uA p n else(R.1,R.2.2)
def dV(s:St):Bool:=decide (4*depth s.ix.length+4<=xV s.sl.F)
end Go.aL
namespace Go.Av
open Go.Proofs Go.Proofs.Tryz Go.aL
def VP(s:St)(hF:xP s.sl.F)(hl:s.ix.length<=1000000):bN 228 [.obj 17 0] ⟨(17,⟨32,1,[.obj 6 0]⟩)::aH 0 7 s,cH 7,18⟩ (.p (.bool (dV s))) ⟨(17,⟨32,1,[.obj 6 0]⟩)::aH 0 7 s,cH 7,18⟩:=by
 by_cases hp:4*depth s.ix.length+4<=xV s.sl.F
 .have hP:dV s=true:=by unfold dV;exact nw hp
  rw[hP];exact YH s hF hl hp
 .have hP:dV s=false:=by unfold dV;exact kF hp
  rw[hP];have hf:=Ff 4 9 10 11 18 s.sl.n (by constructor<;>omega) s.sl.F s.sl.R s.sl.W hF;have hd:=MJ s hl;have FO:=HV s.ix.length;generalize hde:depth s.ix.length=d at hd FO hp;have w1:IntKind.i64.wrap (4*(d:Int))=4*d:=aG;have w2:IntKind.i64.wrap (4*(d:Int)+4)=4*d+4:=aG;have c2:¬(4*(d:Int)+4<=(xV s.sl.F:Int)):=O;refine aq [_] [] [(1,[(0,.r 1),(3,.r 2),(4,.w [1,2]),(5,.r 1),(6,.w [1,2])])] [(1,17),(2,6)] func228 rfl ?_;simp[aH,aj,ak,aR,aM,aJ,aP];refine o7 hf rfl ?_;simp;refine xQ [0,1,2,3,4,5,6,7,8,9,10,11,12,13,14,15,16] hd ?_;simp[-az,w1,w2,c2,aM,aJ,results228];exact⟨[],H⟩
abbrev Ki:Ob:=⟨32,1,[.obj 6 0]⟩
def VO(I:Nat->St->Prop)(h0:∀s,I 0 s->dV s=true)(hp:∀n s,I n s->xP s.sl.F/\s.ix.length<=1000000)(hsy:∀n s,I n s->dV s=false->s.sure=false->bN 31 [.obj 6 0] ⟨aH 0 7 s,cH 7,17⟩ (.p (.int s.sync.2)) ⟨aH 0 17 s.sync.1,cH 17,27⟩)(hsI:∀n s,I (n+1) s->dV s=false->s.sure=false->s.sync.2=0->I n s.sync.1)(qo:∀n s,I n s->dV s=false->s.sure=true->s.ix.length≠0->bN 89 [.obj 6 0,.p (.int 4),.p (.str (fy s.ix s.ix.length).key)] ⟨aH 0 7 s,cH 7,17⟩ (.agg true [.p (.bool (s.remove 4 (fy s.ix s.ix.length).key).2.1),.p (.int (s.remove 4 (fy s.ix s.ix.length).key).2.2)]) ⟨aH 0 17 (s.remove 4 (fy s.ix s.ix.length).key).1,cH 17,27⟩)(hrI:∀n s,I (n+1) s->dV s=false->s.sure=true->s.ix.length≠0->(s.remove 4 (fy s.ix s.ix.length).key).2.2=0->I n (s.remove 4 (fy s.ix s.ix.length).key).1)(n:Nat)(s:St)(hI:I n s):bN 225 [.obj 6 0,.mB (.func 228) [.obj 17 0]] ⟨(17,Ki)::aH 0 7 s,cH 7,18⟩ (.p (.int (s.uA dV n).2)) ⟨(17,Ki)::aH 0 18 (s.uA dV n).1,cH 18,28⟩:=by
 refine aC [_] func225 rfl ?_;generalize hZ:s.uA dV n=Z;simp;refine aS (λq:Nat×St=>I q.1 q.2/\q.2.uA dV q.1=Z) (λ_=>[(0,.obj 6 0),(1,.mB (.func 228) [.obj 17 0])]) (λq=>⟨(17,Ki)::aH 0 18 q.2,cH 18,28⟩) (λq=>q.1) (n,s) ⟨hI,hZ⟩ _ (AS.le_refl _ _) (aE [(18,7),(19,8),(20,9),(21,10),(22,11),(23,12),(24,13),(25,14),(26,15),(27,16)] (by simp[aH,aj,ak,aR,aM,aJ,aP])) ?_;rintro⟨m,u⟩ ⟨zh,hu⟩;simp only at zh hu;have hfr:=VP u (hp m u zh).1 (hp m u zh).2;have oD:∀b,dV u=b->bN 228 [.obj 17 0] ⟨(17,Ki)::aH 0 7 u,cH 7,18⟩ (.p (.bool b)) ⟨(17,Ki)::aH 0 7 u,cH 7,18⟩:=λb h=>h▸hfr;cases hP:dV u with
 |true=>
  have hc:=oD _ hP;have Hs:(u,0)=Z:=by
   rw[<-hu];cases m with
   |zero=>rfl
   |succ m=>unfold St.uA;rw[ai hP]
  subst Hs;simp;refine bK [0,1,2,3,4,5,6,18,19,20,21,22,23,24,25,26,27,17] hc H H (by simp[aA,aH,aj,ak,aR,aM,aJ,aP]) (by simp[aA]) ?_;simp[-az,aH,aj,ak,aR,aM,aJ,aP,results225];exact⟨[],H⟩
 |false=>
  have hc:=oD _ hP;cases m with
  |zero=>rw[h0 u zh]at hP;cases hP
  |succ m=>
   unfold St.uA at hu;rw[ah (by simp[hP])]at hu;cases hs:u.sure with
   |false=>
    have N2:=hsy _ u zh hP hs;have qp:=hsI m u zh hP hs;rw[ai hs]at hu;generalize hV:u.sync=V at N2 qp hu;obtain⟨v,e⟩:=V;simp only at N2 qp hu;by_cases c:e=0
    .subst c;rw[ai rfl]at hu;simp;refine bK [0,1,2,3,4,5,6,18,19,20,21,22,23,24,25,26,27,17] hc H H (by simp[aA,aH,aj,ak,aR,aM,aJ,aP]) (by simp[aA]) ?_;simp[aH,aj,ak,aR,aM,aJ,aP,hs];refine aD [0,1,2,3,4,5,6,18,19,20,21,22,23,24,25,26,27] N2 H H (by simp[aA,aH,aj,ak,aR,aM,aJ,aP,hs]) (by simp[aA]) ?_;simp;exact⟨m,v,⟨qp rfl,hu⟩,O,aE [(18,28),(19,29),(20,30),(21,31),(22,32),(23,33),(24,34),(25,35),(26,36),(27,37)] (by simp[aH,aj,ak,aR,aM,aJ,aP])⟩
    .rw[ah c]at hu;have c':(e !=0)=true:=U c;subst hu;simp;refine bK [0,1,2,3,4,5,6,18,19,20,21,22,23,24,25,26,27,17] hc H H (by simp[aA,aH,aj,ak,aR,aM,aJ,aP]) (by simp[aA]) ?_;simp[aH,aj,ak,aR,aM,aJ,aP,hs];refine aD [0,1,2,3,4,5,6,18,19,20,21,22,23,24,25,26,27] N2 H H (by simp[aA,aH,aj,ak,aR,aM,aJ,aP,hs]) (by simp[aA]) ?_;simp[-az,aH,aj,ak,aR,aM,aJ,aP,c',results225];exact⟨[(18,28),(19,29),(20,30),(21,31),(22,32),(23,33),(24,34),(25,35),(26,36),(27,37)],H⟩
   |true=>
    rw[ah (by simp[hs])]at hu;by_cases cl:u.ix.length=0
    .rw[ai cl]at hu;subst hu;simp;refine bK [0,1,2,3,4,5,6,18,19,20,21,22,23,24,25,26,27,17] hc H H (by simp[aA,aH,aj,ak,aR,aM,aJ,aP]) (by simp[aA]) ?_;simp[-az,aH,aj,ak,aR,aM,aJ,aP,hs,cl,results225];exact⟨[],by simp[cl]⟩
    .rw[ah cl]at hu;have ho:=zi u (hp _ u zh).2 O;have N3:=qo _ u zh hP hs cl;have qp:=hrI m u zh hP hs cl;simp only at hu;generalize(fy u.ix u.ix.length).key=key at*;generalize hV:u.remove 4 key=V at N3 qp hu;obtain⟨v,b,e⟩:=V;simp only at N3 qp hu;have cl':((u.ix.length:Int)==0)=false:=by rw[kC];omega
     by_cases c:e=0
     .subst c;rw[ai rfl]at hu;simp;refine bK [0,1,2,3,4,5,6,18,19,20,21,22,23,24,25,26,27,17] hc H H (by simp[aA,aH,aj,ak,aR,aM,aJ,aP]) (by simp[aA]) ?_;simp[aH,aj,ak,aR,aM,aJ,aP,hs,cl'];refine aD [0,1,2,3,4,5,6,18,19,20,21,22,23,24,25,26,27] ho H H (by simp[aA,aH,aj,ak,aR,aM,aJ,aP,hs]) (by simp[aA]) ?_;simp;refine aD [0,1,2,3,4,5,6,18,19,20,21,22,23,24,25,26,27] N3 H H (by simp[aA,aH,aj,ak,aR,aM,aJ,aP,hs]) (by simp[aA]) ?_;simp;exact⟨m,v,⟨qp rfl,hu⟩,O,aE [(18,28),(19,29),(20,30),(21,31),(22,32),(23,33),(24,34),(25,35),(26,36),(27,37)] (by simp[aH,aj,ak,aR,aM,aJ,aP])⟩
     .rw[ah c]at hu;have c':(e !=0)=true:=U c;subst hu;simp;refine bK [0,1,2,3,4,5,6,18,19,20,21,22,23,24,25,26,27,17] hc H H (by simp[aA,aH,aj,ak,aR,aM,aJ,aP]) (by simp[aA]) ?_;simp[aH,aj,ak,aR,aM,aJ,aP,hs,cl'];refine aD [0,1,2,3,4,5,6,18,19,20,21,22,23,24,25,26,27] ho H H (by simp[aA,aH,aj,ak,aR,aM,aJ,aP,hs]) (by simp[aA]) ?_;simp;refine aD [0,1,2,3,4,5,6,18,19,20,21,22,23,24,25,26,27] N3 H H (by simp[aA,aH,aj,ak,aR,aM,aJ,aP,hs]) (by simp[aA]) ?_;simp[-az,aH,aj,ak,aR,aM,aJ,aP,c',results225];exact⟨[(18,28),(19,29),(20,30),(21,31),(22,32),(23,33),(24,34),(25,35),(26,36),(27,37)],H⟩
def aeX(g:FuncId)(caps:List PC)(p:Nat×Nat->Bool)(l:List (Nat×Nat))(hl:l.length<=1000000000000)(hg:∀x∈l,cq g (lz x::caps) (.bool (p x))):cq 311 [.sl (l.map lz),.fn (.func g) caps] (.int (dz p l)):=by
 refine ay [_] func311 rfl ?_;obtain⟨R,hR⟩:=mH (dz p l);rw[<-hR];simp;refine bI (λi:Nat=>i<=l.length/\∀x∈l.take i,p x=false) (λi=>[(0,.p (.sl (l.map lz))),(1,.p (.fn (.func g) caps)),(7,.p (.int l.length)),(8,.p (.int i))]) (λi=>l.length-i) 0 ⟨H,H⟩ (aB H) ?_;rintro i ⟨g1,g2⟩;have hf:=oB p l i g2 g1;rw[<-hR]at hf;by_cases ci:i<l.length
 .have wi:=ju i;rw[eK ci]at hf;simp only[dz]at hf;simp[ci];refine cm (hg l[i] (bB ci)) ?_;cases hp:p l[i]with
  |true=>
   simp[hp]at hf;simp[hf,results311]
  |false=>
   simp[wi];refine⟨i+1,⟨O,λa b hx=>?_⟩,O,aB H⟩;rw[kG ci,lD]at hx;rcases hx with hx|hx
   .exact g2 _ hx
   .simp at hx;rw[hx];exact hp
 .rw[vf O]at hf;simp[dz]at hf;simp[ci,hf,results311]
def aeY(g:FuncId)(caps:List PC)(p:Nat×Nat->Bool)(l:List (Nat×Nat))(hl:l.length<=1000000000000)(hg:∀x∈l,cq g (lz x::caps) (.bool (p x))):cq 231 [.sl (l.map lz),.fn (.func g) caps] (.bool (l.any p)):=by
 refine ay [_] func231 rfl ?_;simp;refine cm (aeX g caps p l hl hg) ?_;rw[<-rq];simp[results231]
def ZC(x:Nat×Nat)(L:List (aF))(hx:x.2<=1000000000)(hL:L.length<=1000000000):cq 233 [lz x,.ref (.sl (L.map cK))] (.bool (decide (L.length<=x.2))):=by
 refine ay [_] func233 rfl ?_;simp[results233]
end Go.Av
namespace Go.aL
open Go.Av
def kL(L:List dY)(s:St):Bool:=s.rm.F.any λx=>decide (L.length<=x.2)
end Go.aL
namespace Go.Av
open Go.Proofs Go.Proofs.Tryz Go.aL
abbrev Z_(L:List dY):Ob:=⟨93,1,[.p (.sl (L.map cK))]⟩
def Vt(s:St)(h:mh s.rm)(L:List dY)(hL:L.length<=1000000):bN 230 [.obj 17 0,.obj 18 0] ⟨(17,Ki)::(18,Z_ L)::aH 0 7 s,cH 7,19⟩ (.p (.bool (kL L s))) ⟨(17,Ki)::(18,Z_ L)::aH 0 7 s,cH 7,19⟩:=by
 have hN:=h.F.RP h.n;have hlen:=h.F.len;have hnn:=h.n;have hr:=aem 5 12 13 14 19 s.rm.n (by constructor<;>omega) s.rm.F s.rm.R s.rm.W O;have ha:=aeY 233 [.ref (.sl (L.map cK))] (λx=>decide (L.length<=x.2)) s.rm.F O (λx hx=>ZC x L (by have:=h.F.top x hx;omega) O);rw[show(s.rm.F.any λx=>decide (L.length<=x.2))=kL L s from rfl]at ha;generalize kL L s=B at*;refine aC [_] func230 rfl ?_;simp[aH,aj,ak,aR,aM,aJ,aP];refine o7 hr rfl ?_;simp;refine bZ ha ?_ rfl ?_
 .exact⟨lI (by simp[lk]) rfl,⟨rfl,⟨_,_,rfl,rfl,rfl,⟨_,rfl,.inl rfl⟩⟩,trivial⟩,trivial⟩
 simp[-az,results230];exact⟨[],H⟩
def Vu(L:List dY)(hL:L.length<=1000000)(I:Nat->St->Prop)(h0:∀s,I 0 s->(kL L) s=true)(hp:∀n s,I n s->mh s.rm/\s.ix.length<=1000000)(hsy:∀n s,I n s->(kL L) s=false->s.sure=false->bN 31 [.obj 6 0] ⟨aH 0 7 s,cH 7,17⟩ (.p (.int s.sync.2)) ⟨aH 0 17 s.sync.1,cH 17,27⟩)(hsI:∀n s,I (n+1) s->(kL L) s=false->s.sure=false->s.sync.2=0->I n s.sync.1)(qo:∀n s,I n s->(kL L) s=false->s.sure=true->s.ix.length≠0->bN 89 [.obj 6 0,.p (.int 4),.p (.str (fy s.ix s.ix.length).key)] ⟨aH 0 7 s,cH 7,17⟩ (.agg true [.p (.bool (s.remove 4 (fy s.ix s.ix.length).key).2.1),.p (.int (s.remove 4 (fy s.ix s.ix.length).key).2.2)]) ⟨aH 0 17 (s.remove 4 (fy s.ix s.ix.length).key).1,cH 17,27⟩)(hrI:∀n s,I (n+1) s->(kL L) s=false->s.sure=true->s.ix.length≠0->(s.remove 4 (fy s.ix s.ix.length).key).2.2=0->I n (s.remove 4 (fy s.ix s.ix.length).key).1)(n:Nat)(s:St)(hI:I n s):bN 225 [.obj 6 0,.mB (.func 230) [.obj 17 0,.obj 18 0]] ⟨(17,Ki)::(18,Z_ L)::aH 0 7 s,cH 7,19⟩ (.p (.int (s.uA (kL L) n).2)) ⟨(17,Ki)::(18,Z_ L)::aH 0 19 (s.uA (kL L) n).1,cH 19,29⟩:=by
 refine aC [_] func225 rfl ?_;generalize hZ:s.uA (kL L) n=Z;simp;refine aS (λq:Nat×St=>I q.1 q.2/\q.2.uA (kL L) q.1=Z) (λ_=>[(0,.obj 6 0),(1,.mB (.func 230) [.obj 17 0,.obj 18 0])]) (λq=>⟨(17,Ki)::(18,Z_ L)::aH 0 19 q.2,cH 19,29⟩) (λq=>q.1) (n,s) ⟨hI,hZ⟩ _ (AS.le_refl _ _) (aE [(19,7),(20,8),(21,9),(22,10),(23,11),(24,12),(25,13),(26,14),(27,15),(28,16)] (by simp[aH,aj,ak,aR,aM,aJ,aP])) ?_;rintro⟨m,u⟩ ⟨zh,hu⟩;simp only at zh hu;have hfr:=Vt u (hp m u zh).1 L hL;have oD:∀b,(kL L) u=b->bN 230 [.obj 17 0,.obj 18 0] ⟨(17,Ki)::(18,Z_ L)::aH 0 7 u,cH 7,19⟩ (.p (.bool b)) ⟨(17,Ki)::(18,Z_ L)::aH 0 7 u,cH 7,19⟩:=λb h=>h▸hfr;cases hP:(kL L) u with
 |true=>
  have hc:=oD _ hP;have Hs:(u,0)=Z:=by
   rw[<-hu];cases m with
   |zero=>rfl
   |succ m=>unfold St.uA;rw[ai hP]
  subst Hs;simp;refine bK [0,1,2,3,4,5,6,19,20,21,22,23,24,25,26,27,28,17,18] hc H H (by simp[aA,aH,aj,ak,aR,aM,aJ,aP]) (by simp[aA]) ?_;simp[-az,aH,aj,ak,aR,aM,aJ,aP,results225];exact⟨[],H⟩
 |false=>
  have hc:=oD _ hP;cases m with
  |zero=>rw[h0 u zh]at hP;cases hP
  |succ m=>
   unfold St.uA at hu;rw[ah (by simp[hP])]at hu;cases hs:u.sure with
   |false=>
    have N2:=hsy _ u zh hP hs;have qp:=hsI m u zh hP hs;rw[ai hs]at hu;generalize hV:u.sync=V at N2 qp hu;obtain⟨v,e⟩:=V;simp only at N2 qp hu;by_cases c:e=0
    .subst c;rw[ai rfl]at hu;simp;refine bK [0,1,2,3,4,5,6,19,20,21,22,23,24,25,26,27,28,17,18] hc H H (by simp[aA,aH,aj,ak,aR,aM,aJ,aP]) (by simp[aA]) ?_;simp[aH,aj,ak,aR,aM,aJ,aP,hs];refine aD [0,1,2,3,4,5,6,19,20,21,22,23,24,25,26,27,28] N2 H H (by simp[aA,aH,aj,ak,aR,aM,aJ,aP,hs]) (by simp[aA]) ?_;simp;exact⟨m,v,⟨qp rfl,hu⟩,O,aE [(19,29),(20,30),(21,31),(22,32),(23,33),(24,34),(25,35),(26,36),(27,37),(28,38)] (by simp[aH,aj,ak,aR,aM,aJ,aP])⟩
    .rw[ah c]at hu;have c':(e !=0)=true:=U c;subst hu;simp;refine bK [0,1,2,3,4,5,6,19,20,21,22,23,24,25,26,27,28,17,18] hc H H (by simp[aA,aH,aj,ak,aR,aM,aJ,aP]) (by simp[aA]) ?_;simp[aH,aj,ak,aR,aM,aJ,aP,hs];refine aD [0,1,2,3,4,5,6,19,20,21,22,23,24,25,26,27,28] N2 H H (by simp[aA,aH,aj,ak,aR,aM,aJ,aP,hs]) (by simp[aA]) ?_;simp[-az,aH,aj,ak,aR,aM,aJ,aP,c',results225];exact⟨[(19,29),(20,30),(21,31),(22,32),(23,33),(24,34),(25,35),(26,36),(27,37),(28,38)],H⟩
   |true=>
    rw[ah (by simp[hs])]at hu;by_cases cl:u.ix.length=0
    .rw[ai cl]at hu;subst hu;simp;refine bK [0,1,2,3,4,5,6,19,20,21,22,23,24,25,26,27,28,17,18] hc H H (by simp[aA,aH,aj,ak,aR,aM,aJ,aP]) (by simp[aA]) ?_;simp[-az,aH,aj,ak,aR,aM,aJ,aP,hs,cl,results225];exact⟨[],by simp[cl]⟩
    .rw[ah cl]at hu;have ho:=zi u (hp _ u zh).2 O;have N3:=qo _ u zh hP hs cl;have qp:=hrI m u zh hP hs cl;simp only at hu;generalize(fy u.ix u.ix.length).key=key at*;generalize hV:u.remove 4 key=V at N3 qp hu;obtain⟨v,b,e⟩:=V;simp only at N3 qp hu;have cl':((u.ix.length:Int)==0)=false:=by rw[kC];omega
     by_cases c:e=0
     .subst c;rw[ai rfl]at hu;simp;refine bK [0,1,2,3,4,5,6,19,20,21,22,23,24,25,26,27,28,17,18] hc H H (by simp[aA,aH,aj,ak,aR,aM,aJ,aP]) (by simp[aA]) ?_;simp[aH,aj,ak,aR,aM,aJ,aP,hs,cl'];refine aD [0,1,2,3,4,5,6,19,20,21,22,23,24,25,26,27,28] ho H H (by simp[aA,aH,aj,ak,aR,aM,aJ,aP,hs]) (by simp[aA]) ?_;simp;refine aD [0,1,2,3,4,5,6,19,20,21,22,23,24,25,26,27,28] N3 H H (by simp[aA,aH,aj,ak,aR,aM,aJ,aP,hs]) (by simp[aA]) ?_;simp;exact⟨m,v,⟨qp rfl,hu⟩,O,aE [(19,29),(20,30),(21,31),(22,32),(23,33),(24,34),(25,35),(26,36),(27,37),(28,38)] (by simp[aH,aj,ak,aR,aM,aJ,aP])⟩
     .rw[ah c]at hu;have c':(e !=0)=true:=U c;subst hu;simp;refine bK [0,1,2,3,4,5,6,19,20,21,22,23,24,25,26,27,28,17,18] hc H H (by simp[aA,aH,aj,ak,aR,aM,aJ,aP]) (by simp[aA]) ?_;simp[aH,aj,ak,aR,aM,aJ,aP,hs,cl'];refine aD [0,1,2,3,4,5,6,19,20,21,22,23,24,25,26,27,28] ho H H (by simp[aA,aH,aj,ak,aR,aM,aJ,aP,hs]) (by simp[aA]) ?_;simp;refine aD [0,1,2,3,4,5,6,19,20,21,22,23,24,25,26,27,28] N3 H H (by simp[aA,aH,aj,ak,aR,aM,aJ,aP,hs]) (by simp[aA]) ?_;simp[-az,aH,aj,ak,aR,aM,aJ,aP,c',results225];exact⟨[(19,29),(20,30),(21,31),(22,32),(23,33),(24,34),(25,35),(26,36),(27,37),(28,38)],H⟩
end Go.Av
namespace Go.aL
open Go.Av
def Si(R:Go.cD.jX Cs)(count:Int):(pM R count).1.ix=R.s.s.ix:=by
 unfold pM;split
 .split<;>rfl
 .rfl
def Oj{J:Jr}{D:bt}{aI:List wB}{a:Int}(h:(J.uo D aI a).2.2.1=false):(J.uo D aI a).2.2.2≠0:=by
 unfold Jr.uo at h⊢;split at h
 .simp at h
 .rename_i c;rw[ah c];exact c
def Mf{J:Jr}{D:bt}{aI:List wB}(h:(J.commit D aI).2.2.1=false):(J.commit D aI).2.2.2≠0:=by
 unfold Jr.commit at h⊢;by_cases c1:om D.kept.length J aI=0
 .rw[ai c1]at h⊢;by_cases c2:(jh J (aI.length+2)).2=true
  .rw[ai c2]at h⊢;exact Oj h
  .rw[ah c2]at h⊢;by_cases c3:(J.settle D).2.2=0
   .rw[ai c3]at h⊢;exact Oj h
   .rw[ah c3];exact c3
 .rw[ah c1];exact c1
theorem ag6{R:Go.cD.jX Cs}{count:Int}(h:(pM R count).2.1=false):(pM R count).2.2≠0:=by
 unfold pM at h⊢;by_cases c:R.e=0
 .rw[ai c]at h⊢;by_cases d:(R.s.s.commit R.root count).2.1=true
  .rw[ai d]at h;simp at h
  .rw[ah d];exact Mf (by simpa[St.commit]using d)
 .rw[ah c];exact c
def St.still(s u:St):Prop:=u.ix=s.ix/\u.rm=s.rm/\u.dR=s.dR/\u.ord=s.ord/\u.sure=s.sure/\u.jn=s.jn/\u.pn=s.pn/\u.root=s.root
def Bc(c:Cs)(p:Int):c.s.still (c.ld p).1.s:=by
 unfold Cs.ld
 repeat' split
 all_goals exact⟨rfl,rfl,rfl,rfl,rfl,rfl,rfl,rfl⟩
def Be(c:Cs)(n:Go.cD.Nd):c.s.still (c.sv n).1.s:=by
 unfold Cs.sv
 repeat' split
 all_goals exact⟨rfl,rfl,rfl,rfl,rfl,rfl,rfl,rfl⟩
def Sg(c:Cs)(p:Int):c.s.still (c.dr p).s:=⟨rfl,rfl,rfl,rfl,rfl,rfl,rfl,rfl⟩
def St.still.trans{s u v:St}(h:s.still u)(k:u.still v):s.still v:=by
 obtain⟨a1,a2,a3,a4,a5,a6,a7,a8⟩:=h;obtain⟨b1,b2,b3,b4,b5,b6,b7,b8⟩:=k;exact⟨b1.trans a1,b2.trans a2,b3.trans a3,b4.trans a4,b5.trans a5,b6.trans a6,b7.trans a7,b8.trans a8⟩
end Go.aL
namespace Go.cD
namespace dG
variable{σ:Type}(I:dG σ)
structure fB(K:σ->Prop):Prop where
 ld:∀s p,K s->K (I.ld s p).1
 sv:∀s n,K s->K (I.sv s n).1
 dr:∀s p,K s->K (I.dr s p)
variable{I}{K:σ->Prop}
theorem fB.tl(h:I.fB K)(s:σ)(p:Int)(hs:K s):K (I.tl s p).1:=by
 have:=h.ld s p hs;unfold dG.tl;split
 .split<;>exact this
 .exact this
theorem fB.way(h:I.fB K)(key:Key):∀(f:Nat) (s:σ) (p:Int) (out:List Step),K s->K (I.way key f s p out).1
 |0,s,p,out,hs=>by unfold dG.way;split<;>exact hs
 |f+1,s,p,out,hs=>by
  have ht:=h.tl s p hs;unfold dG.way;split
  .exact hs
  .split
   .split
    .exact ht
    .exact h.way key f _ _ _ ht
   .exact ht
def fB.put(h:I.fB K)(s:σ)(n:Nd)(hs:K s):K (I.put s n).1:=by
 unfold dG.put
 repeat' split
 all_goals first|exact h.sv _ _ hs|exact h.sv _ _ (h.sv _ _ hs)|exact hs
theorem fB.sr(h:I.fB K):∀(l:List Int) (s:σ),K s->K (I.gB s l)
 |[],s,hs=>hs
 |p::l,s,hs=>fB.sr h l _ (h.dr s p hs)
def fB.de(h:I.fB K)(st:Step)(u:vV σ)(hs:K u.s):K (I.vL st u).s:=by
 unfold dG.vL;split
 .split
  .have ht:=h.tl u.s (qC st) hs;unfold dG.Bq;split
   .exact h.put _ _ ht
   .exact ht
  .exact h.sv _ _ hs
 .exact hs
theorem fB.uQ(h:I.fB K)(u:vV σ)(hs:K u.s):∀(l:List Step),K (l.foldr I.vL u).s
 |[]=>hs
 |x::l=>h.de x _ (fB.uQ h u hs l)
def fB.top(h:I.fB K)(root was:Int)(u:vV σ)(hs:K u.s):K (I.mK root was u).s:=by
 unfold dG.mK;split
 .split
  .exact h.sr _ _ hs
  .split
   .exact h.sr _ _ (h.sv _ _ hs)
   .exact h.sv _ _ hs
 .exact hs
def fB.jk(h:I.fB K)(s:σ)(root:Int)(key:Key)(hs:K s):K (I.jk s root key).s:=by
 have hw:=h.way key 40 s root [] hs;unfold dG.jk;split
 .split
  .exact hw
  .split
   .exact h.top _ _ _ (h.uQ _ hw _)
   .exact hw
 .exact hw
theorem fB.up(h:I.fB K)(u:Aw σ)(hs:K u.s):∀(l:List Step),K (l.foldr I.qD u).s
 |[]=>hs
 |x::l=>by
  have ih:=fB.up h u hs l;rw[List.foldr_cons];unfold dG.qD;split
  .exact h.put _ _ ih
  .exact ih
theorem fB.fin(h:I.fB K)(root was:Int)(had:Bool)(u:Aw σ)(hs:K u.s):K (I.gZ root was had u).s:=by
 unfold dG.gZ;split
 .split
  .split
   .exact h.sr _ _ (h.sv _ _ hs)
   .exact h.sv _ _ hs
  .exact h.sr _ _ hs
 .exact hs
def fB.qE(h:I.fB K)(s:σ)(l:List Step)(key:Key)(v:Int)(hs:K s):K (I.qE s l key v).s:=by
 unfold dG.qE;split
 .exact h.put _ _ hs
 .exact h.up _ (h.put _ _ hs) _
def fB.jm(h:I.fB K)(s:σ)(root:Int)(key:Key)(v:Int)(hs:K s):K (I.jm s root key v).s:=by
 have hw:=h.way key 40 s root [] hs;unfold dG.jm;split
 .split
  .exact h.fin _ _ _ _ (h.qE _ _ _ _ hw)
  .exact hw
 .exact hs
end dG
end Go.cD
namespace Go.aL
open Go.Av
def D6(s:St):bM.fB λc=>s.still c.s:=⟨λc p h=>h.trans (Bc c p),λc n h=>h.trans (Be c n),λc p h=>h.trans (Sg c p)⟩
def qv(s:St):s.still s:=⟨rfl,rfl,rfl,rfl,rfl,rfl,rfl,rfl⟩
def Bf(s:St)(root:Int)(key:Go.cD.Key):s.still (bM.jk ⟨s,[],[]⟩ root key).s.s:=(D6 s).jk _ _ _ (qv s)
def Ko(s:St)(root:Int)(key:Go.cD.Key)(v:Int):s.still (bM.jm ⟨s,[],[]⟩ root key v).s.s:=(D6 s).jm _ _ _ _ (qv s)
theorem Sh(s:St)(root count:Int)(key:Go.cD.Key):(pM (bM.jk ⟨s,[],[]⟩ root key) count).1.ix=s.ix:=(Si _ _).trans (Bf s root key).1
def gR.slot{t:Nat}{s:St}(h:gR t s){m:Mp}(hm:mh m)(hn:m.n=s.sl.n):gR t {s with sl:=m}:=⟨h.D,h.J,h.jn,h.pn,h.sz,hm,h.rm,(by show(m.n:Int)=s.pn;rw[hn];exact h.MS),h.OX,h.dR,h.RQ,h.ix,h.RJ,h.root,h.ord⟩
def gR.fH{t:Nat}{s:St}(h:gR t s)(l:List Int):gR t (s.fH l):=h.slot (jL h.sl l).1 (jL h.sl l).2
def gR.uv{t:Nat}{s:St}(h:gR t s)(l:List Int):gR t (s.uv l):=by
 have hg:=jL h.sl l;unfold St.uv;refine h.slot (m:=if s.sure=true then(cn s.sl l).commit else cn s.sl l) ?_ ?_
 .split
  .exact mh.commit hg.1
  .exact hg.1
 .split
  .exact hg.2
  .exact hg.2
def OJ{t:Nat}{R:Go.cD.jX Cs}(h:gR t R.s.s)(ht:t<=30000)(hr:-9223372036854775808<=R.root/\R.root<=9223372036854775807)(count:Int):gR (t+8) (pM R count).1:=by
 have hc:=h.commit ht R.root count hr;unfold pM;split
 .split
  .exact hc.fH _
  .exact hc.uv _
 .exact(h.uv _).up O
end Go.aL
namespace Go.cD
namespace dG
variable{σ:Type}(I:dG σ)
structure vO(P:Nat->σ->Prop):Prop where
 ld:∀n s p,P n s->P n (I.ld s p).1
 sv:∀n s x,P n s->P (n+1) (I.sv s x).1
 dr:∀n s p,P n s->P (n+1) (I.dr s p)
 up:∀n m s,n<=m->P n s->P m s
variable{I}{P:Nat->σ->Prop}
theorem vO.tl(h:I.vO P){n:Nat}{s:σ}(p:Int)(hs:P n s):P n (I.tl s p).1:=by
 have:=h.ld n s p hs
 grind [dG.tl]
theorem vO.way(h:I.vO P)(key:Key){n:Nat}:∀(f:Nat) (s:σ) (p:Int) (out:List Step),P n s->P n (I.way key f s p out).1
 |0,s,p,out,hs=>by grind [dG.way]
 |f+1,s,p,out,hs=>by
  have ht:=h.tl p hs;unfold dG.way;split
  .omega
  .split
   .split
    .omega
    .exact h.way key f _ _ _ ht
   omega
theorem Xp(I:dG σ)(key:Key):∀(f:Nat) (s:σ) (p:Int) (out:List Step),(I.way key f s p out).2.1.length<=out.length+f
 |0,s,p,out=>by grind [dG.way]
 |f+1,s,p,out=>by
  unfold dG.way;split
  .simp
  .split
   .split
    .simp
    .have:=Xp I key f (I.tl s p).1 ((I.tl s p).2.1.vs.getD (eI (I.tl s p).2.1 key) 0) (out++[⟨(I.tl s p).2.1,p,eI (I.tl s p).2.1 key⟩])
     grind
   .simp
def vO.put(h:I.vO P){n:Nat}{s:σ}(x:Nd)(hs:P n s):P (n+2) (I.put s x).1:=by
 have h1:=λy=>h.up (n+1) (n+2) _ (by omega) (h.sv n s y hs);unfold dG.put;split
 .grind
 .split
  .exact h.sv _ _ _ (h.sv _ _ _ hs)
  grind
theorem vO.sr(h:I.vO P):∀(l:List Int) {n:Nat} {s:σ},P n s->P (n+l.length) (I.gB s l)
 |[],n,s,hs=>hs
 |p::l,n,s,hs=>by
  have:=vO.sr h l (h.dr n s p hs);rw[List.length_cons,show n+(l.length+1)=n+1+l.length by omega];exact this
def vO.de(h:I.vO P)(st:Step)(u:vV σ){n b:Nat}(hs:P n u.s)(hb:u.old.length<=b):P (n+2) (I.vL st u).s/\(I.vL st u).old.length<=b+2:=by
 unfold dG.vL;split
 .split
  .have ht:=h.tl (qC st) hs;unfold dG.Bq;split
   .exact⟨h.put _ ht,by grind⟩
   .exact⟨h.up n _ _ (by omega) ht,by grind⟩
  .exact⟨h.up (n+1) _ _ (by omega) (h.sv _ _ _ hs),by grind [EH]⟩
 .exact⟨h.up n _ _ (by omega) hs,by omega⟩
theorem vO.uQ(h:I.vO P)(u:vV σ){n b:Nat}(hs:P n u.s)(hb:u.old.length<=b):∀(l:List Step),P (n+2*l.length) (l.foldr I.vL u).s/\(l.foldr I.vL u).old.length<=b+2*l.length
 |[]=>⟨hs,hb⟩
 |x::l=>by
  have ih:=vO.uQ h u hs hb l;have:=h.de x _ ih.1 ih.2;rw[List.length_cons,show n+2*(l.length+1)=n+2*l.length+2 by omega,show b+2*(l.length+1)=b+2*l.length+2 by omega];exact this
def vO.top(h:I.vO P)(root was:Int)(u:vV σ){n b:Nat}(hs:P n u.s)(hb:u.old.length<=b):P (n+1+b) (I.mK root was u).s:=by
 unfold dG.mK;split
 .split
  .exact h.up _ _ _ (by omega) (h.sr u.old hs)
  .split
   .exact h.up _ _ _ (by omega) (h.sr u.old (h.sv _ _ _ hs))
   .exact h.up _ _ _ (by omega) (h.sv _ _ _ hs)
 .exact h.up _ _ _ (by omega) hs
def vO.jk(h:I.vO P){n:Nat}{s:σ}(root:Int)(key:Key)(hs:P n s):P (n+170) (I.jk s root key).s:=by
 have hw:=h.way key 40 s root [] hs;have hl:=Xp I key 40 s root [];have h0:=h.up _ (n+170) _ (by omega) hw;unfold dG.jk;split
 .split
  .omega
  .rename_i x hx;split
   .have hd:=h.uQ ⟨(I.way key 40 s root []).1,[x.p],gV x.n (b_ x.n key),0⟩ (b:=1) hw (by simp) (I.way key 40 s root []).2.1.dropLast;have FO:(I.way key 40 s root []).2.1.dropLast.length<=40:=by grind
    exact h.up _ _ _ (by omega) (h.top root _ _ hd.1 hd.2)
   omega
 omega
def vO.up1(h:I.vO P)(st:Step)(u:Aw σ){n b:Nat}(hs:P n u.s)(hb:u.old.length<=b):P (n+2) (I.qD st u).s/\(I.qD st u).old.length<=b+2:=by
 unfold dG.qD;split
 .exact⟨h.put _ hs,by grind⟩
 .exact⟨h.up _ _ _ (by omega) hs,by omega⟩
theorem vO.upf(h:I.vO P)(u:Aw σ){n b:Nat}(hs:P n u.s)(hb:u.old.length<=b):∀(l:List Step),P (n+2*l.length) (l.foldr I.qD u).s/\(l.foldr I.qD u).old.length<=b+2*l.length
 |[]=>⟨hs,hb⟩
 |x::l=>by
  have ih:=vO.upf h u hs hb l;have:=h.up1 x _ ih.1 ih.2;rw[List.length_cons,show n+2*(l.length+1)=n+2*l.length+2 by omega,show b+2*(l.length+1)=b+2*l.length+2 by omega];exact this
theorem vO.fin(h:I.vO P)(root was:Int)(had:Bool)(u:Aw σ){n b:Nat}(hs:P n u.s)(hb:u.old.length<=b):P (n+1+b) (I.gZ root was had u).s:=by
 unfold dG.gZ;split
 .split
  .split
   .exact h.up _ _ _ (by omega) (h.sr u.old (h.sv _ _ _ hs))
   .exact h.up _ _ _ (by omega) (h.sv _ _ _ hs)
  .exact h.up _ _ _ (by omega) (h.sr u.old hs)
 .exact h.up _ _ _ (by omega) hs
def vO.qE(h:I.vO P){n:Nat}{s:σ}(l:List Step)(hl:l.length<=40)(key:Key)(v:Int)(hs:P n s):P (n+82) (I.qE s l key v).s/\(I.qE s l key v).old.length<=81:=by
 unfold dG.qE;split
 .exact⟨h.up _ _ _ (by omega) (h.put _ hs),by simp[lS]⟩
 .rename_i x hx;have hd:=h.upf (I.lS s x.n [x.p] key v) (n:=n+2) (b:=1) (h.put _ hs) (by simp[lS]) l.dropLast;have FO:l.dropLast.length<=40:=by grind
  exact⟨h.up _ _ _ (by omega) hd.1,by omega⟩
def vO.jm(h:I.vO P){n:Nat}{s:σ}(root:Int)(key:Key)(v:Int)(hs:P n s):P (n+170) (I.jm s root key v).s:=by
 have hw:=h.way key 40 s root [] hs;have hl:=Xp I key 40 s root [];unfold dG.jm;split
 .split
  .have hp:=h.qE (I.way key 40 s root []).2.1 (by omega) key v hw;exact h.up _ _ _ (by omega) (h.fin _ _ _ _ hp.1 hp.2)
  .exact h.up _ _ _ (by omega) hw
 .exact h.up _ _ _ (by omega) hs
def Vb(R:Int->Prop)(n:Nd):Prop:=∀v∈n.vs,R v
def ahJ{R:Int->Prop}(h0:R 0){l:List Int}(h:∀p∈l,R p)(i:Nat):R (l.getD i 0):=by
 grind
theorem OO{R:Int->Prop}{n:Nd}(h:Vb R n)(c:Nat){p:Int}(hp:R p):Vb R (gq n c p):=by
 intro v hv;rcases List.mem_or_eq_of_mem_set hv with hv|rfl
 .exact h v hv
 omega
theorem Xq{R:Int->Prop}{n:Nd}(h:Vb R n)(i:Nat):Vb R (gV n i):=by
 intro v hv;simp only[gV,List.mem_append]at hv;rcases hv with hv|hv
 .exact h v (List.mem_of_mem_take hv)
 .exact h v (List.mem_of_mem_drop hv)
theorem ahK{R:Int->Prop}{n:Nd}(h:Vb R n)(i:Nat)(key:Key){us:List Int}(hu:∀p∈us,R p):Vb R (gj n i key us):=by
 intro v hv;simp only[gj,List.mem_append]at hv;rcases hv with(hv|hv)|hv
 .exact h v (List.mem_of_mem_take hv)
 .grind
 .exact h v (List.mem_of_mem_drop hv)
def amV{R:Int->Prop}(h0:R 0){n:Nd}(h:Vb R n)(k:Nat){pg:List Int}(hp:∀p∈pg,R p)(key:Key):Vb R (Z' n k pg key):=by
 grind [Z',ahK,Xq,OO]
theorem OP{R:Int->Prop}:Vb R jU:=by intro v hv;simp[jU]at hv
variable{K:σ->Prop}{R:Int->Prop}
def A9(hK:I.fB K)(DC:∀s n,K s->R (I.sv s n).2.1)(s:σ)(n:Nd)(hs:K s):∀p∈(I.put s n).2.1,R p:=by
 unfold dG.put;split
 .grind
 .split
  .intro p hp;simp only[List.mem_cons,List.not_mem_nil,or_false]at hp;rcases hp with rfl|rfl
   .grind
   .exact DC _ _ (hK.sv _ _ hs)
  .simp
def aqd(h0:R 0)(hK:I.fB K)(DC:∀s n,K s->R (I.sv s n).2.1)(st:Step)(hst:Vb R st.n)(u:vV σ)(hs:K u.s)(hu:Vb R u.n):Vb R (I.vL st u).n:=by
 unfold dG.vL;split
 .split
  .unfold dG.Bq;split
   .simp only;split
    .exact amV h0 hst _ (A9 hK DC _ _ (hK.tl _ _ hs)) _
    .exact OP
   .exact OP
  grind [dG.EH,OO,OP]
 omega
theorem J6(h0:R 0)(hK:I.fB K)(DC:∀s n,K s->R (I.sv s n).2.1)(u:vV σ)(hs:K u.s)(hu:Vb R u.n):∀(l:List Step),(∀st∈l,Vb R st.n)->Vb R (l.foldr I.vL u).n
 |[],_=>hu
 |x::l,h=>aqd h0 hK DC x (h x (by simp)) _ (hK.uQ u hs l) (J6 h0 hK DC u hs hu l λst hst=>h st (by grind))
def amW(h0:R 0)(DC:∀s n,K s->R (I.sv s n).2.1)(root was:Int)(hr:R root)(u:vV σ)(hs:K u.s)(hu:Vb R u.n):R (I.mK root was u).root:=by
 unfold dG.mK;split
 .split
  .simp only;split
   .omega
   .exact ahJ h0 hu 0
  grind
 omega
theorem adY(I:dG σ)(hld:∀n,rB n=true->Vb R n)(key:Key):∀(f:Nat) (s:σ) (p:Int) (out:List Step),(∀st∈out,Vb R st.n)->∀st∈(I.way key f s p out).2.1,Vb R st.n
 |0,s,p,out,h=>by grind [dG.way]
 |f+1,s,p,out,h=>by
  have ht:Vb R (I.tl s p).2.1:=by
   grind [dG.tl,OP]
  unfold dG.way;split
  .omega
  .split
   .have h':∀st∈out++[⟨(I.tl s p).2.1,p,eI (I.tl s p).2.1 key⟩],Vb R st.n:=by
     grind
    split
    .omega
    .exact adY I hld key f _ _ _ h'
   .simp
def ahF(h0:R 0)(hK:I.fB K)(DC:∀s n,K s->R (I.sv s n).2.1)(hld:∀n,rB n=true->Vb R n)(s:σ)(hs:K s)(root:Int)(hr:R root)(key:Key):R (I.jk s root key).root:=by
 have hw:=adY I hld key 40 s root [] (by simp);have hk:=hK.way key 40 s root [] hs;unfold dG.jk;split
 .split
  .omega
  .rename_i x hx;split
   .exact amW h0 DC root _ hr _ (hK.uQ _ hk _) (J6 h0 hK DC _ hk (Xq (hw x (List.mem_of_getLast? hx)) _) _ λst hst=>hw st ((List.dropLast_sublist _).subset hst))
   omega
 omega
theorem adZ(hK:I.fB K)(DC:∀s n,K s->R (I.sv s n).2.1)(u:Aw σ)(hs:K u.s)(hu:∀p∈u.pg,R p):∀(l:List Step),∀p∈(l.foldr I.qD u).pg,R p
 |[]=>hu
 |x::l=>by
  have ih:=adZ hK DC u hs hu l;rw[List.foldr_cons];unfold dG.qD;split
  .exact A9 hK DC _ _ (hK.up u hs l)
  .exact ih
def ahG(h0:R 0)(hK:I.fB K)(DC:∀s n,K s->R (I.sv s n).2.1)(s:σ)(hs:K s)(root:Int)(hr:R root)(key:Key)(v:Int):R (I.jm s root key v).root:=by
 have hk:=hK.way key 40 s root [] hs;unfold dG.jm;split
 .split
  .have hp:∀p∈(I.qE (I.way key 40 s root []).1 (I.way key 40 s root []).2.1 key v).pg,R p:=by
    unfold dG.qE;split
    .exact A9 hK DC _ _ hk
    .exact adZ hK DC _ (hK.put _ _ hk) (A9 hK DC _ _ hk) _
   have zH:=hK.qE (I.way key 40 s root []).1 (I.way key 40 s root []).2.1 key v hk
   grind [dG.gZ]
  omega
 omega
end dG
end Go.cD
namespace Go.aL
open Go.Av
open Go.cD (Nd rB)
structure xO(t:Nat)(s:St)(n:Nat)(c:Cs):Prop where
 still:s.still c.s
 J:c.s.J=s.J
 D:fJ (t*t+8*n) c.s.D
 kl:c.s.D.kept.length=s.D.kept.length
 sl:mh c.s.sl
 MS:c.s.sl.n=s.sl.n
 saved:c.saved.length<=n
 sav:∀p∈c.saved,0<=p/\p<=65536
 old:c.old.length<=n
 olb:∀p∈c.old,-9223372036854775808<=p/\p<=9223372036854775807
def xO.up{t:Nat}{s:St}{n m:Nat}{c:Cs}(hnm:n<=m)(h:xO t s n c):xO t s m c:={h with D:=h.D.up O,saved:=cT h.saved hnm,old:=cT h.old hnm}
def Xm(t:Nat)(s:St):bM.vO (xO t s) where
 ld:=λn c p h=>by
  have hst:=h.still.trans (Bc c p);have key:xO t s n (c.dev (iN c.s.D (x7 c.s.jn (p-1))).1):=by
   obtain⟨h1,h2,_⟩:=Hx h.D (x7 c.s.jn (p-1));exact{h with still:=h.still.trans ⟨rfl,rfl,rfl,rfl,rfl,rfl,rfl,rfl⟩,D:=h1,kl:=by show(iN c.s.D _).1.kept.length=_;rw[h2];exact h.kl}
  show xO t s n (c.ld p).1;unfold Cs.ld;split
  .exact h
  .split
   .split<;>exact key
   .exact key
 sv:=λn c x h=>by
  have hst:=h.still.trans (Be c x);show xO t s (n+1) (c.sv x).1;unfold Cs.sv at hst⊢;split
  .split
   .obtain⟨m1,m2,m3,m4,m5⟩:=h.sl.take 1;obtain⟨p1,p2⟩:=J2 h.D (x7 c.s.jn (c.s.sl.take 1).2.1.1) 1 (nh x.lf x.ks x.vs);rename_i c1 c2;rw[ai c1,ai c2]at hst;have hn:=h.sl.n;refine⟨hst,h.J,p1.up O,by show(lK c.s.D _ _ _).1.kept.length=_;rw[p2];exact h.kl,m1,m2.trans h.MS,by have:=h.saved;simp;omega,λp hp=>?_,by have:=h.old;simp;omega,h.olb⟩;simp only[lD,gK]at hp;rcases hp with hp|rfl
    .exact h.sav p hp
    .exact⟨m3,O⟩
   .exact h.up O
  .exact h.up O
 dr:=λn c p h=>by
  refine{h.up (Fq n 1)with still:=h.still,old:=by show(c.old++_).length<=_;have:=h.old;simp;omega,olb:=λq hq=>?_};have hq':q∈c.old++[IntKind.i64.wrap (p-1)]:=hq;simp only[lD,gK]at hq';rcases hq' with hq'|rfl
  .exact h.olb q hq'
  .exact tF _
 up:=λn m c h k=>k.up h
def xO.lM{t n:Nat}{s:St}{c:Cs}(h:xO t s n c)(hs:gR t s)(hn:n<=170)(ht:200<=t):gR (t+8) c.s:=by
 obtain⟨s1,s2,s3,s4,s5,s6,s7,s8⟩:=h.still;have e8:=sq8 t;have hu:=hs.up (t':=t+8) O;exact⟨h.D.up O,by rw[h.J,s6];exact hu.J,by rw[s6];exact hu.jn,by rw[s7];exact hu.pn,by rw[s6,s7,h.kl];exact hu.sz,h.sl,by rw[s2];exact hu.rm,by rw[h.MS,s7];exact hu.MS,by rw[s2,s6,s7,h.kl];exact hu.OX,by rw[s3];exact hu.dR,by rw[s1];exact hu.RQ,by rw[s1];exact hu.ix,by rw[s1];exact hu.RJ,by rw[s8];exact hu.root,by rw[s4];exact hu.ord⟩
def xO.cok{t n:Nat}{s:St}{c:Cs}(h:xO t s n c)(hs:gR t s)(hn:n<=170)(ht:200<=t):lN (t+8) c:=⟨h.lM hs hn ht,by have:=h.saved;omega,h.sav,by have:=h.old;omega,h.olb⟩
def J3{t:Nat}{s:St}(h:gR t s):xO t s 0 ⟨s,[],[]⟩:=⟨qv s,rfl,h.D,rfl,h.sl,rfl,H,H,H,H⟩
def WK{t:Nat}{s:St}(h:gR t s)(root:Int)(key:Go.cD.Key):xO t s 170 (bM.jk ⟨s,[],[]⟩ root key).s:=by
 have:=(Xm t s).jk (n:=0) root key (J3 h);simpa using this
def UC{t:Nat}{s:St}(h:gR t s)(root:Int)(key:Go.cD.Key)(v:Int):xO t s 170 (bM.jm ⟨s,[],[]⟩ root key v).s:=by
 have:=(Xm t s).jm (n:=0) root key v (J3 h);simpa using this
def J4:bM.fB λc=>mh c.s.sl:=by
 refine⟨λc p h=>?_,λc n h=>?_,λc p h=>h⟩
 .show mh (c.ld p).1.s.sl;unfold Cs.ld
  repeat' split
  all_goals exact h
 .show mh (c.sv n).1.s.sl;unfold Cs.sv
  repeat' split
  all_goals first|exact h|exact(h.take 1).1
def amS(c:Cs)(n:Nd)(h:mh c.s.sl):lB (bM.sv c n).2.1:=by
 show lB (c.sv n).2.1;unfold Cs.sv;split
 .split
  .obtain⟨m1,m2,m3,m4,m5⟩:=h.take 1;have:=h.n;exact⟨by simp only;omega,by simp only;omega⟩
  .exact⟨H,H⟩
 .exact⟨H,H⟩
def amT(n:Nd)(h:rB n=true):Go.cD.dG.Vb lB n:=λv hv=>by
 have:=((Go.cD.jv n).1 h).vals v hv;unfold Go.cD.vOk at this;unfold lB;omega
def Rv{t:Nat}{s:St}(h:gR t s)(key:Go.cD.Key):lB (bM.jk ⟨s,[],[]⟩ s.root key).root:=Go.cD.dG.ahF (by unfold lB;omega) J4 amS amT _ h.sl _ h.root _
def Rw{t:Nat}{s:St}(h:gR t s)(key:Go.cD.Key)(v:Int):lB (bM.jm ⟨s,[],[]⟩ s.root key v).root:=Go.cD.dG.ahG (by unfold lB;omega) J4 amS _ h.sl _ h.root _ _
def Gj{t:Nat}{s:St}(h:gR t s)(h2:200<=t/\t<=20000)(key:Go.cD.Key)(count:Int):gR (t+16) (pM (bM.jk ⟨s,[],[]⟩ s.root key) count).1:=OJ ((WK h s.root key).lM h (aX _) h2.1) O (Rv h key) count
def Zx{t:Nat}{s:St}(h:gR t s)(h2:200<=t/\t<=20000)(key:Go.cD.Key)(v:Int)(count:Int):gR (t+16) (pM (bM.jm ⟨s,[],[]⟩ s.root key v) count).1:=OJ ((UC h s.root key v).lM h (aX _) h2.1) O (Rw h key v) count
end Go.aL
namespace Go.aL
open Go.Av
def Ke(l:List Kn):Prop:=l.Pairwise λa b=>Op.bytesLess a.key b.key=true
theorem Cw(f:Nat->Int):∀(n i j:Nat),j-i<=n->i<=j->(∀a b,a<=b->b<j->f b<0->f a<0)->(∀a,i<=a->a<zR f n i j->f a<0)/\(∀b,zR f n i j<=b->b<j->¬f b<0)
 |0,i,j,h,hij,hm=>by
  unfold zR;exact⟨λa h1 h2=>O,λb h1 h2=>O⟩
 |n+1,i,j,h,hij,hm=>by
  unfold zR;by_cases c:i<j
  .rw[ai c];by_cases d:f ((i+j)/2)<0
   .rw[ai d];obtain⟨h1,h2⟩:=Cw f n ((i+j)/2+1) j O O hm;refine⟨λa ha hb=>?_,h2⟩;by_cases e:a<=(i+j)/2
    .exact hm a _ e O d
    .exact h1 a O hb
   .rw[ah d];obtain⟨h1,h2⟩:=Cw f n i ((i+j)/2) O O (λa b h1 h2=>hm a b h1 O);refine⟨h1,λb hb hj hf=>?_⟩;by_cases e:b<(i+j)/2
    .exact h2 b hb e hf
    .exact d (hm _ b O hj hf)
  .rw[ah c];exact⟨λa h1 h2=>O,λb h1 h2=>O⟩
def AY(a b:aF):DR a b<0↔Op.bytesLess a b=true:=by
 unfold DR;split
 .rename_i h;simp[h]
 .rename_i h;split<;>simp[h]
def Iz(a b:aF):DR a b=0↔a=b:=by
 unfold DR;split
 .rename_i h;constructor
  .intro e;omega
  .rintro rfl;rw[Go.cD.nV]at h;cases h
 .split
  .rename_i h;simp[h]
  .rename_i h;simp[h]
def tQ{l:List Kn}{i:Nat}(h:i<l.length)(key:aF):Y5 l key i=DR l[i].key key:=by simp[Y5,List.getD,h]
def Gw{l:List Kn}(h:Ke l){i j:Nat}(hij:i<j)(hj:j<l.length):Op.bytesLess (l[i]'O).key l[j].key=true:=yJ.1 h i j O hj hij
def Gq{l:List Kn}(h:Ke l)(key:aF):gO l key<=l.length/\(∀a (ha:a<l.length),a<gO l key->Op.bytesLess l[a].key key=true)/\∀b (hb:b<l.length),gO l key<=b->Op.bytesLess l[b].key key=false:=by
 have hm:∀a b,a<=b->b<l.length->Y5 l key b<0->Y5 l key a<0:=by
  intro a b hab hb hf;rw[tQ hb,AY]at hf;rw[tQ O,AY];rcases Nat.eq_or_lt_of_le hab with rfl|hab
  .exact hf
  .exact Go.cD.Cy (Gw h hab hb) hf
 obtain⟨h1,h2⟩:=Cw (Y5 l key) l.length 0 l.length O O hm;refine⟨(Ly _ _ _ _ (q_ _)).2,λa ha hlt=>?_,λb hb hle=>?_⟩
 .have:=h1 a O hlt;rwa[tQ ha,AY]at this
 .have:=h2 b hle hb;rw[tQ hb,AY]at this;simpa using this
def ae5{l:List Kn}(h:Ke l){m:Nat}(hm:m<l.length):gO l l[m].key=m/\qn l l[m].key=true:=by
 obtain⟨h1,h2,h3⟩:=Gq h l[m].key;have e:gO l l[m].key=m:=by
  rcases Nat.lt_trichotomy (gO l l[m].key) m with c|c|c
  .have h4:=h3 (gO l l[m].key) O (aX _);rw[Gw h c hm]at h4;cases h4
  .exact c
  .have:=h2 m hm c;rw[Go.cD.nV]at this;cases this
 refine⟨e,?_⟩;unfold qn;rw[e,tQ hm,(Iz _ _).2 rfl];simp[hm]
def at_mem{l:List Kn}(h:Ke l){k:Kn}(hk:k∈l):qn l k.key=true:=by
 obtain⟨m,hm,rfl⟩:=yI.1 hk;exact(ae5 h hm).2
def tN{l:List Kn}{key:aF}(h:qn l key=true):∃hi:gO l key<l.length,l[gO l key].key=key:=by
 unfold qn at h;simp only[bG,eZ,ri]at h;obtain⟨h1,h2⟩:=h;rw[tQ h1,Iz]at h2;exact⟨h1,h2⟩
def Im{l:List Kn}(h:Ke l){key:aF}(hb:qn l key=false):∀k∈l,k.key≠key:=by
 rintro k hk rfl;rw[at_mem h hk]at hb;cases hb
def Zw{l:List Kn}(h:Ke l)(k:Kn)(hb:qn l k.key=false):Ke (l.take (gO l k.key)++k::l.drop (gO l k.key)):=by
 obtain⟨h1,h2,h3⟩:=Gq h k.key;unfold Ke;rw[uI,uJ];refine⟨List.Pairwise.sublist (List.take_sublist _ _) h,⟨λb hb'=>?_,List.Pairwise.sublist (List.drop_sublist _ _) h⟩,λa ha b hb'=>?_⟩
 .obtain⟨i,hi,rfl⟩:=yI.1 hb';rw[List.getElem_drop];rw[yz]at hi;have h4:=h3 (gO l k.key+i) O O;have hne:=Im h hb _ (bB (show gO l k.key+i<l.length by omega));rw[Go.cD.UQ,h4];simpa using hne
 .obtain⟨i,hi,rfl⟩:=yI.1 ha;rw[List.getElem_take];rw[lV]at hi;have h4:=h2 i O O;rcases fF.1 hb' with rfl|hb'
  .exact h4
  .obtain⟨j,hj,rfl⟩:=yI.1 hb';rw[List.getElem_drop];rw[yz]at hj;exact Gw h O O
def Ny{l:List Kn}(h:Ke l)(k:Kn)(hb:qn l k.key=true):Ke (l.set (gO l k.key) k):=by
 obtain⟨hi,he⟩:=tN hb;unfold Ke;rw[yJ];intro i j h1 h2 hij;rw[vh]at h1 h2;have key:∀m (hm:m<l.length),((l.set (gO l k.key) k)[m]'(U hm)).key=l[m].key:=by
  intro m hm;rw[List.getElem_set];split
  .rename_i e;subst e;exact he.symm
  .rfl
 rw[key i h1,key j h2];exact Gw h hij h2
theorem IA:∀(l:List Kn) (m:Kn),l.foldl IB m=m\/l.foldl IB m∈l
 |[],m=> .inl rfl
 |x::l,m=>by
  rw[F2];have ih:=IA l (IB m x);rcases ih with ih|ih
  .rw[ih];unfold IB;split
   .right;simp
   .left;rfl
  .right;exact yH _ ih
def UR{l:List Kn}(h:l.length≠0):fy l l.length∈l:=by
 unfold fy;rw[gv (aX _)];cases l with
 |nil=>simp at h
 |cons x l=>
  simp only[List.tail_cons,Kq];rcases IA l x with e|e
  .rw[e];simp
  .exact yH _ e
def iE(s:St):Bool:=decide (0<xV s.rm.F)
end Go.aL
namespace Go.Av
open Go.Proofs Go.Proofs.Tryz Go.aL
abbrev SH:Ob:=⟨28,1,[.obj 7 0]⟩
def WU(w:Sm)(hF:xP w.s.rm.F):bN 226 [.obj 19 0] ⟨(19,SH)::fm 0 8 w,cH 8,20⟩ (.p (.bool (iE w.s))) ⟨(19,SH)::fm 0 8 w,cH 8,20⟩:=by
 by_cases hp:0<xV w.s.rm.F
 .have hP:iE w.s=true:=nw hp;rw[hP];exact Z3 w hF hp
 .have hP:iE w.s=false:=kF hp;rw[hP];have hf:=Ff 5 13 14 15 20 w.s.rm.n (by constructor<;>omega) w.s.rm.F w.s.rm.R w.s.rm.W hF;refine aC [_] func226 rfl ?_;simp[fm,fC,eF,aH,aj,ak,aR,aM,aJ,aP];refine o7 hf rfl ?_;simp[-az,hp,results226];exact⟨[],H⟩
def WM(w:Sm)(I:Nat->St->Prop)(h0:∀s,I 0 s->iE s=true)(hp:∀n s,I n s->xP s.rm.F/\s.ix.length<=1000000)(hsy:∀n s,I n s->iE s=false->s.sure=false->bN 31 [.obj 6 0] ⟨aH 0 7 s,cH 7,17⟩ (.p (.int s.sync.2)) ⟨aH 0 17 s.sync.1,cH 17,27⟩)(hsI:∀n s,I (n+1) s->iE s=false->s.sure=false->s.sync.2=0->I n s.sync.1)(qo:∀n s,I n s->iE s=false->s.sure=true->s.ix.length≠0->bN 89 [.obj 6 0,.p (.int 4),.p (.str (fy s.ix s.ix.length).key)] ⟨aH 0 7 s,cH 7,17⟩ (.agg true [.p (.bool (s.remove 4 (fy s.ix s.ix.length).key).2.1),.p (.int (s.remove 4 (fy s.ix s.ix.length).key).2.2)]) ⟨aH 0 17 (s.remove 4 (fy s.ix s.ix.length).key).1,cH 17,27⟩)(hrI:∀n s,I (n+1) s->iE s=false->s.sure=true->s.ix.length≠0->(s.remove 4 (fy s.ix s.ix.length).key).2.2=0->I n (s.remove 4 (fy s.ix s.ix.length).key).1)(n:Nat)(s:St)(hI:I n s):bN 225 [.obj 6 0,.mB (.func 226) [.obj 19 0]] ⟨(19,SH)::fm 0 8 {w with s:=s},cH 8,20⟩ (.p (.int (s.uA iE n).2)) ⟨(19,SH)::(7,fC 6 18 w)::(18,eF w.e.body)::aH 0 20 (s.uA iE n).1,cH 20,30⟩:=by
 refine aC [_] func225 rfl ?_;generalize hZ:s.uA iE n=Z;simp;refine aS (λq:Nat×St=>I q.1 q.2/\q.2.uA iE q.1=Z) (λ_=>[(0,.obj 6 0),(1,.mB (.func 226) [.obj 19 0])]) (λq=>⟨(19,SH)::(7,fC 6 18 w)::(18,eF w.e.body)::aH 0 20 q.2,cH 20,30⟩) (λq=>q.1) (n,s) ⟨hI,hZ⟩ _ (AS.le_refl _ _) (aE [(20,8),(21,9),(22,10),(23,11),(24,12),(25,13),(26,14),(27,15),(28,16),(29,17)] (by simp[fm,fC,eF,aH,aj,ak,aR,aM,aJ,aP])) ?_;rintro⟨m,u⟩ ⟨zh,hu⟩;simp only at zh hu;have hfr:=WU {w with s:=u} (hp m u zh).1;have oD:∀b,iE u=b->bN 226 [.obj 19 0] ⟨(19,SH)::fm 0 8 {w with s:=u},cH 8,20⟩ (.p (.bool b)) ⟨(19,SH)::fm 0 8 {w with s:=u},cH 8,20⟩:=λb h=>h▸hfr;cases hP:iE u with
 |true=>
  have hc:=oD _ hP;have Hs:(u,0)=Z:=by
   rw[<-hu];cases m with
   |zero=>rfl
   |succ m=>unfold St.uA;rw[ai hP]
  subst Hs;simp;refine bK [0,1,2,3,4,5,6,7,20,21,22,23,24,25,26,27,28,29,18,19] hc H H (by simp[aA,fm,fC,eF,aH,aj,ak,aR,aM,aJ,aP]) (by simp[aA]) ?_;simp[-az,fm,fC,eF,aH,aj,ak,aR,aM,aJ,aP,results225];exact⟨[],H⟩
 |false=>
  have hc:=oD _ hP;cases m with
  |zero=>rw[h0 u zh]at hP;cases hP
  |succ m=>
   unfold St.uA at hu;rw[ah (by simp[hP])]at hu;cases hs:u.sure with
   |false=>
    have N2:=hsy _ u zh hP hs;have qp:=hsI m u zh hP hs;rw[ai hs]at hu;generalize hV:u.sync=V at N2 qp hu;obtain⟨v,e⟩:=V;simp only at N2 qp hu;by_cases c:e=0
    .subst c;rw[ai rfl]at hu;simp;refine bK [0,1,2,3,4,5,6,7,20,21,22,23,24,25,26,27,28,29,18,19] hc H H (by simp[aA,fm,fC,eF,aH,aj,ak,aR,aM,aJ,aP]) (by simp[aA]) ?_;simp[fm,fC,eF,aH,aj,ak,aR,aM,aJ,aP,hs];refine aD [0,1,2,3,4,5,6,20,21,22,23,24,25,26,27,28,29] N2 H H (by simp[aA,fm,fC,eF,aH,aj,ak,aR,aM,aJ,aP,hs]) (by simp[aA]) ?_;simp;exact⟨m,v,⟨qp rfl,hu⟩,O,aE [(20,30),(21,31),(22,32),(23,33),(24,34),(25,35),(26,36),(27,37),(28,38),(29,39)] (by simp[fm,fC,eF,aH,aj,ak,aR,aM,aJ,aP])⟩
    .rw[ah c]at hu;have c':(e !=0)=true:=U c;subst hu;simp;refine bK [0,1,2,3,4,5,6,7,20,21,22,23,24,25,26,27,28,29,18,19] hc H H (by simp[aA,fm,fC,eF,aH,aj,ak,aR,aM,aJ,aP]) (by simp[aA]) ?_;simp[fm,fC,eF,aH,aj,ak,aR,aM,aJ,aP,hs];refine aD [0,1,2,3,4,5,6,20,21,22,23,24,25,26,27,28,29] N2 H H (by simp[aA,fm,fC,eF,aH,aj,ak,aR,aM,aJ,aP,hs]) (by simp[aA]) ?_;simp[-az,fm,fC,eF,aH,aj,ak,aR,aM,aJ,aP,c',results225];exact⟨[(20,30),(21,31),(22,32),(23,33),(24,34),(25,35),(26,36),(27,37),(28,38),(29,39)],H⟩
   |true=>
    rw[ah (by simp[hs])]at hu;by_cases cl:u.ix.length=0
    .rw[ai cl]at hu;subst hu;simp;refine bK [0,1,2,3,4,5,6,7,20,21,22,23,24,25,26,27,28,29,18,19] hc H H (by simp[aA,fm,fC,eF,aH,aj,ak,aR,aM,aJ,aP]) (by simp[aA]) ?_;simp[-az,fm,fC,eF,aH,aj,ak,aR,aM,aJ,aP,hs,cl,results225];exact⟨[],by simp[cl]⟩
    .rw[ah cl]at hu;have ho:=zi u (hp _ u zh).2 O;have N3:=qo _ u zh hP hs cl;have qp:=hrI m u zh hP hs cl;simp only at hu;generalize(fy u.ix u.ix.length).key=key at*;generalize hV:u.remove 4 key=V at N3 qp hu;obtain⟨v,b,e⟩:=V;simp only at N3 qp hu;have cl':((u.ix.length:Int)==0)=false:=by rw[kC];omega
     by_cases c:e=0
     .subst c;rw[ai rfl]at hu;simp;refine bK [0,1,2,3,4,5,6,7,20,21,22,23,24,25,26,27,28,29,18,19] hc H H (by simp[aA,fm,fC,eF,aH,aj,ak,aR,aM,aJ,aP]) (by simp[aA]) ?_;simp[fm,fC,eF,aH,aj,ak,aR,aM,aJ,aP,hs,cl'];refine aD [0,1,2,3,4,5,6,20,21,22,23,24,25,26,27,28,29] ho H H (by simp[aA,fm,fC,eF,aH,aj,ak,aR,aM,aJ,aP,hs]) (by simp[aA]) ?_;simp;refine aD [0,1,2,3,4,5,6,20,21,22,23,24,25,26,27,28,29] N3 H H (by simp[aA,fm,fC,eF,aH,aj,ak,aR,aM,aJ,aP,hs]) (by simp[aA]) ?_;simp;exact⟨m,v,⟨qp rfl,hu⟩,O,aE [(20,30),(21,31),(22,32),(23,33),(24,34),(25,35),(26,36),(27,37),(28,38),(29,39)] (by simp[fm,fC,eF,aH,aj,ak,aR,aM,aJ,aP])⟩
     .rw[ah c]at hu;have c':(e !=0)=true:=U c;subst hu;simp;refine bK [0,1,2,3,4,5,6,7,20,21,22,23,24,25,26,27,28,29,18,19] hc H H (by simp[aA,fm,fC,eF,aH,aj,ak,aR,aM,aJ,aP]) (by simp[aA]) ?_;simp[fm,fC,eF,aH,aj,ak,aR,aM,aJ,aP,hs,cl'];refine aD [0,1,2,3,4,5,6,20,21,22,23,24,25,26,27,28,29] ho H H (by simp[aA,fm,fC,eF,aH,aj,ak,aR,aM,aJ,aP,hs]) (by simp[aA]) ?_;simp;refine aD [0,1,2,3,4,5,6,20,21,22,23,24,25,26,27,28,29] N3 H H (by simp[aA,fm,fC,eF,aH,aj,ak,aR,aM,aJ,aP,hs]) (by simp[aA]) ?_;simp[-az,fm,fC,eF,aH,aj,ak,aR,aM,aJ,aP,c',results225];exact⟨[(20,30),(21,31),(22,32),(23,33),(24,34),(25,35),(26,36),(27,37),(28,38),(29,39)],H⟩
end Go.Av
