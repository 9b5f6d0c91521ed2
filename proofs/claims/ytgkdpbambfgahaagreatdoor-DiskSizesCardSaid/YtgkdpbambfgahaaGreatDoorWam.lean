/- DiskSizes, part 13: what the functions compute, and the plain law of that; no condition. -/
import Derived.Test.YtgkdpbambfgahaaGreatDoorWal
import Derived.RangeFuncBox
import Derived.RangeFuncLeaves
import Derived.RangeFuncNested
import Derived.RangeFuncBound
import Derived.RangeFuncCalls
import Derived.Shelf.Abstract
import Derived.Shelf.RegionOpen
import Derived.RegionIn
import Derived.WalkKit
import Derived.OwnWalkIn
import Derived.TacticsInMore
import Derived.LoopNIn
import Derived.LoopIn
import Derived.Recover
set_option linter.all false
set_option maxRecDepth 100000
set_option maxHeartbeats 64000000
namespace Go.Av
open Go.Proofs
theorem NF{P:Program}{f:FuncId}{xs:List AV}{tb:Tb}{r:AV}{aO:Tb}(m:Nat)(h:aI P f xs tb r aO)(hm:aO.nx<=m):aI P f xs tb r ⟨aO.bx,aO.rw,m⟩:=oo h fun _ _ _ g _ _ hw hv=>⟨g,G.le_refl g,hw.sub (fun _ _ e=>e) (fun _ _ e=>e) hm,hv⟩
abbrev uV:=List UInt8×Bool
def Bt(s:uV)(n:Nat):List UInt8×uV:=if s.2=true\/s.1.length<n then(List.replicate n 0,(s.1,true))else(s.1.take n,(s.1.drop n,false))
def gq(s:uV)(n:Nat):Nat×uV:=(iL (Bt s n).1,(Bt s n).2)
theorem IW(n:Nat):iL (List.replicate n 0)=0:=by
 induction n with
 |zero=>rfl
 |succ n ih=>rw[List.replicate_succ',jj,ih];rfl
theorem aiW(nx id:Nat)(hid:id<nx)(s:uV)(n:Nat)(hb:s.1.length<=9223372036854775807)(hn:n<=1000):aI Tryz.prog 436 [.obj id 0,.p (.int n)] ⟨[(id,nN s.1 s.2)],[],nx⟩ (.p (.sl (ah (Bt s n).1))) ⟨[(id,nN (Bt s n).2.1 (Bt s n).2.2)],[],nx+2⟩:=by
 obtain⟨b,t⟩:=s;by_cases h:t=true\/b.length<n
 ·have:=Ff nx id hid b t n h hb hn;simpa[Bt,h]using this
 ·obtain⟨h1,h2⟩:=not_or.1 h;have ht:t=false:=by simpa using h1
  subst ht;have:=NF (nx+2) (JJ nx id hid b n (by omega) hb) (by simp);simpa[Bt,h2]using this
theorem vJ(nx id:Nat)(hid:id<nx)(s:uV)(n:Nat)(hb:s.1.length<=9223372036854775807)(hn:n<=5):aI Tryz.prog 435 [.obj id 0,.p (.int n)] ⟨[(id,nN s.1 s.2)],[],nx⟩ (.p (.int (gq s n).1)) ⟨[(id,nN (gq s n).2.1 (gq s n).2.2)],[],nx+2⟩:=by
 obtain⟨b,t⟩:=s;by_cases h:t=true\/b.length<n
 ·have:=GY nx id hid b t n h hb hn;simpa[gq,Bt,h,IW]using this
 ·obtain⟨h1,h2⟩:=not_or.1 h;have ht:t=false:=by simpa using h1
  subst ht;have:=NF (nx+2) (JK nx id hid b n (by omega) hb hn) (by simp);simpa[gq,Bt,h2]using this
def vj{α:Type}(f:α->α):Nat->α->α
 |0,x=>x
 |n+1,x=>f (vj f n x)
def oK(x:List (List UInt8)×uV):List (List UInt8)×uV:=(x.1++[(Bt (gq x.2 1).2 (gq x.2 1).1).1],(Bt (gq x.2 1).2 (gq x.2 1).1).2)
def kq(x:List Int×uV):List Int×uV:=(x.1++[((gq x.2 5).1:Int)],(gq x.2 5).2)
theorem SR(s:uV)(n:Nat):(Bt s n).1.length=n:=by
 unfold Bt;split
 ·simp
 ·rename_i h;simp at h;simp;omega
theorem C7(s:uV)(n:Nat):(Bt s n).2.1.length<=s.1.length:=by
 unfold Bt;split<;>simp
theorem oV(s:uV)(n:Nat):(gq s n).2.1.length<=s.1.length:=C7 s n
theorem E4(s:uV)(n:Nat):(gq s n).1<256^n:=zY n _ (SR s n)
theorem E5(x:List (List UInt8)×uV):(oK x).2.1.length<=x.2.1.length:=Nat.le_trans (C7 _ _) (oV _ _)
theorem E6(x:List Int×uV):(kq x).2.1.length<=x.2.1.length:=oV _ _
theorem IX(n:Nat)(x:List (List UInt8)×uV):(vj oK n x).2.1.length<=x.2.1.length:=by
 induction n with
 |zero=>exact Nat.le_refl _
 |succ n ih=>exact Nat.le_trans (E5 _) ih
theorem IY(n:Nat)(x:List Int×uV):(vj kq n x).2.1.length<=x.2.1.length:=by
 induction n with
 |zero=>exact Nat.le_refl _
 |succ n ih=>exact Nat.le_trans (E6 _) ih
theorem C8(n:Nat)(x:List (List UInt8)×uV):(vj oK n x).1.length=x.1.length+n:=by
 induction n with
 |zero=>rfl
 |succ n ih=>simp[vj,oK,ih];omega
theorem NG(n:Nat)(x:List Int×uV):(vj kq n x).1.length=x.1.length+n:=by
 induction n with
 |zero=>rfl
 |succ n ih=>simp[vj,kq,ih];omega
def qU(k:Nat)(s:uV):List (List UInt8)×uV:=vj oK k ([],s)
def Fs(kind k:Nat)(s:uV):List Int×uV:=vj kq (k+if kind=1 then 0 else 1) ([],s)
def u9(kind:Nat)(ks:List (List UInt8))(vs:List Int)(r:uV):Bool:=!r.2&&r.1.isEmpty&&(kind==1||kind==2)&&fc (kind==1) ks vs
def upP(kind k:Nat)(s:uV):PC:=let K:=qU k s;let V:=Fs kind k K.2;if u9 kind K.1 V.1 V.2 then .tp [dh (kind==1) K.1 V.1,.int 0]else .tp [dh false [] [],.int 10]
theorem J2(b:List UInt8)(hb:b.length<=9223372036854775807):aB Tryz.prog 431 [.sl (ah b)] (upP (gq (b,false) 1).1 (gq (gq (b,false) 1).2 1).1 (gq (gq (b,false) 1).2 1).2):=by
 have r1:=oV (b,false) 1;have l1:=E4 (b,false) 1;have c1:=vJ 2 1 (by omega) (b,false) 1 hb (by omega);generalize gq (b,false) 1=x1 at*;obtain⟨kind,s1⟩:=x1;have r2:=oV s1 1;have l2:=E4 s1 1;have hb1:s1.1.length<=9223372036854775807:=Nat.le_trans r1 hb;have c2:=vJ 4 1 (by omega) s1 1 hb1 (by omega);simp only at*;generalize gq s1 1=x2 at*;obtain⟨k,s2⟩:=x2;have uy:s2.1.length<=9223372036854775807:=Nat.le_trans r2 hb1;simp only at*;have e:upP kind k s2=CD [if u9 kind (qU k s2).1 (Fs kind k (qU k s2).2).1 (Fs kind k (qU k s2).2).2 then dh (kind==1) (qU k s2).1 (Fs kind k (qU k s2).2).1 else dh false [] [],.int (if u9 kind (qU k s2).1 (Fs kind k (qU k s2).2).1 (Fs kind k (qU k s2).2).2 then 0 else 10)]:=by
  simp only[upP,CD];split<;>rfl
 refine aq (ys:=[_,_]) [10] [(6,[(1,.r 1),(4,.w [1]),(5,.w [1]),(8,.f [1]),(10,.s 1 [])]),(10,[(1,.r 1),(3,.w [1]),(5,.f [1]),(7,.s 1 [])])] [(1,6)] mixed Tryz.func431 rfl (by kernel_rfl) (by kernel_rfl) (by simp[Tryz.ntmps431]) e ?_;have kbe:((kind:Int)==1)=(kind==1):=by rw[Bool.eq_iff_iff];simp;omega
 generalize hK:qU k s2=K;generalize hV:Fs kind k K.2=V;simp;refine az c1 (by simp) (by simp[ay]) trivial rfl ?_;simp;refine az c2 (by simp) (by simp[ay]) trivial rfl ?_;simp;refine aN (fun i:Nat=>i<=k) (fun i=>[(2,.obj 0 0),(4,.obj 1 0),(5,.p (.int kind)),(6,.p (.int k)),(7,.obj 6 0),(18,.p (.int k)),(19,.p (.int i))]) (fun i=>⟨[(6,⟨341,3,[.p (.bool (kind==1)),.own 7 ((qU i s2).1.map PC.str),.own 8 []]⟩),(1,nN (qU i s2).2.1 (qU i s2).2.2),(0,⟨341,3,[.p (.bool false),.p .nil,.p .nil]⟩)],[(7,9,1),(8,3,1)],9⟩) (fun i=>k-i) 0 (by simp) _ ((iu 6 1 9 1 ⟨341,3,[.p (.bool (kind==1)),.p .nil,.p .nil]⟩ [] ?_ ?_).trans (iu 6 2 3 1 ⟨341,3,[.p (.bool (kind==1)),.own 7 [],.p .nil]⟩ [] ?_ ?_)) (aA ?_) ?_
 ·simp[kbe]
 ·simp
 ·simp[kbe]
 ·simp
 ·simp[kbe,qU,vj]
 ·intro i hi;have q1:=IX i ([],s2);by_cases c:i<k
  ·have hs:qU (i+1) s2=oK (qU i s2):=rfl;have hl:=C8 i ([],s2);have e:vj oK i ([],s2)=qU i s2:=rfl;rw[e]at q1 hl;generalize qU i s2=X at*;obtain⟨ks,s⟩:=X;simp only[List.length_nil,Nat.zero_add]at q1 hl;have q2:=oV s 1;have q3:=E4 s 1;have hb3:s.1.length<=9223372036854775807:=Nat.le_trans q1 uy;have d1:=vJ 9 1 (by omega) s 1 hb3 (by omega);have d2:=aiW 11 1 (by omega) (gq s 1).2 (gq s 1).1 (Nat.le_trans q2 hb3) (by omega);simp[c];refine az d1 (by simp) (by simp[ay]) trivial rfl ?_;simp;refine az d2 (by simp) (by simp[ay]) trivial rfl ?_;simp;refine⟨by omega,by omega,i+1,by omega,by omega,aE [(7,13)] ?_⟩;simp[hs,oK,af (n:=(i:Int)+1) (by omega) (by omega)]
  ·have e0:i=k:=by omega
   subst e0;have q1:K.2.1.length<=s2.1.length:=by rw[<-hK];exact q1
   have hl:K.1.length=i:=by have:=C8 i ([],s2);rw[<-hK];simpa[qU]using this
   obtain⟨ks,s3⟩:=K;simp only at hV q1 hl;have hb3:s3.1.length<=9223372036854775807:=Nat.le_trans q1 uy;have be:∀vs:List Int,aB Tryz.prog 320 [.agg false [.bool (kind==1),.sl (ks.map PC.str),.sl (vs.map PC.int)]] (.int (if kind==1 then 0 else 1)):=fun vs=>jd _ _ _;have ebh:IntKind.i64.wrap ((i:Int)+(if kind==1 then 0 else 1:Int))=((i+if kind=1 then 0 else 1:Nat):Int):=by
    by_cases c:kind=1
    ·simp[c,af (n:=(i:Int)) (by omega) (by omega)]
    ·simp[c];exact af (by omega) (by omega)
   simp[hK];refine ai (be []) (by simp) ?_;simp;rw[show((if kind=1 then(0:Int)else 1))=(if kind==1 then 0 else 1:Int) by simp,ebh];obtain⟨m,hm⟩:∃m,m=i+if kind=1 then 0 else 1:=⟨_,rfl⟩
   have hm2:m<=300:=by rw[hm];split<;>omega
   rw[<-hm];have hVm:V=vj kq m ([],s3):=by rw[<-hV,hm];rfl
   refine aN (fun j:Nat=>j<=m) (fun j=>[(2,.obj 0 0),(4,.obj 1 0),(5,.p (.int kind)),(7,.obj 6 0),(35,.p (.int m)),(36,.p (.int j))]) (fun j=>⟨[(6,⟨341,3,[.p (.bool (kind==1)),.own 7 (ks.map PC.str),.own 8 ((vj kq j ([],s3)).1.map PC.int)]⟩),(1,nN (vj kq j ([],s3)).2.1 (vj kq j ([],s3)).2.2),(0,⟨341,3,[.p (.bool false),.p .nil,.p .nil]⟩)],[(7,9,1),(8,3,1)],9⟩) (fun j=>m-j) 0 (by simp) _ (AS.le_refl _ _) (aA ?_) ?_
   ·simp[vj]
   ·intro j hj;have w1:=IY j ([],s3);have w2:=NG j ([],s3);by_cases c:j<m
    ·have hs:vj kq (j+1) ([],s3)=kq (vj kq j ([],s3)):=rfl;generalize vj kq j ([],s3)=X at*;obtain⟨vs,s⟩:=X;simp only[List.length_nil,Nat.zero_add]at w1 w2;have d1:=vJ 9 1 (by omega) s 5 (Nat.le_trans w1 hb3) (by omega);simp[c];refine az d1 (by simp) (by simp[ay]) trivial rfl ?_;simp;refine⟨by omega,by omega,j+1,by omega,by omega,aE [(8,11)] ?_⟩;simp[hs,kq,af (n:=(j:Int)+1) (by omega) (by omega)]
    ·have e0:j=m:=by omega
     subst e0;rw[<-hVm]at w1 w2⊢;obtain⟨vs,r,sh⟩:=V;simp only[List.length_nil,Nat.zero_add]at w1 w2;cases sh
     ·cases r with
      |cons x r=>simp[u9,Tryz.results431]
      |nil=>
       by_cases k1:kind=1
       ·subst k1;simp[u9];refine ai (qS true ks vs (by omega) (by omega)) (by simp) ?_;cases hr:fc true ks vs<;>simp[Tryz.results431]
       ·by_cases k2:kind=2
        ·subst k2;simp[u9];refine ai (qS false ks vs (by omega) (by omega)) (by simp) ?_;cases hr:fc false ks vs<;>simp[Tryz.results431]
        ·have k1':((kind:Int) !=1)=true:=by simp;omega
         have k2':((kind:Int) !=2)=true:=by simp;omega
         simp[u9,Tryz.results431,k1,k2,k1',k2']
     ·simp[u9,Tryz.results431]
theorem EC{l:Bool}{ks:List (List UInt8)}{vs:List Int}(h:fc l ks vs=true):∀v∈vs,vB v=true:=by
 simp only[fc,Bool.and_eq_true,List.all_eq_true]at h;exact h.2
theorem xI(y:UInt8)(t:List UInt8):gq (y::t,false) 1=(y.toNat,(t,false)):=by
 simp[gq,Bt,iL]
theorem ED(ks:List (List UInt8))(y:UInt8)(t:List UInt8)(h:y.toNat<=t.length):oK (ks,(y::t,false))=(ks++[t.take y.toNat],(t.drop y.toNat,false)):=by
 have:¬t.length<y.toNat:=by omega
 simp[oK,xI,Bt,this]
theorem Q_(vs:List Int)(r:List UInt8)(n:Nat)(h:5*n<=r.length):vj kq n (vs,(r,false))=(vs++(List.range n).map (fun i=>((iL ((r.drop (5*i)).take 5):Nat):Int)),(r.drop (5*n),false)):=by
 induction n with
 |zero=>simp[vj]
 |succ n ih=>
  have h5:¬(r.drop (5*n)).length<5:=by simp;omega
  rw[vj,ih (by omega),List.range_succ];simp only[kq,gq,Bt,h5,Bool.false_eq_true,or_self,if_false];simp[Nat.mul_add]
theorem Im{ks:List (List UInt8)}{R:List UInt8}(h:∀s∈ks,s.length<=100):∀i,i<=ks.length->vj oK i ([],(dI ks++R,false))=(ks.take i,(dI (ks.drop i)++R,false)):=by
 intro i
 induction i with
 |zero=>intro _;simp[vj]
 |succ i ih=>
  intro hi;have c:i<ks.length:=by omega
  have hl:=h ks[i] (by simp);have e:dI (ks.drop i)++R=UInt8.ofNat ks[i].length::(ks[i]++(dI (ks.drop (i+1))++R)):=by
   rw[List.drop_eq_getElem_cons c];simp only[dI,List.flatMap_cons,List.cons_append,List.append_assoc]
  have t:(UInt8.ofNat ks[i].length).toNat=ks[i].length:=by simp;omega
  rw[vj,ih (by omega),e,ED _ _ _ (by rw[t];simp),t,List.take_succ_eq_append_getElem c];simp
theorem Ml{v:Int}(h:vB v=true):((iL (pY v):Nat):Int)=v:=by
 simp only[vB,Bool.and_eq_true,decide_eq_true_eq]at h;obtain⟨m,rfl⟩:∃m:Nat,v=m:=⟨v.toNat,by omega⟩;simp[iL,pY,cz];omega
theorem Mm{vs:List Int}:∀{i:Nat} (h:i<vs.length),((dM vs).drop (5*i)).take 5=pY vs[i]:=by
 induction vs with
 |nil=>intro i h;simp at h
 |cons v vs ih=>
  intro i h;have e:dM (v::vs)=pY v++dM vs:=rfl;have l:(pY v).length=5:=rfl;cases i with
  |zero=>rw[e];simp[l]
  |succ i=>
   have:=ih (i:=i) (by simpa using h);rw[e,List.drop_append,l,List.drop_of_length_le (by rw[l];omega)];simpa[Nat.mul_add]using this
theorem Cz(vs:List Int):(dM vs).length=5*vs.length:=by
 induction vs with
 |nil=>rfl
 |cons v vs ih=>
  have e:dM (v::vs)=pY v++dM vs:=rfl;rw[e,List.length_append,ih];simp[pY];omega
end Go.Av
namespace Go.Av
open Go.Proofs Go.aW
theorem Q0(nx k:Nat)(hb:k<=4000000000000):aI Tryz.prog 143 [.p .nil,.p (.int k)] ⟨[],[],nx⟩ (.view nx 0 0 1 none) ⟨[(nx,⟨5,1,[]⟩)],[],nx+1⟩:=by
 have w1:IntKind.i64.wrap (k:Int)=k:=af (by omega) (by omega);by_cases h0:k=0
 ·subst h0;refine fU (r:= .p .nil) (aO:=⟨[],[],nx⟩) (el:=5) (s:=1) ?_ trivial;refine QgQ (rs:=[_]) [22] [] [] Tryz.func143 rfl (by simp[Tryz.ntmps143]) ?_;have z:IntKind.i64.wrap 0=0:=af (by omega) (by omega);simp[Tryz.results143,z];exact⟨[],by simp⟩
 ·have e0:0<k:=by omega
  have z:IntKind.i64.wrap 0=0:=af (by omega) (by omega);refine QgQ (rs:=[_]) [22] [] [] Tryz.func143 rfl (by simp[Tryz.ntmps143]) ?_;simp[Tryz.results143,w1,z,e0];exact⟨by omega,by omega,[],by simp⟩
theorem Co(nx:Nat)(L:List (List PC))(hw:∀l∈L,∀x∈l,x.width=1)(ht:∀l∈L,∀x∈l,cF x=true)(hb:(L.map List.length).sum<=1000000000000)(uy:L.length<=1000000000000):aI Tryz.prog 57 [.p (.sl (L.map .sl))] ⟨[],[],nx⟩ (.view nx 0 (L.map List.length).sum 1 none) ⟨[(nx,⟨5,1,(L.flatten.flatMap gu).map .p⟩)],[],nx+1⟩:=by
 refine QgQ (rs:=[_]) [] [] [] Tryz.func57 rfl (by simp[Tryz.ntmps57]) ?_;simp;refine bW (fun k:Nat=>k<=L.length) (fun k=>[(0,.p (.sl (L.map .sl))),(2,.p .nil),(9,.p (.sl (L.map .sl))),(10,.p (.int L.length)),(3,.p (.int ((L.map List.length).take k).sum)),(11,.p (.int k))]) (fun k=>L.length-k) 0 (by simp) (aA (by simp)) ?_;intro k hk;by_cases c1:k<L.length
 ·have e1:decide ((k:Int)<L.length)=true:=by simp;omega
  have hs:((L.map List.length).take (k+1)).sum=((L.map List.length).take k).sum+L[k].length:=by
   rw[kM (by simpa using c1)];simp
  have Xb:=lO (L.map List.length) (k+1);have w1:IntKind.i64.wrap ((((L.map List.length).take k).sum:Int)+(L[k].length:Int))=(((L.map List.length).take (k+1)).sum:Int):=by rw[hs];push_cast;exact af (by omega) (by omega)
  have w2:IntKind.i64.wrap ((k:Int)+1)=((k+1:Nat):Int):=by rw[af (by omega) (by omega)];rfl
  have e2:decide ((((L.map List.length).take (k+1)).sum:Int)<0)=false:=by simp
  simp[c1,w1,w2];refine⟨k+1,by omega,by omega,aA ?_⟩;simp
 ·have e1:decide ((k:Int)<L.length)=false:=by simp;omega
  have hk':(L.map List.length).take k=L.map List.length:=List.take_of_length_le (by simp;omega);simp[c1,hk'];refine az (Q0 nx (L.map List.length).sum (by omega)) (by simp) trivial trivial rfl ?_;simp;refine aN (fun k:Nat=>k<=L.length) (fun k=>[(0,.p (.sl (L.map .sl))),(2,.p .nil),(25,.p (.sl (L.map .sl))),(26,.p (.int L.length)),(6,.view nx 0 ((L.map List.length).take k).sum 1 none),(27,.p (.int k))]) (fun k=>⟨[(nx,⟨5,1,((L.take k).flatten.flatMap gu).map .p⟩)],[],nx+1⟩) (fun k=>L.length-k) 0 (by simp) _ (AS.le_refl _ _) (aA (by simp)) ?_;clear hk c1 e1 hk' k;intro k hk;by_cases c1:k<L.length
  ·have e1:decide ((k:Int)<L.length)=true:=by simp;omega
   have hs:((L.map List.length).take (k+1)).sum=((L.map List.length).take k).sum+L[k].length:=by
    rw[kM (by simpa using c1)];simp
   have Xb:=lO (L.map List.length) (k+1);have w2:IntKind.i64.wrap ((k:Int)+1)=((k+1:Nat):Int):=by rw[af (by omega) (by omega)];rfl
   have hwk:=hw L[k] (by simp);have lZ:=ht L[k] (by simp);have hfl:(L.take (k+1)).flatten=(L.take k).flatten++L[k]:=by rw[kM c1];simp only[List.flatten_append,List.flatten_cons,List.flatten_nil,List.append_nil]
   have hlen:(((L.take k).flatten.flatMap gu).map AV.p).length=((L.map List.length).take k).sum:=by
    have hww:∀x∈(L.take k).flatten,x.width=1:=fun x hx=>by
     obtain⟨l,hl,hx⟩:=List.mem_flatten.1 hx;exact hw l (List.mem_of_mem_take hl) x hx
    have:=mm hww;simp only[List.length_map,this,List.length_flatten,List.map_take,Nat.mul_one]
   have Xc:List.take ((L.map List.length).take k).sum (((L.take k).flatten.flatMap gu).map AV.p)=((L.take k).flatten.flatMap gu).map AV.p:=List.take_of_length_le (by omega);simp[c1,w2];refine⟨by simpa using Nat.le_of_eq hlen.symm,hwk,lZ,by omega,by omega,k+1,by omega,by omega,aE [(nx,nx+1)] ?_⟩;rw[hfl,hs,Xc];simp
  ·have e1:decide ((k:Int)<L.length)=false:=by simp;omega
   have hkL:k=L.length:=by omega
   subst hkL;have hk':(L.map List.length).take L.length=L.map List.length:=List.take_of_length_le (by simp);simp[Tryz.results57,hk'];exact⟨[],by simp⟩
theorem Ie(L:List (List PC))(hw:∀l∈L,∀x∈l,x.width=1)(ht:∀l∈L,∀x∈l,cF x=true)(hb:(L.map List.length).sum<=1000000000000)(uy:L.length<=1000000000000):aB Tryz.prog 57 [.sl (L.map .sl)] (.sl L.flatten):=bN (xs:=[_]) (Co 0 L hw ht hb uy) (Cp (e:=5) (by simp) (by simp[List.length_flatten]) (fun x h=>by obtain⟨l,h1,h2⟩:=List.mem_flatten.1 h;exact hw l h1 x h2) (fun x h=>by obtain⟨l,h1,h2⟩:=List.mem_flatten.1 h;exact ht l h1 x h2))
theorem Gi(L:List (List UInt8))(hb:L.flatten.length<=1000000000000)(uy:L.length<=1000000000000):aB Tryz.prog 57 [.sl (L.map cy)] (cy L.flatten):=by
 have h:=Ie (L.map ah) (fun l hl x hx=>by obtain⟨b,_,rfl⟩:=List.mem_map.1 hl;exact cg b x hx) (fun l hl x hx=>by obtain⟨b,_,rfl⟩:=List.mem_map.1 hl;exact fR b x hx) (by
  have e:((L.map ah).map List.length).sum=L.flatten.length:=by
   rw[List.length_flatten,List.map_map];congr 1;refine List.map_congr_left fun b _=>by simp[ah]
  omega) (by simpa using uy)
 have e:(L.map ah).flatten=ah L.flatten:=by simp[ah,List.map_flatten];rfl
 rw[e,List.map_map]at h;exact h
end Go.Av
namespace Go.aW
def PA(a:Nat):Nat:=(a/16)^^^Go.Av.kn.getD (a%16) 0
def K9(c:Nat)(x:UInt8):Nat:=PA (PA (c^^^x.toNat))
def oD(c:Nat)(b:List UInt8):Nat:=b.foldl K9 c
def tc(s:Nat)(b:List UInt8):Nat:=oD (s^^^4294967295) b^^^4294967295
end Go.aW
namespace Go.Av
open Go.Proofs Go.aW
theorem Au{n:Nat}(h:n<4294967296):IntKind.u32.wrap (n:Int)=(n:Int):=by
 have e1:IntKind.u32.bits=32:=rfl;have e2:IntKind.u32.signed=false:=rfl;unfold IntKind.wrap;simp only[e1,e2,Bool.false_and,Bool.false_eq_true,if_false];omega
theorem B8{a b:Nat}(ha:a<4294967296)(hb:b<4294967296):bits .xor .u32 (a:Int) (b:Int)=((a^^^b:Nat):Int):=by
 unfold bits;simp only[BitVec.ofInt_natCast,BitVec.toNat_xor,BitVec.toNat_ofNat];have e:IntKind.u32.bits=32:=rfl;rw[e,Nat.mod_eq_of_lt (by omega),Nat.mod_eq_of_lt (by omega)];exact Au (Nat.xor_lt_two_pow (n:=32) (by omega) (by omega))
theorem agV{a:Nat}(ha:a<4294967296):bits .and .u32 (a:Int) 15=((a%16:Nat):Int):=by
 have h15:(15:Int)=((15:Nat):Int):=rfl;rw[h15];unfold bits;simp only[BitVec.ofInt_natCast,BitVec.toNat_and,BitVec.toNat_ofNat];have e:IntKind.u32.bits=32:=rfl;rw[e,Nat.mod_eq_of_lt (by omega),Nat.mod_eq_of_lt (by omega),Au (Nat.lt_of_le_of_lt Nat.and_le_left ha)];have:=Nat.and_two_pow_sub_one_eq_mod a 4;rw[show(15:Nat)=2^4-1 by rfl,this]
theorem agW(a:Nat):(a:Int).fdiv (2^min 4 IntKind.u32.bits)=((a/16:Nat):Int):=by
 have e:min 4 IntKind.u32.bits=4:=rfl;rw[e];show Int.fdiv (a:Int) 16=_;rw[Int.fdiv_eq_ediv_of_nonneg _ (by omega)];omega
theorem FU(i:Nat):kn.getD i 0<4294967296:=by
 by_cases h:i<16
 ·have:∀i,i<16->kn.getD i 0<4294967296:=by decide
  exact this i h
 ·rw[List.getD_eq_getElem?_getD,List.getElem?_eq_none (by simp[kn];omega)];simp
theorem Aw{a:Nat}(h:a<4294967296):PA a<4294967296:=Nat.xor_lt_two_pow (n:=32) (by omega) (FU _)
theorem PD{c:Nat}(h:c<4294967296)(x:UInt8):K9 c x<4294967296:=Aw (Aw (Nat.xor_lt_two_pow (n:=32) (by omega) (by have:=x.toNat_lt;omega)))
theorem Ay{c:Nat}(h:c<4294967296)(b:List UInt8):oD c b<4294967296:=by
 induction b generalizing c with
 |nil=>exact h
 |cons x b ih=>exact ih (PD h x)
theorem rK{c:Nat}(h:c<4294967296)(b:List UInt8):tc c b<4294967296:=Nat.xor_lt_two_pow (n:=32) (Ay (Nat.xor_lt_two_pow (n:=32) (by omega) (by omega)) b) (by omega)
theorem BI(c:Nat)(a b:List UInt8):oD c (a++b)=oD (oD c a) b:=List.foldl_append
theorem HH(c:Nat)(a:List UInt8)(x:UInt8):oD c (a++[x])=K9 (oD c a) x:=by rw[BI];rfl
theorem B9(a:Nat)(ha:a<4294967296):∃i q:Nat,i<16/\bits .and .u32 (a:Int) 15=(i:Int)/\(a:Int).fdiv (2^min 4 IntKind.u32.bits)=(q:Int)/\bits .xor .u32 (q:Int) ((kn[i]?.getD 0:Nat):Int)=((PA a:Nat):Int):=⟨a%16,a/16,Nat.mod_lt _ (by omega),agV ha,agW a,by
 have:=FU (a%16);rw[List.getD_eq_getElem?_getD]at this;rw[B8 (by omega) this];rfl⟩
theorem cM(l:List UInt8)(j:Nat)(h:j<(ah l).length):(ah l)[j]=oc (l[j]'(by simpa[ah]using h)):=by simp[ah]
abbrev mz(n:Nat):PC:= .sc (.int .u32 n)
@[simp]theorem aaH:gL Tryz.prog 241=some (16,1,false):=by kernel_rfl
theorem K_(s:Nat)(hs:s<4294967296)(L:List (List UInt8))(hL:L.length<=1000000000000)(hb:∀b∈L,b.length<=1000000000000):aB Tryz.prog 58 [mz s,.sl (L.map cy)] (mz (tc s L.flatten)):=by
 have h0:s^^^4294967295<4294967296:=Nat.xor_lt_two_pow (n:=32) (by omega) (by omega);have x0:=B8 (a:=s) (b:=4294967295) hs (by omega);have x1:bits .xor .u32 4294967295 (s:Int)=((s^^^4294967295:Nat):Int):=by rw[Nat.xor_comm];exact B8 (a:=4294967295) (by omega) hs
 refine QpQ (ys:=[_]) [] [] [] Tryz.func58 rfl (by simp[Tryz.ntmps58]) ?_;have mx:IntKind.u32.max=4294967295:=rfl;have sg:IntKind.u32.signed=false:=rfl;simp[mx,sg,x1];refine bW (fun k:Nat=>k<=L.length) (fun k=>[(12,.p (.sl (L.map cy))),(13,.p (.int L.length)),(14,.p (.int k)),(5,.p (mz (oD (s^^^4294967295) (L.take k).flatten)))]) (fun k=>L.length-k) 0 (by simp) (aA (by simp[oD])) ?_;intro k hk;by_cases ck:k<L.length
 ·simp[ck];refine bW (fun j:Nat=>j<=L[k].length) (fun j=>[(12,.p (.sl (L.map cy))),(13,.p (.int L.length)),(14,.p (.int k)),(18,.p (cy L[k])),(19,.p (.int L[k].length)),(20,.p (.int j)),(5,.p (mz (oD (s^^^4294967295) ((L.take k).flatten++L[k].take j))))]) (fun j=>L[k].length-j) 0 (by simp) (aA (by simp)) ?_;intro j hj;have hbk:=hb _ (List.getElem_mem ck);by_cases cj:j<L[k].length
  ·have w1:IntKind.i64.wrap ((j:Int)+1)=((j+1:Nat):Int):=by rw[af (by omega) (by omega)];rfl
   have hC:oD (s^^^4294967295) ((L.take k).flatten++L[k].take j)<4294967296:=Ay h0 _;have hts:oD (s^^^4294967295) ((L.take k).flatten++L[k].take (j+1))=K9 (oD (s^^^4294967295) ((L.take k).flatten++L[k].take j)) L[k][j]:=by
    rw[List.take_succ_eq_append_getElem cj,<-List.append_assoc,HH]
   generalize oD (s^^^4294967295) ((L.take k).flatten++L[k].take j)=C at*;have wx:IntKind.u32.wrap (L[k][j].toNat:Int)=(L[k][j].toNat:Int):=Au (by have:=L[k][j].toNat_lt;omega);have hX:C^^^L[k][j].toNat<4294967296:=Nat.xor_lt_two_pow (n:=32) (by omega) (by have:=L[k][j].toNat_lt;omega);have xa:=B8 hC (b:=L[k][j].toNat) (by have:=L[k][j].toNat_lt;omega);obtain⟨i1,q1,l1,a1,s1,y1⟩:=B9 _ hX;obtain⟨i2,q2,l2,a2,s2,y2⟩:=B9 _ (Aw hX);simp[cj,w1,cM,wx,xa,a1,s1,y1,a2,s2,y2];exact⟨by omega,by omega,j+1,by omega,by omega,aA (by simp[hts,K9])⟩
  ·obtain rfl:j=L[k].length:=by omega
   have w1:IntKind.i64.wrap ((k:Int)+1)=((k+1:Nat):Int):=by rw[af (by omega) (by omega)];rfl
   have hfl:(L.take (k+1)).flatten=(L.take k).flatten++L[k]:=by rw[List.take_succ_eq_append_getElem ck];simp only[List.flatten_append,List.flatten_cons,List.flatten_nil,List.append_nil]
   simp[w1];exact⟨k+1,by omega,by omega,aA (by simp[hfl])⟩
 ·obtain rfl:k=L.length:=by omega
  have hC:oD (s^^^4294967295) L.flatten<4294967296:=Ay h0 _;have x2:bits .xor .u32 4294967295 (oD (s^^^4294967295) L.flatten:Int)=((tc s L.flatten:Nat):Int):=by
   have:=B8 (a:=4294967295) (by omega) hC;rw[Nat.xor_comm 4294967295 (oD _ _)]at this;exact this
  simp[mx,sg,x2,Tryz.results58]
end Go.Av
namespace Go.aW
def rO(b:List UInt8):Nat:=tc 0 b
def four(n:Nat):List UInt8:=[UInt8.ofNat n,UInt8.ofNat (n/256),UInt8.ofNat (n/65536),UInt8.ofNat (n/16777216)]
def frame(b:List UInt8):List UInt8:=b++four (rO b)
def dP(b:List UInt8):List UInt8×Int:=if b.length<4 then([],11)else if b.drop (b.length-4)=four (rO (b.take (b.length-4)))then(b.take (b.length-4),0)else([],33)
theorem CO(n:Nat):(four n).length=4:=rfl
theorem fZ(b:List UInt8):(frame b).length=b.length+4:=by simp[frame,four]
theorem qd(b:List UInt8):dP (frame b)=(b,0):=by
 unfold dP;rw[if_neg (by rw[fZ];omega)];have e:(frame b).length-4=b.length:=by rw[fZ];omega
 rw[e];have h1:(frame b).take b.length=b:=by simp[frame]
 have h2:(frame b).drop b.length=four (rO b):=by simp[frame]
 rw[h1,h2,if_pos rfl]
theorem Q6{b x:List UInt8}(h:dP b=(x,0)):b=frame x:=by
 unfold dP at h;split at h
 ·cases h
 ·split at h
  ·rename_i h1 h2;injection h with h3 _;rw[<-h3];unfold frame;rw[<-h2,List.take_append_drop]
  ·cases h
end Go.aW
namespace Go.Av
open Go.Proofs Go.aW
theorem ME(L:List (List UInt8))(hL:L.length<=1000000000000)(hb:∀b∈L,b.length<=1000000000000):aB Tryz.prog 69 [.sl (L.map cy)] (mz (rO L.flatten)):=by
 refine QpQ (ys:=[_]) [] [] [] Tryz.func69 rfl (by simp[Tryz.ntmps69]) ?_;simp;refine ai (K_ 0 (by omega) L hL hb) (by simp) ?_;simp[Tryz.results69,rO]
theorem Gr(n:Nat)(h:n<4294967296):aB Tryz.prog 251 [mz n] (cy (four n)):=by
 have w8:∀m:Nat,IntKind.u8.wrap (m:Int)=((UInt8.ofNat m).toNat:Int):=Q5;have s8:(n:Int).fdiv (2^min 8 IntKind.u32.bits)=((n/256:Nat):Int):=by
  show Int.fdiv (n:Int) 256=_;rw[Int.fdiv_eq_ediv_of_nonneg _ (by omega)];omega
 have s16:(n:Int).fdiv (2^min 16 IntKind.u32.bits)=((n/65536:Nat):Int):=by
  show Int.fdiv (n:Int) 65536=_;rw[Int.fdiv_eq_ediv_of_nonneg _ (by omega)];omega
 have s24:(n:Int).fdiv (2^min 24 IntKind.u32.bits)=((n/16777216:Nat):Int):=by
  show Int.fdiv (n:Int) 16777216=_;rw[Int.fdiv_eq_ediv_of_nonneg _ (by omega)];omega
 refine QpQ (ys:=[_]) [] [] [] Tryz.func251 rfl (by simp[Tryz.ntmps251]) ?_;have e:ah (four n)=[oc (UInt8.ofNat n),oc (UInt8.ofNat (n/256)),oc (UInt8.ofNat (n/65536)),oc (UInt8.ofNat (n/16777216))]:=rfl;show aw _ _ _ _ (ve _ _ (Gl [PC.sl (ah (four n))]));rw[e];obtain⟨a,ha,s8⟩:∃a:Nat,n/256=a/\(n:Int).fdiv (2^min 8 IntKind.u32.bits)=(a:Int):=⟨_,rfl,s8⟩;obtain⟨b,hb,s16⟩:∃a:Nat,n/65536=a/\(n:Int).fdiv (2^min 16 IntKind.u32.bits)=(a:Int):=⟨_,rfl,s16⟩;obtain⟨c,hc,s24⟩:∃a:Nat,n/16777216=a/\(n:Int).fdiv (2^min 24 IntKind.u32.bits)=(a:Int):=⟨_,rfl,s24⟩;rw[ha,hb,hc];have v0:=w8 n;have v8:=w8 a;have v16:=w8 b;have v24:=w8 c;simp[s8,s16,s24,v0,v8,v16,v24,Tryz.results251]
theorem C2(L:List (List UInt8)):((L.map ah).map List.length).sum=L.flatten.length:=by
 rw[List.length_flatten,List.map_map];congr 1;refine List.map_congr_left fun b _=>by simp[ah]
theorem aiR(L:List (List UInt8)):(L.map ah).flatten=ah L.flatten:=by simp[ah,List.map_flatten];rfl
@[reducible]def ew(b:List UInt8):Ob:=⟨5,1,(ah b).map .p⟩
theorem Y_(nx:Nat)(L:List (List UInt8))(hb:L.flatten.length<=1000000000000)(uy:L.length<=1000000000000):aI Tryz.prog 57 [.p (.sl (L.map cy))] ⟨[],[],nx⟩ (.view nx 0 L.flatten.length 1 none) ⟨[(nx,ew L.flatten)],[],nx+1⟩:=by
 have h:=Co nx (L.map ah) (fun l hl x hx=>by obtain⟨b,_,rfl⟩:=List.mem_map.1 hl;exact cg b x hx) (fun l hl x hx=>by obtain⟨b,_,rfl⟩:=List.mem_map.1 hl;exact fR b x hx) (by rw[C2];exact hb) (by simpa using uy);rw[C2,aiR,fQ,List.map_map]at h;exact h
theorem xk(bx:List (Nat×Ob))(k id:Nat)(b:List UInt8)(h:lk id bx=some (ew b))(n:Nat)(hn:n=b.length):cQ bx (k+1) (.view id 0 n 1 none) (cy b):=by
 subst hn;refine⟨_,h,by omega,by simp[ah],by simp[ah],?_,?_,?_⟩
 ·rw[mU,fQ];simp only[List.drop_zero,Nat.mul_one];exact List.take_of_length_le (by simp[ah])
 ·exact cg b
 ·exact fR b
theorem xj(L:List (List UInt8))(hL:L.flatten.length<=1000000000)(hL2:L.length<=1000000000):aB Tryz.prog 178 [.sl (L.map cy)] (cy (frame L.flatten)):=by
 have hb:∀b∈L,b.length<=1000000000000:=fun b hb=>by
  have:b.length<=L.flatten.length:=(List.sublist_flatten_of_mem hb).length_le;omega
 have hs:rO L.flatten<4294967296:=rK (by omega) _;refine bN (xs:=[_]) (r:= .view 1 0 (frame L.flatten).length 1 none) (aO:=⟨[(1,ew (frame L.flatten))],[],2⟩) ?_ (xk _ 3 1 _ (by simp[lk]) _ rfl);refine QgQ (rs:=[_]) [] [] [] Tryz.func178 rfl (by simp[Tryz.ntmps178]) ?_;simp;refine az (Y_ 0 L (by omega) (by omega)) (by simp) trivial trivial rfl ?_;simp;refine ai (ME L (by omega) hb) (by simp) ?_;simp;refine ai (Gr _ hs) (by simp) ?_;simp[Tryz.results178];have f4:=CO (rO L.flatten);have hfl:(L.map List.length).sum=L.flatten.length:=List.length_flatten.symm;have ft:List.take L.flatten.length (List.map AV.p (ah L.flatten))=List.map AV.p (ah L.flatten):=List.take_of_length_le (by rw[List.length_map];unfold ah;rw[List.length_map];exact Nat.le_refl _);refine⟨cg _,fR _,by omega,by omega,[],?_⟩;rw[hfl,ft,fQ,fZ,f4];simp[frame,ah]
theorem MM(a b:List (UInt8))(ha:a.length<=1000000000000)(hb:b.length<=1000000000000):aB Tryz.prog 250 [.sl (a.map oc),.sl (b.map oc)] (.bool (decide (a=b))):=by
 refine QpQ (ys:=[.bool _]) [] [] [] Tryz.func250 rfl (by simp[Tryz.ntmps250]) ?_;by_cases c0:a.length=b.length
 ·have n0:((a.length:Int) !=(b.length:Int))=false:=by simp[c0]
  simp[n0];refine bW (fun k:Nat=>k<=a.length/\a.take k=b.take k) (fun k=>[(0,.p (.sl (a.map oc))),(1,.p (.sl (b.map oc))),(12,.p (.int a.length)),(13,.p (.int k))]) (fun k=>a.length-k) 0 (by simp) (aA (by simp)) ?_;rintro k ⟨h1,h2⟩;by_cases c1:k<a.length
  ·have c2:k<b.length:=by omega
   have w1:IntKind.i64.wrap ((k:Int)+1)=((k+1:Nat):Int):=by rw[af (by omega) (by omega)];rfl
   by_cases c3:a[k]=b[k]
   ·have n3:((a[k].toNat:Int) !=(b[k].toNat:Int))=false:=by simp[c3]
    simp[c1,c2,w1,n3];refine⟨k+1,⟨by omega,?_⟩,by omega,aA (by simp)⟩;rw[List.take_succ_eq_append_getElem c1,List.take_succ_eq_append_getElem c2,h2,c3]
   ·have hne:a≠b:=fun h=>c3 (by subst h;rfl);have n4:¬a[k].toNat=b[k].toNat:=fun h=>c3 (UInt8.toNat_inj.1 h);have n3:((a[k].toNat:Int) !=(b[k].toNat:Int))=true:=by simp[bne];omega
    simp[c1,c2,n3,hne,Tryz.results250]
  ·have he:a=b:=by
    have e:k=a.length:=by omega
    subst e;rw[List.take_length]at h2;rw[h2,c0,List.take_length]
   subst he;simp[c1,Tryz.results250]
 ·have n0:((a.length:Int) !=(b.length:Int))=true:=by simp[bne];omega
  have hne:a≠b:=fun h=>c0 (by rw[h]);simp[n0,hne,Tryz.results250]
theorem AQ(b:List UInt8)(hb:b.length<=1000000000):aB Tryz.prog 158 [cy b] (.tp [cy (dP b).1,.int (dP b).2]):=by
 have w1:IntKind.i64.wrap ((b.length:Int)-4)=(b.length:Int)-4:=af (by omega) (by omega);refine QpQ (ys:=[_,_]) [] [] [] Tryz.func158 rfl (by simp[Tryz.ntmps158]) ?_;by_cases c1:b.length<4
 ·have e:dP b=([],11):=by unfold dP;rw[if_pos c1]
  have c2:(b.length:Int)-4<0:=by omega
  rw[e];simp[w1,c2,Tryz.results158,ah]
 ·have c2:¬(b.length:Int)-4<0:=by omega
  obtain⟨n,hn⟩:∃n,b.length=n+4:=⟨b.length-4,by omega⟩;have e4:b.length-4=n:=by omega
  have e5:(b.length:Int)-4=(n:Int):=by omega
  rw[e5]at w1 c2;have hS:=ME [b.take n] (by simp) (by simp;omega);have hs:rO [b.take n].flatten<4294967296:=rK (by omega) _;have hF:=Gr _ hs;have hE:=MM (b.drop n) (four (rO [b.take n].flatten)) (by simp;omega) (by rw[CO];omega);have hC:=jb (b.take n) (by simp;omega);have ef:[b.take n].flatten=b.take n:=by simp
  rw[ef]at hS hs hF hE;unfold dP;rw[if_neg c1,e4];have tk:List.take n (ah b)=ah (b.take n):=by simp[ah]
  have dk:List.drop n (ah b)=ah (b.drop n):=by simp[ah]
  have bw:∀y∈ah b,1=y.width:=fun y h=>(cg b y h).symm;simp[e5,w1,c2,tk,dk];refine⟨bw,by omega,bw,by omega,bD hS ?_⟩;simp;refine bD hF ?_;simp;refine bD hE ?_;by_cases c3:b.drop n=four (rO (b.take n))
  ·simp[c3,tk];refine⟨bw,by omega,ai hC (by simp) ?_⟩;simp[Tryz.results158]
  ·simp[c3,Tryz.results158,ah]
end Go.Av
namespace Go.aW
def secs:Nat->List UInt8->List cU
 |0,_=>[]
 |k+1,b=>if b=[]then[]else(b.take 64++List.replicate (64-b.length) 0)::secs k (b.drop 64)
def bn(b:List UInt8):List cU:=secs b.length b
def gZ(kind:Int)(b:List UInt8):List UInt8×Int:=if kind<1\/255<kind then([],2)else if 505<b.length then([],12)else(frame (UInt8.ofNat kind.toNat::UInt8.ofNat (b.length/256)::UInt8.ofNat b.length::(b++List.replicate (505-b.length) 0)),0)
def kS(b:List UInt8):Nat×List UInt8×Int:=if(dP b).2≠0\/b.length≠512 then(0,[],33)else
 let x:=(dP b).1
 let k:=(x.getD 0 0).toNat
 let n:=(x.getD 1 0).toNat*256+(x.getD 2 0).toNat
 if k=0\/505<n\/((x.drop (3+n)).any fun c=>!(c==0))=true then(0,[],33)
 else(k,(x.drop 3).take n,0)
end Go.aW
namespace Go.Av
open Go.Proofs Go.aW
theorem AW(L:List (List UInt8))(hb:L.flatten.length<=1000000000000)(uy:L.length<=1000000000000):aB Tryz.prog 68 [.sl (L.map cy)] (cy L.flatten):=by
 refine QpQ (ys:=[_]) [] [] [] Tryz.func68 rfl (by simp[Tryz.ntmps68]) ?_;simp;refine ai (Gi L hb uy) (by simp) ?_;simp[Tryz.results68]
theorem ahj(c:UInt8):aB Tryz.prog 439 [oc c] (.bool (!(c==0))):=by
 refine QpQ (ys:=[_]) [] [] [] Tryz.func439 rfl (by simp[Tryz.ntmps439]) ?_;have e:(!(c==0))=((c.toNat:Int) !=0):=by
  by_cases h:c=0
  ·subst h;rfl
  ·have h1:(c==0)=false:=by simpa using h
   have h2:¬c.toNat=0:=fun h3=>h (UInt8.toNat_inj.1 h3);have h3:((c.toNat:Int)==0)=false:=by simp;omega
   simp[bne,h1,h3]
 rw[e];simp[Tryz.results439]
theorem Q4(kind:Int)(hk:-9223372036854775808<=kind/\kind<=9223372036854775807)(L:List (List UInt8))(hL:L.flatten.length<=1000000000)(hL2:L.length<=1000000000):aB Tryz.prog 437 [.int kind,.sl (L.map cy)] (.tp [cy (gZ kind L.flatten).1,.int (gZ kind L.flatten).2]):=by
 have hJ:=AW L (by omega) (by omega);refine QpQ (ys:=[_,_]) [36] [] [] Tryz.func437 rfl (by simp[Tryz.ntmps437]) ?_;generalize L.flatten=b at*;simp;refine ai hJ (by simp) ?_;unfold gZ;by_cases c1:kind<1
 ·rw[if_pos (.inl c1)];simp[c1,Tryz.results437,ah]
 ·by_cases c2:255<kind
  ·rw[if_pos (.inr c2)];simp[c1,c2,Tryz.results437,ah]
  ·rw[if_neg (by omega)];obtain⟨K,rfl⟩:∃K:Nat,kind=K:=⟨kind.toNat,by omega⟩;by_cases c3:505<b.length
   ·have lq:(505:Int)<b.length:=by omega
    rw[if_pos c3];simp[c1,c2,lq,Tryz.results437,ah]
   ·have lq:¬(505:Int)<b.length:=by omega
    rw[if_neg c3];have wk:=Q5 K;have wl:=Q5 b.length;have wh:=Q5 (b.length/256);obtain⟨h,hh,sh⟩:∃a:Nat,b.length/256=a/\(b.length:Int).fdiv (2^min 8 IntKind.i64.bits)=(a:Int):=⟨_,rfl,by
     show Int.fdiv (b.length:Int) 256=_;rw[Int.fdiv_eq_ediv_of_nonneg _ (by omega)];omega⟩
    obtain⟨z,hz⟩:∃z:Nat,505-b.length=z:=⟨_,rfl⟩;have wz:IntKind.i64.wrap (505-(b.length:Int))=(z:Int):=by rw[af (by omega) (by omega)];omega
    rw[hh]at wh⊢;rw[hz];have bz:ah (List.replicate z 0)=List.replicate z (PC.sc (.int .u8 0)):=by simp[ah]
    have hF:=xj [[UInt8.ofNat K,UInt8.ofNat h,UInt8.ofNat b.length],b,List.replicate z 0] (by simp;omega) (by simp);have ef:[[UInt8.ofNat K,UInt8.ofNat h,UInt8.ofNat b.length],b,List.replicate z 0].flatten=UInt8.ofNat K::UInt8.ofNat h::UInt8.ofNat b.length::(b++List.replicate z 0):=by simp
    rw[ef]at hF;have be:ah [UInt8.ofNat K,UInt8.ofNat h,UInt8.ofNat b.length]=[oc (UInt8.ofNat K),oc (UInt8.ofNat h),oc (UInt8.ofNat b.length)]:=rfl;simp[c1,c2,lq,wk,wl,wh,sh,wz];refine⟨by omega,by unfold maxLen;omega,ai hF (by simp[bz,be]) ?_⟩;simp[Tryz.results437]
theorem Il(b:List UInt8)(hb:b.length<=1000000000):aB Tryz.prog 434 [cy b] (.tp [.int (kS b).1,cy (kS b).2.1,.int (kS b).2.2]):=by
 have hO:=AQ b hb;refine QpQ (ys:=[_,_,_]) [] [] [] Tryz.func434 rfl (by simp[Tryz.ntmps434]) ?_;by_cases c1:(dP b).2=0
 ·by_cases c2:b.length=512
  ·unfold kS;rw[if_neg (by simp[c1,c2])];obtain⟨x,hx⟩:∃x,dP b=(x,0):=⟨(dP b).1,by rw[<-c1]⟩;have yY:=Q6 hx;have hxl:x.length=508:=by have:=fZ x;rw[<-yY]at this;omega
   rw[hx]at hO⊢;obtain⟨x0,x1,x2,r,rfl⟩:∃x0 x1 x2 r,x=x0::x1::x2::r:=by
    match x,hxl with
    |x0::x1::x2::r,_=>exact⟨x0,x1,x2,r,rfl⟩
   have hrl:r.length=505:=by simpa using hxl
   have bc:∀(a:UInt8) (l:List UInt8),ah (a::l)=oc a::ah l:=fun _ _=>rfl;have n2:((b.length:Int) !=512)=false:=by simp[c2]
   have ho:=Fg x1.toNat x2.toNat (by have:=x1.toNat_lt;omega) (by have:=x2.toNat_lt;omega);have w0:IntKind.i64.wrap (x0.toNat:Int)=(x0.toNat:Int):=af (by omega) (by have:=x0.toNat_lt;omega);have w1:IntKind.i64.wrap (x1.toNat:Int)=(x1.toNat:Int):=af (by omega) (by have:=x1.toNat_lt;omega);obtain⟨N,hN⟩:∃N:Nat,x1.toNat*256+x2.toNat=N:=⟨_,rfl⟩;simp only[List.getD_eq_getElem?_getD,List.getElem?_cons_zero,List.getElem?_cons_succ,Option.getD_some,hN];rw[hN]at ho;simp;refine ai hO (by simp) ?_;by_cases c3:x0.toNat=0
   ·have lq:((x0.toNat:Int)==0)=true:=by simp[c3]
    rw[if_pos (.inl c3)];have wz:IntKind.i64.wrap 0=0:=af (by omega) (by omega);simp[n2,ho,w1,c3,wz,Tryz.results434,ah]
   ·have lq:((x0.toNat:Int)==0)=false:=by simp;omega
    by_cases c4:505<N
    ·have jU:(505:Int)<N:=by omega
     rw[if_pos (.inr (.inl c4))];simp[n2,ho,w0,w1,lq,jU,Tryz.results434,ah]
    ·have jU:¬(505:Int)<N:=by omega
     have w3:IntKind.i64.wrap (3+(N:Int))=((3+N:Nat):Int):=by rw[af (by omega) (by omega)];rfl
     have dk:List.drop N (ah r)=ah (r.drop N):=by simp[ah]
     have tk:List.take N (ah r)=ah (r.take N):=by simp[ah]
     have hA:=Xh 439 [] (fun c=>!(c==0)) (r.drop N) (by simp;omega) (fun x _=>ahj x);have hC:=jb (r.take N) (by simp;omega);have bw:∀y∈ah r,1=y.width:=fun y h=>(cg r y h).symm;have d3:List.drop (3+N) (x0::x1::x2::r)=r.drop N:=by rw[show 3+N=N+1+1+1 by omega];rfl
     have e3:((3:Int)+N).toNat=N+1+1+1:=by omega
     have b3:(3:Int)+N<=r.length+1+1+1:=by omega
     have b4:(0:Int)<=3+N:=by omega
     rw[d3];simp[n2,bc,ho,w0,w1,w3,c3,lq,c4,jU,e3,dk];refine⟨bw,by omega,by omega,ai hA (by simp[ah]) ?_⟩;by_cases c5:((r.drop N).any fun c=>!(c==0))=true
     ·have c6:∃x,x∈r.drop N/\¬x=0:=by simpa using c5
      rw[c5];simp[c6,Tryz.results434,ah]
     ·have c6:¬∃x,x∈r.drop N/\¬x=0:=by simpa using c5
      have pP:((r.drop N).any fun c=>!(c==0))=false:=by simpa using c5
      rw[pP];simp[c6,e3,tk,w3,bc];refine⟨bw,by omega,by omega,ai hC (by simp) ?_⟩;simp[Tryz.results434]
  ·have dX:((b.length:Int) !=512)=true:=by simp[bne];omega
   have hU:kS b=(0,[],33):=by unfold kS;rw[if_pos (.inr c2)]
   obtain⟨x,hx⟩:∃x,dP b=(x,0):=⟨(dP b).1,by rw[<-c1]⟩;rw[hx]at hO;rw[hU];simp;refine ai hO (by simp) ?_;simp[dX,Tryz.results434,ah]
 ·have jH:((dP b).2 !=0)=true:=by simpa using c1
  have hU:kS b=(0,[],33):=by unfold kS;rw[if_pos (.inl c1)]
  rw[hU];simp;refine ai hO (by simp) ?_;simp[jH,Tryz.results434,ah]
end Go.Av
namespace Go.Proofs
open Go.RowKit Go.Shelf
attribute [local go_sem] Oper.semAt_some
def Tryz.piece(b off len k:Nat):Value:= .slice (some ⟨b,off+64*k,none⟩) (Nat.min 64 (len-64*k)) (Nat.min 64 (len-64*k))
theorem Tryz.Cr(n:Nat)(hn:1<=n)(l Bs os Bn on b off len cap:Nat)(hlen:len<=1000000000)(hcap:len<=cap)(J Jx:List Nat->World->Prop)(Kp:World->World->Prop)(hK:∀A B,Kp A B->(∀v,A.cell? ⟨Bs,os,none⟩=some v->B.cell? ⟨Bs,os,none⟩=some v)/\∀v,A.cell? ⟨Bn,on,none⟩=some v->B.cell? ⟨Bn,on,none⟩=some v)(hY:∀pre k W,J pre W->pre.length<(len+63)/64->YieldAt Fence.wide (n-1) Tryz.prog l #[Tryz.piece b off len k] W fun e W'=>
 (e= .returned (.bool true)/\J (pre++[k]) W'/\Kp W W')\/(e= .returned (.bool false)/\Jx (pre++[k]) W'))(W:World)(hJA:AbidesFrom W.heap.size J)(Q1:W.cell? ⟨Bs,os,none⟩=some (.slice (some ⟨b,off,none⟩) len cap))(hBn:W.cell? ⟨Bn,on,none⟩=some (.int .i64 64))(h0:J [] W):CallsIn Fence.wide n Tryz.prog 304 #[.func (.yield l) #[] #[],.pointer (some ⟨Bs,os,none⟩),.pointer (some ⟨Bn,on,none⟩)] W fun e W'=>(∃v,e= .returned v)/\((∃ys,ys=List.range ((len+63)/64)/\J ys W')\/(∃pre,Jx pre W')):=by
 refine callsIn_of_wp Tryz.func304 rfl trivial ?_ rfl;simp only[Tryz.ntmps304,List.size_toArray,List.length_cons,List.length_nil,Nat.reduceAdd,Nat.reduceSub,Array.replicate_succ,Array.replicate_zero,List.push_toArray,List.append_toArray,List.nil_append,List.cons_append]
 gi_wp2
 gi_loopw [4] (fun i wr=>∃k:Nat,k<=(len+63)/64/\i= .int .i64 ((64*k:Nat):Int)/\J (List.range k) wr/\wr.cell? ⟨Bs,os,none⟩=some (.slice (some ⟨b,off,none⟩) len cap)/\wr.cell? ⟨Bn,on,none⟩=some (.int .i64 64)) (fun i _=>len-(intOf i).toNat)
 case atStart=>exact⟨0,Nat.zero_le _,rfl,h0,Q1,hBn⟩
 case round=>
  obtain⟨k,hk,rfl,hJs,hs',hn'⟩:=hrel;by_cases hlt:64*k<len
  ·have hm:Tryz.prog.follows .mixedOrders=true:=by kernel_rfl
   have e1:(64*(k:Int)).toNat=64*k:=by omega
   have e3:64*k<=len:=by omega
   have e4:¬cap=64*k:=by omega
   have e5:64*k<=cap:=by omega
   have e6:(0:Int)<=64*(k:Int):=by omega
   have e7:64*(k:Int)<=(len:Int):=by omega
   gi_wp2
   gi_big_quiet_th_o (fail)
   have hg:wr.grownBy (wr.drewN nq) none:=⟨rfl,rfl,rfl,Nat.le_refl _,fun _ _ _=>rfl⟩;have hJ2:=hJA _ _ _ none hJs hg (fun r e=>by cases e);have hif:(if((len-64*k:Nat):Int)<64 then((len-64*k:Nat):Int)else 64)=((Nat.min 64 (len-64*k):Nat):Int):=by
    show _=((min 64 (len-64*k):Nat):Int);omega
   simp only[hif];obtain⟨fn,tmps,assign,body,hy,hR⟩:=hY _ k _ hJ2 (by simp;omega);have Oz:Nat.min 64 (len-64*k)<=64:=Nat.min_le_left _ _;have hm2:Nat.min 64 (len-64*k)<=len-64*k:=Nat.min_le_right _ _;simp only[Tryz.piece]at hy;generalize Nat.min 64 (len-64*k)=m at Oz hm2 hy hif;have uw:(wr.drewN nq).cell? ⟨Bs,os,none⟩=some (.slice (some ⟨b,off,none⟩) len cap):=hs';have hn2:(wr.drewN nq).cell? ⟨Bn,on,none⟩=some (.int .i64 64):=hn';generalize wr.drewN nq=wq at hJ2 hy hR uw hn2
   gi_wp2
   refine hR.mono ?_;rintro e W3 (⟨rfl,hJ3,hk3⟩|⟨rfl,aol⟩)
   ·have hs3:=(hK _ _ hk3).1 _ uw;have hn3:=(hK _ _ hk3).2 _ hn2;have ee:(64*(k:Int)+64)=((64*(k+1):Nat):Int):=by omega
    gi_wp2
    go_roundw
    case rel=>exact⟨k+1,by omega,by simp,by rw[List.range_succ];exact hJ3,hs3,hn3⟩
    case measure=>simp[intOf];omega
   ·gi_wp2
    refine bodyPost_ret (results_none rfl _ _ _) rfl ?_;exact⟨⟨_,rfl⟩,.inr ⟨_,aol⟩⟩
  ·gi_wp2
   go_end0
   obtain rfl:k=(len+63)/64:=by omega
   exact⟨⟨_,rfl⟩,.inl ⟨_,rfl,hJs⟩⟩
theorem Tryz.AR(n:Nat)(l Bs os Bn on c:Nat)(sa:Option Addr)(J:List Nat->World->Prop)(W:World)(Q1:W.cell? ⟨Bs,os,none⟩=some (.slice sa 0 c))(h0:J [] W):CallsIn Fence.wide n Tryz.prog 304 #[.func (.yield l) #[] #[],.pointer (some ⟨Bs,os,none⟩),.pointer (some ⟨Bn,on,none⟩)] W fun e W'=>(∃v,e= .returned v)/\J [] W':=by
 refine callsIn_of_wp Tryz.func304 rfl trivial ?_ rfl;simp only[Tryz.ntmps304,List.size_toArray,List.length_cons,List.length_nil,Nat.reduceAdd,Nat.reduceSub,Array.replicate_succ,Array.replicate_zero,List.push_toArray,List.append_toArray,List.nil_append,List.cons_append]
 gi_wp2
 gi_loopw [4] (fun i wr=>i= .int .i64 0/\J [] wr/\wr.cell? ⟨Bs,os,none⟩=some (.slice sa 0 c)) (fun _ _=>0)
 case atStart=>exact⟨rfl,h0,Q1⟩
 case round=>
  obtain⟨rfl,hJs,hs'⟩:=hrel
  gi_wp2
  go_end0
  exact⟨⟨_,rfl⟩,hJs⟩
end Go.Proofs
namespace Go.Av
open Go.RowKit
section
variable{P:Program}{tb:Tb}{kt:AV->Tb->Prop}
@[simp]theorem adH{l xs:List AV}{gf:FuncId}:uP P l tb kt (.jZ (.func gf) xs)=oO P gf (l++xs) tb kt:=(rfl)
@[simp]theorem adI{l xs:List AV}{gf:FuncId}:uP P l tb kt (.kG (.func gf) xs)=oO P gf (xs++l) tb kt:=(rfl)
@[simp]theorem an5{f:Fn}{xs:List AV}:(AV.jZ f xs).nm= .jZ f xs:=(rfl)
@[simp]theorem an6{f:Fn}{xs:List AV}:(AV.kG f xs).nm= .kG f xs:=(rfl)
@[simp]theorem YW{f:Fn}{xs:List AV}:(AV.jZ f xs).cR=some [.jZ f xs]:=(rfl)
@[simp]theorem YX{f:Fn}{xs:List AV}:(AV.kG f xs).cR=some [.kG f xs]:=(rfl)
@[congr]theorem SF{gf:FuncId}{l l':List AV}(h:l=l'):oO P gf l tb kt=oO P gf l' tb kt:=by rw[h]
theorem Cy{gf:FuncId}{ys l:List AV}{ts ts':Tb}{r:AV}(h:aI P gf ys ts r ts')(hl:toAll l ys)(hb:ay tb.bx ts.bx)(hr:ay tb.rw ts.rw)(hn:ts.nx=tb.nx)(hk:kt r (tb.merge ts ts')):oO P gf l tb kt:=⟨ys,ts,r,ts',hl,h,hb,hr,hn,hk⟩
theorem c_{gf:FuncId}{ys l:List AV}{ts ts':Tb}{r:AV}(rn:List Nat)(h:aI P gf ys ts r ts')(hs:rn.length=ts.nx/\ts.nx<=ts'.nx/\rn.Nodup/\∀j∈rn,j<tb.nx)(hl:toAll l (AV.cH.dA (jR rn tb.nx) ys))(hb:ay tb.bx (fI (jR rn tb.nx) ts.bx))(hr:ay tb.rw (lQ (jR rn tb.nx) ts.rw))(hk:kt (r.cH (jR rn tb.nx)) (tb.merge (ts.cH (jR rn tb.nx)) (ts'.cH (jR rn tb.nx)))):oO P gf l tb kt:=Cy (Bb h rn tb.nx hs.1 hs.2.1 hs.2.2.1 hs.2.2.2) hl hb hr (by show jR rn tb.nx ts.nx=tb.nx;rw[nj _ _ _ (by omega)];omega) hk
end
section
variable{P:Program}
def Sem(P:Program)(cx:Cx)(c:Code)(st:AS)(Q:Exit->AS->Prop):Prop:=∀fr:Fr,pW fr cx.eW->codeOk cx.cls cx.ot fr.n c=true->∀a w,gO fr st a w->c.wp P (Post fr Q) a w
theorem ga{cx:Cx}{c:Code}{st:AS}{Q:Exit->AS->Prop}(hm:P.follows .mixedOrders=true)(h:aw P cx c st Q):Sem P cx c st Q:=fun _ hfr hk a w hs=>fX hm hfr c st Q hk h a w hs
theorem bS{α:Type}{cx:Cx}{x y:Code}{st:AS}{Q:Exit->AS->Prop}(hm:P.follows .mixedOrders=true)(C:α->Prop)(S:α->List (Nat×AV))(T:α->Tb)(h1:aw P cx x st (pX cx C S T (fun _=>0) 1 Q))(h2:∀a,C a->Sem P cx y (Ig (S a) (T a)) Q):Sem P cx (.seq x y) st Q:=by
 intro fr hfr hk a w hs;simp only[codeOk,Bool.and_eq_true]at hk;refine wp_seq (wp_mono (fX hm hfr x st _ hk.1 h1 a w hs) ?_);rintro e a' w' ⟨st',hq,hs'⟩;cases e with
 |normal=>
  obtain⟨b,hb,_,rn,k1,k2⟩:=hq;exact h2 b hb fr hfr hk.2 a' w' (jt rn k1 k2 fr a' w' hfr hs')
 |_=>exact⟨st',hq,hs'⟩
theorem oA{cx:Cx}{c:Code}{st Lr:AS}{Q:Exit->AS->Prop}(hl:st.le cx.eW Lr)(h:Sem P cx c Lr Q):Sem P cx c st Q:=fun fr hfr hk a w hs=>h fr hfr hk a w (hl fr a w hfr hs)
theorem qq{f:FuncId}{fn:Func}{c:Code}{xs:List AV}{tb:Tb}{cx:Cx}{R:List AV->Tb->Prop}(hf:P.funcs[f]?=some fn)(hb:fn.body=some c)(hk:codeOk cx.cls cx.ot fn.ntmps c=true)(hx:xs.length<=fn.ntmps)(hcx:cx.eW=tb.nx)(h:Sem P cx c (lM xs tb) (ve P fn R)){g:G}{w:World}{vs:List Value}{F:Nat->Prop}(hw:aR w g.M F tb g w)(hvs:aL g vs xs):Calls P f vs.toArray w fun e w'=>∃us zs g' aO,e= .returned (uK us)/\g.le g'/\aR w g.M F aO g' w'/\aL g' us zs/\R zs aO:=by
 have hlen:=hvs.length;refine calls_of_wp hf hb ?_
 let fr:Fr:=⟨w,g.M,F,g,fn.ntmps,[]⟩
 have hfr:pW fr cx.eW:=fun i hi=>hw.fresh i (by omega);have mJ:gO fr (lM xs tb) {tmps:=vs.toArray++Array.replicate (fn.ntmps-vs.toArray.size) undef,defers:=[]} w:=by
  refine⟨g,G.le_refl g,hw,?_,?_,rfl⟩
  ·intro t;have:=kX (g:=g) xs vs 0 hvs t;simp only[Nat.sub_zero,Nat.zero_le,if_true]at this;show aZ _ _ (iD xs 0 t);by_cases ht:t<vs.length
   ·have e:(vs.toArray++Array.replicate (fn.ntmps-vs.toArray.size) undef).getD t undef=(vs[t]?).getD undef:=by
     simp[Array.getElem?_append,ht]
    rw[e];exact this
   ·rw[m_ xs 0 t (by omega)];exact .any _
  ·simp[fr];omega
 refine wp_mono (h fr hfr hk _ w mJ) ?_;rintro e a w' ⟨st,hq,hs⟩;obtain⟨g',h0,h1,h2,h3,h4⟩:=hs;have fin:tT P R st.tb (jv P st fn.results.toList)->a.defers=[]/\∃v,(results fn a.tmps).run P w'= .ok v w'/\∃us zs g' aO,Ending.returned v= .returned (uK us)/\g.le g'/\aR w g.M F aO g' w'/\aL g' us zs/\R zs aO:=by
  intro hres;unfold tT at hres;split at hres
  ·rename_i zs hz;obtain⟨us,h5,h6⟩:=sr h2 h1 _ _ hz;exact⟨h4,_,mP h5,us,zs,g',st.tb,rfl,h0,h1,h6,hres⟩
  ·exact hres.elim
 cases e with
 |normal=>exact fin hq
 |ret=>exact fin hq
 |_=>exact hq.elim
theorem Ca{f:FuncId}{fn:Func}{c:Code}{xs ys:List PC}{r:PC}(md:List Nat)(cls:List (Nat×List (Nat×iw)))(lab:List (Nat×Nat))(hf:P.funcs[f]?=some fn)(hb:fn.body=some c)(hnm:(fn.name=="runtime.NumGoroutine")=false)(hk:codeOk cls [] fn.ntmps c=true)(hx:xs.length<=fn.ntmps)(hr:r=CD ys)(h:Sem P ⟨md,cls,lab,0,[]⟩ c (lM (xs.map .p) ⟨[],[],0⟩) (ve P fn (Gl ys))):aB P f xs r:=by
 refine⟨⟨fn,hf,hnm,by rw[hb];rfl⟩,fun M w vs hH hvs=>?_⟩;have hw:aR w M (fun _=>False) ⟨[],[],0⟩ ⟨M,fun _=>none,fun _=>none⟩ w:=by
  refine⟨hH,qn.refl _ _,fun _ _ _=>rfl,Mem.le_refl _,?_,?_,?_,?_,?_,?_⟩
  ·intro i o e;simp[lk]at e
  ·intro i el sz e;simp[lk]at e
  ·intro i j o p b c b' c' e;simp[lk]at e
  ·intro i j o p u v b e;simp[lk]at e
  ·intro i j o p b c v e;simp[lk]at e
  ·intro i _;exact⟨rfl,rfl⟩
 have:=qq (cx:=⟨md,cls,lab,0,[]⟩) (g:=⟨M,fun _=>none,fun _=>none⟩) (F:=fun _=>False) hf hb hk (by simpa using hx) rfl h hw (ja hvs);refine this.mono ?_;rintro e w' ⟨us,zs,g',aO,rfl,hle,hS,hR,hz⟩;have zq:=toAll_p hR hz;refine⟨_,g'.M,rfl,by rw[hr];exact zw zq,hS.holds,hle.M,fun b hb=>hS.old b hb (fun h=>h),?_⟩;exact⟨hS.keep.os,hS.keep.tape,hS.keep.output,hS.keep.size,fun k hk=>hS.keep.block k hk (fun h=>h)⟩
theorem iA{f:FuncId}{fn:Func}{c:Code}{xs rs:List AV}{r:AV}{tb aO:Tb}(md:List Nat)(cls:List (Nat×List (Nat×iw)))(lab:List (Nat×Nat))(hf:P.funcs[f]?=some fn)(hb:fn.body=some c)(hnm:(fn.name=="runtime.NumGoroutine")=false)(hk:codeOk cls [] fn.ntmps c=true)(hx:xs.length<=fn.ntmps)(hr:r=wQ rs)(h:Sem P ⟨md,cls,lab,tb.nx,[]⟩ c (lM xs tb) (ve P fn (Ed tb.nx rs aO))):aI P f xs tb r aO:=by
 refine⟨⟨fn,hf,hnm,by rw[hb];rfl⟩,fun g w vs F hw hvs=>?_⟩;have:=qq (cx:=⟨md,cls,lab,tb.nx,[]⟩) hf hb hk hx rfl h hw hvs;refine this.mono ?_;rintro e w' ⟨us,zs,g',t,rfl,hle,hS,hR,rn,⟨h1,h2,h3,h4,h5,h6⟩,hto,mV⟩;refine⟨_,g'.cH (sP rn) aO.nx,rfl,G.jt hle (eW:=tb.nx) (fun i hi=>hw.fresh i (by omega)) h2 (fun i hi=>kH h1 hi),hS.cH h3 h4 h5 h6,?_⟩;rw[hr];exact mD (fh rs (fj _ hR hto) mV)
end
def qH(ρ:Nat->Nat)(u v:Nat):Nat->Bool
 |0=>true
 |n+1=>(ρ (u+n)==v+n)&&qH ρ u v n
@[simp]theorem aer{ρ:Nat->Nat}{u v:Nat}:qH ρ u v 0=true:=(rfl)
@[simp]theorem I8{ρ:Nat->Nat}{u v n:Nat}:qH ρ u v (n+1)=((ρ (u+n)==v+n)&&qH ρ u v n):=(rfl)
theorem nv{ρ:Nat->Nat}{u v:Nat}:∀{n:Nat},qH ρ u v n=true->∀j,j<n->ρ (u+j)=v+j
 |0,_,i,h=>by omega
 |n+1,h,i,hi=>by
  simp only[I8,Bool.and_eq_true,beq_iff_eq]at h;rcases Nat.lt_succ_iff_lt_or_eq.1 hi with h1|h1
  ·exact nv h.2 i h1
  ·subst h1;exact h.1
structure EJ(k w:Nat)(σ:Type) where
 B:Nat->Nat->σ->List (Nat×Ob)
 inn:∀b u s p,p∈B b u s->(b<=p.1/\p.1<b+k)\/(u<=p.1/\p.1<u+w)
 nd:∀b u s,b+k<=u\/u+w<=b->((B b u s).map (·.1)).Nodup
 cH:∀b u c v s ρ,(∀i,i<k->ρ (b+i)=c+i)->(∀j,j<w->ρ (u+j)=v+j)->fI ρ (B b u s)=B c v s
 e_:∀b u s m p,b+k<=m->u+w<=m->p∈B b u s->AV.e_.eE m p.2.xs=true
theorem uY{α:Type}{i:Nat}:∀{a b:List (Nat×α)},(∀p∈a,p.1≠i)->lk i (a++b)=lk i b
 |[],b,_=>rfl
 |(j,p)::a,b,h=>by
  simp only[List.cons_append,lk];rw[if_neg (fun e=>h (j,p) (by simp) e.symm)];exact uY fun q hq=>h q (by simp[hq])
theorem De{α:Type}{i:Nat}:∀{a:List (Nat×α)},(∀p∈a,p.1≠i)->del i a=a
 |[],_=>rfl
 |(j,p)::a,h=>by
  simp only[del];rw[if_neg (fun e=>h (j,p) (by simp) e.symm),De fun q hq=>h q (by simp[hq])]
theorem Bi{α:Type}{i:Nat}:∀{a b:List (Nat×α)},del i (a++b)=del i a++del i b
 |[],b=>rfl
 |(j,p)::a,b=>by
  simp only[List.cons_append,del];split
  ·exact Bi
  ·rw[List.cons_append,Bi]
theorem yo{α:Type}:∀{a b l:List (Nat×α)},cu (a++b) l=cu a (cu b l)
 |[],b,l=>rfl
 |(j,p)::a,b,l=>by simp only[List.cons_append,cu,yo]
theorem oW{α:Type}:∀{a:List (Nat×α)},cu a []=[]
 |[]=>rfl
 |(j,p)::a=>by simp only[cu,oW,del]
theorem j8{α:Type}{i:Nat}{o:α}{l:List (Nat×α)}:∀{a:List (Nat×α)},(∀p∈a,p.1≠i)->cu a ((i,o)::l)=(i,o)::cu a l
 |[],_=>rfl
 |(j,p)::a,h=>by
  simp only[cu];rw[j8 fun q hq=>h q (by simp[hq])];simp only[del];rw[if_neg (h (j,p) (by simp))]
theorem uu{α:Type}:∀{a c l:List (Nat×α)},(∀p∈c,p.1∈a.map (·.1))->cu a (c++l)=cu a l
 |a,[],l,_=>rfl
 |a,(i,o)::c,l,h=>by
  have h1:i∈a.map (·.1):=h (i,o) (by simp);have h2:∀p∈c,p.1∈a.map (·.1):=fun p hp=>h p (by simp[hp]);have key:∀{a m:List (Nat×α)},i∈a.map (·.1)->cu a ((i,o)::m)=cu a m:=by
   intro a
   induction a with
   |nil=>intro m h;cases h
   |cons p a ih=>
    obtain⟨j,q⟩:=p;intro m h;simp only[cu];by_cases hm:i∈a.map (·.1)
    ·rw[ih hm]
    ·have hij:i=j:=by
      rcases List.mem_cons.1 h with h|h
      ·exact h
      ·exact absurd h hm
     subst hij;rw[j8 (fun p hp (e:p.1=i)=>hm (by rw[<-e];exact List.mem_map.2 ⟨p,hp,rfl⟩))];simp only[del,if_true]
  rw[List.cons_append,key h1,uu h2]
theorem Df{α:Type}{bx:List (Nat×α)}:∀{a b:List (Nat×α)},ay bx (a++b)=(ay bx a/\ay bx b)
 |[],b=>by simp[ay]
 |(i,o)::a,b=>by simp only[List.cons_append,ay,Df,and_assoc]
theorem vL{α:Type}{bx:List (Nat×α)}:∀{a:List (Nat×α)},(∀p∈a,lk p.1 bx=some p.2)->ay bx a
 |[],_=>trivial
 |(i,o)::a,h=>⟨h (i,o) (by simp),vL fun p hp=>h p (by simp[hp])⟩
theorem sK{α:Type}{bx:List (Nat×α)}:∀{a:List (Nat×α)},ay bx a->∀p∈a,lk p.1 bx=some p.2
 |(i,o)::a,h,p,hp=>by
  rcases List.mem_cons.1 hp with rfl|hp
  ·exact h.1
  ·exact sK h.2 p hp
theorem Dg{α:Type}:∀{a b:List (Nat×α)},(a.map (·.1)).Nodup->∀p∈a,lk p.1 (a++b)=some p.2
 |(i,o)::a,b,h,p,hp=>by
  have h:=List.nodup_cons.1 h;simp only[List.cons_append,lk];rcases List.mem_cons.1 hp with rfl|hp
  ·rw[if_pos rfl]
  ·rw[if_neg]
   ·exact Dg h.2 p hp
   ·intro e;exact h.1 (by rw[<-e];exact List.mem_map.2 ⟨p,hp,rfl⟩)
theorem zO{ρ:Nat->Nat}:∀{a:List (Nat×Ob)} {p:Nat×Ob},p∈a->(ρ p.1,({p.2 with xs:=AV.cH.dA ρ p.2.xs}:Ob))∈fI ρ a
 |(i,o)::a,p,hp=>by
  simp only[fI];rcases List.mem_cons.1 hp with rfl|hp
  ·simp
  ·exact List.mem_cons_of_mem _ (zO hp)
theorem Dh{ρ:Nat->Nat}{m:Nat}{bx:List (Nat×Ob)}:∀{a b:List (Nat×Ob)},nX ρ m bx (a++b)=(nX ρ m bx a/\nX ρ m bx b)
 |[],b=>by simp[nX]
 |(i,o)::a,b=>by simp only[List.cons_append,nX,Dh,and_assoc]
theorem GJ{ρ:Nat->Nat}{m:Nat}{bx:List (Nat×Ob)}:∀{a:List (Nat×Ob)},(∀p∈a,p.1<m/\AV.e_.eE m p.2.xs=true/\lk (ρ p.1) bx=some {p.2 with xs:=AV.cH.dA ρ p.2.xs})->nX ρ m bx a
 |[],_=>trivial
 |(i,o)::a,h=>by
  obtain⟨h1,h2,h3⟩:=h (i,o) (by simp);refine⟨h1,h2,?_,GJ fun p hp=>h p (by simp[hp])⟩;simp only at h3;rw[h3];exact⟨rfl,rfl,List.prefix_refl _⟩
def Zw{α β:Type}(ρ:Nat->Nat)(a:List (Nat×α))(b:List (Nat×β)):Prop:=∀p∈a,∀q∈b,p.1=q.1\/ρ p.1≠ρ q.1
theorem yp{α:Type}{ρ:Nat->Nat}{i:Nat}:∀{a:List (Nat×α)},(∀p∈a,i=p.1\/ρ i≠ρ p.1)->jy.sy ρ i a
 |[],_=>trivial
 |(j,o)::a,h=>⟨h (j,o) (by simp),yp fun p hp=>h p (by simp[hp])⟩
theorem zP{α:Type}{ρ:Nat->Nat}{i:Nat}:∀{a:List (Nat×α)},jy.sy ρ i a->∀p∈a,i=p.1\/ρ i≠ρ p.1
 |(j,o)::a,h,p,hp=>by
  rcases List.mem_cons.1 hp with rfl|hp
  ·exact h.1
  ·exact zP h.2 p hp
theorem Di{α:Type}{ρ:Nat->Nat}:∀{a b:List (Nat×α)},jy ρ a->jy ρ b->Zw ρ a b->jy ρ (a++b)
 |[],b,_,h,_=>h
 |(i,o)::a,b,h1,h2,h3=>by
  refine⟨yp fun p hp=>?_,Di h1.2 h2 fun p hp=>h3 p (by simp[hp])⟩;rcases List.mem_append.1 hp with hp|hp
  ·exact zP h1.1 p hp
  ·exact h3 (i,o) (by simp) p hp
theorem GK{α:Type}{ρ:Nat->Nat}:∀{a:List (Nat×α)},(∀p∈a,∀q∈a,p.1=q.1\/ρ p.1≠ρ q.1)->jy ρ a
 |[],_=>trivial
 |(i,o)::a,h=>⟨yp fun p hp=>h (i,o) (by simp) p (by simp[hp]),GK fun p hp q hq=>h p (by simp[hp]) q (by simp[hq])⟩
section
variable{k w:Nat}{σ:Type}{S:EJ k w σ}{b u i m:Nat}{s s':σ}{ρ:Nat->Nat}
theorem EJ.ne(h:(i<b\/b+k<=i)/\(i<u\/u+w<=i)):∀p∈S.B b u s,p.1≠i:=fun p hp e=>by
 have:=S.inn b u s p hp;omega
@[simp]theorem alN{l:List (Nat×Ob)}(h:(i<b\/b+k<=i)/\(i<u\/u+w<=i)):lk i (S.B b u s++l)=lk i l:=uY (EJ.ne h)
@[simp]theorem ajb{l:List (Nat×Ob)}(h:(i<b\/b+k<=i)/\(i<u\/u+w<=i)):del i (S.B b u s++l)=S.B b u s++del i l:=by rw[Bi,De (EJ.ne h)]
@[simp]theorem Jy{l v:List (Nat×Ob)}:cu (S.B b u s++v) l=cu (S.B b u s) (cu v l):=yo
@[simp]theorem Jz:cu (S.B b u s) []=[]:=oW
@[simp]theorem I9{l:List (Nat×Ob)}{o:Ob}(h:(i<b\/b+k<=i)/\(i<u\/u+w<=i)):cu (S.B b u s) ((i,o)::l)=(i,o)::cu (S.B b u s) l:=j8 (EJ.ne h)
@[simp]theorem I_{l:List (Nat×Ob)}:cu (S.B b u s) (S.B b u s++l)=cu (S.B b u s) l:=uu fun p hp=>List.mem_map.2 ⟨p,hp,rfl⟩
@[simp]theorem GL:cu (S.B b u s) (S.B b u s)=[]:=by
 have:=uu (a:=S.B b u s) (c:=S.B b u s) (l:=[]) fun p hp=>List.mem_map.2 ⟨p,hp,rfl⟩;rwa[List.append_nil,oW]at this
@[simp]theorem Ot{bx l:List (Nat×Ob)}:ay bx (S.B b u s++l)=(ay bx (S.B b u s)/\ay bx l):=Df
@[simp]theorem NP{l:List (Nat×Ob)}(h:b+k<=u\/u+w<=b):ay (S.B b u s++l) (S.B b u s)=True:=eq_true (vL (Dg (S.nd b u s h)))
@[simp]theorem NQ{l:List (Nat×Ob)}{o:Ob}(h:(i<b\/b+k<=i)/\(i<u\/u+w<=i)):ay ((i,o)::l) (S.B b u s)=ay l (S.B b u s):=by
 have e:∀p∈S.B b u s,lk p.1 ((i,o)::l)=lk p.1 l:=fun p hp=>by
  simp only[lk];rw[if_neg (EJ.ne h p hp)]
 exact propext ⟨fun h'=>vL fun p hp=>by rw[<-e p hp];exact sK h' p hp,fun h'=>vL fun p hp=>by rw[e p hp];exact sK h' p hp⟩
@[simp]theorem Zx(h1:qH ρ b (ρ b) k=true)(h2:qH ρ u (ρ u) w=true):fI ρ (S.B b u s)=S.B (ρ b) (ρ u) s:=S.cH b u (ρ b) (ρ u) s ρ (nv h1) (nv h2)
@[simp]theorem Ou{bx l:List (Nat×Ob)}:nX ρ m bx (S.B b u s++l)=(nX ρ m bx (S.B b u s)/\nX ρ m bx l):=Dh
@[simp]theorem aes{bx:List (Nat×Ob)}(h1:qH ρ b (ρ b) k=true)(h2:qH ρ u (ρ u) w=true)(h3:b+k<=m/\u+w<=m)(h4:ay bx (S.B (ρ b) (ρ u) s)):nX ρ m bx (S.B b u s)=True:=eq_true (GJ fun p hp=>⟨by have:=S.inn b u s p hp;omega,S.e_ b u s m p h3.1 h3.2 hp,by
 have h5:=zO (ρ:=ρ) hp;rw[S.cH b u (ρ b) (ρ u) s ρ (nv h1) (nv h2)]at h5;exact sK h4 _ h5⟩)
theorem Bj(h1:qH ρ b (ρ b) k=true)(h2:qH ρ u (ρ u) w=true){p:Nat×Ob}(hp:p∈S.B b u s):(b<=p.1/\p.1<b+k/\ρ p.1=ρ b+(p.1-b))\/(u<=p.1/\p.1<u+w/\ρ p.1=ρ u+(p.1-u)):=by
 rcases S.inn b u s p hp with⟨h,h'⟩|⟨h,h'⟩
 ·refine .inl ⟨h,h',?_⟩;have:=nv h1 (p.1-b) (by omega);rwa[show b+(p.1-b)=p.1 by omega]at this
 ·refine .inr ⟨h,h',?_⟩;have:=nv h2 (p.1-u) (by omega);rwa[show u+(p.1-u)=p.1 by omega]at this
@[simp]theorem Ja(h1:qH ρ b (ρ b) k=true)(h2:qH ρ u (ρ u) w=true)(h3:ρ b+k<=ρ u\/ρ u+w<=ρ b):jy ρ (S.B b u s)=True:=eq_true (GK fun p hp q hq=>by
 have e1:=Bj h1 h2 hp;have e2:=Bj h1 h2 hq;omega)
def Jb(k w:Nat)(ρ:Nat->Nat)(b u:Nat):List (Nat×Ob)->Prop
 |[]=>True
 |(i,_)::l=>((ρ i<ρ b\/ρ b+k<=ρ i)/\(ρ i<ρ u\/ρ u+w<=ρ i))/\Jb k w ρ b u l
@[simp]theorem ajc:Jb k w ρ b u []=True:=(rfl)
@[simp]theorem aet{o:Ob}{l:List (Nat×Ob)}:Jb k w ρ b u ((i,o)::l)=(((ρ i<ρ b\/ρ b+k<=ρ i)/\(ρ i<ρ u\/ρ u+w<=ρ i))/\Jb k w ρ b u l):=(rfl)
theorem Dk:∀{l:List (Nat×Ob)},Jb k w ρ b u l->∀p∈l,(ρ p.1<ρ b\/ρ b+k<=ρ p.1)/\(ρ p.1<ρ u\/ρ u+w<=ρ p.1)
 |(i,o)::l,h,p,hp=>by
  rcases List.mem_cons.1 hp with rfl|hp
  ·exact h.1
  ·exact Dk h.2 p hp
@[simp]theorem Ov{l:List (Nat×Ob)}(h1:qH ρ b (ρ b) k=true)(h2:qH ρ u (ρ u) w=true)(h3:ρ b+k<=ρ u\/ρ u+w<=ρ b)(h4:Jb k w ρ b u l):jy ρ (S.B b u s++l)=jy ρ l:=by
 refine propext ⟨fun h=>?_,fun h=>Di (of_eq_true (Ja h1 h2 h3)) h fun p hp q hq=>?_⟩
 ·have:∀(a:List (Nat×Ob)),jy ρ (a++l)->jy ρ l:=by
   intro a
   induction a with
   |nil=>exact fun h=>h
   |cons p a ih=>intro h;exact ih h.2
  exact this _ h
 ·have e1:=Bj h1 h2 hp;have e2:=Dk h4 q hq;omega
end
section
variable{P:Program}{tb:Tb}{kt:AV->Tb->Prop}
theorem kK{gf:FuncId}{ys l:List AV}{ts ts':Tb}{r:AV}(rn:List Nat)(h:aI P gf ys ts r ts')(hs:rn.length=ts.nx/\ts.nx<=ts'.nx/\rn.Nodup/\∀j∈rn,j<tb.nx)(hl:toAll l (AV.cH.dA (jR rn tb.nx) ys))(hb:ay tb.bx (fI (jR rn tb.nx) ts.bx))(hr:ay tb.rw (lQ (jR rn tb.nx) ts.rw))(hk:kt (r.cH (jR rn tb.nx)) (tb.merge (ts.cH (jR rn tb.nx)) (ts'.cH (jR rn tb.nx)))):t_ P gf [] l tb kt:=MX (Bb h rn tb.nx hs.1 hs.2.1 hs.2.2.1 hs.2.2.2) hl hb hr (by show jR rn tb.nx ts.nx=tb.nx;rw[nj _ _ _ (by omega)];omega) hk
end
theorem zU{P:Program}{f:FuncId}{xs:List AV}{tb tb2 aO:Tb}{r:AV}(h:aI P f xs tb r aO)(hb:ay tb2.bx tb.bx)(hr:ay tb2.rw tb.rw)(hn:tb2.nx=tb.nx):aI P f xs tb2 r aO:=⟨h.1,fun g w vs F hw hvs=>h.2 g w vs F (hw.sub (fun _ _ e=>eP _ hb e) (fun _ _ e=>eP _ hr e) (Nat.le_of_eq hn)) hvs⟩
def Idle(P:Program)(f:FuncId):Prop:=∀args w,CallsD P f args .returning w fun e u' w'=>(∃v,e= .returned v)/\u'= .returning/\w'=w
section
variable{P:Program}
theorem A0{f:FuncId}{fn:Func}{x y:Code}{id:Nat}{mk df:Oper}{d:Tmp}{cl:FuncId}{caps:Array Operand}{xs rs:List AV}{r:AV}{tb aO:Tb}(md:List Nat)(cls:List (Nat×List (Nat×iw)))(lab:List (Nat×Nat))(S:List (Nat×AV))(T:Tb)(hm:P.follows .mixedOrders=true)(hf:P.funcs[f]?=some fn)(hb:fn.body=some (.seq x (.seq (.region id #[mk,df] false) y)))(hnm:(fn.name=="runtime.NumGoroutine")=false)(hk:(codeOk cls [] fn.ntmps x&&codeOk cls [] fn.ntmps y)=true)(hx:xs.length<=fn.ntmps)(hr:r=wQ rs)(hmk:mk.op= .makeFunc (.func cl) #[] caps)(hmg:mk.guard=none)(hmd:mk.dst=some d)(hdn:d<fn.ntmps)(hdf:df.op= .defer {callee:= .value (.tmp d),args:=#[],argTypes:=#[]})(hdg:df.guard=none)(hdd:df.dst=none)(hd:r_ S d= .any)(gR:Idle P cl)(hcan:dV P cl)(h1:aw P ⟨md,cls,lab,tb.nx,[]⟩ x (lM xs tb) (pX ⟨md,cls,lab,tb.nx,[]⟩ (fun _:Unit=>True) (fun _=>S) (fun _=>T) (fun _=>0) 1 (fun _ _=>False)))(h2:aw P ⟨md,cls,lab,tb.nx,[]⟩ y (Ig S T) (ve P fn (Ed tb.nx rs aO))):aI P f xs tb r aO:=by
 refine⟨⟨fn,hf,hnm,by rw[hb];rfl⟩,fun g w vs F hw hvs=>?_⟩;have hlen:=hvs.length;simp only[Bool.and_eq_true]at hk;refine calls_of_wp_defers hf hb ?_
 let fr:Fr:=⟨w,g.M,F,g,fn.ntmps,[]⟩
 have hfr:pW fr tb.nx:=fun i hi=>hw.fresh i (by omega);have mJ:gO fr (lM xs tb) {tmps:=vs.toArray++Array.replicate (fn.ntmps-vs.toArray.size) undef,defers:=[]} w:=by
  refine⟨g,G.le_refl g,hw,?_,?_,rfl⟩
  ·intro t;have:=kX (g:=g) xs vs 0 hvs t;simp only[Nat.sub_zero,Nat.zero_le,if_true]at this;show aZ _ _ (iD xs 0 t);by_cases ht:t<vs.length
   ·have e:(vs.toArray++Array.replicate (fn.ntmps-vs.toArray.size) undef).getD t undef=(vs[t]?).getD undef:=by
     simp[Array.getElem?_append,ht]
    rw[e];exact this
   ·rw[m_ xs 0 t (by omega)];exact .any _
  ·simp[fr];omega
 refine wp_seq (wp_mono (fX (fr:=fr) (cx:=⟨md,cls,lab,tb.nx,[]⟩) hm hfr x _ _ hk.1 h1 _ w mJ) ?_);rintro e a1 w1 ⟨st,hq,hs⟩;cases e with
 |normal=>
  obtain⟨_,_,_,rn,k1,k2⟩:=hq;have hs1:=jt rn k1 k2 fr a1 w1 hfr hs;obtain⟨g1,s0,s1,s2,s3,s4⟩:=hs1;refine wp_seq (wp_region_list ?_);simp only[wpList];rw[if_pos (by simp[Region.wanted,hmg])];left;have ahv:(execOp a1.eval mk).run P w1= .ok (.value (.func (.func cl) #[] (caps.map a1.eval))) w1:=by
   simp[execOp,hmk,Instr.makeFunc]
  show Oper.wp P mk a1 w1 _ _;unfold Oper.wp;rw[ahv,Oper.upon_value];obtain⟨a2,N8⟩:∃a2,a1.put mk.dst (.func (.func cl) #[] (caps.map a1.eval))=a2:=⟨_,rfl⟩;have hev:a2.eval (.tmp d)= .func (.func cl) #[] (caps.map a1.eval):=by
   rw[<-N8,hmd];have:d<a1.tmps.size:=by rw[s3];exact hdn
   simp[Act.eval,Act.put,this]
  have q2:gO fr (Ig S T) a2 w1:=by
   refine⟨g1,s0,s1,fun t=>?_,by rw[<-N8,xK];exact s3,by rw[<-N8,A2];exact s4⟩;rw[<-N8,hmd];simp only[Act.put];by_cases e:t=d
   ·subst e;show aZ g1 _ (r_ S t);rw[hd];exact .any _
   ·have:=s2 t;simp only[Array.getD_eq_getD_getElem?]at this⊢;rw[Array.getElem?_setIfInBounds_ne (Ne.symm e)];exact this
  rw[N8];show if _ then _ else _
  rw[if_pos (by simp[Region.wanted,hdg])];left;have Gn:(execOp a2.eval df).run P w1= .ok (.defer {target:= .fn (.func cl) (caps.map a1.eval),args:=#[]}) w1:=by
   simp[execOp,hdf,resolve,hev,Deferred.ofValue]
  rw[Gn,Oper.upon_defer,hdd]
  let fr2:Fr:=⟨w,g.M,F,g,fn.ntmps,[{target:= .fn (.func cl) (caps.map a1.eval),args:=#[]}]⟩
  have q3:gO fr2 (Ig S T) ({a2 with defers:={target:= .fn (.func cl) (caps.map a1.eval),args:=#[]}::a2.defers}.put none undef) w1:=by
   obtain⟨g2,t0,t1,t2,t3,t4⟩:=q2;exact⟨g2,t0,t1,t2,t3,by show _::a2.defers=_;rw[t4]⟩
  show Exit.then _ _ Exit.normal _ _;refine wp_mono (fX (fr:=fr2) (cx:=⟨md,cls,lab,tb.nx,[]⟩) hm hfr y _ _ hk.2 h2 _ w1 q3) ?_;rintro e a w' ⟨st,hq,hs⟩;obtain⟨g',h0,h3,h4,h5,h6⟩:=hs;have fin:tT P (Ed tb.nx rs aO) st.tb (jv P st fn.results.toList)->Leaves P fn a.tmps (fun e w'=>∃v g',e=Ending.returned v/\g.le g'/\aR w g.M F aO g' w'/\aZ g' v r) a.defers .returning w':=by
   intro hres;unfold tT at hres;split at hres
   ·rename_i zs hz;obtain⟨us,k5,k6⟩:=sr h4 h3 _ _ hz;rw[h6];refine leaves_cons (f:=cl) (args:=caps.map a1.eval) (by simp) (by simp[invoke,fL hcan]) ?_;refine(gR _ _).mono ?_;rintro e u' w2 ⟨⟨v,rfl⟩,rfl,rfl⟩;obtain⟨rn,⟨j1,j2,j3,j4,j5,j6⟩,hto,mV⟩:=hres;refine⟨_,mP k5,_,g'.cH (sP rn) aO.nx,rfl,G.jt h0 (eW:=tb.nx) (fun i hi=>hw.fresh i (by omega)) j2 (fun i hi=>kH j1 hi),h3.cH j3 j4 j5 j6,?_⟩;rw[hr];exact mD (fh rs (fj _ k6 hto) mV)
   ·exact hres.elim
  cases e with
  |normal=>exact fin hq
  |ret=>exact fin hq
  |_=>exact hq.elim
 |_=>exact hq.elim
end
end Go.Av
