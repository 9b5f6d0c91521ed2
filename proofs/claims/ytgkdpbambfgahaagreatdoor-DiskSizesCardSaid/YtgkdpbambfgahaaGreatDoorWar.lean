/- DiskSizes, part 18: what the functions compute, and the plain law of that; no condition. -/
import Derived.Test.YtgkdpbambfgahaaGreatDoorWaq
set_option linter.all false
set_option maxRecDepth 100000
set_option maxHeartbeats 64000000
namespace Go.Av
open Go.Proofs
def om(x e:Ext):List Ext:=if x.1<e.1 then[(x.1,e.1-x.1)]else[]
def lT(x e:Ext):List Ext:=if e.1+e.2<x.1+x.2 then[(e.1+e.2,x.1+x.2-e.1-e.2)]else[]
def fy(L:List Ext)(e:Ext):List Ext:=L.take (gY L e.1)++(om (L.getD (gY L e.1) (0,0)) e++(lT (L.getD (gY L e.1) (0,0)) e++L.drop (gY L e.1+1)))
theorem T7(nx id dO:Nat)(hid:id<nx)(aob:dO<nx)(hne:id≠dO)(el sz off:Nat)(xs:List AV)(L:List Ext)(e:Ext)(hx:xs[off]?=some (.view dO 0 L.length 2 none))(hxl:AV.e_.eE nx xs=true)(hL:Up L)(hl:L.length<=65536)(hb:∀e∈L,e.1+e.2<=100000)(hh:hasB L e=true):aI Tryz.prog 265 [.obj id off,.p (jk e)] ⟨[(id,⟨el,sz,xs⟩),(dO,cn L)],[],nx⟩ (.agg true []) ⟨[(id,⟨el,sz,xs.take off++ .view nx 0 (fy L e).length 2 none::xs.drop (off+1)⟩),(nx,cn (fy L e))],[],nx+1⟩:=by
 have c:gY L e.1<L.length:=by
  rcases Nat.lt_or_ge (gY L e.1) L.length with h|h
  ·exact h
  ·unfold hasB at hh;rw[List.getElem?_eq_none h]at hh;cases hh
 have hx1:L[gY L e.1].1<=e.1/\e.1+e.2<=L[gY L e.1].1+L[gY L e.1].2:=by
  unfold hasB at hh;simp[c]at hh;exact hh
 have yY:=hb L[gY L e.1] (by simp);have he:e.1+e.2<=100000:=by omega
 have n1:¬id=nx:=by omega
 have n2:¬dO=nx:=by omega
 have n3:¬nx=id:=by omega
 have n4:¬nx=dO:=by omega
 have n5:¬dO=id:=by omega
 have n6:¬id=nx+1:=by omega
 have n7:¬nx+1=id:=by omega
 have n8:¬dO=nx+1:=by omega
 have n9:¬nx+1=dO:=by omega
 have SW:¬id=nx+1+1:=by omega
 have n11:¬nx+1+1=id:=by omega
 have n12:¬id=nx+1+1+1:=by omega
 have n13:¬nx+1+1+1=id:=by omega
 have sJ:id<nx+1:=by omega
 have hoff:off<xs.length:=by
  rcases Nat.lt_or_ge off xs.length with h|h
  ·exact h
  ·rw[List.getElem?_eq_none h]at hx;cases hx
 have ha:=vK L e.1 hL (by omega) (fun e he=>by have:=hb e he;omega) (by omega);have hr:∀k,AV.cH.dA (sP [(nx,k)]) xs=xs:=fun k=>jN (nx:=nx) (by simp) xs hxl;have GA:∀k,nx<=k->AV.e_.eE k xs=true:=fun k hk=>kP hk xs hxl;have GB:∀bx,lk dO bx=some (cn L)->cQ bx 4 (.view dO 0 L.length 2 none) (jg L):=fun bx h=>iS h rfl;have hN:fy L e=L.take (gY L e.1)++(om L[gY L e.1] e++(lT L[gY L e.1] e++L.drop (gY L e.1+1))):=by unfold fy;simp[c]
 generalize fy L e=N at*;generalize hi:gY L e.1=i at*;have xo:(((cW L).map AV.p).drop (i*2)).take 2=[.p (.int L[i].1),.p (.int L[i].2)]:=by
  rw[<-List.map_drop,lN,show L.drop i=L[i]::L.drop (i+1)from List.drop_eq_getElem_cons c,dy];simp only[List.map_cons,List.take_succ_cons,List.take_zero]
 obtain⟨a,n⟩:=e;generalize Lv:L[i]=x at hx1 yY hN xo;obtain⟨u,v⟩:=x;simp only at hx1 yY he;have h2:i*2+2<=L.length*2:=by omega
 have w0:IntKind.i64.wrap ((i:Int)+1)=(i:Int)+1:=af (by omega) (by omega);have w1:IntKind.i64.wrap ((u:Int)+(v:Int))=(u:Int)+(v:Int):=af (by omega) (by omega);have w2:IntKind.i64.wrap ((u:Int)+(v:Int)-(a:Int))=(u:Int)+(v:Int)-(a:Int):=af (by omega) (by omega);have w3:IntKind.i64.wrap ((u:Int)+(v:Int)-(a:Int)-(n:Int))=((u+v-a-n:Nat):Int):=by rw[af (by omega) (by omega)];omega
 have w4:IntKind.i64.wrap ((a:Int)-(u:Int))=((a-u:Nat):Int):=by rw[af (by omega) (by omega)];omega
 have w5:IntKind.i64.wrap ((a:Int)+(n:Int))=(a:Int)+(n:Int):=af (by omega) (by omega);obtain⟨M,Jw⟩:∃M,M=L.take i++L.drop (i+1):=⟨_,rfl⟩;have U8:M.length=L.length-1:=by rw[Jw];simp;omega
 have hMt:M.take i=L.take i:=by rw[Jw,List.take_append_of_le_length (by simp;omega),List.take_take,Nat.min_self]
 have hMr:M.drop i=L.drop (i+1):=by rw[Jw,List.drop_append,List.length_take,Nat.min_eq_left (by omega),Nat.sub_self,List.drop_of_length_le (by simp;omega)];simp
 by_cases cA:u<a
 ·by_cases cB:a+n<u+v
  ·have cA:u<a:=by omega
   have Z0:0<a-u:=by omega
   have Z1:0<u+v-a-n:=by omega
   have eA:om (u,v) (a,n)=[(u,a-u)]:=by unfold om;rw[if_pos (by simp only;omega)]
   have eB:lT (u,v) (a,n)=[(a+n,u+v-a-n)]:=by unfold lT;rw[if_pos (by simp only;omega)]
   rw[eA,eB]at hN;obtain⟨M2,Ox⟩:∃M2,M2=M.take i++(a+n,u+v-a-n)::M.drop i:=⟨_,rfl⟩;have Z2:M2.length=M.length+1:=by rw[Ox];simp;omega
   have aku:M2.take i=L.take i:=by rw[Ox,List.take_append_of_le_length (by simp;omega),List.take_take,Nat.min_self,hMt]
   have akv:M2.drop i=(a+n,u+v-a-n)::L.drop (i+1):=by rw[Ox,hMr,hMt,List.drop_append,List.length_take,Nat.min_eq_left (by omega),Nat.sub_self,List.drop_of_length_le (by simp;omega)];simp
   have wu:M2.take i++(u,a-u)::M2.drop i=N:=by rw[hN,aku,akv];simp
   have vm:N.length=M2.length+1:=by rw[<-wu];simp;omega
   refine QgQ (rs:=[]) [] [] [] Tryz.func265 rfl (by simp[Tryz.ntmps265]) ?_;simp[hx];refine bE ha ⟨GB _ (by simp[n5]),by simp[cQ],trivial⟩ rfl ?_;simp[n3,n4,n5,c,xo,w0,h2];refine az (nu (nx+1) dO (by omega) L i c (by omega)) (by simp) (by simp[ay,n2,n5]) trivial rfl ?_;rw[<-Jw,<-U8];simp[n2,n5,w1,w2,w3,w5,Z1];refine az (jE (nx+1+1) (nx+1) (by omega) M i (a+n,u+v-a-n) (by omega) (by omega)) (by simp) (by simp[ay]) trivial rfl ?_;rw[<-Ox,<-Z2];simp[n7,w4,Z0];refine az (jE (nx+1+1+1) (nx+1+1) (by omega) M2 i (u,a-u) (by omega) (by omega)) (by simp) (by simp[ay]) trivial rfl ?_;rw[wu];simp[n1,n11,n12];refine⟨by omega,[(nx,nx+1+1+1)],?_⟩;simp[n1,n12,n13,hr,GA,sJ,vm]
  ·have cA:u<a:=by omega
   have Z0:0<a-u:=by omega
   have Z1:¬0<u+v-a-n:=by omega
   have eA:om (u,v) (a,n)=[(u,a-u)]:=by unfold om;rw[if_pos (by simp only;omega)]
   have eB:lT (u,v) (a,n)=[]:=by unfold lT;rw[if_neg (by simp only;omega)]
   rw[eA,eB]at hN;have wu:M.take i++(u,a-u)::M.drop i=N:=by rw[hN,hMt,hMr];simp
   have vm:N.length=M.length+1:=by rw[<-wu];simp;omega
   refine QgQ (rs:=[]) [] [] [] Tryz.func265 rfl (by simp[Tryz.ntmps265]) ?_;simp[hx];refine bE ha ⟨GB _ (by simp[n5]),by simp[cQ],trivial⟩ rfl ?_;simp[n3,n4,n5,c,xo,w0,h2];refine az (nu (nx+1) dO (by omega) L i c (by omega)) (by simp) (by simp[ay,n2,n5]) trivial rfl ?_;rw[<-Jw,<-U8];simp[n2,n5,w1,w2,w3,w4,Z1,Z0];refine az (jE (nx+1+1) (nx+1) (by omega) M i (u,a-u) (by omega) (by omega)) (by simp) (by simp[ay]) trivial rfl ?_;rw[wu];simp[n1,n7,SW];refine⟨by omega,[(nx,nx+1+1)],?_⟩;simp[n1,SW,n11,hr,GA,sJ,vm]
 ·by_cases cB:a+n<u+v
  ·have cA:¬u<a:=by omega
   have Z0:¬0<a-u:=by omega
   have Z1:0<u+v-a-n:=by omega
   have eA:om (u,v) (a,n)=[]:=by unfold om;rw[if_neg (by simp only;omega)]
   have eB:lT (u,v) (a,n)=[(a+n,u+v-a-n)]:=by unfold lT;rw[if_pos (by simp only;omega)]
   rw[eA,eB]at hN;obtain⟨M2,Ox⟩:∃M2,M2=M.take i++(a+n,u+v-a-n)::M.drop i:=⟨_,rfl⟩;have Z2:M2.length=M.length+1:=by rw[Ox];simp;omega
   have aku:M2.take i=L.take i:=by rw[Ox,List.take_append_of_le_length (by simp;omega),List.take_take,Nat.min_self,hMt]
   have akv:M2.drop i=(a+n,u+v-a-n)::L.drop (i+1):=by rw[Ox,hMr,hMt,List.drop_append,List.length_take,Nat.min_eq_left (by omega),Nat.sub_self,List.drop_of_length_le (by simp;omega)];simp
   have wu:M2=N:=by rw[hN,Ox,hMt,hMr];simp
   have vm:N.length=M2.length:=by rw[wu]
   refine QgQ (rs:=[]) [] [] [] Tryz.func265 rfl (by simp[Tryz.ntmps265]) ?_;simp[hx];refine bE ha ⟨GB _ (by simp[n5]),by simp[cQ],trivial⟩ rfl ?_;simp[n3,n4,n5,c,xo,w0,h2];refine az (nu (nx+1) dO (by omega) L i c (by omega)) (by simp) (by simp[ay,n2,n5]) trivial rfl ?_;rw[<-Jw,<-U8];simp[n2,n5,w1,w2,w3,w5,Z1];refine az (jE (nx+1+1) (nx+1) (by omega) M i (a+n,u+v-a-n) (by omega) (by omega)) (by simp) (by simp[ay]) trivial rfl ?_;rw[<-Ox,<-Z2];simp[n1,n7,SW,w4,Z0];refine⟨by omega,[(nx,nx+1+1)],?_⟩;simp[n1,SW,n11,hr,GA,sJ,vm,wu]
  ·have cA:¬u<a:=by omega
   have Z0:¬0<a-u:=by omega
   have Z1:¬0<u+v-a-n:=by omega
   have eA:om (u,v) (a,n)=[]:=by unfold om;rw[if_neg (by simp only;omega)]
   have eB:lT (u,v) (a,n)=[]:=by unfold lT;rw[if_neg (by simp only;omega)]
   rw[eA,eB]at hN;have wu:M=N:=by rw[hN,Jw];simp
   have vm:N.length=M.length:=by rw[wu]
   refine QgQ (rs:=[]) [] [] [] Tryz.func265 rfl (by simp[Tryz.ntmps265]) ?_;simp[hx];refine bE ha ⟨GB _ (by simp[n5]),by simp[cQ],trivial⟩ rfl ?_;simp[n3,n4,n5,c,xo,w0,h2];refine az (nu (nx+1) dO (by omega) L i c (by omega)) (by simp) (by simp[ay,n2,n5]) trivial rfl ?_;rw[<-Jw,<-U8];simp[n1,n2,n5,n6,w1,w2,w3,w4,Z1,Z0];refine⟨by omega,[(nx,nx+1)],?_⟩;simp[n1,n6,n7,hr,GA,sJ,vm,wu]
structure zZ(L:List Ext):Prop where
 pos:∀e∈L,1<=e.2
 Z4:L.Pairwise fun a b=>a.1+a.2<b.1
 top:∀e∈L,e.1+e.2<=65536
 len:L.length<=65536
theorem zZ.up{L:List Ext}(h:zZ L):Up L:=h.Z4.imp fun h=>by omega
theorem zZ.Vt{L:List Ext}(h:zZ L){i:Nat}(hi:i<L.length):gY L L[i].1=i:=by
 refine LJ (by omega) (fun p hp hpi=>?_) (fun hp=>?_)
 ·have:=List.pairwise_iff_getElem.1 h.Z4 p i hp hi hpi;omega
 ·have:=h.pos L[i] (by simp);omega
@[reducible]def gj(n f r w:Nat)(F R W:List Ext):List AV:=[.p (.int n),.view f 0 F.length 2 none,.view r 0 R.length 2 none,.view w 0 W.length 2 none]
@[reducible]def iM(n f r w:Nat)(F R W:List Ext):Ob:=⟨274,4,gj n f r w F R W⟩
@[reducible]def dU(m f r w n:Nat)(F R W:List Ext):List (Nat×Ob):=[(m,iM n f r w F R W),(f,cn F),(r,cn R),(w,cn W)]
structure JL(m f r w nx:Nat):Prop where
 hm:m<nx
 hf:f<nx
 hr:r<nx
 hw:w<nx
 mf:m≠f
 mr:m≠r
 mw:m≠w
 fr:f≠r
 fw:f≠w
 rw:r≠w
theorem Vw(m f r w nx n:Nat)(h:JL m f r w nx)(F R W:List Ext)(e:Ext)(hF:zZ F)(hR:zZ R)(hh:hasB F e=true)(he:e.1+e.2<=65536):aI Tryz.prog 308 [.obj m 0,.p (jk e)] ⟨dU m f r w n F R W,[],nx⟩ (.agg true []) ⟨dU m nx (nx+1) w n (fy F e) (fS R e) W,[],nx+2⟩:=by
 obtain⟨hm,hf,hr,hw,mf,mr,mw,fr,fw,nC⟩:=h;have oZ:=Ne.symm mf;have pS:=Ne.symm mr;have pT:=Ne.symm mw;have sU:=Ne.symm fr;have ux:=Ne.symm fw;have qJ:=Ne.symm nC;have q1:¬m=nx:=by omega
 have p1:¬nx=m:=by omega
 have q2:¬m=nx+1:=by omega
 have p2:¬nx+1=m:=by omega
 have Bl:m<nx+1:=by omega
 have JO:m<nx+1+1:=by omega
 have km:m<nx+2:=by omega
 have q3:¬f=nx:=by omega
 have p3:¬nx=f:=by omega
 have q4:¬f=nx+1:=by omega
 have p4:¬nx+1=f:=by omega
 have oa:f<nx+1:=by omega
 have Vu:f<nx+1+1:=by omega
 have kf:f<nx+2:=by omega
 have q5:¬r=nx:=by omega
 have p5:¬nx=r:=by omega
 have q6:¬r=nx+1:=by omega
 have p6:¬nx+1=r:=by omega
 have Bx:r<nx+1:=by omega
 have OE:r<nx+1+1:=by omega
 have kr:r<nx+2:=by omega
 have q7:¬w=nx:=by omega
 have p7:¬nx=w:=by omega
 have q8:¬w=nx+1:=by omega
 have p8:¬nx+1=w:=by omega
 have Fh:w<nx+1:=by omega
 have OF:w<nx+1+1:=by omega
 have kw:w<nx+2:=by omega
 refine QgQ (rs:=[]) [] [(1,[(4,.w [])]),(2,[(4,.w [])])] [] Tryz.func308 rfl (by simp[Tryz.ntmps308]) ?_;simp[dU,iM,gj];refine az (T7 nx m f hm hf mf 274 4 1 (gj n f r w F R W) F e (by simp) (by simp[hf,hr,hw]) hF.up hF.len (fun e he=>by have:=hF.top e he;omega) hh) (by simp) (by simp[ay,oZ]) trivial rfl ?_;simp[gj,oZ,mr,mw,fr,fw];refine az (FQ (nx+1) m r (by omega) (by omega) mr 274 4 2 (gj n nx r w (fy F e) R W) R e (by simp) (by simp;omega) hR.up hR.len (fun e he=>by have:=hR.top e he;omega) (by omega)) (by simp) (by simp[ay,gj,pS,q5]) trivial rfl ?_;simp[gj,pS,mw,nC,q1,q2,JO,q5,p7,p8,OF];exact⟨[],by simp[mw,pT,q1,p1,q2,p2,q7,p7,q8,p8]⟩
def u6(q:Ext->Bool)(L:List Ext):Int:=if(L.takeWhile fun e=>!q e).length<L.length then((L.takeWhile fun e=>!q e).length:Int)else-1
theorem takeWhile_eq{α:Type}{p:α->Bool}{l:List α}{k:Nat}(h:∀x∈l.take k,p x=true)(hk:k<=l.length)(he:∀hk:k<l.length,p l[k]=false):(l.takeWhile p).length=k:=by
 induction l generalizing k with
 |nil=>simp at hk;subst hk;rfl
 |cons a l ih=>
  cases k with
  |zero=>have:=he (by simp);simp at this;simp[this]
  |succ k=>
   have ha:=h a (by simp);have:=ih (k:=k) (fun x hx=>h x (by simp[hx])) (by simpa using hk) (fun hk'=>by have:=he (by simp;omega);simpa using this);simp[ha,this]
theorem Fj{g:FuncId}{caps:List PC}(q:Ext->Bool)(vs:List Ext)(hk:vs.length<=1000000)(h:∀s∈vs,aB Tryz.prog g (jk s::caps) (.bool (q s))):aB Tryz.prog 306 [jg vs,.fn (.func g) caps] (.int (u6 q vs)):=by
 refine QpQ (ys:=[_]) [] [] [] Tryz.func306 rfl (by simp[Tryz.ntmps306]) ?_;simp;refine bW (fun k:Nat=>k<=vs.length/\∀x∈vs.take k,(!q x)=true) (fun k=>[(0,.p (jg vs)),(1,.p (.fn (.func g) caps)),(7,.p (.int vs.length)),(8,.p (.int k))]) (fun k=>vs.length-k) 0 (by simp) (aA (by simp)) ?_;rintro k ⟨h1,h2⟩;by_cases c1:k<vs.length
 ·simp[c1];refine ai (h vs[k] (by simp)) (by simp) ?_;by_cases c2:q vs[k]=true
  ·have e:=takeWhile_eq (p:=fun v=>!q v) h2 h1 (fun _=>by simpa using c2);simp[c2,u6,e,c1,Tryz.results306]
  ·simp[c2];refine⟨k+1,⟨by omega,?_⟩,by omega,aA ?_⟩
   ·intro a b hx;rw[List.take_succ_eq_append_getElem c1]at hx;rcases List.mem_append.1 hx with hx|hx
    ·simpa using h2 (a,b) hx
    ·simp only[List.mem_singleton]at hx;rw[hx];simpa using c2
   ·simp[af (n:=(k:Int)+1) (by omega) (by omega)]
 ·have e:=takeWhile_eq (p:=fun v=>!q v) h2 h1 (fun h=>absurd h c1);simp[e,c1,u6,Tryz.results306]
theorem P3{g:FuncId}{caps:List PC}(q:Ext->Bool)(vs:List Ext)(hk:vs.length<=1000000)(h:∀s∈vs,aB Tryz.prog g (jk s::caps) (.bool (q s))):aB Tryz.prog 311 [jg vs,.fn (.func g) caps] (.int (u6 q vs)):=by
 refine QpQ (ys:=[_]) [] [] [] Tryz.func311 rfl (by simp[Tryz.ntmps311]) ?_;simp;refine bW (fun k:Nat=>k<=vs.length/\∀x∈vs.take k,(!q x)=true) (fun k=>[(0,.p (jg vs)),(1,.p (.fn (.func g) caps)),(7,.p (.int vs.length)),(8,.p (.int k))]) (fun k=>vs.length-k) 0 (by simp) (aA (by simp)) ?_;rintro k ⟨h1,h2⟩;by_cases c1:k<vs.length
 ·simp[c1];refine ai (h vs[k] (by simp)) (by simp) ?_;by_cases c2:q vs[k]=true
  ·have e:=takeWhile_eq (p:=fun v=>!q v) h2 h1 (fun _=>by simpa using c2);simp[c2,u6,e,c1,Tryz.results311]
  ·simp[c2];refine⟨k+1,⟨by omega,?_⟩,by omega,aA ?_⟩
   ·intro a b hx;rw[List.take_succ_eq_append_getElem c1]at hx;rcases List.mem_append.1 hx with hx|hx
    ·simpa using h2 (a,b) hx
    ·simp only[List.mem_singleton]at hx;rw[hx];simpa using c2
   ·simp[af (n:=(k:Int)+1) (by omega) (by omega)]
 ·have e:=takeWhile_eq (p:=fun v=>!q v) h2 h1 (fun h=>absurd h c1);simp[e,c1,u6,Tryz.results311]
theorem By(q:Ext->Bool)(vs:List Ext):decide (0<=u6 q vs)=vs.any q:=by
 unfold u6
 induction vs with
 |nil=>rfl
 |cons a l ih=>
  cases h:q a with
  |true=>simp[h]
  |false=>
   simp only[List.takeWhile_cons,h,Bool.not_false,if_true,List.length_cons,Nat.add_lt_add_iff_right,List.any_cons,Bool.false_or];rw[<-ih];split<;>simp<;>omega
theorem wV{g:FuncId}{caps:List PC}(q:Ext->Bool)(vs:List Ext)(hk:vs.length<=1000000)(h:∀s∈vs,aB Tryz.prog g (jk s::caps) (.bool (q s))):aB Tryz.prog 231 [jg vs,.fn (.func g) caps] (.bool (vs.any q)):=by
 refine QpQ (ys:=[_]) [] [] [] Tryz.func231 rfl (by simp[Tryz.ntmps231]) ?_;simp;refine ai (P3 q vs hk h) (by simp) ?_;simp[Tryz.results231,<-By]
theorem JN(e:Ext)(n:Int):aB Tryz.prog 307 [jk e,.ref (.int n)] (.bool (decide (n<=(e.2:Int)))):=by
 refine QpQ (ys:=[_]) [] [] [] Tryz.func307 rfl (by simp[Tryz.ntmps307]) ?_;simp[Tryz.results307]
theorem Bw{m f r w n:Nat}{F R W:List Ext}{nx:Nat}(h:JL m f r w nx):cQ (dU m f r w n F R W) 4 (.view f 0 F.length 2 none) (jg F)/\cQ (dU m f r w n F R W) 4 (.view w 0 W.length 2 none) (jg W):=by
 obtain⟨hm,hf,hr,hw,mf,mr,mw,fr,fw,nC⟩:=h;have oZ:=Ne.symm mf;have pS:=Ne.symm mr;have pT:=Ne.symm mw;have sU:=Ne.symm fr;have ux:=Ne.symm fw;have qJ:=Ne.symm nC;have q1:¬m=nx:=by omega
 have p1:¬nx=m:=by omega
 have Bl:m<nx+1:=by omega
 have q2:¬f=nx:=by omega
 have p2:¬nx=f:=by omega
 have oa:f<nx+1:=by omega
 have q3:¬r=nx:=by omega
 have p3:¬nx=r:=by omega
 have Bx:r<nx+1:=by omega
 have q4:¬w=nx:=by omega
 have p4:¬nx=w:=by omega
 have Fh:w<nx+1:=by omega
 exact⟨iS (by simp[dU,oZ]) rfl,iS (by simp[dU,pT,ux,qJ]) rfl⟩
theorem JM(m f r w nx n:Nat)(h:JL m f r w nx)(F R W:List Ext)(hF:zZ F):aI Tryz.prog 87 [.obj m 0] ⟨dU m f r w n F R W,[],nx⟩ (.p (.int (yz F))) ⟨dU m f r w n F R W,[],nx⟩:=by
 have hb:=(Bw (n:=n) (F:=F) (R:=R) (W:=W) h).1;obtain⟨hm,hf,hr,hw,mf,mr,mw,fr,fw,nC⟩:=h;have oZ:=Ne.symm mf;have pS:=Ne.symm mr;have pT:=Ne.symm mw;have sU:=Ne.symm fr;have ux:=Ne.symm fw;have qJ:=Ne.symm nC;have q1:¬m=nx:=by omega
 have p1:¬nx=m:=by omega
 have Bl:m<nx+1:=by omega
 have q2:¬f=nx:=by omega
 have p2:¬nx=f:=by omega
 have oa:f<nx+1:=by omega
 have q3:¬r=nx:=by omega
 have p3:¬nx=r:=by omega
 have Bx:r<nx+1:=by omega
 have q4:¬w=nx:=by omega
 have p4:¬nx=w:=by omega
 have Fh:w<nx+1:=by omega
 refine QgQ (rs:=[_]) [] [] [] Tryz.func87 rfl (by simp[Tryz.ntmps87]) ?_;simp[dU,iM,gj];refine bE (Vq F (by have:=hF.len;omega) (fun e he=>by have:=hF.top e he;omega)) ⟨hb,trivial⟩ rfl ?_;simp[Tryz.results87];exact⟨[],by simp[mf,oZ,mr,pS,mw,pT,fr,sU,fw,ux,nC,qJ,hm,hf,hr,hw]⟩
theorem Vr(m f r w nx n:Nat)(h:JL m f r w nx)(F R W:List Ext)(k:Int)(hF:zZ F)(hk:k<1\/∀e∈F,¬k<=(e.2:Int)):aI Tryz.prog 227 [.obj m 0,.p (.int k)] ⟨dU m f r w n F R W,[],nx⟩ (.agg true [.p (jk (0,0)),.p (.bool false)]) ⟨dU m f r w n F R W,[],nx⟩:=by
 have hb:=(Bw (n:=n) (F:=F) (R:=R) (W:=W) h).1;have hi:=Fj (g:=307) (caps:=[.ref (.int k)]) (fun e=>decide (k<=(e.2:Int))) F (by have:=hF.len;omega) (fun e _=>JN e k);have hneg:k<1\/(u6 (fun e=>decide (k<=(e.2:Int))) F<0):=by
  rcases hk with hk|hk
  ·exact .inl hk
  ·refine .inr ?_;have:=By (fun e=>decide (k<=(e.2:Int))) F;have h2:F.any (fun e=>decide (k<=(e.2:Int)))=false:=by
    rw[List.any_eq_false];intro e he;simpa using hk e he
   rw[h2]at this;simp only[decide_eq_false_iff_not]at this;omega
 generalize u6 (fun e=>decide (k<=(e.2:Int))) F=i at*;obtain⟨hm,hf,hr,hw,mf,mr,mw,fr,fw,nC⟩:=h;have oZ:=Ne.symm mf;have pS:=Ne.symm mr;have pT:=Ne.symm mw;have sU:=Ne.symm fr;have ux:=Ne.symm fw;have qJ:=Ne.symm nC;have q1:¬m=nx:=by omega
 have p1:¬nx=m:=by omega
 have Bl:m<nx+1:=by omega
 have q2:¬f=nx:=by omega
 have p2:¬nx=f:=by omega
 have oa:f<nx+1:=by omega
 have q3:¬r=nx:=by omega
 have p3:¬nx=r:=by omega
 have Bx:r<nx+1:=by omega
 have q4:¬w=nx:=by omega
 have p4:¬nx=w:=by omega
 have Fh:w<nx+1:=by omega
 refine QgQ (rs:=[_,_]) [] [(4,[(3,.r 1),(7,.r 2),(10,.w [1,2]),(11,.s 3 [1,2])])] [(1,m),(2,f),(3,nx+1)] Tryz.func227 rfl (by simp[Tryz.ntmps227]) ?_;simp[dU,iM,gj,q1];refine bE hi ⟨iS (by simp[oZ,q2]) rfl,by simp[cQ],trivial⟩ rfl ?_;by_cases c:k<1
 ·simp[c,Tryz.results227,mf,mr,mw,fr,fw,nC,p1,hm,p2,hf,p3,hr,p4,hw];exact⟨[],by simp[mf,oZ,mr,pS,mw,pT,fr,sU,fw,ux,nC,qJ,q1,q2,q3,q4]⟩
 ·have c2:i<0:=by omega
  simp[c,c2,Tryz.results227,mf,mr,mw,fr,fw,nC,p1,hm,p2,hf,p3,hr,p4,hw];exact⟨[],by simp[mf,oZ,mr,pS,mw,pT,fr,sU,fw,ux,nC,qJ,q1,q2,q3,q4]⟩
theorem Vs(m f r w nx n:Nat)(h:JL m f r w nx)(F R W:List Ext)(k i:Nat)(hF:zZ F)(hR:zZ R)(hk:1<=k)(hi:i<F.length)(hki:k<=F[i].2)(hlt:∀p (hp:p<F.length),p<i->F[p].2<k):aI Tryz.prog 227 [.obj m 0,.p (.int k)] ⟨dU m f r w n F R W,[],nx⟩ (.agg true [.p (jk (F[i].1,k)),.p (.bool true)]) ⟨dU m nx (nx+1) w n (fy F (F[i].1,k)) (fS R (F[i].1,k)) W,[],nx+2⟩:=by
 have hq:u6 (fun e=>decide ((k:Int)<=(e.2:Int))) F=i:=by
  unfold u6;have:(F.takeWhile fun e=>!decide ((k:Int)<=(e.2:Int))).length=i:=takeWhile_eq (fun x hx=>by
   obtain⟨p,hp,rfl⟩:=List.getElem_of_mem hx;simp at hp⊢;exact hlt p (by omega) (by omega)) (by omega) (fun _=>by simpa using hki)
  rw[this,if_pos hi]
 have Bm:=Fj (g:=307) (caps:=[.ref (.int k)]) (fun e=>decide ((k:Int)<=(e.2:Int))) F (by have:=hF.len;omega) (fun e _=>JN e k);rw[hq]at Bm;have DD:=hF.top F[i] (by simp);have hh:hasB F (F[i].1,k)=true:=by
  unfold hasB;simp only;rw[hF.Vt hi];simp[hi];exact hki
 have g:=yR hi;have g1:∀h',(cW F)[i*2]'h'= .int F[i].1:=fun h'=>by have:=g.1;rw[List.getElem?_eq_getElem h']at this;injection this
 have apG:=h;obtain⟨hm,hf,hr,hw,mf,mr,mw,fr,fw,nC⟩:=h;have oZ:=Ne.symm mf;have pS:=Ne.symm mr;have pT:=Ne.symm mw;have sU:=Ne.symm fr;have ux:=Ne.symm fw;have qJ:=Ne.symm nC;have q1:¬m=nx:=by omega
 have p1:¬nx=m:=by omega
 have q2:¬m=nx+1:=by omega
 have p2:¬nx+1=m:=by omega
 have q3:¬m=nx+1+1:=by omega
 have p3:¬nx+1+1=m:=by omega
 have q4:¬m=nx+1+1+1:=by omega
 have p4:¬nx+1+1+1=m:=by omega
 have q5:¬m=nx+1+1+1+1:=by omega
 have p5:¬nx+1+1+1+1=m:=by omega
 have Bl:m<nx+1:=by omega
 have JO:m<nx+1+1:=by omega
 have lm3:m<nx+1+1+1:=by omega
 have lm4:m<nx+1+1+1+1:=by omega
 have lm5:m<nx+1+1+1+1+1:=by omega
 have km:m<nx+5:=by omega
 have q6:¬f=nx:=by omega
 have p6:¬nx=f:=by omega
 have q7:¬f=nx+1:=by omega
 have p7:¬nx+1=f:=by omega
 have q8:¬f=nx+1+1:=by omega
 have p8:¬nx+1+1=f:=by omega
 have q9:¬f=nx+1+1+1:=by omega
 have p9:¬nx+1+1+1=f:=by omega
 have q10:¬f=nx+1+1+1+1:=by omega
 have Tv:¬nx+1+1+1+1=f:=by omega
 have oa:f<nx+1:=by omega
 have Vu:f<nx+1+1:=by omega
 have lf3:f<nx+1+1+1:=by omega
 have lf4:f<nx+1+1+1+1:=by omega
 have lf5:f<nx+1+1+1+1+1:=by omega
 have kf:f<nx+5:=by omega
 have q11:¬r=nx:=by omega
 have Fl:¬nx=r:=by omega
 have q12:¬r=nx+1:=by omega
 have Fm:¬nx+1=r:=by omega
 have q13:¬r=nx+1+1:=by omega
 have N9:¬nx+1+1=r:=by omega
 have q14:¬r=nx+1+1+1:=by omega
 have Vv:¬nx+1+1+1=r:=by omega
 have q15:¬r=nx+1+1+1+1:=by omega
 have p15:¬nx+1+1+1+1=r:=by omega
 have Bx:r<nx+1:=by omega
 have OE:r<nx+1+1:=by omega
 have lr3:r<nx+1+1+1:=by omega
 have lr4:r<nx+1+1+1+1:=by omega
 have lr5:r<nx+1+1+1+1+1:=by omega
 have kr:r<nx+5:=by omega
 have q16:¬w=nx:=by omega
 have N_:¬nx=w:=by omega
 have q17:¬w=nx+1:=by omega
 have Tw:¬nx+1=w:=by omega
 have q18:¬w=nx+1+1:=by omega
 have p18:¬nx+1+1=w:=by omega
 have q19:¬w=nx+1+1+1:=by omega
 have p19:¬nx+1+1+1=w:=by omega
 have q20:¬w=nx+1+1+1+1:=by omega
 have p20:¬nx+1+1+1+1=w:=by omega
 have Fh:w<nx+1:=by omega
 have OF:w<nx+1+1:=by omega
 have lw3:w<nx+1+1+1:=by omega
 have lw4:w<nx+1+1+1+1:=by omega
 have lw5:w<nx+1+1+1+1+1:=by omega
 have kw:w<nx+5:=by omega
 have hT:=Vw m f r w (nx+2) n ⟨by omega,by omega,by omega,by omega,mf,mr,mw,fr,fw,nC⟩ F R W (F[i].1,k) hF hR hh (by simp only;omega);have c0:decide ((k:Int)<1)=false:=by simp;omega
 refine QgQ (rs:=[_,_]) [] [(4,[(3,.r 1),(7,.r 2),(10,.w [1,2]),(11,.s 3 [1,2])])] [(1,m),(2,f),(3,nx+1)] Tryz.func227 rfl (by simp[Tryz.ntmps227]) ?_;simp[dU,iM,gj,q1];refine bE Bm ⟨iS (by simp[oZ,q6]) rfl,by simp[cQ],trivial⟩ rfl ?_;have hkz:k≠0:=by omega
 simp[c0,hi,g1,oZ,q1,q2,p2,q6,q7,p7,Fm,Tw];refine az hT (by simp) (by simp[ay,iM,gj,oZ,pS,pT,sU,ux,qJ,q1,q2,q6,q7,q11,q12,q16,q17]) trivial rfl ?_;simp[dU,iM,gj,oZ,pS,mw,pT,sU,ux,qJ,q1,p1,q2,p2,JO,q6,q7,q11,q12,q16,N_,q17,Tw,OF,Tryz.results227];exact⟨[(nx,nx+2),(nx+1,nx+2+1)],by simp[mw,pT,q1,q2,q3,p3,q4,p4,q16,q17,q18,p18,q19,p19];omega⟩
theorem z6{P:Program}{f:FuncId}{xs:List AV}{tb aO pO:Tb}{r:AV}(h:aI P f xs tb r aO)(hb:∀i o,lk i pO.bx=some o->lk i aO.bx=some o)(hr:∀i o,lk i pO.rw=some o->lk i aO.rw=some o)(hn:aO.nx<=pO.nx):aI P f xs tb r pO:=oo h fun _ _ _ g _ _ hw hv=>⟨g,G.le_refl g,hw.sub hb hr hn,hv⟩
theorem afj(nx n:Nat)(h1:1<=n)(h2:n<=65536):aI Tryz.prog 73 [.p (.int n)] ⟨[],[],nx⟩ (.agg true [.obj (nx+1) 0,.p (.int 0)]) ⟨dU (nx+1) nx (nx+2) (nx+3) n [(0,n)] [] [],[],nx+4⟩:=by
 have c1:decide ((n:Int)<1)=false:=by simp;omega
 have c2:decide ((65536:Int)<n)=false:=by simp;omega
 have key:aI Tryz.prog 73 [.p (.int n)] ⟨[],[],nx⟩ (.agg true [.obj (nx+1) 0,.p (.int 0)]) ⟨[(nx+1,⟨274,4,[.p (.int n),.view nx 0 1 2 (some 1),.p .nil,.p .nil]⟩),(nx,cn [(0,n)])],[],nx+2⟩:=by
  refine QgQ (rs:=[_,_]) [13,15] [] [] Tryz.func73 rfl (by simp[Tryz.ntmps73]) ?_;simp[c1,c2,Tryz.results73,dy];exact⟨[],by simp⟩
 have k1:aI Tryz.prog 73 [.p (.int n)] ⟨[],[],nx⟩ (.agg true [.obj (nx+1) 0,.p (.int 0)]) ⟨[(nx+1,⟨274,4,[.p (.int n),.view nx 0 1 2 none,.p .nil,.p .nil]⟩),(nx,cn [(0,n)])],[],nx+2⟩:=by
  simpa[Tb.aQ,del]using kI (id:=nx+1) (j:=1) (x:= .view nx 0 1 2 (some 1)) (ob:=⟨274,4,[.p (.int n),.view nx 0 1 2 (some 1),.p .nil,.p .nil]⟩) (.view nx 0 1 2 none) key (by simp[lk]) rfl (by simp)
 have k2:aI Tryz.prog 73 [.p (.int n)] ⟨[],[],nx⟩ (.agg true [.obj (nx+1) 0,.p (.int 0)]) ⟨[(nx+1,⟨274,4,[.p (.int n),.view nx 0 1 2 none,.view (nx+2) 0 0 2 none,.p .nil]⟩),(nx+2,cn []),(nx,cn [(0,n)])],[],nx+3⟩:=by
  have t:=me (id:=nx+1) (j:=2) (ob:=⟨274,4,[.p (.int n),.view nx 0 1 2 none,.p .nil,.p .nil]⟩) 157 2 k1 (by simp[lk]) rfl;simp[Tb.aQ,Tb.aT,del]at t;exact t
 have k3:aI Tryz.prog 73 [.p (.int n)] ⟨[],[],nx⟩ (.agg true [.obj (nx+1) 0,.p (.int 0)]) ⟨[(nx+1,⟨274,4,[.p (.int n),.view nx 0 1 2 none,.view (nx+2) 0 0 2 none,.view (nx+3) 0 0 2 none]⟩),(nx+3,cn []),(nx+2,cn []),(nx,cn [(0,n)])],[],nx+4⟩:=by
  have t:=me (id:=nx+1) (j:=3) (ob:=⟨274,4,[.p (.int n),.view nx 0 1 2 none,.view (nx+2) 0 0 2 none,.p .nil]⟩) 157 2 k2 (by simp[lk]) rfl;simp[Tb.aQ,Tb.aT,del]at t;exact t
 refine z6 k3 (fun i o ho=>?_) (fun i o ho=>ho) (Nat.le_refl _);simp only[iM,gj,lk]at ho⊢;split at ho
 ·rename_i h;rw[if_pos h];exact ho
 ·split at ho
  ·rename_i h;subst h;simp;simpa using ho
  ·split at ho
   ·rename_i h;subst h;simp;simpa using ho
   ·split at ho
    ·rename_i h;subst h;simp;simpa using ho
    ·cases ho
def iy(e:Ext)(s:Nat):Prop:=e.1<=s/\s<e.1+e.2
def mem(L:List Ext)(s:Nat):Prop:=∃e∈L,iy e s
structure Nr(L:List Ext):Prop where
 pos:∀e∈L,1<=e.2
 Z4:L.Pairwise fun a b=>a.1+a.2<b.1
theorem zZ.nr{L:List Ext}(h:zZ L):Nr L:=⟨h.pos,h.Z4⟩
theorem Nr.up{L:List Ext}(h:Nr L):Up L:=h.Z4.imp fun h=>by omega
theorem JH:Nr []:=⟨by simp,.nil⟩
theorem Vn{e:Ext}(h:1<=e.2):Nr [e]:=⟨by simpa using h,by simp⟩
theorem fY{A B:List Ext}:Nr (A++B)↔Nr A/\Nr B/\∀a∈A,∀b∈B,a.1+a.2<b.1:=by
 constructor
 ·rintro⟨h1,h2⟩;obtain⟨h3,h4,h5⟩:=List.pairwise_append.1 h2;exact⟨⟨fun e he=>h1 e (by simp[he]),h3⟩,⟨fun e he=>h1 e (by simp[he]),h4⟩,h5⟩
 ·rintro⟨⟨h1,h2⟩,⟨h3,h4⟩,h5⟩;exact⟨fun e he=>by rcases List.mem_append.1 he with h|h;exact h1 e h;exact h3 e h,List.pairwise_append.2 ⟨h2,h4,h5⟩⟩
theorem jA{e:Ext}{B:List Ext}:Nr (e::B)↔1<=e.2/\Nr B/\∀b∈B,e.1+e.2<b.1:=by
 constructor
 ·rintro⟨h1,h2⟩;obtain⟨h3,h4⟩:=List.pairwise_cons.1 h2;exact⟨h1 e (by simp),⟨fun e he=>h1 e (by simp[he]),h4⟩,h3⟩
 ·rintro⟨h0,⟨h3,h4⟩,h5⟩;exact⟨fun x hx=>by rcases List.mem_cons.1 hx with rfl|h;exact h0;exact h3 x h,List.pairwise_cons.2 ⟨h5,h4⟩⟩
theorem mem_append{A B:List Ext}{s:Nat}:mem (A++B) s↔mem A s\/mem B s:=by
 unfold mem;simp only[List.mem_append];constructor
 ·rintro⟨e,h|h,k⟩;exact .inl ⟨e,h,k⟩;exact .inr ⟨e,h,k⟩
 ·rintro(⟨e,h,k⟩|⟨e,h,k⟩);exact⟨e,.inl h,k⟩;exact⟨e,.inr h,k⟩
theorem mem_cons{e:Ext}{B:List Ext}{s:Nat}:mem (e::B) s↔iy e s\/mem B s:=by
 unfold mem;simp only[List.mem_cons];constructor
 ·rintro⟨x,rfl|h,k⟩;exact .inl k;exact .inr ⟨x,h,k⟩
 ·rintro(k|⟨x,h,k⟩);exact⟨e,.inl rfl,k⟩;exact⟨x,.inr h,k⟩
@[simp]theorem zV{s:Nat}:¬mem [] s:=by rintro⟨e,h,_⟩;simp at h
theorem oY{L:List Ext}(h:Nr L)(t:Nat):(∀a∈L.take (gY L t),a.1+a.2<=t)/\(∀b∈L.drop (gY L t),t<b.1+b.2):=by
 have key:∀(L:List Ext),Up L->(∀a∈L.take (gY L t),a.1+a.2<=t)/\(∀b∈L.drop (gY L t),t<b.1+b.2):=by
  intro L
  induction L with
  |nil=>intro _;simp[gY]
  |cons e L ih=>
   intro hU;obtain⟨h1,h2⟩:=List.pairwise_cons.1 hU;by_cases c:e.1+e.2<=t
   ·have ea:gY (e::L) t=gY L t+1:=by simp[gY,c]
    rw[ea];obtain⟨i1,i2⟩:=ih h2;refine⟨fun a ha=>?_,fun b hb=>i2 b (by simpa using hb)⟩;simp at ha;rcases ha with rfl|ha
    ·exact c
    ·exact i1 a ha
   ·have ea:gY (e::L) t=0:=by simp[gY,c]
    rw[ea];refine⟨by simp,fun b hb=>?_⟩;simp at hb;rcases hb with rfl|hb
    ·omega
    ·have:=h1 b hb;omega
 exact key L h.up
theorem qc{L:List Ext}(h:Nr L)(e:Ext)(he:1<=e.2):sS L e=true↔∃s,iy e s/\mem L s:=by
 obtain⟨h1,h2⟩:=oY h e.1;unfold sS;have hsp:L=L.take (gY L e.1)++L.drop (gY L e.1):=(List.take_append_drop _ _).symm;generalize gY L e.1=i at*;have hg:L[i]?=(L.drop i)[0]?:=by simp
 rw[hg];rw[hsp]at h;have hm:∀s,mem L s↔mem (L.take i) s\/mem (L.drop i) s:=fun s=>by rw[<-mem_append,<-hsp]
 generalize L.take i=A at*;generalize L.drop i=B at*;obtain⟨hA,hB,hAB⟩:=fY.1 h;cases B with
 |nil=>
  simp;intro s hs yQ;rw[hm]at yQ;rcases yQ with⟨a,ha,uw⟩|yQ
  ·have:=h1 a ha;unfold iy at hs uw;omega
  ·exact absurd yQ zV
 |cons x B=>
  simp;have hx:=h2 x (by simp);have px:=hB.pos x (by simp);constructor
  ·intro hlt;by_cases c:e.1<=x.1
   ·exact⟨x.1,⟨c,hlt⟩,(hm _).2 (.inr (mem_cons.2 (.inl ⟨Nat.le_refl _,by omega⟩)))⟩
   ·exact⟨e.1,⟨Nat.le_refl _,by omega⟩,(hm _).2 (.inr (mem_cons.2 (.inl ⟨by omega,hx⟩)))⟩
  ·rintro⟨s,hs,yQ⟩;rw[hm]at yQ;rcases yQ with⟨a,ha,uw⟩|yQ
   ·have:=h1 a ha;unfold iy at hs uw;omega
   ·rcases mem_cons.1 yQ with uw|⟨b,hb,uw⟩
    ·unfold iy at hs uw;omega
    ·have:=(jA.1 hB).2.2 b hb;unfold iy at hs uw;omega
theorem vp{L:List Ext}(h:Nr L)(e:Ext)(he:1<=e.2):hasB L e=true↔∀s,iy e s->mem L s:=by
 obtain⟨h1,h2⟩:=oY h e.1;unfold hasB;have hsp:L=L.take (gY L e.1)++L.drop (gY L e.1):=(List.take_append_drop _ _).symm;generalize gY L e.1=i at*;have hg:L[i]?=(L.drop i)[0]?:=by simp
 rw[hg];rw[hsp]at h;have hm:∀s,mem L s↔mem (L.take i) s\/mem (L.drop i) s:=fun s=>by rw[<-mem_append,<-hsp]
 generalize L.take i=A at*;generalize L.drop i=B at*;obtain⟨hA,hB,hAB⟩:=fY.1 h;cases B with
 |nil=>
  simp;refine⟨e.1,⟨Nat.le_refl _,by omega⟩,fun yQ=>?_⟩;rw[hm]at yQ;rcases yQ with⟨a,ha,uw⟩|yQ
  ·have:=h1 a ha;unfold iy at uw;omega
  ·exact absurd yQ zV
 |cons x B=>
  simp;have hx:=h2 x (by simp);constructor
  ·rintro⟨c1,c2⟩ s hs;exact(hm s).2 (.inr (mem_cons.2 (.inl ⟨by unfold iy at hs;omega,by unfold iy at hs;omega⟩)))
  ·intro hall;have afi:∀s,iy e s->s<=x.1+x.2->iy x s:=by
    intro s hs hle;rcases(hm s).1 (hall s hs)with⟨a,ha,uw⟩|yQ
    ·have:=h1 a ha;unfold iy at hs uw;omega
    ·rcases mem_cons.1 yQ with uw|⟨b,hb,uw⟩
     ·exact uw
     ·have:=(jA.1 hB).2.2 b hb;unfold iy at hs uw;omega
   have c1:=afi e.1 ⟨Nat.le_refl _,by omega⟩ (by omega);refine⟨c1.1,?_⟩;by_cases c:e.1+e.2<=x.1+x.2
   ·exact c
   ·have:=afi (x.1+x.2) ⟨by omega,by omega⟩ (Nat.le_refl _);unfold iy at this;omega
theorem vQ{A B:List Ext}{E:Ext}(hAB:Nr (A++B))(hE:1<=E.2)(hA:∀a∈A,a.1+a.2<=E.1)(hB:∀b∈B,E.1+E.2<b.1):Nr (iQ (A++B) A.length E)/\(∀s,mem (iQ (A++B) A.length E) s↔mem A s\/iy E s\/mem B s)/\(iQ (A++B) A.length E).length<=(A++B).length+1:=by
 obtain⟨nA,nB,hg⟩:=fY.1 hAB;rcases List.eq_nil_or_concat A with rfl|⟨A',y,rfl⟩
 ·simp only[List.nil_append,List.length_nil,iQ];refine⟨jA.2 ⟨hE,nB,hB⟩,fun s=>?_,by simp⟩;rw[mem_cons];simp
 ·have el:(A'.concat y).length=A'.length+1:=by simp
  rw[el];simp only[List.concat_eq_append]at*;have e1:(A'++[y]++B).getD A'.length (0,0)=y:=by simp
  have e2:(A'++[y]++B).take A'.length=A':=by simp
  have e3:(A'++[y]++B).drop (A'.length+1)=B:=by
   rw[List.drop_append,List.drop_of_length_le (by simp)];simp
  have e4:(A'++[y]++B).take (A'.length+1)=A'++[y]:=by
   rw[List.take_append_of_le_length (by simp),List.take_of_length_le (by simp)]
  simp only[iQ,e1,e2,e3,e4];obtain⟨nA',ny,hgy⟩:=fY.1 nA;have hy:=hA y (by simp);have py:=nA.pos y (by simp);split
  ·rename_i c;refine⟨fY.2 ⟨nA',jA.2 ⟨by simp only;omega,nB,fun b hb=>by have:=hB b hb;simp only;omega⟩,?_⟩,fun s=>?_,by simp⟩
   ·intro a ha b hb;rcases List.mem_cons.1 hb with rfl|hb
    ·exact hgy a ha y (by simp)
    ·have:=hgy a ha y (by simp);have:=hB b hb;omega
   ·rw[mem_append,mem_cons,mem_append,mem_cons];have:iy (y.1,y.2+E.2) s↔iy y s\/iy E s:=by unfold iy;simp only;omega
    rw[this];simp only[zV,or_false];constructor
    ·rintro(h|(h|h)|h)
     ·exact .inl (.inl h)
     ·exact .inl (.inr h)
     ·exact .inr (.inl h)
     ·exact .inr (.inr h)
    ·rintro((h|h)|h|h)
     ·exact .inl h
     ·exact .inr (.inl (.inl h))
     ·exact .inr (.inl (.inr h))
     ·exact .inr (.inr h)
  ·rename_i c;refine⟨fY.2 ⟨nA,jA.2 ⟨hE,nB,hB⟩,?_⟩,fun s=>?_,by simp;omega⟩
   ·intro a ha b hb;have N8:a.1+a.2<E.1:=by
     rcases List.mem_append.1 ha with h|h
     ·have:=hgy a h y (by simp);omega
     ·simp at h;subst h;omega
    rcases List.mem_cons.1 hb with rfl|hb
    ·exact N8
    ·have:=hB b hb;omega
   ·rw[mem_append,mem_cons]
theorem join_top{A B:List Ext}{E:Ext}{N:Nat}(h1:∀a∈A++B,a.1+a.2<=N)(hE:E.1+E.2<=N)(hA:∀a∈A,a.1+a.2<=E.1):∀x∈iQ (A++B) A.length E,x.1+x.2<=N:=by
 intro x hx;rcases List.eq_nil_or_concat A with rfl|⟨A',y,rfl⟩
 ·simp only[List.nil_append,List.length_nil,iQ]at hx h1;rcases List.mem_cons.1 hx with rfl|hx
  ·exact hE
  ·exact h1 x hx
 ·have el:(A'.concat y).length=A'.length+1:=by simp
  rw[el]at hx;have e1:(A'.concat y++B).getD A'.length (0,0)=y:=by simp
  have hy:=hA y (by simp);simp only[iQ,e1]at hx;split at hx
  ·rename_i c;rcases List.mem_append.1 hx with h|h
   ·exact h1 x (List.mem_of_mem_take h)
   ·rcases List.mem_cons.1 h with rfl|h
    ·simp only;omega
    ·exact h1 x (List.mem_of_mem_drop h)
  ·rcases List.mem_append.1 hx with h|h
   ·exact h1 x (List.mem_of_mem_take h)
   ·rcases List.mem_cons.1 h with rfl|h
    ·exact hE
    ·exact h1 x (List.mem_of_mem_drop h)
theorem zW{L:List Ext}(h:Nr L){e:Ext}(he:1<=e.2)(hm:sS L e=false){N:Nat}(hN:∀x∈L,x.1+x.2<=N)(heN:e.1+e.2<=N):Nr (fS L e)/\(∀s,mem (fS L e) s↔mem L s\/iy e s)/\(fS L e).length<=L.length+1/\∀x∈fS L e,x.1+x.2<=N:=by
 have hm':∀s,iy e s->¬mem L s:=fun s hs yQ=>by
  have:=(qc h e he).2 ⟨s,hs,yQ⟩;rw[hm]at this;cases this
 obtain⟨h1,h2⟩:=oY h e.1;have hsp:L=L.take (gY L e.1)++L.drop (gY L e.1):=(List.take_append_drop _ _).symm;have hle:=JI L e.1;unfold fS iR zX qP;generalize gY L e.1=i at*;have Z5:(L.take i).length=i:=by simp;omega
 have hg:L[i]?=(L.drop i)[0]?:=by simp
 have hgD:L.getD i (0,0)=(L.drop i).getD 0 (0,0):=by simp
 have hd:L.drop (i+1)=(L.drop i).drop 1:=by simp
 rw[hg,hgD,hd];have hmL:∀s,mem L s↔mem (L.take i) s\/mem (L.drop i) s:=fun s=>by rw[<-mem_append,<-hsp]
 have GX:L.length=(L.take i).length+(L.drop i).length:=by rw[<-List.length_append,<-hsp]
 have hNA:∀x∈L.take i,x.1+x.2<=N:=fun x hx=>hN x (List.mem_of_mem_take hx);have Z6:∀x∈L.drop i,x.1+x.2<=N:=fun x hx=>hN x (List.mem_of_mem_drop hx);have OB:∀b∈L.drop i,e.1+e.2<=b.1:=by
  intro b hb;have e1:=h2 b hb;rcases Nat.lt_or_ge b.1 (e.1+e.2)with c|c
  ·exfalso;have pb:=h.pos b (List.mem_of_mem_drop hb);by_cases c2:e.1<=b.1
   ·exact hm' b.1 ⟨c2,c⟩ ⟨b,List.mem_of_mem_drop hb,Nat.le_refl _,by omega⟩
   ·exact hm' e.1 ⟨Nat.le_refl _,by omega⟩ ⟨b,List.mem_of_mem_drop hb,by omega,e1⟩
  ·exact c
 have hh:Nr (L.take i++L.drop i):=by rw[<-hsp];exact h
 generalize hAd:L.take i=A at*;generalize L.drop i=B at*;cases B with
 |nil=>
  simp only[List.getElem?_nil,if_false,Bool.false_eq_true];have hL:L=A++[]:=hsp;rw[hL];have hj:=vQ (E:=e) hh he h1 (by simp);rw[Z5]at hj;refine⟨hj.1,fun s=>?_,by simpa using hj.2.2,?_⟩
  ·rw[hj.2.1,mem_append];simp
  ·have:=join_top (E:=e) (A:=A) (B:=[]) (N:=N) (by simpa using hNA) heN h1;rw[Z5]at this;exact this
 |cons x B=>
  have hx:=OB x (by simp);obtain⟨nA,nB,gAB⟩:=fY.1 hh;obtain⟨px,nB',gx⟩:=jA.1 nB;by_cases c:e.1+e.2=x.1
  ·simp[c];have Vo:Nr (A++B):=fY.2 ⟨nA,nB',fun a ha b hb=>gAB a ha b (by simp[hb])⟩;have hj:=vQ (E:=(e.1,e.2+x.2)) Vo (by simp only;omega) h1 (fun b hb=>by have:=gx b hb;simp only;omega);rw[Z5]at hj;have hNx:=Z6 x (by simp);refine⟨hj.1,fun s=>?_,?_,?_⟩
   ·rw[hj.2.1,hmL,mem_cons];have:iy (e.1,e.2+x.2) s↔iy e s\/iy x s:=by unfold iy;simp only;omega
    rw[this];constructor
    ·rintro(h|(h|h)|h)
     ·exact .inl (.inl h)
     ·exact .inr h
     ·exact .inl (.inr (.inl h))
     ·exact .inl (.inr (.inr h))
    ·rintro((h|h|h)|h)
     ·exact .inl h
     ·exact .inr (.inl (.inr h))
     ·exact .inr (.inr h)
     ·exact .inr (.inl (.inl h))
   ·have:=hj.2.2;simp at this GX⊢;omega
   ·have:=join_top (E:=(e.1,e.2+x.2)) (A:=A) (B:=B) (N:=N) (fun a ha=>by rcases List.mem_append.1 ha with h|h;exact hNA a h;exact Z6 a (by simp[h])) (by simp only;omega) h1;rw[Z5]at this;intro y z hy;exact this (y,z) hy
  ·simp[c];have hj:=vQ (E:=e) hh he h1 (fun b hb=>by rcases List.mem_cons.1 hb with rfl|h;omega;have:=gx b h;omega);rw[Z5,<-hsp]at hj;refine⟨hj.1,fun s=>?_,?_,?_⟩
   ·rw[hj.2.1,hmL];constructor
    ·rintro(h|h|h)
     ·exact .inl (.inl h)
     ·exact .inr h
     ·exact .inl (.inr h)
    ·rintro((h|h)|h)
     ·exact .inl h
     ·exact .inr (.inr h)
     ·exact .inr (.inl h)
   ·exact hj.2.2
   ·have:=join_top (E:=e) (A:=A) (B:=x::B) (N:=N) (fun a ha=>by rcases List.mem_append.1 ha with h|h;exact hNA a h;exact Z6 a h) heN h1;rw[Z5,<-hsp]at this;intro y z hy;exact this (y,z) hy
theorem OC{L:List Ext}(h:Nr L){e:Ext}(he:1<=e.2)(hh:hasB L e=true){N:Nat}(hN:∀x∈L,x.1+x.2<=N):Nr (fy L e)/\(∀s,mem (fy L e) s↔mem L s/\¬iy e s)/\(fy L e).length<=L.length+1/\∀x∈fy L e,x.1+x.2<=N:=by
 obtain⟨h1,h2⟩:=oY h e.1;have hsp:L=L.take (gY L e.1)++L.drop (gY L e.1):=(List.take_append_drop _ _).symm;unfold hasB at hh;unfold fy;generalize gY L e.1=i at*;have hg:L[i]?=(L.drop i)[0]?:=by simp
 have hgD:L.getD i (0,0)=(L.drop i).getD 0 (0,0):=by simp
 have hd:L.drop (i+1)=(L.drop i).drop 1:=by simp
 rw[hg]at hh;rw[hgD,hd];have hmL:∀s,mem L s↔mem (L.take i) s\/mem (L.drop i) s:=fun s=>by rw[<-mem_append,<-hsp]
 have GX:L.length=(L.take i).length+(L.drop i).length:=by rw[<-List.length_append,<-hsp]
 have hNA:∀x∈L.take i,x.1+x.2<=N:=fun x hx=>hN x (List.mem_of_mem_take hx);have Z6:∀x∈L.drop i,x.1+x.2<=N:=fun x hx=>hN x (List.mem_of_mem_drop hx);have hn:Nr (L.take i++L.drop i):=by rw[<-hsp];exact h
 generalize L.take i=A at*;generalize L.drop i=B at*;cases B with
 |nil=>simp at hh
 |cons x B=>
  simp at hh;obtain⟨nA,nB,gAB⟩:=fY.1 hn;obtain⟨px,nB',gx⟩:=jA.1 nB;have hxt:=h2 x (by simp);simp only[List.getD_cons_zero,List.drop_succ_cons,List.drop_zero];have nc2:Nr (lT x e++B)/\(∀s,mem (lT x e++B) s↔(iy x s/\e.1+e.2<=s)\/mem B s)/\(lT x e).length<=1/\(∀y∈lT x e,y.1=e.1+e.2/\y.1+y.2=x.1+x.2):=by
   unfold lT;split
   ·refine⟨jA.2 ⟨by simp only;omega,nB',fun b hb=>by have:=gx b hb;simp only;omega⟩,fun s=>?_,by simp,by simp;omega⟩;show mem (_::B) s↔_;rw[mem_cons];have:iy (e.1+e.2,x.1+x.2-e.1-e.2) s↔iy x s/\e.1+e.2<=s:=by unfold iy;simp only;omega
    rw[this]
   ·refine⟨nB',fun s=>?_,by simp,by simp⟩;show mem B s↔_;constructor
    ·exact .inr
    ·rintro(⟨h,h'⟩|h)
     ·unfold iy at h;omega
     ·exact h
  obtain⟨n2,m2,l2,t2⟩:=nc2;have nc1:Nr (om x e++(lT x e++B))/\(∀s,mem (om x e++(lT x e++B)) s↔(iy x s/\¬iy e s)\/mem B s)/\(om x e).length<=1/\(∀y∈om x e,y.1=x.1/\y.1+y.2=e.1):=by
   unfold om;split
   ·refine⟨jA.2 ⟨by simp only;omega,n2,fun b hb=>?_⟩,fun s=>?_,by simp,by simp;omega⟩
    ·have hb:b∈lT x e++B:=hb;rcases List.mem_append.1 hb with hb|hb
     ·have:=(t2 b hb).1;simp only;omega
     ·have:=gx b hb;simp only;omega
    ·show mem (_::(lT x e++B)) s↔_;rw[mem_cons,m2];have:iy (x.1,e.1-x.1) s↔iy x s/\s<e.1:=by unfold iy;simp only;omega
     rw[this];constructor
     ·rintro(⟨a,b⟩|⟨a,b⟩|h)
      ·exact .inl ⟨a,by unfold iy;omega⟩
      ·exact .inl ⟨a,by unfold iy;omega⟩
      ·exact .inr h
     ·rintro(⟨a,b⟩|h)
      ·unfold iy at b;by_cases c:s<e.1
       ·exact .inl ⟨a,c⟩
       ·exact .inr (.inl ⟨a,by omega⟩)
      ·exact .inr (.inr h)
   ·refine⟨n2,fun s=>?_,by simp,by simp⟩;show mem (lT x e++B) s↔_;rw[m2];constructor
    ·rintro(⟨a,b⟩|h)
     ·exact .inl ⟨a,by unfold iy;omega⟩
     ·exact .inr h
    ·rintro(⟨a,b⟩|h)
     ·exact .inl ⟨a,by unfold iy at a b;omega⟩
     ·exact .inr h
  obtain⟨n1,m1,l1,t1⟩:=nc1;refine⟨fY.2 ⟨nA,n1,?_⟩,fun s=>?_,by simp at GX⊢;omega,?_⟩
  ·intro a ha b hb;have g:=gAB a ha x (by simp);rcases List.mem_append.1 hb with hb|hb
   ·have:=(t1 b hb).1;omega
   ·rcases List.mem_append.1 hb with hb|hb
    ·have:=(t2 b hb).1;omega
    ·exact gAB a ha b (by simp[hb])
  ·rw[mem_append,m1,hmL,mem_cons];constructor
   ·rintro(⟨a,ha,hs⟩|⟨a,b⟩|⟨b,hb,hs⟩)
    ·exact⟨.inl ⟨a,ha,hs⟩,by have:=h1 a ha;unfold iy at hs⊢;omega⟩
    ·exact⟨.inr (.inl a),b⟩
    ·exact⟨.inr (.inr ⟨b,hb,hs⟩),by have:=gx b hb;unfold iy at hs⊢;omega⟩
   ·rintro⟨h|h|h,k⟩
    ·exact .inl h
    ·exact .inr (.inl ⟨h,k⟩)
    ·exact .inr (.inr h)
  ·intro y hy;have hNx:=Z6 x (by simp);rcases List.mem_append.1 hy with hy|hy
   ·exact hNA y hy
   ·rcases List.mem_append.1 hy with hy|hy
    ·have:=(t1 y hy).2;omega
    ·rcases List.mem_append.1 hy with hy|hy
     ·have:=(t2 y hy).2;omega
     ·exact Z6 y (by simp[hy])
abbrev D8(e:Int×Int):PC:= .agg false [.int e.1,.int e.2]
def Io(n:Nat)(e:Int×Int):Bool:=decide (0<=e.1)&&decide (1<=e.2)&&decide (e.1<n)&&decide (e.2<=n-e.1)
def toE(e:Int×Int):Ext:=(e.1.toNat,e.2.toNat)
def iB(n:Nat)(S:List Ext):List (Int×Int)->Bool
 |[]=>true
 |e::es=>Io n e&&(!sS S (toE e)&&iB n (fS S (toE e)) es)
theorem FO(n:Nat)(hn:n<=65536)(a b c:PC)(es:List (Int×Int))(hl:es.length<=900):aB Tryz.prog 244 [.ref (.agg false [.int n,a,b,c]),.sl (es.map D8)] (.bool (iB n [] es)):=by
 refine QpQ (ys:=[_]) [] [(5,[(1,.r 1),(5,.r 1),(10,.r 1),(19,.r 1),(25,.r 1),(30,.r 2),(31,.r 1),(32,.w [1,2])])] [(1,2),(2,0)] Tryz.func244 rfl (by simp[Tryz.ntmps244]) ?_;simp;refine aN (fun x:Nat×List Ext=>x.1<=es.length/\x.2.length<=x.1/\Nr x.2/\(∀e∈x.2,e.1+e.2<=n)/\iB n [] es=iB n x.2 (es.drop x.1)) (fun x=>[(0,.p (.ref (.agg false [.int n,a,b,c]))),(5,.obj 0 0),(8,.p (.sl (es.map D8))),(9,.p (.int es.length)),(10,.p (.int x.1))]) (fun x=>⟨[(0,⟨272,1,[.view 1 0 x.2.length 2 none]⟩),(1,cn x.2)],[],2⟩) (fun x=>es.length-x.1) (0,[]) ⟨by simp,by simp,JH,by simp,by simp⟩ _ (xM 0 0 157 2 ⟨272,1,[.p .nil]⟩ (by simp) (by simp)) (aA (by simp[Tb.aQ,Tb.aT,del])) ?_;rintro⟨k,S⟩ ⟨h1,h2,h3,h4,h5⟩;simp only at h1 h2 h3 h4 h5;by_cases c0:k<es.length
 ·obtain⟨e,Lv⟩:∃e,es[k]=e:=⟨_,rfl⟩;obtain⟨u,v⟩:=e;have h6:=h5;rw[List.drop_eq_getElem_cons c0,Lv]at h6;simp only[iB]at h6;by_cases c1:u<0
  ·have:Io n (u,v)=false:=by simp[Io];omega
   rw[this]at h6;simp[c0,Lv,c1,h6,Tryz.results244]
  by_cases c2:v<1
  ·have:Io n (u,v)=false:=by simp[Io];omega
   rw[this]at h6;simp[c0,Lv,c1,c2,h6,Tryz.results244]
  by_cases c3:(n:Int)<=u
  ·have:Io n (u,v)=false:=by simp[Io];omega
   rw[this]at h6;simp[c0,Lv,c1,c2,c3,h6,Tryz.results244]
  have w1:IntKind.i64.wrap ((n:Int)-u)=(n:Int)-u:=af (by omega) (by omega);by_cases c4:(n:Int)-u<v
  ·have:Io n (u,v)=false:=by simp[Io];omega
   rw[this]at h6;simp[c0,Lv,c1,c2,c3,w1,c4,h6,Tryz.results244]
  have hok:Io n (u,v)=true:=by simp[Io];omega
  rw[hok]at h6;obtain⟨p,rfl⟩:∃p:Nat,u=p:=⟨u.toNat,by omega⟩;obtain⟨q,rfl⟩:∃q:Nat,v=q:=⟨v.toNat,by omega⟩;have hte:toE ((p:Int),(q:Int))=(p,q):=by simp[toE]
  rw[hte]at h6;have hm:=A5 S (p,q) h3.up (by omega) (fun e he=>by have:=h4 e he;omega) (by simp only;omega);have lq:¬n<=p:=by omega
  simp[c0,Lv,c1,c2,c3,w1,c4];refine bE hm ⟨iS (by simp) rfl,by simp[cQ,ie],trivial⟩ rfl ?_;cases hmt:sS S (p,q)with
  |true=>
   rw[hmt]at h6;simp[h6,Tryz.results244]
  |false=>
   rw[hmt]at h6;obtain⟨g1,g2,g3,g4⟩:=zW h3 (e:=(p,q)) (by simp only;omega) hmt h4 (by simp only;omega);simp;refine az (FQ 3 0 1 (by omega) (by omega) (by omega) 272 1 0 [.view 1 0 S.length 2 none] S (p,q) (by simp) (by simp) h3.up (by omega) (fun e he=>by have:=h4 e he;omega) (by simp only;omega)) (by simp) (by simp[ay]) trivial rfl ?_;generalize fS S (p,q)=S' at*;simp;refine⟨k+1,S',⟨by omega,by omega,g1,fun u v he=>g4 (u,v) he,by rw[h6];simp⟩,by omega,aE [(1,3)] ?_⟩;simp[af (n:=(k:Int)+1) (by omega) (by omega)]
 ·have e:k=es.length:=by omega
  subst e;simp[iB]at h5;simp[h5,Tryz.results244]
abbrev wU(n:Nat)(F R W:List Ext):PC:= .agg false [.int n,jg F,jg R,jg W]
theorem agQ(n:Nat)(F R W:List Ext)(e:Ext)(hF:zZ F)(he:e.1+e.2<=65536):aB Tryz.prog 263 [jk e,.ref (.ref (wU n F R W))] (.bool (!hasB F e)):=by
 refine QpQ (ys:=[_]) [] [] [] Tryz.func263 rfl (by simp[Tryz.ntmps263]) ?_;simp;refine bD (ahy F e hF.up (by have:=hF.len;omega) (fun e he=>by have:=hF.top e he;omega) (by omega)) ?_;simp[Tryz.results263]
theorem Pu(n:Nat)(F R W:List Ext)(e:Ext)(hF:zZ F)(hW:zZ W)(he:e.1+e.2<=65536):aB Tryz.prog 245 [jk e,.ref (.ref (wU n F R W))] (.bool (sS F e||sS W e)):=by
 refine QpQ (ys:=[_]) [] [] [] Tryz.func245 rfl (by simp[Tryz.ntmps245]) ?_;simp;refine bD (A5 F e hF.up (by have:=hF.len;omega) (fun e he=>by have:=hF.top e he;omega) (by omega)) ?_;cases sS F e with
 |true=>simp[Tryz.results245]
 |false=>
  simp;refine bD (A5 W e hW.up (by have:=hW.len;omega) (fun e he=>by have:=hW.top e he;omega) (by omega)) ?_;simp[Tryz.results245]
theorem FP{bx:List (Nat×Ob)}{k m f r w n:Nat}{F R W:List Ext}(hm:lk m bx=some (iM n f r w F R W))(hf:lk f bx=some (cn F))(hr:lk r bx=some (cn R))(hw:lk w bx=some (cn W)):cQ bx (k+2) (.obj m 0) (.ref (wU n F R W)):=by
 refine⟨_,hm,by simp[gj],?_⟩;exact⟨⟨_,rfl,.inl rfl⟩,iS hf rfl,iS hr rfl,iS hw rfl,trivial⟩
structure Ok(n:Nat)(L:List Ext):Prop where
 nr:Nr L
 top:∀e∈L,e.1+e.2<=n
theorem Ok.len{n:Nat}{L:List Ext}(h:Ok n L):2*L.length<=n+1:=by
 have key:∀(L:List Ext) (t:Nat),Nr L->(∀e∈L,t<=e.1/\e.1+e.2<=n)->t+2*L.length<=n+1\/L=[]:=by
  intro L
  induction L with
  |nil=>intro t _ _;exact .inr rfl
  |cons e L ih=>
   intro t hn ht;obtain⟨h1,h2,h3⟩:=jA.1 hn;have h4:=ht e (by simp);rcases ih (e.1+e.2+1) h2 (fun x hx=>⟨by have:=h3 x hx;omega,(ht x (by simp[hx])).2⟩)with h|rfl
   ·left;simp;omega
   ·left;simp;omega
 rcases key L 0 h.nr (fun e he=>⟨Nat.zero_le _,h.top e he⟩)with h|rfl
 ·omega
 ·simp
theorem Ok.Jk{n:Nat}{L:List Ext}(h:Ok n L)(hn:n<=65536):zZ L:=⟨h.nr.pos,h.nr.Z4,fun e he=>by have:=h.top e he;omega,by have:=h.len;omega⟩
theorem Ok.cut{n:Nat}{L:List Ext}(h:Ok n L){e:Ext}(he:1<=e.2)(hh:hasB L e=true):Ok n (fy L e)/\∀s,mem (fy L e) s↔mem L s/\¬iy e s:=by
 obtain⟨h1,h2,_,h4⟩:=OC h.nr he hh h.top;exact⟨⟨h1,h4⟩,h2⟩
theorem Ok.put{n:Nat}{L:List Ext}(h:Ok n L){e:Ext}(he:1<=e.2)(hm:sS L e=false)(hn:e.1+e.2<=n):Ok n (fS L e)/\∀s,mem (fS L e) s↔mem L s\/iy e s:=by
 obtain⟨h1,h2,_,h4⟩:=zW h.nr he hm h.top hn;exact⟨⟨h1,h4⟩,h2⟩
theorem oB{n:Nat}:Ok n []:=⟨JH,by simp⟩
def Dj(es:List Ext):Prop:=es.Pairwise fun a b=>∀s,iy a s->¬iy b s
theorem mB{n:Nat}:∀(es:List (Int×Int)) (S:List Ext),Ok n S->iB n S es=true->es.map D8=(es.map toE).map jk/\(∀e∈es.map toE,1<=e.2/\e.1+e.2<=n/\∀s,iy e s->¬mem S s)/\Dj (es.map toE)
 |[],_,_,_=>⟨rfl,by simp,.nil⟩
 |e::es,S,hS,h=>by
  simp only[iB,Bool.and_eq_true,Bool.not_eq_true']at h;obtain⟨h1,h2,h3⟩:=h;obtain⟨u,v⟩:=e;simp[Io]at h1;have e1:1<=(toE (u,v)).2:=by simp only[toE];omega
  have e2:(toE (u,v)).1+(toE (u,v)).2<=n:=by simp only[toE];omega
  obtain⟨h4,h5⟩:=hS.put e1 h2 e2;obtain⟨i1,i2,i3⟩:=mB es _ h4 h3;refine⟨?_,?_,?_⟩
  ·rw[List.map_cons,List.map_cons,List.map_cons,i1];have:D8 (u,v)=jk (toE (u,v)):=by simp only[D8,jk,toE];rw[Int.toNat_of_nonneg (by omega),Int.toNat_of_nonneg (by omega)]
   rw[this]
  ·intro x hx;rcases List.mem_cons.1 hx with rfl|hx
   ·refine⟨e1,e2,fun s hs hm=>?_⟩;have:=(qc hS.nr _ e1).2 ⟨s,hs,hm⟩;rw[h2]at this;cases this
   ·obtain⟨j1,j2,j3⟩:=i2 x hx;exact⟨j1,j2,fun s hs hm=>j3 s hs ((h5 s).2 (.inl hm))⟩
  ·refine List.pairwise_cons.2 ⟨fun x hx s hs uw=>?_,i3⟩;exact(i2 x hx).2.2 s uw ((h5 s).2 (.inr hs))
theorem FN{es:List Ext}(h:Dj es){k:Nat}(hk:k<es.length){s:Nat}(hs:iy es[k] s):∀e∈es.take k,¬iy e s:=by
 intro e he zS;obtain⟨p,hp,rfl⟩:=List.getElem_of_mem he;simp at hp zS;exact List.pairwise_iff_getElem.1 h p k (by omega) hk (by omega) s zS hs
theorem B4{n:Nat}{F:List Ext}(hF:Ok n F){es:List Ext}(h1:∀e∈es,1<=e.2/\∀s,iy e s->mem F s)(hd:Dj es):∀k,k<=es.length->Ok n ((es.take k).foldl fy F)/\(∀s,mem ((es.take k).foldl fy F) s↔mem F s/\∀e∈es.take k,¬iy e s)/\∀(hk:k<es.length),hasB ((es.take k).foldl fy F) es[k]=true:=by
 have has:∀k (hk:k<es.length),Ok n ((es.take k).foldl fy F)->(∀s,mem ((es.take k).foldl fy F) s↔mem F s/\∀e∈es.take k,¬iy e s)->hasB ((es.take k).foldl fy F) es[k]=true:=by
  intro k hk hO hm;have:=h1 es[k] (by simp);exact(vp hO.nr _ this.1).2 fun s hs=>(hm s).2 ⟨this.2 s hs,FN hd hk hs⟩
 intro k
 induction k with
 |zero=>intro _;exact⟨hF,by simp,fun hk=>has 0 hk hF (by simp)⟩
 |succ k ih=>
  intro hk;obtain⟨i1,i2,i3⟩:=ih (by omega);have ck:k<es.length:=by omega
  rw[List.take_succ_eq_append_getElem ck,List.foldl_append];simp only[List.foldl_cons,List.foldl_nil];obtain⟨j1,j2⟩:=i1.cut (h1 es[k] (by simp)).1 (i3 ck);have hm:∀s,mem (fy ((es.take k).foldl fy F) es[k]) s↔mem F s/\∀e∈es.take k++[es[k]],¬iy e s:=by
   intro s;rw[j2,i2];simp only[List.mem_append,List.mem_singleton];constructor
   ·rintro⟨⟨a,b⟩,c⟩;exact⟨a,fun e he=>by rcases he with he|rfl;exact b e he;exact c⟩
   ·rintro⟨a,b⟩;exact⟨⟨a,fun e he=>b e (.inl he)⟩,b _ (.inr rfl)⟩
  refine⟨j1,hm,fun hk'=>?_⟩;have:=has (k+1) hk';rw[List.take_succ_eq_append_getElem ck,List.foldl_append]at this;exact this j1 hm
theorem rI{n:Nat}{W:List Ext}(hW:Ok n W){es:List Ext}(h1:∀e∈es,1<=e.2/\e.1+e.2<=n/\∀s,iy e s->¬mem W s)(hd:Dj es):∀k,k<=es.length->Ok n ((es.take k).foldl fS W)/\(∀s,mem ((es.take k).foldl fS W) s↔mem W s\/∃e∈es.take k,iy e s)/\∀(hk:k<es.length),sS ((es.take k).foldl fS W) es[k]=false:=by
 have has:∀k (hk:k<es.length),Ok n ((es.take k).foldl fS W)->(∀s,mem ((es.take k).foldl fS W) s↔mem W s\/∃e∈es.take k,iy e s)->sS ((es.take k).foldl fS W) es[k]=false:=by
  intro k hk hO hm;have h2:=h1 es[k] (by simp);cases hb:sS ((es.take k).foldl fS W) es[k]with
  |false=>rfl
  |true=>
   obtain⟨s,hs,yQ⟩:=(qc hO.nr _ h2.1).1 hb;rcases(hm s).1 yQ with h|⟨e,he,h⟩
   ·exact absurd h (h2.2.2 s hs)
   ·exact absurd h (FN hd hk hs e he)
 intro k
 induction k with
 |zero=>intro _;exact⟨hW,by simp,fun hk=>has 0 hk hW (by simp)⟩
 |succ k ih=>
  intro hk;obtain⟨i1,i2,i3⟩:=ih (by omega);have ck:k<es.length:=by omega
  rw[List.take_succ_eq_append_getElem ck,List.foldl_append];simp only[List.foldl_cons,List.foldl_nil];have V7:=h1 es[k] (by simp);obtain⟨j1,j2⟩:=i1.put V7.1 (i3 ck) V7.2.1;have hm:∀s,mem (fS ((es.take k).foldl fS W) es[k]) s↔mem W s\/∃e∈es.take k++[es[k]],iy e s:=by
   intro s;rw[j2,i2];simp only[List.mem_append,List.mem_singleton];constructor
   ·rintro((a|⟨e,he,hs⟩)|c)
    ·exact .inl a
    ·exact .inr ⟨e,.inl he,hs⟩
    ·exact .inr ⟨_,.inr rfl,c⟩
   ·rintro(a|⟨e,he|rfl,hs⟩)
    ·exact .inl (.inl a)
    ·exact .inl (.inr ⟨e,he,hs⟩)
    ·exact .inr hs
  refine⟨j1,hm,fun hk'=>?_⟩;have:=has (k+1) hk';rw[List.take_succ_eq_append_getElem ck,List.foldl_append]at this;exact this j1 hm
def d_(n:Nat)(F:List Ext)(es:List (Int×Int)):Bool:=iB n [] es&&!(es.map toE).any fun e=>!hasB F e
def nI(n:Nat)(F W:List Ext)(es:List (Int×Int)):Bool:=iB n [] es&&!(es.map toE).any fun e=>sS F e||sS W e
theorem Am(m f r w nx n:Nat)(h:JL m f r w nx)(hn:n<=65536)(F R W:List Ext)(hF:Ok n F)(hR:Ok n R)(hW:Ok n W)(es:List (Int×Int))(hl:es.length<=900):aI Tryz.prog 173 [.obj m 0,.p (.sl (es.map D8))] ⟨dU m f r w n F R W,[],nx⟩ (.p (.bool (d_ n F es))) ⟨dU m nx r w n (if d_ n F es=true then(es.map toE).foldl fy F else F) R W,[],nx+1⟩:=by
 have hRt:=FO n (by omega) (jg F) (jg R) (jg W) es hl;have nF:=hF.Jk hn;have nR:=hR.Jk hn;have nW:=hW.Jk hn;obtain⟨hm,hf,hr,hw,mf,mr,mw,fr,fw,nC⟩:=h;have oZ:=Ne.symm mf;have pS:=Ne.symm mr;have pT:=Ne.symm mw;have sU:=Ne.symm fr;have ux:=Ne.symm fw;have qJ:=Ne.symm nC;have q1:¬m=nx:=by omega
 have p1:¬nx=m:=by omega
 have q2:¬m=nx+1:=by omega
 have p2:¬nx+1=m:=by omega
 have q3:¬m=nx+1+1:=by omega
 have p3:¬nx+1+1=m:=by omega
 have q4:¬m=nx+1+1+1:=by omega
 have p4:¬nx+1+1+1=m:=by omega
 have q5:¬m=nx+1+1+1+1:=by omega
 have p5:¬nx+1+1+1+1=m:=by omega
 have Bl:m<nx+1:=by omega
 have JO:m<nx+1+1:=by omega
 have lm3:m<nx+1+1+1:=by omega
 have lm4:m<nx+1+1+1+1:=by omega
 have lm5:m<nx+1+1+1+1+1:=by omega
 have km:m<nx+5:=by omega
 have q6:¬f=nx:=by omega
 have p6:¬nx=f:=by omega
 have q7:¬f=nx+1:=by omega
 have p7:¬nx+1=f:=by omega
 have q8:¬f=nx+1+1:=by omega
 have p8:¬nx+1+1=f:=by omega
 have q9:¬f=nx+1+1+1:=by omega
 have p9:¬nx+1+1+1=f:=by omega
 have q10:¬f=nx+1+1+1+1:=by omega
 have Tv:¬nx+1+1+1+1=f:=by omega
 have oa:f<nx+1:=by omega
 have Vu:f<nx+1+1:=by omega
 have lf3:f<nx+1+1+1:=by omega
 have lf4:f<nx+1+1+1+1:=by omega
 have lf5:f<nx+1+1+1+1+1:=by omega
 have kf:f<nx+5:=by omega
 have q11:¬r=nx:=by omega
 have Fl:¬nx=r:=by omega
 have q12:¬r=nx+1:=by omega
 have Fm:¬nx+1=r:=by omega
 have q13:¬r=nx+1+1:=by omega
 have N9:¬nx+1+1=r:=by omega
 have q14:¬r=nx+1+1+1:=by omega
 have Vv:¬nx+1+1+1=r:=by omega
 have q15:¬r=nx+1+1+1+1:=by omega
 have p15:¬nx+1+1+1+1=r:=by omega
 have Bx:r<nx+1:=by omega
 have OE:r<nx+1+1:=by omega
 have lr3:r<nx+1+1+1:=by omega
 have lr4:r<nx+1+1+1+1:=by omega
 have lr5:r<nx+1+1+1+1+1:=by omega
 have kr:r<nx+5:=by omega
 have q16:¬w=nx:=by omega
 have N_:¬nx=w:=by omega
 have q17:¬w=nx+1:=by omega
 have Tw:¬nx+1=w:=by omega
 have q18:¬w=nx+1+1:=by omega
 have p18:¬nx+1+1=w:=by omega
 have q19:¬w=nx+1+1+1:=by omega
 have p19:¬nx+1+1+1=w:=by omega
 have q20:¬w=nx+1+1+1+1:=by omega
 have p20:¬nx+1+1+1+1=w:=by omega
 have Fh:w<nx+1:=by omega
 have OF:w<nx+1+1:=by omega
 have lw3:w<nx+1+1+1:=by omega
 have lw4:w<nx+1+1+1+1:=by omega
 have lw5:w<nx+1+1+1+1+1:=by omega
 have kw:w<nx+5:=by omega
 have hbm:∀bx k,lk m bx=some (iM n f r w F R W)->lk f bx=some (cn F)->lk r bx=some (cn R)->lk w bx=some (cn W)->cQ bx (k+2) (.obj m 0) (.ref (wU n F R W)):=fun bx k a b c d=>FP a b c d;refine QgQ (rs:=[_]) [2] [(6,[(0,.r 1),(3,.r 2),(4,.w [1,2])])] [(1,nx),(2,nx+1+1)] Tryz.func173 rfl (by simp[Tryz.ntmps173]) ?_;simp[dU,iM,gj];refine bE hRt ⟨hbm _ _ (by simp[q1]) (by simp[oZ,q6]) (by simp[pS,sU,q11]) (by simp[pT,ux,qJ,q16]),by simp[cQ],trivial⟩ rfl ?_;cases hr:iB n [] es with
 |false=>
  have hB:d_ n F es=false:=by unfold d_;rw[hr];rfl
  simp[hB,Tryz.results173];exact⟨[(nx,f)],by simp[mf,oZ,mr,pS,mw,pT,fr,sU,fw,ux,nC,qJ,q1,Bl,q6,q11,Fl,Bx,q16,N_,Fh]⟩
 |true=>
  obtain⟨g1,g2,g3⟩:=mB es [] oB hr;generalize zS:es.map toE=es' at*;have hlen:es.length=es'.length:=by rw[<-zS];simp
  rw[g1];have hC:=wV (g:=263) (caps:=[.ref (.ref (wU n F R W))]) (fun e=>!hasB F e) es' (by omega) (fun e he=>agQ n F R W e nF (by have:=(g2 e he).2.1;omega));simp;refine bE hC ⟨by simp[cQ],⟨rfl,⟨⟨148,1,[.obj m 0]⟩,.obj m 0,by simp,rfl,rfl,hbm _ _ (by simp[q1]) (by simp[oZ,q6]) (by simp[pS,sU,q11]) (by simp[pT,ux,qJ,q16])⟩,trivial⟩,trivial⟩ rfl ?_;cases ha:es'.any (fun e=>!hasB F e)with
  |true=>
   have hB:d_ n F es=false:=by unfold d_;rw[hr,zS,ha];rfl
   simp[hB,Tryz.results173];exact⟨[(nx,f)],by simp[mf,oZ,mr,pS,mw,pT,fr,sU,fw,ux,nC,qJ,q1,Bl,q6,q11,Fl,Bx,q16,N_,Fh]⟩
  |false=>
   have hB:d_ n F es=true:=by unfold d_;rw[hr,zS,ha];rfl
   rw[List.any_eq_false]at ha;have yG:=B4 hF (es:=es') (fun e he=>⟨(g2 e he).1,(vp hF.nr e (g2 e he).1).1 (by have:=ha e he;simpa using this)⟩) g3;rw[hB];simp;obtain⟨Fk,An⟩:∃Fk:Nat->List Ext,Fk=fun k=>(es'.take k).foldl fy F:=⟨_,rfl⟩;have h0:Fk 0=F:=by rw[An];simp
   have hL:Fk es'.length=es'.foldl fy F:=by rw[An];simp
   have hS:∀k (hk:k<es'.length),Fk (k+1)=fy (Fk k) es'[k]:=by intro k hk;rw[An];simp only;rw[List.take_succ_eq_append_getElem hk,List.foldl_append];rfl
   have hO:∀k,k<=es'.length->Ok n (Fk k):=fun k hk=>by rw[An];exact(yG k hk).1
   have hH:∀k (hk:k<es'.length),hasB (Fk k) es'[k]=true:=fun k hk=>by rw[An];exact(yG k (by omega)).2.2 hk
   rw[<-hL];clear yG An;refine aN (fun k:Nat=>k<=es'.length) (fun k=>[(2,.obj nx 0),(16,.p (jg es')),(17,.p (.int es'.length)),(18,.p (.int k))]) (fun k=>⟨(nx,⟨148,1,[.obj m 0]⟩)::dU m (nx+1) r w n (Fk k) R W,[],nx+1+1⟩) (fun k=>es'.length-k) 0 (by simp) _ (AS.le_refl _ _) (aE [(nx+1,f)] (by simp[dU,iM,gj,h0,mf,oZ,mr,pS,mw,pT,fr,sU,fw,ux,nC,qJ,q1,p1,q2,JO,q6,p6,q11,Fl,q12,Fm,OE,q16,N_,q17,Tw,OF])) ?_;intro k hk;have k1:∀e∈es',1<=e.2/\e.1+e.2<=n:=fun e he=>⟨(g2 e he).1,(g2 e he).2.1⟩;by_cases c:k<es'.length
   ·have hke:=k1 es'[k] (by simp);simp[c,dU,iM,gj,p3,N9,p18];refine az (T7 (nx+1+1+1) m (nx+1) (by omega) (by omega) (by omega) 274 4 1 (gj n (nx+1) r w (Fk k) R W) (Fk k) es'[k] (by simp) (by simp;omega) (hO k hk).nr.up (by have:=(hO k hk).len;omega) (fun e he=>by have:=(hO k hk).top e he;omega) (hH k c)) (by simp) (by simp[ay,gj,q1,p2,q3]) trivial rfl ?_;rw[<-hS k c];simp[gj,mr,mw,q1,p1,p2,q3,p3,Fm,Tw];refine⟨k+1,by omega,by omega,aE [(nx+1,nx+1+1+1)] ?_⟩;simp[mr,pS,mw,pT,nC,qJ,p1,q2,q4,p4,JO,q11,Fl,q12,Fm,q13,q14,Vv,OE,q16,N_,q17,Tw,q18,q19,p19,OF,af (n:=(k:Int)+1) (by omega) (by omega)]
   ·have e:k=es'.length:=by omega
    subst e;simp[dU,iM,gj,mr,mw,nC,q1,Bl,Fl,Bx,N_,Fh,Tryz.results173];exact⟨[(nx,nx+1)],by simp[mr,pS,mw,pT,nC,qJ,q1,q2,p2,q11,q12,Fm,q16,q17,Tw]⟩
theorem V8(m f r w nx n:Nat)(h:JL m f r w nx)(hn:n<=65536)(F R W:List Ext)(hF:Ok n F)(hR:Ok n R)(hW:Ok n W)(es:List (Int×Int))(hl:es.length<=900):aI Tryz.prog 151 [.obj m 0,.p (.sl (es.map D8))] ⟨dU m f r w n F R W,[],nx⟩ (.p (.bool (nI n F W es))) ⟨dU m f r nx n F R (if nI n F W es=true then(es.map toE).foldl fS W else W),[],nx+1⟩:=by
 have hRt:=FO n (by omega) (jg F) (jg R) (jg W) es hl;have nF:=hF.Jk hn;have nR:=hR.Jk hn;have nW:=hW.Jk hn;obtain⟨hm,hf,hr,hw,mf,mr,mw,fr,fw,nC⟩:=h;have oZ:=Ne.symm mf;have pS:=Ne.symm mr;have pT:=Ne.symm mw;have sU:=Ne.symm fr;have ux:=Ne.symm fw;have qJ:=Ne.symm nC;have q1:¬m=nx:=by omega
 have p1:¬nx=m:=by omega
 have q2:¬m=nx+1:=by omega
 have p2:¬nx+1=m:=by omega
 have q3:¬m=nx+1+1:=by omega
 have p3:¬nx+1+1=m:=by omega
 have q4:¬m=nx+1+1+1:=by omega
 have p4:¬nx+1+1+1=m:=by omega
 have q5:¬m=nx+1+1+1+1:=by omega
 have p5:¬nx+1+1+1+1=m:=by omega
 have Bl:m<nx+1:=by omega
 have JO:m<nx+1+1:=by omega
 have lm3:m<nx+1+1+1:=by omega
 have lm4:m<nx+1+1+1+1:=by omega
 have lm5:m<nx+1+1+1+1+1:=by omega
 have km:m<nx+5:=by omega
 have q6:¬f=nx:=by omega
 have p6:¬nx=f:=by omega
 have q7:¬f=nx+1:=by omega
 have p7:¬nx+1=f:=by omega
 have q8:¬f=nx+1+1:=by omega
 have p8:¬nx+1+1=f:=by omega
 have q9:¬f=nx+1+1+1:=by omega
 have p9:¬nx+1+1+1=f:=by omega
 have q10:¬f=nx+1+1+1+1:=by omega
 have Tv:¬nx+1+1+1+1=f:=by omega
 have oa:f<nx+1:=by omega
 have Vu:f<nx+1+1:=by omega
 have lf3:f<nx+1+1+1:=by omega
 have lf4:f<nx+1+1+1+1:=by omega
 have lf5:f<nx+1+1+1+1+1:=by omega
 have kf:f<nx+5:=by omega
 have q11:¬r=nx:=by omega
 have Fl:¬nx=r:=by omega
 have q12:¬r=nx+1:=by omega
 have Fm:¬nx+1=r:=by omega
 have q13:¬r=nx+1+1:=by omega
 have N9:¬nx+1+1=r:=by omega
 have q14:¬r=nx+1+1+1:=by omega
 have Vv:¬nx+1+1+1=r:=by omega
 have q15:¬r=nx+1+1+1+1:=by omega
 have p15:¬nx+1+1+1+1=r:=by omega
 have Bx:r<nx+1:=by omega
 have OE:r<nx+1+1:=by omega
 have lr3:r<nx+1+1+1:=by omega
 have lr4:r<nx+1+1+1+1:=by omega
 have lr5:r<nx+1+1+1+1+1:=by omega
 have kr:r<nx+5:=by omega
 have q16:¬w=nx:=by omega
 have N_:¬nx=w:=by omega
 have q17:¬w=nx+1:=by omega
 have Tw:¬nx+1=w:=by omega
 have q18:¬w=nx+1+1:=by omega
 have p18:¬nx+1+1=w:=by omega
 have q19:¬w=nx+1+1+1:=by omega
 have p19:¬nx+1+1+1=w:=by omega
 have q20:¬w=nx+1+1+1+1:=by omega
 have p20:¬nx+1+1+1+1=w:=by omega
 have Fh:w<nx+1:=by omega
 have OF:w<nx+1+1:=by omega
 have lw3:w<nx+1+1+1:=by omega
 have lw4:w<nx+1+1+1+1:=by omega
 have lw5:w<nx+1+1+1+1+1:=by omega
 have kw:w<nx+5:=by omega
 have hbm:∀bx k,lk m bx=some (iM n f r w F R W)->lk f bx=some (cn F)->lk r bx=some (cn R)->lk w bx=some (cn W)->cQ bx (k+2) (.obj m 0) (.ref (wU n F R W)):=fun bx k a b c d=>FP a b c d;refine QgQ (rs:=[_]) [2] [(6,[(0,.r 1),(3,.r 2),(4,.w [1,2])])] [(1,nx),(2,nx+1+1)] Tryz.func151 rfl (by simp[Tryz.ntmps151]) ?_;simp[dU,iM,gj];refine bE hRt ⟨hbm _ _ (by simp[q1]) (by simp[oZ,q6]) (by simp[pS,sU,q11]) (by simp[pT,ux,qJ,q16]),by simp[cQ],trivial⟩ rfl ?_;cases hr:iB n [] es with
 |false=>
  have hB:nI n F W es=false:=by unfold nI;rw[hr];rfl
  simp[hB,Tryz.results151];exact⟨[(nx,w)],by simp[mf,oZ,mr,pS,mw,pT,fr,sU,fw,ux,nC,qJ,q1,Bl,q6,oa,q11,Bx,q16]⟩
 |true=>
  obtain⟨g1,g2,g3⟩:=mB es [] oB hr;generalize zS:es.map toE=es' at*;have hlen:es.length=es'.length:=by rw[<-zS];simp
  rw[g1];have hC:=wV (g:=245) (caps:=[.ref (.ref (wU n F R W))]) (fun e=>sS F e||sS W e) es' (by omega) (fun e he=>Pu n F R W e nF nW (by have:=(g2 e he).2.1;omega));simp;refine bE hC ⟨by simp[cQ],⟨rfl,⟨⟨148,1,[.obj m 0]⟩,.obj m 0,by simp,rfl,rfl,hbm _ _ (by simp[q1]) (by simp[oZ,q6]) (by simp[pS,sU,q11]) (by simp[pT,ux,qJ,q16])⟩,trivial⟩,trivial⟩ rfl ?_;cases ha:es'.any (fun e=>sS F e||sS W e)with
  |true=>
   have hB:nI n F W es=false:=by unfold nI;rw[hr,zS,ha];rfl
   simp[hB,Tryz.results151];exact⟨[(nx,w)],by simp[mf,oZ,mr,pS,mw,pT,fr,sU,fw,ux,nC,qJ,q1,Bl,q6,oa,q11,Bx,q16]⟩
  |false=>
   have hB:nI n F W es=true:=by unfold nI;rw[hr,zS,ha];rfl
   rw[List.any_eq_false]at ha;have yG:=rI hW (es:=es') (fun e he=>⟨(g2 e he).1,(g2 e he).2.1,fun s hs hm=>by have h1:=ha e he;simp at h1;have:=(qc hW.nr e (g2 e he).1).2 ⟨s,hs,hm⟩;rw[h1.2]at this;cases this⟩) g3;rw[hB];simp;obtain⟨Fk,An⟩:∃Fk:Nat->List Ext,Fk=fun k=>(es'.take k).foldl fS W:=⟨_,rfl⟩;have h0:Fk 0=W:=by rw[An];simp
   have hL:Fk es'.length=es'.foldl fS W:=by rw[An];simp
   have hS:∀k (hk:k<es'.length),Fk (k+1)=fS (Fk k) es'[k]:=by intro k hk;rw[An];simp only;rw[List.take_succ_eq_append_getElem hk,List.foldl_append];rfl
   have hO:∀k,k<=es'.length->Ok n (Fk k):=fun k hk=>by rw[An];exact(yG k hk).1
   have hH:∀k (hk:k<es'.length),sS (Fk k) es'[k]=false:=fun k hk=>by rw[An];exact(yG k (by omega)).2.2 hk
   rw[<-hL];clear yG An;refine aN (fun k:Nat=>k<=es'.length) (fun k=>[(2,.obj nx 0),(16,.p (jg es')),(17,.p (.int es'.length)),(18,.p (.int k))]) (fun k=>⟨(nx,⟨148,1,[.obj m 0]⟩)::dU m f r (nx+1) n F R (Fk k),[],nx+1+1⟩) (fun k=>es'.length-k) 0 (by simp) _ (AS.le_refl _ _) (aE [(nx+1,w)] (by simp[dU,iM,gj,h0,mf,oZ,mr,pS,mw,pT,fr,sU,fw,ux,nC,qJ,q1,p1,q2,JO,q6,p6,q7,Vu,q11,Fl,q12,OE,q16,N_])) ?_;intro k hk;have k1:∀e∈es',1<=e.2/\e.1+e.2<=n:=fun e he=>⟨(g2 e he).1,(g2 e he).2.1⟩;by_cases c:k<es'.length
   ·have hke:=k1 es'[k] (by simp);simp[c,dU,iM,gj,p3,p8,N9];refine az (FQ (nx+1+1+1) m (nx+1) (by omega) (by omega) (by omega) 274 4 3 (gj n f r (nx+1) F R (Fk k)) (Fk k) es'[k] (by simp) (by simp;omega) (hO k hk).nr.up (by have:=(hO k hk).len;omega) (fun e he=>by have:=(hO k hk).top e he;omega) (by omega)) (by simp) (by simp[ay,gj,q1,p2,q3,p7,Fm]) trivial rfl ?_;rw[<-hS k c];simp[gj,mf,mr,q1,p1,p2,q3,p3,p7,Fm];refine⟨k+1,by omega,by omega,aE [(nx+1,nx+1+1+1)] ?_⟩;simp[mf,oZ,mr,pS,fr,sU,p1,q2,q4,p4,JO,q6,p6,q7,q8,q9,Vu,q11,Fl,q12,q13,q14,OE,af (n:=(k:Int)+1) (by omega) (by omega)]
   ·have e:k=es'.length:=by omega
    subst e;simp[dU,iM,gj,mf,mr,fr,q1,Bl,q6,oa,q11,Bx,Tryz.results151];exact⟨[(nx,nx+1)],by simp[mf,oZ,mr,pS,fr,sU,q1,q2,p2,q6,q7,p7,q11,q12,Fm]⟩
end Go.Av
