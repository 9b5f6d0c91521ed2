/- DiskShapes, part 18: what functions compute, and its plain law; no condition. -/
import Derived.Test.YtgkdpbambfgahaaGreatDoorWaq
set_option linter.all false
set_option maxRecDepth 100000
set_option maxHeartbeats 64000000
namespace Go.Av
open Go.Proofs Go.Proofs.Tryz
def jL(x e:Ext):List Ext:=if x.1<e.1 then[(x.1,e.1-x.1)]else[]
def nO(x e:Ext):List Ext:=if e.1+e.2<x.1+x.2 then[(e.1+e.2,x.1+x.2-e.1-e.2)]else[]
def fN(L:List Ext)(e:Ext):List Ext:=L.take (iM L e.1)++(jL (L.getD (iM L e.1) (0,0)) e++(nO (L.getD (iM L e.1) (0,0)) e++L.drop (iM L e.1+1)))
theorem UD(nx id dX:Nat)(hid:id<nx)(aks:dX<nx)(hne:id≠dX)(el sz off:Nat)(xs:List AV)(L:List Ext)(e:Ext)(hx:xs[off]?=some (.view dX 0 L.length 2 none))(hxl:AV.fD.eM nx xs=true)(hL:Up L)(hl:L.length<=65536)(hb:∀e∈L,e.1+e.2<=100000)(hh:hasB L e=true):aE prog 265 [.obj id off,.p (kF e)] ⟨[(id,⟨el,sz,xs⟩),(dX,cg L)],[],nx⟩ (.agg true []) ⟨[(id,⟨el,sz,xs.take off++ .view nx 0 (fN L e).length 2 none::xs.drop (off+1)⟩),(nx,cg (fN L e))],[],nx+1⟩:=by
 have c:iM L e.1<L.length:=by
  rcases Nat.lt_or_ge (iM L e.1) L.length with h|h
  ·exact h
  ·unfold hasB at hh;rw[List.getElem?_eq_none h]at hh;cases hh
 have hx1:L[iM L e.1].1<=e.1/\e.1+e.2<=L[iM L e.1].1+L[iM L e.1].2:=by
  unfold hasB at hh;simp[c]at hh;exact hh
 have AJ:=hb L[iM L e.1] (by simp);have he:e.1+e.2<=100000:=by omega
 obtain⟨n1,n2,n3,n4,n5,n6,n7,n8,n9,fc,fe,sd,se,uH⟩:¬id=nx/\¬dX=nx/\¬nx=id/\¬nx=dX/\¬dX=id/\¬id=nx+1/\¬nx+1=id/\¬dX=nx+1/\¬nx+1=dX/\¬id=nx+1+1/\¬nx+1+1=id/\¬id=nx+1+1+1/\¬nx+1+1+1=id/\id<nx+1:=by and_intros<;>omega
 have hoff:off<xs.length:=by
  rcases Nat.lt_or_ge off xs.length with h|h
  ·exact h
  ·rw[List.getElem?_eq_none h]at hx;cases hx
 have ha:=xO L e.1 hL (by omega) (fun e he=>by have:=hb e he;omega) (by omega);have hr:∀k,AV.ren.dm (uM [(nx,k)]) xs=xs:=fun k=>lq (nx:=nx) (by simp) xs hxl;have IK:∀k,nx<=k->AV.fD.eM k xs=true:=fun k hk=>mQ hk xs hxl;have IL:∀bx,lk dX bx=some (cg L)->cQ bx 4 (.view dX 0 L.length 2 none) (kn L):=fun bx h=>jM h rfl;have hN:fN L e=L.take (iM L e.1)++(jL L[iM L e.1] e++(nO L[iM L e.1] e++L.drop (iM L e.1+1))):=by unfold fN;simp[c]
 generalize fN L e=N at*;generalize hi:iM L e.1=i at*;have yT:(((cV L).map AV.p).drop (i*2)).take 2=[.p (.int L[i].1),.p (.int L[i].2)]:=by
  rw[<-List.map_drop,nH,show L.drop i=L[i]::L.drop (i+1)from List.drop_eq_getElem_cons c,dB];simp only[List.map_cons,List.take_succ_cons,List.take_zero]
 obtain⟨a,n⟩:=e;generalize NJ:L[i]=x at hx1 AJ hN yT;obtain⟨u,v⟩:=x;simp only at hx1 AJ he;have h2:i*2+2<=L.length*2:=by omega
 have w0:IntKind.i64.wrap ((i:Int)+1)=(i:Int)+1:=aD;have w1:IntKind.i64.wrap ((u:Int)+(v:Int))=(u:Int)+(v:Int):=aD;have w2:IntKind.i64.wrap ((u:Int)+(v:Int)-(a:Int))=(u:Int)+(v:Int)-(a:Int):=aD;have w3:IntKind.i64.wrap ((u:Int)+(v:Int)-(a:Int)-(n:Int))=((u+v-a-n:Nat):Int):=by rw[aD];omega
 have w4:IntKind.i64.wrap ((a:Int)-(u:Int))=((a-u:Nat):Int):=by rw[aD];omega
 have w5:IntKind.i64.wrap ((a:Int)+(n:Int))=(a:Int)+(n:Int):=aD;obtain⟨M,LL⟩:∃M,M=L.take i++L.drop (i+1):=⟨_,rfl⟩;have VH:M.length=L.length-1:=by rw[LL];simp;omega
 have hMt:M.take i=L.take i:=by rw[LL,List.take_append_of_le_length (by simp;omega),List.take_take,Nat.min_self]
 have hMr:M.drop i=L.drop (i+1):=by rw[LL,List.drop_append,List.length_take,Nat.min_eq_left (by omega),Nat.sub_self,List.drop_of_length_le (by simp;omega)];simp
 by_cases cA:u<a
 ·by_cases cB:a+n<u+v
  ·have cA:u<a:=by omega
   have Qm:0<a-u:=by omega
   have Qn:0<u+v-a-n:=by omega
   have eA:jL (u,v) (a,n)=[(u,a-u)]:=by unfold jL;rw[if_pos (by simp only;omega)]
   have eB:nO (u,v) (a,n)=[(a+n,u+v-a-n)]:=by unfold nO;rw[if_pos (by simp only;omega)]
   rw[eA,eB]at hN;obtain⟨M2,QF⟩:∃M2,M2=M.take i++(a+n,u+v-a-n)::M.drop i:=⟨_,rfl⟩;have Z_:M2.length=M.length+1:=by rw[QF];simp;omega
   have agU:M2.take i=L.take i:=by rw[QF,List.take_append_of_le_length (by simp;omega),List.take_take,Nat.min_self,hMt]
   have agV:M2.drop i=(a+n,u+v-a-n)::L.drop (i+1):=by rw[QF,hMr,hMt,List.drop_append,List.length_take,Nat.min_eq_left (by omega),Nat.sub_self,List.drop_of_length_le (by simp;omega)];simp
   have yj:M2.take i++(u,a-u)::M2.drop i=N:=by rw[hN,agU,agV];simp
   have xu:N.length=M2.length+1:=by rw[<-yj];simp;omega
   refine ah (rs:=[]) [] [] [] func265 rfl ?_;simp[hx,hne,n1,n2,n3,n4,n5,n6,n7,n8,n9,fc,fe,sd,se];refine bD ha ⟨IL _ (by simp[n1,n2,n3,n4,n5,n6,n7,n8,n9,fc,fe,sd,se]),by simp[cQ],trivial⟩ rfl ?_;simp[hx,hne,n1,n2,n3,n4,n5,n6,n7,n8,n9,fc,fe,sd,se,c,yT,w0,h2];refine aA (pz (nx+1) dX (by omega) L i c (by omega)) (by simp) (by simp[ay,n1,n2,n3,n4,n5,n6,n7,n8,n9,fc,fe,sd,se]) trivial rfl ?_;rw[<-LL,<-VH];simp[hx,hne,n1,n2,n3,n4,n5,n6,n7,n8,n9,fc,fe,sd,se,w1,w2,w3,w4,w5,Qn,Qm,hoff];refine aA (kW (nx+1+1) (nx+1) (by omega) M i (a+n,u+v-a-n) (by omega) (by omega)) (by simp) (by simp[ay,n1,n2,n3,n4,n5,n6,n7,n8,n9,fc,fe,sd,se]) trivial rfl ?_;rw[<-QF,<-Z_];simp[hx,hne,n1,n2,n3,n4,n5,n6,n7,n8,n9,fc,fe,sd,se,w1,w2,w3,w4,w5,Qn,Qm,hoff];refine aA (kW (nx+1+1+1) (nx+1+1) (by omega) M2 i (u,a-u) (by omega) (by omega)) (by simp) (by simp[ay,n1,n2,n3,n4,n5,n6,n7,n8,n9,fc,fe,sd,se]) trivial rfl ?_;rw[yj];simp[hx,hne,n1,n2,n3,n4,n5,n6,n7,n8,n9,fc,fe,sd,se,w1,w2,w3,w4,w5,Qn,Qm,hoff];refine⟨by omega,[(nx,nx+1+1+1)],?_⟩;simp[hx,hne,n1,n2,n3,n4,n5,n6,n7,n8,n9,fc,fe,sd,se,hr,IK,uH,xu]
  ·have cA:u<a:=by omega
   have Qm:0<a-u:=by omega
   have Qn:¬0<u+v-a-n:=by omega
   have eA:jL (u,v) (a,n)=[(u,a-u)]:=by unfold jL;rw[if_pos (by simp only;omega)]
   have eB:nO (u,v) (a,n)=[]:=by unfold nO;rw[if_neg (by simp only;omega)]
   rw[eA,eB]at hN;have yj:M.take i++(u,a-u)::M.drop i=N:=by rw[hN,hMt,hMr];simp
   have xu:N.length=M.length+1:=by rw[<-yj];simp;omega
   refine ah (rs:=[]) [] [] [] func265 rfl ?_;simp[hx,hne,n1,n2,n3,n4,n5,n6,n7,n8,n9,fc,fe,sd,se];refine bD ha ⟨IL _ (by simp[n1,n2,n3,n4,n5,n6,n7,n8,n9,fc,fe,sd,se]),by simp[cQ],trivial⟩ rfl ?_;simp[hx,hne,n1,n2,n3,n4,n5,n6,n7,n8,n9,fc,fe,sd,se,c,yT,w0,h2];refine aA (pz (nx+1) dX (by omega) L i c (by omega)) (by simp) (by simp[ay,n1,n2,n3,n4,n5,n6,n7,n8,n9,fc,fe,sd,se]) trivial rfl ?_;rw[<-LL,<-VH];simp[hx,hne,n1,n2,n3,n4,n5,n6,n7,n8,n9,fc,fe,sd,se,w1,w2,w3,w4,w5,Qn,Qm,hoff];refine aA (kW (nx+1+1) (nx+1) (by omega) M i (u,a-u) (by omega) (by omega)) (by simp) (by simp[ay,n1,n2,n3,n4,n5,n6,n7,n8,n9,fc,fe,sd,se]) trivial rfl ?_;rw[yj];simp[hx,hne,n1,n2,n3,n4,n5,n6,n7,n8,n9,fc,fe,sd,se,w1,w2,w3,w4,w5,Qn,Qm,hoff];refine⟨by omega,[(nx,nx+1+1)],?_⟩;simp[hx,hne,n1,n2,n3,n4,n5,n6,n7,n8,n9,fc,fe,sd,se,hr,IK,uH,xu]
 ·by_cases cB:a+n<u+v
  ·have cA:¬u<a:=by omega
   have Qm:¬0<a-u:=by omega
   have Qn:0<u+v-a-n:=by omega
   have eA:jL (u,v) (a,n)=[]:=by unfold jL;rw[if_neg (by simp only;omega)]
   have eB:nO (u,v) (a,n)=[(a+n,u+v-a-n)]:=by unfold nO;rw[if_pos (by simp only;omega)]
   rw[eA,eB]at hN;obtain⟨M2,QF⟩:∃M2,M2=M.take i++(a+n,u+v-a-n)::M.drop i:=⟨_,rfl⟩;have Z_:M2.length=M.length+1:=by rw[QF];simp;omega
   have agU:M2.take i=L.take i:=by rw[QF,List.take_append_of_le_length (by simp;omega),List.take_take,Nat.min_self,hMt]
   have agV:M2.drop i=(a+n,u+v-a-n)::L.drop (i+1):=by rw[QF,hMr,hMt,List.drop_append,List.length_take,Nat.min_eq_left (by omega),Nat.sub_self,List.drop_of_length_le (by simp;omega)];simp
   have yj:M2=N:=by rw[hN,QF,hMt,hMr];simp
   have xu:N.length=M2.length:=by rw[yj]
   refine ah (rs:=[]) [] [] [] func265 rfl ?_;simp[hx,hne,n1,n2,n3,n4,n5,n6,n7,n8,n9,fc,fe,sd,se];refine bD ha ⟨IL _ (by simp[n1,n2,n3,n4,n5,n6,n7,n8,n9,fc,fe,sd,se]),by simp[cQ],trivial⟩ rfl ?_;simp[hx,hne,n1,n2,n3,n4,n5,n6,n7,n8,n9,fc,fe,sd,se,c,yT,w0,h2];refine aA (pz (nx+1) dX (by omega) L i c (by omega)) (by simp) (by simp[ay,n1,n2,n3,n4,n5,n6,n7,n8,n9,fc,fe,sd,se]) trivial rfl ?_;rw[<-LL,<-VH];simp[hx,hne,n1,n2,n3,n4,n5,n6,n7,n8,n9,fc,fe,sd,se,w1,w2,w3,w4,w5,Qn,Qm,hoff];refine aA (kW (nx+1+1) (nx+1) (by omega) M i (a+n,u+v-a-n) (by omega) (by omega)) (by simp) (by simp[ay,n1,n2,n3,n4,n5,n6,n7,n8,n9,fc,fe,sd,se]) trivial rfl ?_;rw[<-QF,<-Z_];simp[hx,hne,n1,n2,n3,n4,n5,n6,n7,n8,n9,fc,fe,sd,se,w1,w2,w3,w4,w5,Qn,Qm,hoff];refine⟨by omega,[(nx,nx+1+1)],?_⟩;simp[hx,hne,n1,n2,n3,n4,n5,n6,n7,n8,n9,fc,fe,sd,se,hr,IK,uH,xu,yj]
  ·have cA:¬u<a:=by omega
   have Qm:¬0<a-u:=by omega
   have Qn:¬0<u+v-a-n:=by omega
   have eA:jL (u,v) (a,n)=[]:=by unfold jL;rw[if_neg (by simp only;omega)]
   have eB:nO (u,v) (a,n)=[]:=by unfold nO;rw[if_neg (by simp only;omega)]
   rw[eA,eB]at hN;have yj:M=N:=by rw[hN,LL];simp
   have xu:N.length=M.length:=by rw[yj]
   refine ah (rs:=[]) [] [] [] func265 rfl ?_;simp[hx,hne,n1,n2,n3,n4,n5,n6,n7,n8,n9,fc,fe,sd,se];refine bD ha ⟨IL _ (by simp[n1,n2,n3,n4,n5,n6,n7,n8,n9,fc,fe,sd,se]),by simp[cQ],trivial⟩ rfl ?_;simp[hx,hne,n1,n2,n3,n4,n5,n6,n7,n8,n9,fc,fe,sd,se,c,yT,w0,h2];refine aA (pz (nx+1) dX (by omega) L i c (by omega)) (by simp) (by simp[ay,n1,n2,n3,n4,n5,n6,n7,n8,n9,fc,fe,sd,se]) trivial rfl ?_;rw[<-LL,<-VH];simp[hx,hne,n1,n2,n3,n4,n5,n6,n7,n8,n9,fc,fe,sd,se,w1,w2,w3,w4,w5,Qn,Qm,hoff];refine⟨by omega,[(nx,nx+1)],?_⟩;simp[hx,hne,n1,n2,n3,n4,n5,n6,n7,n8,n9,fc,fe,sd,se,hr,IK,uH,xu,yj]
structure z_(L:List Ext):Prop where
 pos:∀e∈L,1<=e.2
 gap:L.Pairwise fun a b=>a.1+a.2<b.1
 top:∀e∈L,e.1+e.2<=65536
 len:L.length<=65536
theorem z_.up{L:List Ext}(h:z_ L):Up L:=h.gap.imp fun h=>by omega
theorem z_.V4{L:List Ext}(h:z_ L){i:Nat}(hi:i<L.length):iM L L[i].1=i:=by
 refine NV (by omega) (fun p hp hpi=>?_) (fun hp=>?_)
 ·have:=List.pairwise_iff_getElem.1 h.gap p i hp hi hpi;omega
 ·have:=h.pos L[i] (by simp);omega
@[reducible]def en(n f r w:Nat)(F R W:List Ext):List AV:=[.p (.int n),.view f 0 F.length 2 none,.view r 0 R.length 2 none,.view w 0 W.length 2 none]
@[reducible]def iQ(n f r w:Nat)(F R W:List Ext):Ob:=⟨274,4,en n f r w F R W⟩
@[reducible]def dG(m f r w n:Nat)(F R W:List Ext):List (Nat×Ob):=[(m,iQ n f r w F R W),(f,cg F),(r,cg R),(w,cg W)]
structure LZ(m f r w nx:Nat):Prop where
 hm:m<nx
 hf:f<nx
 hr:r<nx
 hw:w<nx
 mf:m≠f
 mr:m≠r
 mw:m≠w
 fr:f≠r
 fw:f≠w
 rw:r≠w
theorem V5(m f r w nx n:Nat)(h:LZ m f r w nx)(F R W:List Ext)(e:Ext)(hF:z_ F)(hR:z_ R)(hh:hasB F e=true)(he:e.1+e.2<=65536):aE prog 308 [.obj m 0,.p (kF e)] ⟨dG m f r w n F R W,[],nx⟩ (.agg true []) ⟨dG m nx (nx+1) w n (fN F e) (gy R e) W,[],nx+2⟩:=by
 obtain⟨hm,hf,hr,hw,mf,mr,mw,fr,fw,eE⟩:=h;have fO:=Ne.symm mf;have fP:=Ne.symm mr;have fQ:=Ne.symm mw;have fR:=Ne.symm fr;have wf_:=Ne.symm fw;have fS:=Ne.symm eE;obtain⟨q1,p1,q2,p2,fT,iD,km,q3,p3,q4,p4,dN,iE,kf,q5,p5,q6,p6,fU,iF,kr,q7,p7,q8,p8,fV,iG,kw⟩:¬m=nx/\¬nx=m/\¬m=nx+1/\¬nx+1=m/\m<nx+1/\m<nx+1+1/\m<nx+2/\¬f=nx/\¬nx=f/\¬f=nx+1/\¬nx+1=f/\f<nx+1/\f<nx+1+1/\f<nx+2/\¬r=nx/\¬nx=r/\¬r=nx+1/\¬nx+1=r/\r<nx+1/\r<nx+1+1/\r<nx+2/\¬w=nx/\¬nx=w/\¬w=nx+1/\¬nx+1=w/\w<nx+1/\w<nx+1+1/\w<nx+2:=by and_intros<;>omega
 refine ah (rs:=[]) [] [(1,[(4,.w [])]),(2,[(4,.w [])])] [] func308 rfl ?_;simp[dG,iQ,en];refine aA (UD nx m f hm hf mf 274 4 1 (en n f r w F R W) F e (by simp) (by simp[hf,hr,hw]) hF.up hF.len (fun e he=>by have:=hF.top e he;omega) hh) (by simp) (by simp[ay,mf,fO,mr,fP,mw,fQ,fr,fR,fw,wf_,eE,fS,q1,p1,q2,p2,hm,fT,iD,km,q3,p3,q4,p4,hf,dN,iE,kf,q5,p5,q6,p6,hr,fU,iF,kr,q7,p7,q8,p8,hw,fV,iG,kw]) trivial rfl ?_;simp[en,mf,fO,mr,fP,mw,fQ,fr,fR,fw,wf_,eE,fS,q1,p1,q2,p2,hm,fT,iD,km,q3,p3,q4,p4,hf,dN,iE,kf,q5,p5,q6,p6,hr,fU,iF,kr,q7,p7,q8,p8,hw,fV,iG,kw];refine aA (HR (nx+1) m r (by omega) (by omega) mr 274 4 2 (en n nx r w (fN F e) R W) R e (by simp) (by simp;omega) hR.up hR.len (fun e he=>by have:=hR.top e he;omega) (by omega)) (by simp) (by simp[ay,en,mf,fO,mr,fP,mw,fQ,fr,fR,fw,wf_,eE,fS,q1,p1,q2,p2,hm,fT,iD,km,q3,p3,q4,p4,hf,dN,iE,kf,q5,p5,q6,p6,hr,fU,iF,kr,q7,p7,q8,p8,hw,fV,iG,kw]) trivial rfl ?_;simp[en,mf,fO,mr,fP,mw,fQ,fr,fR,fw,wf_,eE,fS,q1,p1,q2,p2,hm,fT,iD,km,q3,p3,q4,p4,hf,dN,iE,kf,q5,p5,q6,p6,hr,fU,iF,kr,q7,p7,q8,p8,hw,fV,iG,kw];exact⟨[],by simp[mf,fO,mr,fP,mw,fQ,fr,fR,fw,wf_,eE,fS,q1,p1,q2,p2,hm,fT,iD,km,q3,p3,q4,p4,hf,dN,iE,kf,q5,p5,q6,p6,hr,fU,iF,kr,q7,p7,q8,p8,hw,fV,iG,kw]⟩
def w_(q:Ext->Bool)(L:List Ext):Int:=if(L.takeWhile fun e=>!q e).length<L.length then((L.takeWhile fun e=>!q e).length:Int)else-1
theorem takeWhile_eq{α:Type}{p:α->Bool}{l:List α}{k:Nat}(h:∀x∈l.take k,p x=true)(hk:k<=l.length)(he:∀hk:k<l.length,p l[k]=false):(l.takeWhile p).length=k:=by
 induction l generalizing k with
 |nil=>simp at hk;subst hk;rfl
 |cons a l ih=>
  cases k with
  |zero=>have:=he (by simp);simp at this;simp[this]
  |succ k=>
   have ha:=h a (by simp);have:=ih (k:=k) (fun x hx=>h x (by simp[hx])) (by simpa using hk) (fun hk'=>by have:=he (by simp;omega);simpa using this);simp[ha,this]
theorem Ht{g:FuncId}{caps:List PC}(q:Ext->Bool)(vs:List Ext)(hk:vs.length<=1000000)(h:∀s∈vs,aq prog g (kF s::caps) (.bool (q s))):aq prog 306 [kn vs,.fn (.func g) caps] (.int (w_ q vs)):=by
 refine ai (ys:=[_]) [] [] [] func306 rfl ?_;simp;refine bg (fun k:Nat=>k<=vs.length/\∀x∈vs.take k,(!q x)=true) (fun k=>[(0,.p (kn vs)),(1,.p (.fn (.func g) caps)),(7,.p (.int vs.length)),(8,.p (.int k))]) (fun k=>vs.length-k) 0 (by simp) (ak (by simp)) ?_;rintro k ⟨h1,h2⟩;by_cases c1:k<vs.length
 ·simp[c1];refine bS (h vs[k] (by simp)) ?_;by_cases c2:q vs[k]=true
  ·have e:=takeWhile_eq (p:=fun v=>!q v) h2 h1 (fun _=>by simpa using c2);simp[c2,w_,e,c1,results306]
  ·simp[c2];refine⟨k+1,⟨by omega,?_⟩,by omega,ak ?_⟩
   ·intro a b hx;rw[iA c1]at hx;rcases iR.1 hx with hx|hx
    ·simpa using h2 (a,b) hx
    ·simp only[List.mem_singleton]at hx;rw[hx];simpa using c2
   ·simp[aD (n:=(k:Int)+1)]
 ·have e:=takeWhile_eq (p:=fun v=>!q v) h2 h1 (fun h=>absurd h c1);simp[e,c1,w_,results306]
theorem So{g:FuncId}{caps:List PC}(q:Ext->Bool)(vs:List Ext)(hk:vs.length<=1000000)(h:∀s∈vs,aq prog g (kF s::caps) (.bool (q s))):aq prog 311 [kn vs,.fn (.func g) caps] (.int (w_ q vs)):=by
 refine ai (ys:=[_]) [] [] [] func311 rfl ?_;simp;refine bg (fun k:Nat=>k<=vs.length/\∀x∈vs.take k,(!q x)=true) (fun k=>[(0,.p (kn vs)),(1,.p (.fn (.func g) caps)),(7,.p (.int vs.length)),(8,.p (.int k))]) (fun k=>vs.length-k) 0 (by simp) (ak (by simp)) ?_;rintro k ⟨h1,h2⟩;by_cases c1:k<vs.length
 ·simp[c1];refine bS (h vs[k] (by simp)) ?_;by_cases c2:q vs[k]=true
  ·have e:=takeWhile_eq (p:=fun v=>!q v) h2 h1 (fun _=>by simpa using c2);simp[c2,w_,e,c1,results311]
  ·simp[c2];refine⟨k+1,⟨by omega,?_⟩,by omega,ak ?_⟩
   ·intro a b hx;rw[iA c1]at hx;rcases iR.1 hx with hx|hx
    ·simpa using h2 (a,b) hx
    ·simp only[List.mem_singleton]at hx;rw[hx];simpa using c2
   ·simp[aD (n:=(k:Int)+1)]
 ·have e:=takeWhile_eq (p:=fun v=>!q v) h2 h1 (fun h=>absurd h c1);simp[e,c1,w_,results311]
theorem Dg(q:Ext->Bool)(vs:List Ext):decide (0<=w_ q vs)=vs.any q:=by
 unfold w_
 induction vs with
 |nil=>rfl
 |cons a l ih=>
  cases h:q a with
  |true=>simp[h]
  |false=>
   simp only[List.takeWhile_cons,h,Bool.not_false,if_true,List.length_cons,Nat.add_lt_add_iff_right,List.any_cons,Bool.false_or];rw[<-ih];split<;>simp<;>omega
theorem yG{g:FuncId}{caps:List PC}(q:Ext->Bool)(vs:List Ext)(hk:vs.length<=1000000)(h:∀s∈vs,aq prog g (kF s::caps) (.bool (q s))):aq prog 231 [kn vs,.fn (.func g) caps] (.bool (vs.any q)):=by
 refine ai (ys:=[_]) [] [] [] func231 rfl ?_;simp;refine bS (So q vs hk h) ?_;simp[results231,<-Dg]
theorem L3(e:Ext)(n:Int):aq prog 307 [kF e,.ref (.int n)] (.bool (decide (n<=(e.2:Int)))):=by
 refine ai (ys:=[_]) [] [] [] func307 rfl ?_;simp[results307]
theorem Df{m f r w n:Nat}{F R W:List Ext}{nx:Nat}(h:LZ m f r w nx):cQ (dG m f r w n F R W) 4 (.view f 0 F.length 2 none) (kn F)/\cQ (dG m f r w n F R W) 4 (.view w 0 W.length 2 none) (kn W):=by
 obtain⟨hm,hf,hr,hw,mf,mr,mw,fr,fw,eE⟩:=h;have fO:=Ne.symm mf;have fP:=Ne.symm mr;have fQ:=Ne.symm mw;have fR:=Ne.symm fr;have wf_:=Ne.symm fw;have fS:=Ne.symm eE;obtain⟨q1,p1,fT,q2,p2,dN,q3,p3,fU,q4,p4,fV⟩:¬m=nx/\¬nx=m/\m<nx+1/\¬f=nx/\¬nx=f/\f<nx+1/\¬r=nx/\¬nx=r/\r<nx+1/\¬w=nx/\¬nx=w/\w<nx+1:=by and_intros<;>omega
 exact⟨jM (by simp[dG,mf,fO,mr,fP,mw,fQ,fr,fR,fw,wf_,eE,fS,q1,p1,hm,fT,q2,p2,hf,dN,q3,p3,hr,fU,q4,p4,hw,fV]) rfl,jM (by simp[dG,mf,fO,mr,fP,mw,fQ,fr,fR,fw,wf_,eE,fS,q1,p1,hm,fT,q2,p2,hf,dN,q3,p3,hr,fU,q4,p4,hw,fV]) rfl⟩
theorem L0(m f r w nx n:Nat)(h:LZ m f r w nx)(F R W:List Ext)(hF:z_ F):aE prog 87 [.obj m 0] ⟨dG m f r w n F R W,[],nx⟩ (.p (.int (Aa F))) ⟨dG m f r w n F R W,[],nx⟩:=by
 have hb:=(Df (n:=n) (F:=F) (R:=R) (W:=W) h).1;obtain⟨hm,hf,hr,hw,mf,mr,mw,fr,fw,eE⟩:=h;have fO:=Ne.symm mf;have fP:=Ne.symm mr;have fQ:=Ne.symm mw;have fR:=Ne.symm fr;have wf_:=Ne.symm fw;have fS:=Ne.symm eE;obtain⟨q1,p1,fT,q2,p2,dN,q3,p3,fU,q4,p4,fV⟩:¬m=nx/\¬nx=m/\m<nx+1/\¬f=nx/\¬nx=f/\f<nx+1/\¬r=nx/\¬nx=r/\r<nx+1/\¬w=nx/\¬nx=w/\w<nx+1:=by and_intros<;>omega
 refine ah (rs:=[_]) [] [] [] func87 rfl ?_;simp[dG,iQ,en];refine bD (V1 F (by have:=hF.len;omega) (fun e he=>by have:=hF.top e he;omega)) ⟨hb,trivial⟩ rfl ?_;simp[results87];exact⟨[],by simp[mf,fO,mr,fP,mw,fQ,fr,fR,fw,wf_,eE,fS,q1,p1,hm,fT,q2,p2,hf,dN,q3,p3,hr,fU,q4,p4,hw,fV]⟩
theorem V2(m f r w nx n:Nat)(h:LZ m f r w nx)(F R W:List Ext)(k:Int)(hF:z_ F)(hk:k<1\/∀e∈F,¬k<=(e.2:Int)):aE prog 227 [.obj m 0,.p (.int k)] ⟨dG m f r w n F R W,[],nx⟩ (.agg true [.p (kF (0,0)),.p (.bool false)]) ⟨dG m f r w n F R W,[],nx⟩:=by
 have hb:=(Df (n:=n) (F:=F) (R:=R) (W:=W) h).1;have hi:=Ht (g:=307) (caps:=[.ref (.int k)]) (fun e=>decide (k<=(e.2:Int))) F (by have:=hF.len;omega) (fun e _=>L3 e k);have hneg:k<1\/(w_ (fun e=>decide (k<=(e.2:Int))) F<0):=by
  rcases hk with hk|hk
  ·exact .inl hk
  ·refine .inr ?_;have:=Dg (fun e=>decide (k<=(e.2:Int))) F;have h2:F.any (fun e=>decide (k<=(e.2:Int)))=false:=by
    rw[List.any_eq_false];intro e he;simpa using hk e he
   rw[h2]at this;simp only[decide_eq_false_iff_not]at this;omega
 generalize w_ (fun e=>decide (k<=(e.2:Int))) F=i at*;obtain⟨hm,hf,hr,hw,mf,mr,mw,fr,fw,eE⟩:=h;have fO:=Ne.symm mf;have fP:=Ne.symm mr;have fQ:=Ne.symm mw;have fR:=Ne.symm fr;have wf_:=Ne.symm fw;have fS:=Ne.symm eE;obtain⟨q1,p1,fT,q2,p2,dN,q3,p3,fU,q4,p4,fV⟩:¬m=nx/\¬nx=m/\m<nx+1/\¬f=nx/\¬nx=f/\f<nx+1/\¬r=nx/\¬nx=r/\r<nx+1/\¬w=nx/\¬nx=w/\w<nx+1:=by and_intros<;>omega
 refine ah (rs:=[_,_]) [] [(4,[(3,.r 1),(7,.r 2),(10,.w [1,2]),(11,.s 3 [1,2])])] [(1,m),(2,f),(3,nx+1)] func227 rfl ?_;simp[dG,iQ,en,mf,fO,mr,fP,mw,fQ,fr,fR,fw,wf_,eE,fS,q1,p1,hm,fT,q2,p2,hf,dN,q3,p3,hr,fU,q4,p4,hw,fV];refine bD hi ⟨jM (by simp[mf,fO,mr,fP,mw,fQ,fr,fR,fw,wf_,eE,fS,q1,p1,hm,fT,q2,p2,hf,dN,q3,p3,hr,fU,q4,p4,hw,fV]) rfl,by simp[cQ],trivial⟩ rfl ?_;by_cases c:k<1
 ·simp[c,results227,mf,fO,mr,fP,mw,fQ,fr,fR,fw,wf_,eE,fS,q1,p1,hm,fT,q2,p2,hf,dN,q3,p3,hr,fU,q4,p4,hw,fV];exact⟨[],by simp[mf,fO,mr,fP,mw,fQ,fr,fR,fw,wf_,eE,fS,q1,p1,hm,fT,q2,p2,hf,dN,q3,p3,hr,fU,q4,p4,hw,fV]⟩
 ·have c2:i<0:=by omega
  simp[c,c2,results227,mf,fO,mr,fP,mw,fQ,fr,fR,fw,wf_,eE,fS,q1,p1,hm,fT,q2,p2,hf,dN,q3,p3,hr,fU,q4,p4,hw,fV];exact⟨[],by simp[mf,fO,mr,fP,mw,fQ,fr,fR,fw,wf_,eE,fS,q1,p1,hm,fT,q2,p2,hf,dN,q3,p3,hr,fU,q4,p4,hw,fV]⟩
theorem V3(m f r w nx n:Nat)(h:LZ m f r w nx)(F R W:List Ext)(k i:Nat)(hF:z_ F)(hR:z_ R)(hk:1<=k)(hi:i<F.length)(hki:k<=F[i].2)(hlt:∀p (hp:p<F.length),p<i->F[p].2<k):aE prog 227 [.obj m 0,.p (.int k)] ⟨dG m f r w n F R W,[],nx⟩ (.agg true [.p (kF (F[i].1,k)),.p (.bool true)]) ⟨dG m nx (nx+1) w n (fN F (F[i].1,k)) (gy R (F[i].1,k)) W,[],nx+2⟩:=by
 have hq:w_ (fun e=>decide ((k:Int)<=(e.2:Int))) F=i:=by
  unfold w_;have:(F.takeWhile fun e=>!decide ((k:Int)<=(e.2:Int))).length=i:=takeWhile_eq (fun x hx=>by
   obtain⟨p,hp,rfl⟩:=List.getElem_of_mem hx;simp at hp⊢;exact hlt p (by omega) (by omega)) (by omega) (fun _=>by simpa using hki)
  rw[this,if_pos hi]
 have qP:=Ht (g:=307) (caps:=[.ref (.int k)]) (fun e=>decide ((k:Int)<=(e.2:Int))) F (by have:=hF.len;omega) (fun e _=>L3 e k);rw[hq]at qP;have FI:=hF.top F[i] (by simp);have hh:hasB F (F[i].1,k)=true:=by
  unfold hasB;simp only;rw[hF.V4 hi];simp[hi];exact hki
 have g:=Az hi;have g1:∀h',(cV F)[i*2]'h'= .int F[i].1:=fun h'=>by have:=g.1;rw[kq h']at this;injection this
 have alW:=h;obtain⟨hm,hf,hr,hw,mf,mr,mw,fr,fw,eE⟩:=h;have fO:=Ne.symm mf;have fP:=Ne.symm mr;have fQ:=Ne.symm mw;have fR:=Ne.symm fr;have wf_:=Ne.symm fw;have fS:=Ne.symm eE;obtain⟨q1,p1,q2,p2,q3,p3,q4,p4,q5,p5,fT,iD,jd,jN,lO,km,q6,p6,q7,p7,q8,p8,q9,p9,q10,iU,dN,iE,je,jO⟩:¬m=nx/\¬nx=m/\¬m=nx+1/\¬nx+1=m/\¬m=nx+1+1/\¬nx+1+1=m/\¬m=nx+1+1+1/\¬nx+1+1+1=m/\¬m=nx+1+1+1+1/\¬nx+1+1+1+1=m/\m<nx+1/\m<nx+1+1/\m<nx+1+1+1/\m<nx+1+1+1+1/\m<nx+1+1+1+1+1/\m<nx+5/\¬f=nx/\¬nx=f/\¬f=nx+1/\¬nx+1=f/\¬f=nx+1+1/\¬nx+1+1=f/\¬f=nx+1+1+1/\¬nx+1+1+1=f/\¬f=nx+1+1+1+1/\¬nx+1+1+1+1=f/\f<nx+1/\f<nx+1+1/\f<nx+1+1+1/\f<nx+1+1+1+1:=by and_intros<;>omega
 obtain⟨lQ,kf,q11,iV,q12,iW,q13,jB,q14,jC,q15,jP,fU,iF,jf,jQ,lR,kr,q16,jR,q17,lS,q18,lT,q19,lU,q20,lV,fV,iG⟩:f<nx+1+1+1+1+1/\f<nx+5/\¬r=nx/\¬nx=r/\¬r=nx+1/\¬nx+1=r/\¬r=nx+1+1/\¬nx+1+1=r/\¬r=nx+1+1+1/\¬nx+1+1+1=r/\¬r=nx+1+1+1+1/\¬nx+1+1+1+1=r/\r<nx+1/\r<nx+1+1/\r<nx+1+1+1/\r<nx+1+1+1+1/\r<nx+1+1+1+1+1/\r<nx+5/\¬w=nx/\¬nx=w/\¬w=nx+1/\¬nx+1=w/\¬w=nx+1+1/\¬nx+1+1=w/\¬w=nx+1+1+1/\¬nx+1+1+1=w/\¬w=nx+1+1+1+1/\¬nx+1+1+1+1=w/\w<nx+1/\w<nx+1+1:=by and_intros<;>omega
 obtain⟨jg,jS,lW,kw⟩:w<nx+1+1+1/\w<nx+1+1+1+1/\w<nx+1+1+1+1+1/\w<nx+5:=by and_intros<;>omega
 have hT:=V5 m f r w (nx+2) n ⟨by omega,by omega,by omega,by omega,mf,mr,mw,fr,fw,eE⟩ F R W (F[i].1,k) hF hR hh (by simp only;omega);have c0:decide ((k:Int)<1)=false:=by simp;omega
 refine ah (rs:=[_,_]) [] [(4,[(3,.r 1),(7,.r 2),(10,.w [1,2]),(11,.s 3 [1,2])])] [(1,m),(2,f),(3,nx+1)] func227 rfl ?_;simp[dG,iQ,en,mf,fO,mr,fP,mw,fQ,fr,fR,fw,wf_,eE,fS,q1,p1,q2,p2,q3,p3,q4,p4,q5,p5,hm,fT,iD,jd,jN,lO,km,q6,p6,q7,p7,q8,p8,q9,p9,q10,iU,hf,dN,iE,je,jO,lQ,kf,q11,iV,q12,iW,q13,jB,q14,jC,q15,jP,hr,fU,iF,jf,jQ,lR,kr,q16,jR,q17,lS,q18,lT,q19,lU,q20,lV,hw,fV,iG,jg,jS,lW,kw];refine bD qP ⟨jM (by simp[mf,fO,mr,fP,mw,fQ,fr,fR,fw,wf_,eE,fS,q1,p1,q2,p2,q3,p3,q4,p4,q5,p5,hm,fT,iD,jd,jN,lO,km,q6,p6,q7,p7,q8,p8,q9,p9,q10,iU,hf,dN,iE,je,jO,lQ,kf,q11,iV,q12,iW,q13,jB,q14,jC,q15,jP,hr,fU,iF,jf,jQ,lR,kr,q16,jR,q17,lS,q18,lT,q19,lU,q20,lV,hw,fV,iG,jg,jS,lW,kw]) rfl,by simp[cQ],trivial⟩ rfl ?_;have hkz:k≠0:=by omega
 simp[c0,hkz,hi,g.1,g1,mf,fO,mr,fP,mw,fQ,fr,fR,fw,wf_,eE,fS,q1,p1,q2,p2,q3,p3,q4,p4,q5,p5,hm,fT,iD,jd,jN,lO,km,q6,p6,q7,p7,q8,p8,q9,p9,q10,iU,hf,dN,iE,je,jO,lQ,kf,q11,iV,q12,iW,q13,jB,q14,jC,q15,jP,hr,fU,iF,jf,jQ,lR,kr,q16,jR,q17,lS,q18,lT,q19,lU,q20,lV,hw,fV,iG,jg,jS,lW,kw];refine aA hT (by simp) (by simp[ay,dG,iQ,en,mf,fO,mr,fP,mw,fQ,fr,fR,fw,wf_,eE,fS,q1,p1,q2,p2,q3,p3,q4,p4,q5,p5,hm,fT,iD,jd,jN,lO,km,q6,p6,q7,p7,q8,p8,q9,p9,q10,iU,hf,dN,iE,je,jO,lQ,kf,q11,iV,q12,iW,q13,jB,q14,jC,q15,jP,hr,fU,iF,jf,jQ,lR,kr,q16,jR,q17,lS,q18,lT,q19,lU,q20,lV,hw,fV,iG,jg,jS,lW,kw]) trivial rfl ?_;simp[dG,iQ,en,mf,fO,mr,fP,mw,fQ,fr,fR,fw,wf_,eE,fS,q1,p1,q2,p2,q3,p3,q4,p4,q5,p5,hm,fT,iD,jd,jN,lO,km,q6,p6,q7,p7,q8,p8,q9,p9,q10,iU,hf,dN,iE,je,jO,lQ,kf,q11,iV,q12,iW,q13,jB,q14,jC,q15,jP,hr,fU,iF,jf,jQ,lR,kr,q16,jR,q17,lS,q18,lT,q19,lU,q20,lV,hw,fV,iG,jg,jS,lW,kw,results227];exact⟨[(nx,nx+2),(nx+1,nx+2+1)],by simp[mf,fO,mr,fP,mw,fQ,fr,fR,fw,wf_,eE,fS,q1,p1,q2,p2,q3,p3,q4,p4,q5,p5,hm,fT,iD,jd,jN,lO,km,q6,p6,q7,p7,q8,p8,q9,p9,q10,iU,hf,dN,iE,je,jO,lQ,kf,q11,iV,q12,iW,q13,jB,q14,jC,q15,jP,hr,fU,iF,jf,jQ,lR,kr,q16,jR,q17,lS,q18,lT,q19,lU,q20,lV,hw,fV,iG,jg,jS,lW,kw];omega⟩
theorem xA{P:Program}{f:FuncId}{xs:List AV}{tb aM rK:Tb}{r:AV}(h:aE P f xs tb r aM)(hb:∀i o,lk i rK.bx=some o->lk i aM.bx=some o)(hr:∀i o,lk i rK.rw=some o->lk i aM.rw=some o)(hn:aM.nx<=rK.nx):aE P f xs tb r rK:=qa h fun _ _ _ g _ _ hw hv=>⟨g,G.le_refl g,hw.sub hb hr hn,hv⟩
theorem acN(nx n:Nat)(h1:1<=n)(h2:n<=65536):aE prog 73 [.p (.int n)] ⟨[],[],nx⟩ (.agg true [.obj (nx+1) 0,.p (.int 0)]) ⟨dG (nx+1) nx (nx+2) (nx+3) n [(0,n)] [] [],[],nx+4⟩:=by
 have c1:decide ((n:Int)<1)=false:=by simp;omega
 have c2:decide ((65536:Int)<n)=false:=by simp;omega
 have key:aE prog 73 [.p (.int n)] ⟨[],[],nx⟩ (.agg true [.obj (nx+1) 0,.p (.int 0)]) ⟨[(nx+1,⟨274,4,[.p (.int n),.view nx 0 1 2 (some 1),.p .nil,.p .nil]⟩),(nx,cg [(0,n)])],[],nx+2⟩:=by
  refine ah (rs:=[_,_]) [13,15] [] [] func73 rfl ?_;simp[c1,c2,results73,dB];exact⟨[],by simp⟩
 have k1:aE prog 73 [.p (.int n)] ⟨[],[],nx⟩ (.agg true [.obj (nx+1) 0,.p (.int 0)]) ⟨[(nx+1,⟨274,4,[.p (.int n),.view nx 0 1 2 none,.p .nil,.p .nil]⟩),(nx,cg [(0,n)])],[],nx+2⟩:=by
  simpa[Tb.aP,del]using mI (id:=nx+1) (j:=1) (x:= .view nx 0 1 2 (some 1)) (ob:=⟨274,4,[.p (.int n),.view nx 0 1 2 (some 1),.p .nil,.p .nil]⟩) (.view nx 0 1 2 none) key (by simp[lk]) rfl (by simp)
 have k2:aE prog 73 [.p (.int n)] ⟨[],[],nx⟩ (.agg true [.obj (nx+1) 0,.p (.int 0)]) ⟨[(nx+1,⟨274,4,[.p (.int n),.view nx 0 1 2 none,.view (nx+2) 0 0 2 none,.p .nil]⟩),(nx+2,cg []),(nx,cg [(0,n)])],[],nx+3⟩:=by
  have t:=oa (id:=nx+1) (j:=2) (ob:=⟨274,4,[.p (.int n),.view nx 0 1 2 none,.p .nil,.p .nil]⟩) 157 2 k1 (by simp[lk]) rfl;simp[Tb.aP,Tb.aS,del]at t;exact t
 have k3:aE prog 73 [.p (.int n)] ⟨[],[],nx⟩ (.agg true [.obj (nx+1) 0,.p (.int 0)]) ⟨[(nx+1,⟨274,4,[.p (.int n),.view nx 0 1 2 none,.view (nx+2) 0 0 2 none,.view (nx+3) 0 0 2 none]⟩),(nx+3,cg []),(nx+2,cg []),(nx,cg [(0,n)])],[],nx+4⟩:=by
  have t:=oa (id:=nx+1) (j:=3) (ob:=⟨274,4,[.p (.int n),.view nx 0 1 2 none,.view (nx+2) 0 0 2 none,.p .nil]⟩) 157 2 k2 (by simp[lk]) rfl;simp[Tb.aP,Tb.aS,del]at t;exact t
 refine xA k3 (fun i o ho=>?_) (fun i o ho=>ho) (Nat.le_refl _);simp only[dG,iQ,en,lk]at ho⊢;split at ho
 ·rename_i h;rw[if_pos h];exact ho
 ·split at ho
  ·rename_i h;subst h;simp;simpa using ho
  ·split at ho
   ·rename_i h;subst h;simp;simpa using ho
   ·split at ho
    ·rename_i h;subst h;simp;simpa using ho
    ·cases ho
end Go.Av
namespace Go.Av
open Go.Proofs
def jc(e:Ext)(s:Nat):Prop:=e.1<=s/\s<e.1+e.2
def mem(L:List Ext)(s:Nat):Prop:=∃e∈L,jc e s
structure Nr(L:List Ext):Prop where
 pos:∀e∈L,1<=e.2
 gap:L.Pairwise fun a b=>a.1+a.2<b.1
theorem z_.nr{L:List Ext}(h:z_ L):Nr L:=⟨h.pos,h.gap⟩
theorem Nr.up{L:List Ext}(h:Nr L):Up L:=h.gap.imp fun h=>by omega
theorem LV:Nr []:=⟨by simp,.nil⟩
theorem VY{e:Ext}(h:1<=e.2):Nr [e]:=⟨by simpa using h,by simp⟩
theorem gG{A B:List Ext}:Nr (A++B)↔Nr A/\Nr B/\∀a∈A,∀b∈B,a.1+a.2<b.1:=by
 constructor
 ·rintro⟨h1,h2⟩;obtain⟨h3,h4,h5⟩:=List.pairwise_append.1 h2;exact⟨⟨fun e he=>h1 e (by simp[he]),h3⟩,⟨fun e he=>h1 e (by simp[he]),h4⟩,h5⟩
 ·rintro⟨⟨h1,h2⟩,⟨h3,h4⟩,h5⟩;exact⟨fun e he=>by rcases iR.1 he with h|h;exact h1 e h;exact h3 e h,List.pairwise_append.2 ⟨h2,h4,h5⟩⟩
theorem kS{e:Ext}{B:List Ext}:Nr (e::B)↔1<=e.2/\Nr B/\∀b∈B,e.1+e.2<b.1:=by
 constructor
 ·rintro⟨h1,h2⟩;obtain⟨h3,h4⟩:=List.pairwise_cons.1 h2;exact⟨h1 e (by simp),⟨fun e he=>h1 e (by simp[he]),h4⟩,h3⟩
 ·rintro⟨h0,⟨h3,h4⟩,h5⟩;exact⟨fun x hx=>by rcases List.mem_cons.1 hx with rfl|h;exact h0;exact h3 x h,List.pairwise_cons.2 ⟨h5,h4⟩⟩
theorem mem_append{A B:List Ext}{s:Nat}:mem (A++B) s↔mem A s\/mem B s:=by
 unfold mem;simp only[iR];constructor
 ·rintro⟨e,h|h,k⟩;exact .inl ⟨e,h,k⟩;exact .inr ⟨e,h,k⟩
 ·rintro(⟨e,h,k⟩|⟨e,h,k⟩);exact⟨e,.inl h,k⟩;exact⟨e,.inr h,k⟩
theorem mem_cons{e:Ext}{B:List Ext}{s:Nat}:mem (e::B) s↔jc e s\/mem B s:=by
 unfold mem;simp only[List.mem_cons];constructor
 ·rintro⟨x,rfl|h,k⟩;exact .inl k;exact .inr ⟨x,h,k⟩
 ·rintro(k|⟨x,h,k⟩);exact⟨e,.inl rfl,k⟩;exact⟨x,.inr h,k⟩
@[simp]theorem BK{s:Nat}:¬mem [] s:=by rintro⟨e,h,_⟩;simp at h
theorem qO{L:List Ext}(h:Nr L)(t:Nat):(∀a∈L.take (iM L t),a.1+a.2<=t)/\(∀b∈L.drop (iM L t),t<b.1+b.2):=by
 have key:∀(L:List Ext),Up L->(∀a∈L.take (iM L t),a.1+a.2<=t)/\(∀b∈L.drop (iM L t),t<b.1+b.2):=by
  intro L
  induction L with
  |nil=>intro _;simp[iM]
  |cons e L ih=>
   intro hU;obtain⟨h1,h2⟩:=List.pairwise_cons.1 hU;by_cases c:e.1+e.2<=t
   ·have ea:iM (e::L) t=iM L t+1:=by simp[iM,c]
    rw[ea];obtain⟨i1,i2⟩:=ih h2;refine⟨fun a ha=>?_,fun b hb=>i2 b (by simpa using hb)⟩;simp at ha;rcases ha with rfl|ha
    ·exact c
    ·exact i1 a ha
   ·have ea:iM (e::L) t=0:=by simp[iM,c]
    rw[ea];refine⟨by simp,fun b hb=>?_⟩;simp at hb;rcases hb with rfl|hb
    ·omega
    ·have:=h1 b hb;omega
 exact key L h.up
theorem sk{L:List Ext}(h:Nr L)(e:Ext)(he:1<=e.2):uO L e=true↔∃s,jc e s/\mem L s:=by
 obtain⟨h1,h2⟩:=qO h e.1;unfold uO;have hsp:L=L.take (iM L e.1)++L.drop (iM L e.1):=(List.take_append_drop _ _).symm;generalize iM L e.1=i at*;have hg:L[i]?=(L.drop i)[0]?:=by simp
 rw[hg];rw[hsp]at h;have hm:∀s,mem L s↔mem (L.take i) s\/mem (L.drop i) s:=fun s=>by rw[<-mem_append,<-hsp]
 generalize L.take i=A at*;generalize L.drop i=B at*;obtain⟨hA,hB,hAB⟩:=gG.1 h;cases B with
 |nil=>
  simp;intro s hs Ay;rw[hm]at Ay;rcases Ay with⟨a,ha,vT⟩|Ay
  ·have:=h1 a ha;unfold jc at hs vT;omega
  ·exact absurd Ay BK
 |cons x B=>
  simp;have hx:=h2 x (by simp);have px:=hB.pos x (by simp);constructor
  ·intro hlt;by_cases c:e.1<=x.1
   ·exact⟨x.1,⟨c,hlt⟩,(hm _).2 (.inr (mem_cons.2 (.inl ⟨Nat.le_refl _,by omega⟩)))⟩
   ·exact⟨e.1,⟨Nat.le_refl _,by omega⟩,(hm _).2 (.inr (mem_cons.2 (.inl ⟨by omega,hx⟩)))⟩
  ·rintro⟨s,hs,Ay⟩;rw[hm]at Ay;rcases Ay with⟨a,ha,vT⟩|Ay
   ·have:=h1 a ha;unfold jc at hs vT;omega
   ·rcases mem_cons.1 Ay with vT|⟨b,hb,vT⟩
    ·unfold jc at hs vT;omega
    ·have:=(kS.1 hB).2.2 b hb;unfold jc at hs vT;omega
theorem xy{L:List Ext}(h:Nr L)(e:Ext)(he:1<=e.2):hasB L e=true↔∀s,jc e s->mem L s:=by
 obtain⟨h1,h2⟩:=qO h e.1;unfold hasB;have hsp:L=L.take (iM L e.1)++L.drop (iM L e.1):=(List.take_append_drop _ _).symm;generalize iM L e.1=i at*;have hg:L[i]?=(L.drop i)[0]?:=by simp
 rw[hg];rw[hsp]at h;have hm:∀s,mem L s↔mem (L.take i) s\/mem (L.drop i) s:=fun s=>by rw[<-mem_append,<-hsp]
 generalize L.take i=A at*;generalize L.drop i=B at*;obtain⟨hA,hB,hAB⟩:=gG.1 h;cases B with
 |nil=>
  simp;refine⟨e.1,⟨Nat.le_refl _,by omega⟩,fun Ay=>?_⟩;rw[hm]at Ay;rcases Ay with⟨a,ha,vT⟩|Ay
  ·have:=h1 a ha;unfold jc at vT;omega
  ·exact absurd Ay BK
 |cons x B=>
  simp;have hx:=h2 x (by simp);constructor
  ·rintro⟨c1,c2⟩ s hs;exact(hm s).2 (.inr (mem_cons.2 (.inl ⟨by unfold jc at hs;omega,by unfold jc at hs;omega⟩)))
  ·intro hall;have acM:∀s,jc e s->s<=x.1+x.2->jc x s:=by
    intro s hs hle;rcases(hm s).1 (hall s hs)with⟨a,ha,vT⟩|Ay
    ·have:=h1 a ha;unfold jc at hs vT;omega
    ·rcases mem_cons.1 Ay with vT|⟨b,hb,vT⟩
     ·exact vT
     ·have:=(kS.1 hB).2.2 b hb;unfold jc at hs vT;omega
   have c1:=acM e.1 ⟨Nat.le_refl _,by omega⟩ (by omega);refine⟨c1.1,?_⟩;by_cases c:e.1+e.2<=x.1+x.2
   ·exact c
   ·have:=acM (x.1+x.2) ⟨by omega,by omega⟩ (Nat.le_refl _);unfold jc at this;omega
theorem xT{A B:List Ext}{E:Ext}(hAB:Nr (A++B))(hE:1<=E.2)(hA:∀a∈A,a.1+a.2<=E.1)(hB:∀b∈B,E.1+E.2<b.1):Nr (jJ (A++B) A.length E)/\(∀s,mem (jJ (A++B) A.length E) s↔mem A s\/jc E s\/mem B s)/\(jJ (A++B) A.length E).length<=(A++B).length+1:=by
 obtain⟨nA,nB,hg⟩:=gG.1 hAB;rcases List.eq_nil_or_concat A with rfl|⟨A',y,rfl⟩
 ·simp only[List.nil_append,List.length_nil,jJ];refine⟨kS.2 ⟨hE,nB,hB⟩,fun s=>?_,by simp⟩;rw[mem_cons];simp
 ·have el:(A'.concat y).length=A'.length+1:=by simp
  rw[el];simp only[List.concat_eq_append]at*;have e1:(A'++[y]++B).getD A'.length (0,0)=y:=by simp
  have e2:(A'++[y]++B).take A'.length=A':=by simp
  have e3:(A'++[y]++B).drop (A'.length+1)=B:=by
   rw[List.drop_append,List.drop_of_length_le (by simp)];simp
  have e4:(A'++[y]++B).take (A'.length+1)=A'++[y]:=by
   rw[List.take_append_of_le_length (by simp),fY (by simp)]
  simp only[jJ,e1,e2,e3,e4];obtain⟨nA',ny,hgy⟩:=gG.1 nA;have hy:=hA y (by simp);have py:=nA.pos y (by simp);split
  ·rename_i c;refine⟨gG.2 ⟨nA',kS.2 ⟨by simp only;omega,nB,fun b hb=>by have:=hB b hb;simp only;omega⟩,?_⟩,fun s=>?_,by simp⟩
   ·intro a ha b hb;rcases List.mem_cons.1 hb with rfl|hb
    ·exact hgy a ha y (by simp)
    ·have:=hgy a ha y (by simp);have:=hB b hb;omega
   ·rw[mem_append,mem_cons,mem_append,mem_cons];have:jc (y.1,y.2+E.2) s↔jc y s\/jc E s:=by unfold jc;simp only;omega
    rw[this];simp only[BK,or_false];constructor
    ·rintro(h|(h|h)|h)
     ·exact .inl (.inl h)
     ·exact .inl (.inr h)
     ·exact .inr (.inl h)
     ·exact .inr (.inr h)
    ·rintro((h|h)|h|h)
     ·exact .inl h
     ·exact .inr (.inl (.inl h))
     ·exact .inr (.inl (.inr h))
     ·exact .inr (.inr h)
  ·rename_i c;refine⟨gG.2 ⟨nA,kS.2 ⟨hE,nB,hB⟩,?_⟩,fun s=>?_,by simp;omega⟩
   ·intro a ha b hb;have Qp:a.1+a.2<E.1:=by
     rcases iR.1 ha with h|h
     ·have:=hgy a h y (by simp);omega
     ·simp at h;subst h;omega
    rcases List.mem_cons.1 hb with rfl|hb
    ·exact Qp
    ·have:=hB b hb;omega
   ·rw[mem_append,mem_cons]
theorem join_top{A B:List Ext}{E:Ext}{N:Nat}(h1:∀a∈A++B,a.1+a.2<=N)(hE:E.1+E.2<=N)(hA:∀a∈A,a.1+a.2<=E.1):∀x∈jJ (A++B) A.length E,x.1+x.2<=N:=by
 intro x hx;rcases List.eq_nil_or_concat A with rfl|⟨A',y,rfl⟩
 ·simp only[List.nil_append,List.length_nil,jJ]at hx h1;rcases List.mem_cons.1 hx with rfl|hx
  ·exact hE
  ·exact h1 x hx
 ·have el:(A'.concat y).length=A'.length+1:=by simp
  rw[el]at hx;have e1:(A'.concat y++B).getD A'.length (0,0)=y:=by simp
  have hy:=hA y (by simp);simp only[jJ,e1]at hx;split at hx
  ·rename_i c;rcases iR.1 hx with h|h
   ·exact h1 x (jH h)
   ·rcases List.mem_cons.1 h with rfl|h
    ·simp only;omega
    ·exact h1 x (List.mem_of_mem_drop h)
  ·rcases iR.1 hx with h|h
   ·exact h1 x (jH h)
   ·rcases List.mem_cons.1 h with rfl|h
    ·exact hE
    ·exact h1 x (List.mem_of_mem_drop h)
theorem BL{L:List Ext}(h:Nr L){e:Ext}(he:1<=e.2)(hm:uO L e=false){N:Nat}(hN:∀x∈L,x.1+x.2<=N)(heN:e.1+e.2<=N):Nr (gy L e)/\(∀s,mem (gy L e) s↔mem L s\/jc e s)/\(gy L e).length<=L.length+1/\∀x∈gy L e,x.1+x.2<=N:=by
 have hm':∀s,jc e s->¬mem L s:=fun s hs Ay=>by
  have:=(sk h e he).2 ⟨s,hs,Ay⟩;rw[hm]at this;cases this
 obtain⟨h1,h2⟩:=qO h e.1;have hsp:L=L.take (iM L e.1)++L.drop (iM L e.1):=(List.take_append_drop _ _).symm;have hle:=LW L e.1;unfold gy jK BM sX;generalize iM L e.1=i at*;have hlA:(L.take i).length=i:=by simp;omega
 have hg:L[i]?=(L.drop i)[0]?:=by simp
 have hgD:L.getD i (0,0)=(L.drop i).getD 0 (0,0):=by simp
 have hd:L.drop (i+1)=(L.drop i).drop 1:=by simp
 rw[hg,hgD,hd];have hmL:∀s,mem L s↔mem (L.take i) s\/mem (L.drop i) s:=fun s=>by rw[<-mem_append,<-hsp]
 have Ja:L.length=(L.take i).length+(L.drop i).length:=by rw[<-dU,<-hsp]
 have hNA:∀x∈L.take i,x.1+x.2<=N:=fun x hx=>hN x (jH hx);have hNB:∀x∈L.drop i,x.1+x.2<=N:=fun x hx=>hN x (List.mem_of_mem_drop hx);have QJ:∀b∈L.drop i,e.1+e.2<=b.1:=by
  intro b hb;have e1:=h2 b hb;rcases Nat.lt_or_ge b.1 (e.1+e.2)with c|c
  ·exfalso;have pb:=h.pos b (List.mem_of_mem_drop hb);by_cases c2:e.1<=b.1
   ·exact hm' b.1 ⟨c2,c⟩ ⟨b,List.mem_of_mem_drop hb,Nat.le_refl _,by omega⟩
   ·exact hm' e.1 ⟨Nat.le_refl _,by omega⟩ ⟨b,List.mem_of_mem_drop hb,by omega,e1⟩
  ·exact c
 have hh:Nr (L.take i++L.drop i):=by rw[<-hsp];exact h
 generalize hAd:L.take i=A at*;generalize L.drop i=B at*;cases B with
 |nil=>
  simp only[List.getElem?_nil,if_false,Bool.false_eq_true];have hL:L=A++[]:=hsp;rw[hL];have hj:=xT (E:=e) hh he h1 (by simp);rw[hlA]at hj;refine⟨hj.1,fun s=>?_,by simpa using hj.2.2,?_⟩
  ·rw[hj.2.1,mem_append];simp
  ·have:=join_top (E:=e) (A:=A) (B:=[]) (N:=N) (by simpa using hNA) heN h1;rw[hlA]at this;exact this
 |cons x B=>
  have hx:=QJ x (by simp);obtain⟨nA,nB,gAB⟩:=gG.1 hh;obtain⟨px,nB',gx⟩:=kS.1 nB;by_cases c:e.1+e.2=x.1
  ·simp[c];have VZ:Nr (A++B):=gG.2 ⟨nA,nB',fun a ha b hb=>gAB a ha b (by simp[hb])⟩;have hj:=xT (E:=(e.1,e.2+x.2)) VZ (by simp only;omega) h1 (fun b hb=>by have:=gx b hb;simp only;omega);rw[hlA]at hj;have hNx:=hNB x (by simp);refine⟨hj.1,fun s=>?_,?_,?_⟩
   ·rw[hj.2.1,hmL,mem_cons];have:jc (e.1,e.2+x.2) s↔jc e s\/jc x s:=by unfold jc;simp only;omega
    rw[this];constructor
    ·rintro(h|(h|h)|h)
     ·exact .inl (.inl h)
     ·exact .inr h
     ·exact .inl (.inr (.inl h))
     ·exact .inl (.inr (.inr h))
    ·rintro((h|h|h)|h)
     ·exact .inl h
     ·exact .inr (.inl (.inr h))
     ·exact .inr (.inr h)
     ·exact .inr (.inl (.inl h))
   ·have:=hj.2.2;simp at this Ja⊢;omega
   ·have:=join_top (E:=(e.1,e.2+x.2)) (A:=A) (B:=B) (N:=N) (fun a ha=>by rcases iR.1 ha with h|h;exact hNA a h;exact hNB a (by simp[h])) (by simp only;omega) h1;rw[hlA]at this;intro y z hy;exact this (y,z) hy
  ·simp[c];have hj:=xT (E:=e) hh he h1 (fun b hb=>by rcases List.mem_cons.1 hb with rfl|h;omega;have:=gx b h;omega);rw[hlA,<-hsp]at hj;refine⟨hj.1,fun s=>?_,?_,?_⟩
   ·rw[hj.2.1,hmL];constructor
    ·rintro(h|h|h)
     ·exact .inl (.inl h)
     ·exact .inr h
     ·exact .inl (.inr h)
    ·rintro((h|h)|h)
     ·exact .inl h
     ·exact .inr (.inr h)
     ·exact .inr (.inl h)
   ·exact hj.2.2
   ·have:=join_top (E:=e) (A:=A) (B:=x::B) (N:=N) (fun a ha=>by rcases iR.1 ha with h|h;exact hNA a h;exact hNB a h) heN h1;rw[hlA,<-hsp]at this;intro y z hy;exact this (y,z) hy
theorem QK{L:List Ext}(h:Nr L){e:Ext}(he:1<=e.2)(hh:hasB L e=true){N:Nat}(hN:∀x∈L,x.1+x.2<=N):Nr (fN L e)/\(∀s,mem (fN L e) s↔mem L s/\¬jc e s)/\(fN L e).length<=L.length+1/\∀x∈fN L e,x.1+x.2<=N:=by
 obtain⟨h1,h2⟩:=qO h e.1;have hsp:L=L.take (iM L e.1)++L.drop (iM L e.1):=(List.take_append_drop _ _).symm;unfold hasB at hh;unfold fN;generalize iM L e.1=i at*;have hg:L[i]?=(L.drop i)[0]?:=by simp
 have hgD:L.getD i (0,0)=(L.drop i).getD 0 (0,0):=by simp
 have hd:L.drop (i+1)=(L.drop i).drop 1:=by simp
 rw[hg]at hh;rw[hgD,hd];have hmL:∀s,mem L s↔mem (L.take i) s\/mem (L.drop i) s:=fun s=>by rw[<-mem_append,<-hsp]
 have Ja:L.length=(L.take i).length+(L.drop i).length:=by rw[<-dU,<-hsp]
 have hNA:∀x∈L.take i,x.1+x.2<=N:=fun x hx=>hN x (jH hx);have hNB:∀x∈L.drop i,x.1+x.2<=N:=fun x hx=>hN x (List.mem_of_mem_drop hx);have hn:Nr (L.take i++L.drop i):=by rw[<-hsp];exact h
 generalize L.take i=A at*;generalize L.drop i=B at*;cases B with
 |nil=>simp at hh
 |cons x B=>
  simp at hh;obtain⟨nA,nB,gAB⟩:=gG.1 hn;obtain⟨px,nB',gx⟩:=kS.1 nB;have hxt:=h2 x (by simp);simp only[List.getD_cons_zero,List.drop_succ_cons,List.drop_zero];have nc2:Nr (nO x e++B)/\(∀s,mem (nO x e++B) s↔(jc x s/\e.1+e.2<=s)\/mem B s)/\(nO x e).length<=1/\(∀y∈nO x e,y.1=e.1+e.2/\y.1+y.2=x.1+x.2):=by
   unfold nO;split
   ·refine⟨kS.2 ⟨by simp only;omega,nB',fun b hb=>by have:=gx b hb;simp only;omega⟩,fun s=>?_,by simp,by simp;omega⟩;show mem (_::B) s↔_;rw[mem_cons];have:jc (e.1+e.2,x.1+x.2-e.1-e.2) s↔jc x s/\e.1+e.2<=s:=by unfold jc;simp only;omega
    rw[this]
   ·refine⟨nB',fun s=>?_,by simp,by simp⟩;show mem B s↔_;constructor
    ·exact .inr
    ·rintro(⟨h,h'⟩|h)
     ·unfold jc at h;omega
     ·exact h
  obtain⟨n2,m2,l2,t2⟩:=nc2;have nc1:Nr (jL x e++(nO x e++B))/\(∀s,mem (jL x e++(nO x e++B)) s↔(jc x s/\¬jc e s)\/mem B s)/\(jL x e).length<=1/\(∀y∈jL x e,y.1=x.1/\y.1+y.2=e.1):=by
   unfold jL;split
   ·refine⟨kS.2 ⟨by simp only;omega,n2,fun b hb=>?_⟩,fun s=>?_,by simp,by simp;omega⟩
    ·have hb:b∈nO x e++B:=hb;rcases iR.1 hb with hb|hb
     ·have:=(t2 b hb).1;simp only;omega
     ·have:=gx b hb;simp only;omega
    ·show mem (_::(nO x e++B)) s↔_;rw[mem_cons,m2];have:jc (x.1,e.1-x.1) s↔jc x s/\s<e.1:=by unfold jc;simp only;omega
     rw[this];constructor
     ·rintro(⟨a,b⟩|⟨a,b⟩|h)
      ·exact .inl ⟨a,by unfold jc;omega⟩
      ·exact .inl ⟨a,by unfold jc;omega⟩
      ·exact .inr h
     ·rintro(⟨a,b⟩|h)
      ·unfold jc at b;by_cases c:s<e.1
       ·exact .inl ⟨a,c⟩
       ·exact .inr (.inl ⟨a,by omega⟩)
      ·exact .inr (.inr h)
   ·refine⟨n2,fun s=>?_,by simp,by simp⟩;show mem (nO x e++B) s↔_;rw[m2];constructor
    ·rintro(⟨a,b⟩|h)
     ·exact .inl ⟨a,by unfold jc;omega⟩
     ·exact .inr h
    ·rintro(⟨a,b⟩|h)
     ·exact .inl ⟨a,by unfold jc at a b;omega⟩
     ·exact .inr h
  obtain⟨n1,m1,l1,t1⟩:=nc1;refine⟨gG.2 ⟨nA,n1,?_⟩,fun s=>?_,by simp at Ja⊢;omega,?_⟩
  ·intro a ha b hb;have g:=gAB a ha x (by simp);rcases iR.1 hb with hb|hb
   ·have:=(t1 b hb).1;omega
   ·rcases iR.1 hb with hb|hb
    ·have:=(t2 b hb).1;omega
    ·exact gAB a ha b (by simp[hb])
  ·rw[mem_append,m1,hmL,mem_cons];constructor
   ·rintro(⟨a,ha,hs⟩|⟨a,b⟩|⟨b,hb,hs⟩)
    ·exact⟨.inl ⟨a,ha,hs⟩,by have:=h1 a ha;unfold jc at hs⊢;omega⟩
    ·exact⟨.inr (.inl a),b⟩
    ·exact⟨.inr (.inr ⟨b,hb,hs⟩),by have:=gx b hb;unfold jc at hs⊢;omega⟩
   ·rintro⟨h|h|h,k⟩
    ·exact .inl h
    ·exact .inr (.inl ⟨h,k⟩)
    ·exact .inr (.inr h)
  ·intro y hy;have hNx:=hNB x (by simp);rcases iR.1 hy with hy|hy
   ·exact hNA y hy
   ·rcases iR.1 hy with hy|hy
    ·have:=(t1 y hy).2;omega
    ·rcases iR.1 hy with hy|hy
     ·have:=(t2 y hy).2;omega
     ·exact hNB y (by simp[hy])
end Go.Av
namespace Go.Av
open Go.Proofs Go.Proofs.Tryz
abbrev Ga(e:Int×Int):PC:= .agg false [.int e.1,.int e.2]
def Kv(n:Nat)(e:Int×Int):Bool:=decide (0<=e.1)&&decide (1<=e.2)&&decide (e.1<n)&&decide (e.2<=n-e.1)
def toE(e:Int×Int):Ext:=(e.1.toNat,e.2.toNat)
def jj(n:Nat)(S:List Ext):List (Int×Int)->Bool
 |[]=>true
 |e::es=>Kv n e&&(!uO S (toE e)&&jj n (gy S (toE e)) es)
theorem HP(n:Nat)(hn:n<=65536)(a b c:PC)(es:List (Int×Int))(hl:es.length<=900):aq prog 244 [.ref (.agg false [.int n,a,b,c]),.sl (es.map Ga)] (.bool (jj n [] es)):=by
 refine ai (ys:=[_]) [] [(5,[(1,.r 1),(5,.r 1),(10,.r 1),(19,.r 1),(25,.r 1),(30,.r 2),(31,.r 1),(32,.w [1,2])])] [(1,2),(2,0)] func244 rfl ?_;simp;refine aL (fun x:Nat×List Ext=>x.1<=es.length/\x.2.length<=x.1/\Nr x.2/\(∀e∈x.2,e.1+e.2<=n)/\jj n [] es=jj n x.2 (es.drop x.1)) (fun x=>[(0,.p (.ref (.agg false [.int n,a,b,c]))),(5,.obj 0 0),(8,.p (.sl (es.map Ga))),(9,.p (.int es.length)),(10,.p (.int x.1))]) (fun x=>⟨[(0,⟨272,1,[.view 1 0 x.2.length 2 none]⟩),(1,cg x.2)],[],2⟩) (fun x=>es.length-x.1) (0,[]) ⟨by simp,by simp,LV,by simp,by simp⟩ _ (zj 0 0 157 2 ⟨272,1,[.p .nil]⟩ (by simp) (by simp)) (ak (by simp[Tb.aP,Tb.aS,del])) ?_;rintro⟨k,S⟩ ⟨h1,h2,h3,h4,h5⟩;simp only at h1 h2 h3 h4 h5;by_cases c0:k<es.length
 ·obtain⟨e,NJ⟩:∃e,es[k]=e:=⟨_,rfl⟩;obtain⟨u,v⟩:=e;have h6:=h5;rw[List.drop_eq_getElem_cons c0,NJ]at h6;simp only[jj]at h6;by_cases c1:u<0
  ·have:Kv n (u,v)=false:=by simp[Kv];omega
   rw[this]at h6;simp[c0,NJ,c1,h6,results244]
  by_cases c2:v<1
  ·have:Kv n (u,v)=false:=by simp[Kv];omega
   rw[this]at h6;simp[c0,NJ,c1,c2,h6,results244]
  by_cases c3:(n:Int)<=u
  ·have:Kv n (u,v)=false:=by simp[Kv];omega
   rw[this]at h6;simp[c0,NJ,c1,c2,c3,h6,results244]
  have w1:IntKind.i64.wrap ((n:Int)-u)=(n:Int)-u:=aD;by_cases c4:(n:Int)-u<v
  ·have:Kv n (u,v)=false:=by simp[Kv];omega
   rw[this]at h6;simp[c0,NJ,c1,c2,c3,w1,c4,h6,results244]
  have hok:Kv n (u,v)=true:=by simp[Kv];omega
  rw[hok]at h6;obtain⟨p,rfl⟩:∃p:Nat,u=p:=⟨u.toNat,by omega⟩;obtain⟨q,rfl⟩:∃q:Nat,v=q:=⟨v.toNat,by omega⟩;have hte:toE ((p:Int),(q:Int))=(p,q):=by simp[toE]
  rw[hte]at h6;have hm:=CO S (p,q) h3.up (by omega) (fun e he=>by have:=h4 e he;omega) (by simp only;omega);have j_:¬n<=p:=by omega
  simp[c0,NJ,c1,c2,c3,j_,w1,c4];refine bD hm ⟨jM (by simp) rfl,by simp[cQ,gY],trivial⟩ rfl ?_;cases Ux:uO S (p,q)with
  |true=>
   rw[Ux]at h6;simp[h6,results244]
  |false=>
   rw[Ux]at h6;obtain⟨g1,g2,g3,g4⟩:=BL h3 (e:=(p,q)) (by simp only;omega) Ux h4 (by simp only;omega);simp;refine mC (HR 3 0 1 (by omega) (by omega) (by omega) 272 1 0 [.view 1 0 S.length 2 none] S (p,q) (by simp) (by simp) h3.up (by omega) (fun e he=>by have:=h4 e he;omega) (by simp only;omega)) rfl ?_;generalize gy S (p,q)=S' at*;simp;refine⟨k+1,S',⟨by omega,by omega,g1,fun u v he=>g4 (u,v) he,by rw[h6];simp⟩,by omega,aB [(1,3)] ?_⟩;simp[aD (n:=(k:Int)+1)]
 ·have e:k=es.length:=by omega
  subst e;simp[jj]at h5;simp[h5,results244]
abbrev yF(n:Nat)(F R W:List Ext):PC:= .agg false [.int n,kn F,kn R,kn W]
theorem adp(n:Nat)(F R W:List Ext)(e:Ext)(hF:z_ F)(he:e.1+e.2<=65536):aq prog 263 [kF e,.ref (.ref (yF n F R W))] (.bool (!hasB F e)):=by
 refine ai (ys:=[_]) [] [] [] func263 rfl ?_;simp;refine bJ (ad7 F e hF.up (by have:=hF.len;omega) (fun e he=>by have:=hF.top e he;omega) (by omega)) ?_;simp[results263]
theorem RG(n:Nat)(F R W:List Ext)(e:Ext)(hF:z_ F)(hW:z_ W)(he:e.1+e.2<=65536):aq prog 245 [kF e,.ref (.ref (yF n F R W))] (.bool (uO F e||uO W e)):=by
 refine ai (ys:=[_]) [] [] [] func245 rfl ?_;simp;refine bJ (CO F e hF.up (by have:=hF.len;omega) (fun e he=>by have:=hF.top e he;omega) (by omega)) ?_;cases uO F e with
 |true=>simp[results245]
 |false=>
  simp;refine bJ (CO W e hW.up (by have:=hW.len;omega) (fun e he=>by have:=hW.top e he;omega) (by omega)) ?_;simp[results245]
theorem HQ{bx:List (Nat×Ob)}{k m f r w n:Nat}{F R W:List Ext}(hm:lk m bx=some (iQ n f r w F R W))(hf:lk f bx=some (cg F))(hr:lk r bx=some (cg R))(hw:lk w bx=some (cg W)):cQ bx (k+2) (.obj m 0) (.ref (yF n F R W)):=by
 refine⟨_,hm,by simp[en],?_⟩;exact⟨⟨_,rfl,.inl rfl⟩,jM hf rfl,jM hr rfl,jM hw rfl,trivial⟩
structure Ok(n:Nat)(L:List Ext):Prop where
 nr:Nr L
 top:∀e∈L,e.1+e.2<=n
theorem Ok.len{n:Nat}{L:List Ext}(h:Ok n L):2*L.length<=n+1:=by
 have key:∀(L:List Ext) (t:Nat),Nr L->(∀e∈L,t<=e.1/\e.1+e.2<=n)->t+2*L.length<=n+1\/L=[]:=by
  intro L
  induction L with
  |nil=>intro t _ _;exact .inr rfl
  |cons e L ih=>
   intro t hn ht;obtain⟨h1,h2,h3⟩:=kS.1 hn;have h4:=ht e (by simp);rcases ih (e.1+e.2+1) h2 (fun x hx=>⟨by have:=h3 x hx;omega,(ht x (by simp[hx])).2⟩)with h|rfl
   ·left;simp;omega
   ·left;simp;omega
 rcases key L 0 h.nr (fun e he=>⟨Nat.zero_le _,h.top e he⟩)with h|rfl
 ·omega
 ·simp
theorem Ok.Lx{n:Nat}{L:List Ext}(h:Ok n L)(hn:n<=65536):z_ L:=⟨h.nr.pos,h.nr.gap,fun e he=>by have:=h.top e he;omega,by have:=h.len;omega⟩
theorem Ok.cut{n:Nat}{L:List Ext}(h:Ok n L){e:Ext}(he:1<=e.2)(hh:hasB L e=true):Ok n (fN L e)/\∀s,mem (fN L e) s↔mem L s/\¬jc e s:=by
 obtain⟨h1,h2,_,h4⟩:=QK h.nr he hh h.top;exact⟨⟨h1,h4⟩,h2⟩
theorem Ok.put{n:Nat}{L:List Ext}(h:Ok n L){e:Ext}(he:1<=e.2)(hm:uO L e=false)(hn:e.1+e.2<=n):Ok n (gy L e)/\∀s,mem (gy L e) s↔mem L s\/jc e s:=by
 obtain⟨h1,h2,_,h4⟩:=BL h.nr he hm h.top hn;exact⟨⟨h1,h4⟩,h2⟩
theorem qp{n:Nat}:Ok n []:=⟨LV,by simp⟩
def Dj(es:List Ext):Prop:=es.Pairwise fun a b=>∀s,jc a s->¬jc b s
theorem oq{n:Nat}:∀(es:List (Int×Int)) (S:List Ext),Ok n S->jj n S es=true->es.map Ga=(es.map toE).map kF/\(∀e∈es.map toE,1<=e.2/\e.1+e.2<=n/\∀s,jc e s->¬mem S s)/\Dj (es.map toE)
 |[],_,_,_=>⟨rfl,by simp,.nil⟩
 |e::es,S,hS,h=>by
  simp only[jj,Bool.and_eq_true,Bool.not_eq_true']at h;obtain⟨h1,h2,h3⟩:=h;obtain⟨u,v⟩:=e;simp[Kv]at h1;have e1:1<=(toE (u,v)).2:=by simp only[toE];omega
  have e2:(toE (u,v)).1+(toE (u,v)).2<=n:=by simp only[toE];omega
  obtain⟨h4,h5⟩:=hS.put e1 h2 e2;obtain⟨i1,i2,i3⟩:=oq es _ h4 h3;refine⟨?_,?_,?_⟩
  ·rw[List.map_cons,List.map_cons,List.map_cons,i1];have:Ga (u,v)=kF (toE (u,v)):=by simp only[Ga,kF,toE];rw[Int.toNat_of_nonneg (by omega),Int.toNat_of_nonneg (by omega)]
   rw[this]
  ·intro x hx;rcases List.mem_cons.1 hx with rfl|hx
   ·refine⟨e1,e2,fun s hs hm=>?_⟩;have:=(sk hS.nr _ e1).2 ⟨s,hs,hm⟩;rw[h2]at this;cases this
   ·obtain⟨j1,j2,j3⟩:=i2 x hx;exact⟨j1,j2,fun s hs hm=>j3 s hs ((h5 s).2 (.inl hm))⟩
  ·refine List.pairwise_cons.2 ⟨fun x hx s hs vT=>?_,i3⟩;exact(i2 x hx).2.2 s vT ((h5 s).2 (.inr hs))
end Go.Av
