/- TiersAgain, part 15: what functions compute, and its plain law; no condition. -/
import Derived.Test.YtgkdpbambfgahaaGreatDoorWan
set_option linter.all false
set_option maxRecDepth 100000
set_option maxHeartbeats 64000000
namespace Go.Av
open Go.Proofs Go.Proofs.Tryz
def dH(L:List Ext):List PC:=L.flatMap λe=>[PC.int e.1,PC.int e.2]
abbrev cI(L:List Ext):Ob:=⟨157,2,(dH L).map .p⟩
@[simp]def ag':dH []=[]:=rfl
def eW(e:Ext)(L:List Ext):dH (e::L)=PC.int e.1::PC.int e.2::dH L:=rfl
def uF(L M:List Ext):dH (L++M)=dH L++dH M:=by simp[dH]
@[simp]def aha(L:List Ext):(dH L).length=L.length*2:=by
 induction L with
 |nil=>rfl
 |cons a L ih=>simp[ih,eW];omega
def Ai(L:List Ext):∀i,(dH L).take (i*2)=dH (L.take i):=by
 induction L with
 |nil=>intro i;simp
 |cons a L ih=>
  intro i;cases i with
  |zero=>simp
  |succ i=>rw[show(i+1)*2=i*2+1+1 by omega];simp[ih,eW]
def oW(L:List Ext):∀i,(dH L).drop (i*2)=dH (L.drop i):=by
 induction L with
 |nil=>intro i;simp
 |cons a L ih=>
  intro i;cases i with
  |zero=>simp
  |succ i=>rw[show(i+1)*2=i*2+1+1 by omega];simp[ih,eW]
def D8{L:List Ext}{i:Nat}(h:i<L.length):(dH L)[i*2]?=some (.int L[i].1)/\(dH L)[i*2+1]?=some (.int L[i].2):=by
 induction L generalizing i with
 |nil=>simp at h
 |cons a L ih=>
  cases i with
  |zero=>simp[eW]
  |succ i=>rw[show(i+1)*2=i*2+1+1 by omega];simpa[eW]using ih (U h)
def Mi(L:List Ext):(L.map lz).flatMap fM=dH L:=by
 induction L with
 |nil=>rfl
 |cons a L ih=>simp[ih,eW]
def lI{bx:List (Nat×Ob)}{k id n:Nat}{c:Option Nat}{L:List Ext}(h:lk id bx=some (cI L))(hn:n=L.length):dA bx (k+1) (.view id 0 n 2 c) (mj L):=by
 subst hn;refine⟨_,h,O,H,H,?_,?_,?_⟩
 .rw[vT,Mi];simp;exact gv H
 .intro y hy;obtain⟨e,_,rfl⟩:=bE.1 hy;rfl
 .intro y hy;obtain⟨e,_,rfl⟩:=bE.1 hy;rfl
def vJ{L:List Ext}{k n:Nat}(h:k<L.length):(dH L).take (k*2+1)++PC.int n::(dH L).drop (k*2+1+1)=dH (L.take k++(L[k].1,n)::L.drop (k+1)):=by
 induction L generalizing k with
 |nil=>simp at h
 |cons a L ih=>
  cases k with
  |zero=>simp[eW]
  |succ k=>
   have:=ih (k:=k) (U h);rw[show(k+1)*2+1=k*2+1+1+1 by omega];simp[eW,this]
def rK(nx id:Nat)(hid:id<nx)(L:List Ext)(i:Nat)(hi:i<L.length)(hb:L.length<=1000000):bN 268 [.view id 0 L.length 2 none,.p (.int i),.p (.int ((i:Int)+1))] ⟨[(id,cI L)],[],nx⟩ (.view nx 0 (L.length-1) 2 none) ⟨[(nx,cI (L.take i++L.drop (i+1)))],[],nx+1⟩:=by
 have:=UN nx id hid (dH L) L.length i (i+1) H O O O;rw[Ai,oW,<-uF,show L.length-(i+1-i)=L.length-1 by omega]at this;exact this
def m6(nx id:Nat)(hid:id<nx)(L:List Ext)(i:Nat)(e:Ext)(hi:i<=L.length)(hb:L.length<=1000000):bN 269 [.view id 0 L.length 2 none,.p (.int i),.p (.sl [lz e])] ⟨[(id,cI L)],[],nx⟩ (.view nx 0 (L.length+1) 2 none) ⟨[(nx,cI (L.take i++e::L.drop i))],[],nx+1⟩:=by
 have:=UO nx id hid (dH L) L.length i e H hi O;rw[Ai,oW,cW]at this;rw[show cI (L.take i++e::L.drop i)=⟨157,2,(dH (L.take i)++([PC.int e.1,PC.int e.2]++dH (L.drop i))).map .p⟩ by simp[cI,uF,eW]];exact this
def vS(L:List Ext)(e:Ext):Bool:=match L[kO L e.1]? with
 |some x=>decide (e.1+e.2=x.1)
 |none=>false
def qx(L:List Ext)(e:Ext):List Ext:=if vS L e=true then L.take (kO L e.1)++L.drop (kO L e.1+1)else L
def Fa(L:List Ext)(e:Ext):Ext:=if vS L e=true then(e.1,e.2+(L.getD (kO L e.1) (0,0)).2)else e
def lH(M:List Ext)(i:Nat)(e:Ext):List Ext:=match i with
 |0=>e::M
 |k+1=>if(M.getD k (0,0)).1+(M.getD k (0,0)).2=e.1 then M.take k++((M.getD k (0,0)).1,(M.getD k (0,0)).2+e.2)::M.drop (k+1)else M.take (k+1)++e::M.drop (k+1)
def gu(L:List Ext)(e:Ext):List Ext:=lH (qx L e) (kO L e.1) (Fa L e)
def MX(nx id fX:Nat)(hid:id<nx)(apD:fX<nx)(hne:id≠fX)(el sz off:Nat)(xs:List AV)(L:List Ext)(e:Ext)(hx:xs[off]?=some (.view fX 0 L.length 2 none))(hxl:AV.ja.iA nx xs=true)(hL:Up L)(hl:L.length<=65536)(hb:∀e∈L,e.1+e.2<=100000)(he:e.1+e.2<=100000):bN 176 [.obj id off,.p (lz e)] ⟨[(id,⟨el,sz,xs⟩),(fX,cI L)],[],nx⟩ (.agg true []) ⟨[(id,⟨el,sz,xs.take off++ .view nx 0 (gu L e).length 2 none::xs.drop (off+1)⟩),(nx,cI (gu L e))],[],nx+1⟩:=by
 have w1:IntKind.i64.wrap ((e.1:Int)+(e.2:Int))=(e.1:Int)+(e.2:Int):=aG;have FF:¬id=nx/\¬fX=nx/\¬nx=id/\¬nx=fX/\¬fX=id/\¬id=nx+1/\¬nx+1=id/\¬fX=nx+1/\¬nx+1=fX/\¬id=nx+1+1/\¬nx+1+1=id/\id<nx+1:=by and_intros<;>omega
 obtain⟨n1,n2,n3,n4,n5,n6,n7,n8,n9,n10,n11,apE⟩:=FF.symm.symm;have hoff:off<xs.length:=by
  rcases iD off xs.length with h|h
  .exact h
  .rw[sN h]at hx;cases hx
 have ha:=A6 L e.1 hL O (λe he=>by have:=hb e he;omega) O;have ark:=Sk L e.1;have hr:∀k,AV.cp.eu (Cf [(nx,k)]) xs=xs:=λk=>oH (nx:=nx) H xs hxl;have Oo:∀k,nx<=k->AV.ja.iA k xs=true:=λk hk=>nZ hk xs hxl;have JA:∀bx,lk fX bx=some (cI L)->dA bx 4 (.view fX 0 L.length 2 none) (mj L):=λbx h=>lI h rfl;have eM:∀(M:List Ext) (k:Nat) (h:k<M.length),(dH M)[k*2]?=some (.int M[k].1)/\(dH M)[k*2+1]?=some (.int M[k].2)/\(∀h',(dH M)[k*2]'h'= .int M[k].1)/\(∀h',(dH M)[k*2+1]'h'= .int M[k].2):=by
  intro M k h;have h1:=D8 h;exact⟨h1.1,h1.2,λh'=>by have:=h1.1;rw[n_ h']at this;injection this,λh'=>by have:=h1.2;rw[n_ h']at this;injection this⟩
 have hN:gu L e=lH (qx L e) (kO L e.1) (Fa L e):=rfl;generalize gu L e=N at*;generalize hi:kO L e.1=i at*;by_cases c:i<L.length
 .have g:=eM L i c;by_cases jr:e.1+e.2=L[i].1
  .have hj:vS L e=true:=by unfold vS;rw[hi];simp[c,jr]
   have R_:qx L e=L.take i++L.drop (i+1):=by unfold qx;rw[ai hj,hi]
   have hE:Fa L e=(e.1,e.2+L[i].2):=by unfold Fa;rw[ai hj,hi];simp[c]
   rw[hE]at hN;generalize qx L e=M at*;have ahb:=R_.symm;have hMl:M.length=L.length-1:=by rw[R_];simp;omega
   have e1:((e.1:Int)+(e.2:Int)==(L[i].1:Int))=true:=by simp;omega
   have w3:IntKind.i64.wrap ((e.2:Int)+(L[i].2:Int))=(e.2:Int)+(L[i].2:Int):=by have:=hb L[i] H;exact aG
   have w0:IntKind.i64.wrap ((i:Int)+1)=(i:Int)+1:=aG;by_cases z:i=0
   .have z0:¬0<i:=O;have hNe:M.take i++(e.1,e.2+L[i].2)::M.drop i=N:=by rw[hN];generalize(e.1,e.2+L[i].2)=E;rw[z];simp[lH]
    have Ar:N.length=M.length+1:=by rw[<-hNe];simp;omega
    refine aq [] [3] [(3,[(6,.r 1),(8,.r 1),(14,.r 2)]),(4,[(1,.r 1),(6,.r 2),(9,.s 1 [2])]),(6,[(8,.r 3),(14,.r 3),(17,.r 1)]),(7,[(5,.r 3),(7,.r 1),(11,.s 3 [1])])] [(1,nx),(2,fX),(3,nx+1)] func176 rfl ?_;simp[hx,hne,FF];refine bZ ha ⟨JA _ (by simp[FF]),by simp[dA],trivial⟩ rfl ?_;simp[hx,hne,FF,w1,c,e1,g.1,g.2.1,g.2.2.1,g.2.2.2,w0,w3];refine aN (rK (nx+1) fX O L i c O) H (by simp[aA,FF]) trivial rfl ?_;rw[ahb,<-hMl];simp[hx,hne,FF,w1,z0];refine aN (m6 (nx+1+1) (nx+1) O M i (e.1,e.2+L[i].2) O O) H (by simp[aA,FF]) trivial rfl ?_;rw[hNe];simp[hx,hne,FF,hoff,results176];refine⟨O,[(nx,nx+1+1)],?_⟩;simp[hx,hne,FF,hr,Oo,Ar]
   .obtain⟨k,hk⟩:∃k,i=k+1:=⟨i-1,O⟩;have z1:0<i:=O;have Dp:k<M.length:=O;have gk:=eM M k Dp;have hsub:∀x∈M,x∈L:=by rw[R_];intro x hx;rcases lD.1 hx with h|h;exact oa h;exact fq h
    have bk:=hb _ (hsub _ (bB Dp));have bi:=hb L[i] H;have w4:IntKind.i64.wrap ((i:Int)-1)=(k:Int):=by rw[aG];omega
    have w5:IntKind.i64.wrap ((M[k].1:Int)+(M[k].2:Int))=(M[k].1:Int)+(M[k].2:Int):=aG;by_cases jl:M[k].1+M[k].2=e.1
    .have e2:((M[k].1:Int)+(M[k].2:Int)==(e.1:Int))=true:=by simp;omega
     have w6:IntKind.i64.wrap ((M[k].2:Int)+((e.2:Int)+(L[i].2:Int)))=((M[k].2+(e.2+L[i].2):Nat):Int):=by rw[aG];simp
     have hNe:M.take k++(M[k].1,M[k].2+(e.2+L[i].2))::M.drop (k+1)=N:=by rw[hN];simp only[hk,lH];simp[Dp,jl]
     have Ar:N.length=M.length:=by rw[<-hNe];simp;omega
     have iG:=dg (List.map AV.p) (vJ (n:=M[k].2+(e.2+L[i].2)) Dp);rw[hNe]at iG;simp at iG;refine aq [] [3] [(3,[(6,.r 1),(8,.r 1),(14,.r 2)]),(4,[(1,.r 1),(6,.r 2),(9,.s 1 [2])]),(6,[(8,.r 3),(14,.r 3),(17,.r 1)]),(7,[(5,.r 3),(7,.r 1),(11,.s 3 [1])])] [(1,nx),(2,fX),(3,nx+1)] func176 rfl ?_;simp[hx,hne,FF];refine bZ ha ⟨JA _ (by simp[FF]),by simp[dA],trivial⟩ rfl ?_;simp[hx,hne,FF,w1,c,e1,g.1,g.2.1,g.2.2.1,g.2.2.2,w0,w3];refine aN (rK (nx+1) fX O L i c O) H (by simp[aA,FF]) trivial rfl ?_;rw[ahb,<-hMl];simp[hx,hne,FF,w1,gk.1,gk.2.1,gk.2.2.1,gk.2.2.2,w4,w5,w6,e2,z1,Dp];refine⟨O,O,[(nx,nx+1)],?_⟩;simp[hx,hne,FF,hr,Oo,Ar,iG]
    .have e2:((M[k].1:Int)+(M[k].2:Int)==(e.1:Int))=false:=by simp;omega
     have hNe:M.take i++(e.1,e.2+L[i].2)::M.drop i=N:=by rw[hN];simp only[hk,lH];simp[Dp,jl]
     have Ar:N.length=M.length+1:=by rw[<-hNe];simp;omega
     refine aq [] [3] [(3,[(6,.r 1),(8,.r 1),(14,.r 2)]),(4,[(1,.r 1),(6,.r 2),(9,.s 1 [2])]),(6,[(8,.r 3),(14,.r 3),(17,.r 1)]),(7,[(5,.r 3),(7,.r 1),(11,.s 3 [1])])] [(1,nx),(2,fX),(3,nx+1)] func176 rfl ?_;simp[hx,hne,FF];refine bZ ha ⟨JA _ (by simp[FF]),by simp[dA],trivial⟩ rfl ?_;simp[hx,hne,FF,w1,c,e1,g.1,g.2.1,g.2.2.1,g.2.2.2,w0,w3];refine aN (rK (nx+1) fX O L i c O) H (by simp[aA,FF]) trivial rfl ?_;rw[ahb,<-hMl];simp[hx,hne,FF,w1,gk.1,gk.2.1,gk.2.2.1,gk.2.2.2,w4,w5,e2,z1,Dp];refine aN (m6 (nx+1+1) (nx+1) O M i (e.1,e.2+L[i].2) O O) H (by simp[aA,FF]) trivial rfl ?_;rw[hNe];simp[hx,hne,FF,hoff,results176];refine⟨O,[(nx,nx+1+1)],?_⟩;simp[hx,hne,FF,hr,Oo,Ar]
  .have hj:vS L e=false:=by unfold vS;rw[hi];simp[c,jr]
   have hE:Fa L e=e/\qx L e=L:=by unfold Fa qx;rw[hj];simp
   rw[hE.1,hE.2]at hN;have e1:((e.1:Int)+(e.2:Int)==(L[i].1:Int))=false:=by simp;omega
   by_cases z:i=0
   .have z0:¬0<i:=O;have hNe:L.take i++e::L.drop i=N:=by rw[hN];generalize e=E;rw[z];simp[lH]
    have Ar:N.length=L.length+1:=by rw[<-hNe];simp;omega
    refine aq [] [3] [(3,[(6,.r 1),(8,.r 1),(14,.r 2)]),(4,[(1,.r 1),(6,.r 2),(9,.s 1 [2])]),(6,[(8,.r 3),(14,.r 3),(17,.r 1)]),(7,[(5,.r 3),(7,.r 1),(11,.s 3 [1])])] [(1,nx),(2,fX),(3,fX)] func176 rfl ?_;simp[hx,hne,FF];refine bZ ha ⟨JA _ (by simp[FF]),by simp[dA],trivial⟩ rfl ?_;simp[hx,hne,FF,w1,c,e1,g.1,g.2.1,g.2.2.1,g.2.2.2,z0];refine aN (m6 (nx+1) fX O L i e O O) H (by simp[aA,FF]) trivial rfl ?_;rw[hNe];simp[hx,hne,FF,hoff,results176];refine⟨O,[(nx,nx+1)],?_⟩;simp[hx,hne,FF,hr,Oo,Ar]
   .obtain⟨k,hk⟩:∃k,i=k+1:=⟨i-1,O⟩;have z1:0<i:=O;have Dp:k<L.length:=O;have gk:=eM L k Dp;have hsub:∀x∈L,x∈L:=by exact λx h=>h
    have bk:=hb _ (hsub _ (bB Dp));have w4:IntKind.i64.wrap ((i:Int)-1)=(k:Int):=by rw[aG];omega
    have w5:IntKind.i64.wrap ((L[k].1:Int)+(L[k].2:Int))=(L[k].1:Int)+(L[k].2:Int):=aG;by_cases jl:L[k].1+L[k].2=e.1
    .have e2:((L[k].1:Int)+(L[k].2:Int)==(e.1:Int))=true:=by simp;omega
     have w6:IntKind.i64.wrap ((L[k].2:Int)+(e.2:Int))=((L[k].2+e.2:Nat):Int):=by rw[aG];simp
     have hNe:L.take k++(L[k].1,L[k].2+e.2)::L.drop (k+1)=N:=by rw[hN];simp only[hk,lH];simp[Dp,jl]
     have Ar:N.length=L.length:=by rw[<-hNe];simp;omega
     have iG:=dg (List.map AV.p) (vJ (n:=L[k].2+e.2) Dp);rw[hNe]at iG;simp at iG;refine aq [] [3] [(3,[(6,.r 1),(8,.r 1),(14,.r 2)]),(4,[(1,.r 1),(6,.r 2),(9,.s 1 [2])]),(6,[(8,.r 3),(14,.r 3),(17,.r 1)]),(7,[(5,.r 3),(7,.r 1),(11,.s 3 [1])])] [(1,nx),(2,fX),(3,fX)] func176 rfl ?_;simp[hx,hne,FF];refine bZ ha ⟨JA _ (by simp[FF]),by simp[dA],trivial⟩ rfl ?_;simp[hx,hne,FF,w1,c,e1,g.1,g.2.1,g.2.2.1,g.2.2.2,gk.1,gk.2.1,gk.2.2.1,gk.2.2.2,w4,w5,w6,e2,z1,Dp];refine⟨O,O,[(nx,fX)],?_⟩;simp[hx,hne,FF,hr,Oo,Ar,iG]
    .have e2:((L[k].1:Int)+(L[k].2:Int)==(e.1:Int))=false:=by simp;omega
     have hNe:L.take i++e::L.drop i=N:=by rw[hN];simp only[hk,lH];simp[Dp,jl]
     have Ar:N.length=L.length+1:=by rw[<-hNe];simp;omega
     refine aq [] [3] [(3,[(6,.r 1),(8,.r 1),(14,.r 2)]),(4,[(1,.r 1),(6,.r 2),(9,.s 1 [2])]),(6,[(8,.r 3),(14,.r 3),(17,.r 1)]),(7,[(5,.r 3),(7,.r 1),(11,.s 3 [1])])] [(1,nx),(2,fX),(3,fX)] func176 rfl ?_;simp[hx,hne,FF];refine bZ ha ⟨JA _ (by simp[FF]),by simp[dA],trivial⟩ rfl ?_;simp[hx,hne,FF,w1,c,e1,g.1,g.2.1,g.2.2.1,g.2.2.2,gk.1,gk.2.1,gk.2.2.1,gk.2.2.2,w4,w5,e2,z1,Dp];refine aN (m6 (nx+1) fX O L i e O O) H (by simp[aA,FF]) trivial rfl ?_;rw[hNe];simp[hx,hne,FF,hoff,results176];refine⟨O,[(nx,nx+1)],?_⟩;simp[hx,hne,FF,hr,Oo,Ar]
 .have hj:vS L e=false:=by unfold vS;rw[hi];simp[c]
  have hE:Fa L e=e/\qx L e=L:=by unfold Fa qx;rw[hj];simp
  rw[hE.1,hE.2]at hN;by_cases z:i=0
  .have z0:¬0<i:=O;have hNe:L.take i++e::L.drop i=N:=by rw[hN];generalize e=E;rw[z];simp[lH]
   have Ar:N.length=L.length+1:=by rw[<-hNe];simp;omega
   refine aq [] [3] [(3,[(6,.r 1),(8,.r 1),(14,.r 2)]),(4,[(1,.r 1),(6,.r 2),(9,.s 1 [2])]),(6,[(8,.r 3),(14,.r 3),(17,.r 1)]),(7,[(5,.r 3),(7,.r 1),(11,.s 3 [1])])] [(1,nx),(2,fX),(3,fX)] func176 rfl ?_;simp[hx,hne,FF];refine bZ ha ⟨JA _ (by simp[FF]),by simp[dA],trivial⟩ rfl ?_;simp[hx,hne,FF,w1,c,z0];refine aN (m6 (nx+1) fX O L i e O O) H (by simp[aA,FF]) trivial rfl ?_;rw[hNe];simp[hx,hne,FF,hoff,results176];refine⟨O,[(nx,nx+1)],?_⟩;simp[hx,hne,FF,hr,Oo,Ar]
  .obtain⟨k,hk⟩:∃k,i=k+1:=⟨i-1,O⟩;have z1:0<i:=O;have Dp:k<L.length:=O;have gk:=eM L k Dp;have hsub:∀x∈L,x∈L:=by exact λx h=>h
   have bk:=hb _ (hsub _ (bB Dp));have w4:IntKind.i64.wrap ((i:Int)-1)=(k:Int):=by rw[aG];omega
   have w5:IntKind.i64.wrap ((L[k].1:Int)+(L[k].2:Int))=(L[k].1:Int)+(L[k].2:Int):=aG;by_cases jl:L[k].1+L[k].2=e.1
   .have e2:((L[k].1:Int)+(L[k].2:Int)==(e.1:Int))=true:=by simp;omega
    have w6:IntKind.i64.wrap ((L[k].2:Int)+(e.2:Int))=((L[k].2+e.2:Nat):Int):=by rw[aG];simp
    have hNe:L.take k++(L[k].1,L[k].2+e.2)::L.drop (k+1)=N:=by rw[hN];simp only[hk,lH];simp[Dp,jl]
    have Ar:N.length=L.length:=by rw[<-hNe];simp;omega
    have iG:=dg (List.map AV.p) (vJ (n:=L[k].2+e.2) Dp);rw[hNe]at iG;simp at iG;refine aq [] [3] [(3,[(6,.r 1),(8,.r 1),(14,.r 2)]),(4,[(1,.r 1),(6,.r 2),(9,.s 1 [2])]),(6,[(8,.r 3),(14,.r 3),(17,.r 1)]),(7,[(5,.r 3),(7,.r 1),(11,.s 3 [1])])] [(1,nx),(2,fX),(3,fX)] func176 rfl ?_;simp[hx,hne,FF];refine bZ ha ⟨JA _ (by simp[FF]),by simp[dA],trivial⟩ rfl ?_;simp[hx,hne,FF,w1,c,gk.1,gk.2.1,gk.2.2.1,gk.2.2.2,w4,w5,w6,e2,z1,Dp];refine⟨O,O,[(nx,fX)],?_⟩;simp[hx,hne,FF,hr,Oo,Ar,iG]
   .have e2:((L[k].1:Int)+(L[k].2:Int)==(e.1:Int))=false:=by simp;omega
    have hNe:L.take i++e::L.drop i=N:=by rw[hN];simp only[hk,lH];simp[Dp,jl]
    have Ar:N.length=L.length+1:=by rw[<-hNe];simp;omega
    refine aq [] [3] [(3,[(6,.r 1),(8,.r 1),(14,.r 2)]),(4,[(1,.r 1),(6,.r 2),(9,.s 1 [2])]),(6,[(8,.r 3),(14,.r 3),(17,.r 1)]),(7,[(5,.r 3),(7,.r 1),(11,.s 3 [1])])] [(1,nx),(2,fX),(3,fX)] func176 rfl ?_;simp[hx,hne,FF];refine bZ ha ⟨JA _ (by simp[FF]),by simp[dA],trivial⟩ rfl ?_;simp[hx,hne,FF,w1,c,gk.1,gk.2.1,gk.2.2.1,gk.2.2.2,w4,w5,e2,z1,Dp];refine aN (m6 (nx+1) fX O L i e O O) H (by simp[aA,FF]) trivial rfl ?_;rw[hNe];simp[hx,hne,FF,hoff,results176];refine⟨O,[(nx,nx+1)],?_⟩;simp[hx,hne,FF,hr,Oo,Ar]
def uh(x e:Ext):List Ext:=if x.1<e.1 then[(x.1,e.1-x.1)]else[]
def qy(x e:Ext):List Ext:=if e.1+e.2<x.1+x.2 then[(e.1+e.2,x.1+x.2-e.1-e.2)]else[]
def jo(L:List Ext)(e:Ext):List Ext:=L.take (kO L e.1)++(uh (L.getD (kO L e.1) (0,0)) e++(qy (L.getD (kO L e.1) (0,0)) e++L.drop (kO L e.1+1)))
def acp(nx id fX:Nat)(hid:id<nx)(apD:fX<nx)(hne:id≠fX)(el sz off:Nat)(xs:List AV)(L:List Ext)(e:Ext)(hx:xs[off]?=some (.view fX 0 L.length 2 none))(hxl:AV.ja.iA nx xs=true)(hL:Up L)(hl:L.length<=65536)(hb:∀e∈L,e.1+e.2<=100000)(hh:hasB L e=true):bN 265 [.obj id off,.p (lz e)] ⟨[(id,⟨el,sz,xs⟩),(fX,cI L)],[],nx⟩ (.agg true []) ⟨[(id,⟨el,sz,xs.take off++ .view nx 0 (jo L e).length 2 none::xs.drop (off+1)⟩),(nx,cI (jo L e))],[],nx+1⟩:=by
 have c:kO L e.1<L.length:=by
  rcases iD (kO L e.1) L.length with h|h
  .exact h
  .unfold hasB at hh;rw[sN h]at hh;cases hh
 have hx1:L[kO L e.1].1<=e.1/\e.1+e.2<=L[kO L e.1].1+L[kO L e.1].2:=by
  unfold hasB at hh;simp[c]at hh;exact hh
 have Kg:=hb L[kO L e.1] H;have he:e.1+e.2<=100000:=O;have FF:¬id=nx/\¬fX=nx/\¬nx=id/\¬nx=fX/\¬fX=id/\¬id=nx+1/\¬nx+1=id/\¬fX=nx+1/\¬nx+1=fX/\¬id=nx+1+1/\¬nx+1+1=id/\¬id=nx+1+1+1/\¬nx+1+1+1=id/\id<nx+1:=by and_intros<;>omega
 obtain⟨n1,n2,n3,n4,n5,n6,n7,n8,n9,n10,n11,n12,n13,apE⟩:=FF.symm.symm;have hoff:off<xs.length:=by
  rcases iD off xs.length with h|h
  .exact h
  .rw[sN h]at hx;cases hx
 have ha:=A6 L e.1 hL O (λe he=>by have:=hb e he;omega) O;have hr:∀k,AV.cp.eu (Cf [(nx,k)]) xs=xs:=λk=>oH (nx:=nx) H xs hxl;have Oo:∀k,nx<=k->AV.ja.iA k xs=true:=λk hk=>nZ hk xs hxl;have JA:∀bx,lk fX bx=some (cI L)->dA bx 4 (.view fX 0 L.length 2 none) (mj L):=λbx h=>lI h rfl;have hN:jo L e=L.take (kO L e.1)++(uh L[kO L e.1] e++(qy L[kO L e.1] e++L.drop (kO L e.1+1))):=by unfold jo;simp[c]
 generalize jo L e=N at*;generalize hi:kO L e.1=i at*;have Cp:(((dH L).map AV.p).drop (i*2)).take 2=[.p (.int L[i].1),.p (.int L[i].2)]:=by
  rw[<-jG,oW,show L.drop i=L[i]::L.drop (i+1)from eK c,eW];simp only[dB,jH,yK]
 obtain⟨a,n⟩:=e;generalize Uj:L[i]=x at hx1 Kg hN Cp;obtain⟨u,v⟩:=x;simp only at hx1 Kg he;have h2:i*2+2<=L.length*2:=O;have w0:IntKind.i64.wrap ((i:Int)+1)=(i:Int)+1:=aG;have w1:IntKind.i64.wrap ((u:Int)+(v:Int))=(u:Int)+(v:Int):=aG;have w2:IntKind.i64.wrap ((u:Int)+(v:Int)-(a:Int))=(u:Int)+(v:Int)-(a:Int):=aG;have w3:IntKind.i64.wrap ((u:Int)+(v:Int)-(a:Int)-(n:Int))=((u+v-a-n:Nat):Int):=by rw[aG];omega
 have w4:IntKind.i64.wrap ((a:Int)-(u:Int))=((a-u:Nat):Int):=by rw[aG];omega
 have w5:IntKind.i64.wrap ((a:Int)+(n:Int))=(a:Int)+(n:Int):=aG;obtain⟨M,R_⟩:=mH (L.take i++L.drop (i+1));have hMl:M.length=L.length-1:=by rw[R_];simp;omega
 have hMt:M.take i=L.take i:=by rw[R_,vi (by simp;omega),qY,Nat.min_self]
 have hMr:M.drop i=L.drop (i+1):=by rw[R_,qU,lV,eS O,Nat.sub_self,gM (by simp;omega)];simp
 by_cases cA:u<a
 .by_cases cB:a+n<u+v
  .have cA:u<a:=O;have Xr:0<a-u:=O;have Xt:0<u+v-a-n:=O;have eA:uh (u,v) (a,n)=[(u,a-u)]:=by unfold uh;rw[ai (by simp only;omega)]
   have eB:qy (u,v) (a,n)=[(a+n,u+v-a-n)]:=by unfold qy;rw[ai (by simp only;omega)]
   rw[eA,eB]at hN;obtain⟨M2,O4⟩:=mH (M.take i++(a+n,u+v-a-n)::M.drop i);have ahL:M2.length=M.length+1:=by rw[O4];simp;omega
   have amX:M2.take i=L.take i:=by rw[O4,vi (by simp;omega),qY,Nat.min_self,hMt]
   have amY:M2.drop i=(a+n,u+v-a-n)::L.drop (i+1):=by rw[O4,hMr,hMt,qU,lV,eS O,Nat.sub_self,gM (by simp;omega)];simp
   have HK:M2.take i++(u,a-u)::M2.drop i=N:=by rw[hN,amX,amY];simp
   have Ar:N.length=M2.length+1:=by rw[<-HK];simp;omega
   refine aC [] func265 rfl ?_;simp[hx,hne,FF];refine bZ ha ⟨JA _ (by simp[FF]),by simp[dA],trivial⟩ rfl ?_;simp[hx,hne,FF,c,Cp,w0,h2];refine aN (rK (nx+1) fX O L i c O) H (by simp[aA,FF]) trivial rfl ?_;rw[<-R_,<-hMl];simp[hx,hne,FF,w1,w2,w3,w4,w5,Xt,Xr,hoff];refine aN (m6 (nx+1+1) (nx+1) O M i (a+n,u+v-a-n) O O) H (by simp[aA,FF]) trivial rfl ?_;rw[<-O4,<-ahL];simp[hx,hne,FF,w1,w2,w3,w4,w5,Xt,Xr,hoff];refine aN (m6 (nx+1+1+1) (nx+1+1) O M2 i (u,a-u) O O) H (by simp[aA,FF]) trivial rfl ?_;rw[HK];simp[hx,hne,FF,w1,w2,w3,w4,w5,Xt,Xr,hoff];refine⟨O,[(nx,nx+1+1+1)],?_⟩;simp[hx,hne,FF,hr,Oo,Ar]
  .have cA:u<a:=O;have Xr:0<a-u:=O;have Xt:¬0<u+v-a-n:=O;have eA:uh (u,v) (a,n)=[(u,a-u)]:=by unfold uh;rw[ai (by simp only;omega)]
   have eB:qy (u,v) (a,n)=[]:=by unfold qy;rw[ah (by simp only;omega)]
   rw[eA,eB]at hN;have HK:M.take i++(u,a-u)::M.drop i=N:=by rw[hN,hMt,hMr];simp
   have Ar:N.length=M.length+1:=by rw[<-HK];simp;omega
   refine aC [] func265 rfl ?_;simp[hx,hne,FF];refine bZ ha ⟨JA _ (by simp[FF]),by simp[dA],trivial⟩ rfl ?_;simp[hx,hne,FF,c,Cp,w0,h2];refine aN (rK (nx+1) fX O L i c O) H (by simp[aA,FF]) trivial rfl ?_;rw[<-R_,<-hMl];simp[hx,hne,FF,w1,w2,w3,w4,w5,Xt,Xr,hoff];refine aN (m6 (nx+1+1) (nx+1) O M i (u,a-u) O O) H (by simp[aA,FF]) trivial rfl ?_;rw[HK];simp[hx,hne,FF,w1,w2,w3,w4,w5,Xt,Xr,hoff];refine⟨O,[(nx,nx+1+1)],?_⟩;simp[hx,hne,FF,hr,Oo,Ar]
 .by_cases cB:a+n<u+v
  .have cA:¬u<a:=O;have Xr:¬0<a-u:=O;have Xt:0<u+v-a-n:=O;have eA:uh (u,v) (a,n)=[]:=by unfold uh;rw[ah (by simp only;omega)]
   have eB:qy (u,v) (a,n)=[(a+n,u+v-a-n)]:=by unfold qy;rw[ai (by simp only;omega)]
   rw[eA,eB]at hN;obtain⟨M2,O4⟩:=mH (M.take i++(a+n,u+v-a-n)::M.drop i);have ahL:M2.length=M.length+1:=by rw[O4];simp;omega
   have amX:M2.take i=L.take i:=by rw[O4,vi (by simp;omega),qY,Nat.min_self,hMt]
   have amY:M2.drop i=(a+n,u+v-a-n)::L.drop (i+1):=by rw[O4,hMr,hMt,qU,lV,eS O,Nat.sub_self,gM (by simp;omega)];simp
   have HK:M2=N:=by rw[hN,O4,hMt,hMr];simp
   have Ar:N.length=M2.length:=by rw[HK]
   refine aC [] func265 rfl ?_;simp[hx,hne,FF];refine bZ ha ⟨JA _ (by simp[FF]),by simp[dA],trivial⟩ rfl ?_;simp[hx,hne,FF,c,Cp,w0,h2];refine aN (rK (nx+1) fX O L i c O) H (by simp[aA,FF]) trivial rfl ?_;rw[<-R_,<-hMl];simp[hx,hne,FF,w1,w2,w3,w4,w5,Xt,Xr,hoff];refine aN (m6 (nx+1+1) (nx+1) O M i (a+n,u+v-a-n) O O) H (by simp[aA,FF]) trivial rfl ?_;rw[<-O4,<-ahL];simp[hx,hne,FF,w1,w2,w3,w4,w5,Xt,Xr,hoff];refine⟨O,[(nx,nx+1+1)],?_⟩;simp[hx,hne,FF,hr,Oo,Ar,HK]
  .have cA:¬u<a:=O;have Xr:¬0<a-u:=O;have Xt:¬0<u+v-a-n:=O;have eA:uh (u,v) (a,n)=[]:=by unfold uh;rw[ah (by simp only;omega)]
   have eB:qy (u,v) (a,n)=[]:=by unfold qy;rw[ah (by simp only;omega)]
   rw[eA,eB]at hN;have HK:M=N:=by rw[hN,R_];simp
   have Ar:N.length=M.length:=by rw[HK]
   refine aC [] func265 rfl ?_;simp[hx,hne,FF];refine bZ ha ⟨JA _ (by simp[FF]),by simp[dA],trivial⟩ rfl ?_;simp[hx,hne,FF,c,Cp,w0,h2];refine aN (rK (nx+1) fX O L i c O) H (by simp[aA,FF]) trivial rfl ?_;rw[<-R_,<-hMl];simp[hx,hne,FF,w1,w2,w3,w4,w5,Xt,Xr,hoff];refine⟨O,[(nx,nx+1)],?_⟩;simp[hx,hne,FF,hr,Oo,Ar,HK]
structure xP(L:List Ext):Prop where
 pos:∀e∈L,1<=e.2
 gap:L.Pairwise λa b=>a.1+a.2<b.1
 top:∀e∈L,e.1+e.2<=65536
 len:L.length<=65536
def xP.up{L:List Ext}(h:xP L):Up L:=h.gap.imp λh=>O
def xP.ad6{L:List Ext}(h:xP L){i:Nat}(hi:i<L.length):kO L L[i].1=i:=by
 refine Ux O (λp hp hpi=>?_) (λhp=>?_)
 .have:=yJ.1 h.gap p i hp hi hpi;omega
 .have:=h.pos L[i] H;omega
@[reducible]def fe(n f r w:Nat)(F R W:List Ext):List AV:=[.p (.int n),.view f 0 F.length 2 none,.view r 0 R.length 2 none,.view w 0 W.length 2 none]
@[reducible]def iy(n f r w:Nat)(F R W:List Ext):Ob:=⟨274,4,fe n f r w F R W⟩
@[reducible]def cP(m f r w n:Nat)(F R W:List Ext):List (Nat×Ob):=[(m,iy n f r w F R W),(f,cI F),(r,cI R),(w,cI W)]
structure RD(m f r w nx:Nat):Prop where
 hm:m<nx
 hf:f<nx
 hr:r<nx
 hw:w<nx
 mf:m≠f
 mr:m≠r
 mw:m≠w
 fr:f≠r
 fw:f≠w
 rw:r≠w
theorem RD.cp{m f r w nx:Nat}(h:RD m f r w nx){P:Program}{g:FuncId}{xs:List AV}{bx:List (Nat×Ob)}{rs:List (Nat×TypeId×Nat)}{v:AV}{a_:Tb}(k:dm P g xs ⟨bx,rs,4⟩ v a_)(hn:4<=a_.nx:=by simp):dm P g (AV.cp.eu (fh [f,r,w,m] nx) xs) (Tb.cp (fh [f,r,w,m] nx) ⟨bx,rs,4⟩) (v.cp (fh [f,r,w,m] nx)) (a_.cp (fh [f,r,w,m] nx)):=xg k [f,r,w,m] nx rfl hn (by simp[h.fr,h.fw,h.rw,Ne.symm h.mf,Ne.symm h.mr,Ne.symm h.mw]) (by simp[h.hf,h.hr,h.hw,h.hm])
def Zt(n:Nat)(F R W:List Ext)(e:Ext)(hF:xP F)(hR:xP R)(hh:hasB F e=true)(he:e.1+e.2<=65536):bN 308 [.obj 3 0,.p (lz e)] ⟨cP 3 0 1 2 n F R W,[],4⟩ (.agg true []) ⟨cP 3 4 5 2 n (jo F e) (gu R e) W,[],6⟩:=by
 refine aq [] [] [(1,[(4,.w [])]),(2,[(4,.w [])])] [] func308 rfl ?_;simp[cP,iy,fe];refine oM (acp 4 3 0 O O O 274 4 1 (fe n 0 1 2 F R W) F e H H hF.up hF.len (λe he=>by have:=hF.top e he;omega) hh) rfl ?_;simp[fe];refine aN (MX 5 3 1 O O O 274 4 2 (fe n 4 1 2 (jo F e) R W) R e H (by simp<;>omega) hR.up hR.len (λe he=>by have:=hR.top e he;omega) O) H (by simp[aA,fe]) trivial rfl ?_;simp[fe];exact⟨[],H⟩
def ad7(m f r w nx n:Nat)(h:RD m f r w nx)(F R W:List Ext)(e:Ext)(hF:xP F)(hR:xP R)(hh:hasB F e=true)(he:e.1+e.2<=65536):bN 308 [.obj m 0,.p (lz e)] ⟨cP m f r w n F R W,[],nx⟩ (.agg true []) ⟨cP m nx (nx+1) w n (jo F e) (gu R e) W,[],nx+2⟩:=by
 simpa[cP,iy,fe]using h.cp (Zt n F R W e hF hR hh he)
def Am(q:Ext->Bool)(L:List Ext):Int:=if(L.takeWhile λe=>!q e).length<L.length then((L.takeWhile λe=>!q e).length:Int)else-1
def takeWhile_eq{α:Type}{p:α->Bool}{l:List α}{k:Nat}(h:∀x∈l.take k,p x=true)(hk:k<=l.length)(he:∀hk:k<l.length,p l[k]=false):(l.takeWhile p).length=k:=by
 induction l generalizing k with
 |nil=>simp at hk;subst hk;rfl
 |cons a l ih=>
  cases k with
  |zero=>have:=he H;simp at this;simp[this]
  |succ k=>
   have ha:=h a H;have:=ih (k:=k) (λx hx=>h x (by simp[hx])) (U hk) (λhk'=>by have:=he (by simp<;>omega);simpa using this);simp[ha,this]
def Mt{g:FuncId}{caps:List PC}(q:Ext->Bool)(vs:List Ext)(hk:vs.length<=1000000)(h:∀s∈vs,cq g (lz s::caps) (.bool (q s))):cq 306 [mj vs,.fn (.func g) caps] (.int (Am q vs)):=by
 refine ay [_] func306 rfl ?_;simp;refine bI (λk:Nat=>k<=vs.length/\∀x∈vs.take k,(!q x)=true) (λk=>[(0,.p (mj vs)),(1,.p (.fn (.func g) caps)),(7,.p (.int vs.length)),(8,.p (.int k))]) (λk=>vs.length-k) 0 H (aB H) ?_;rintro k ⟨h1,h2⟩;by_cases c1:k<vs.length
 .simp[c1];refine cm (h vs[k] H) ?_;by_cases c2:q vs[k]=true
  .have e:=takeWhile_eq (p:=λv=>!q v) h2 h1 (λ_=>by simpa using c2);simp[c2,Am,e,c1,results306]
  .simp[c2];refine⟨k+1,⟨O,?_⟩,O,aB ?_⟩
   .intro a b hx;rw[kG c1]at hx;rcases lD.1 hx with hx|hx
    .simpa using h2 (a,b) hx
    .simp only[gK]at hx;rw[hx];simpa using c2
   .simp[aG (n:=(k:Int)+1)]
 .have e:=takeWhile_eq (p:=λv=>!q v) h2 h1 (λh=>absurd h c1);simp[e,c1,Am,results306]
def Zu{g:FuncId}{caps:List PC}(q:Ext->Bool)(vs:List Ext)(hk:vs.length<=1000000)(h:∀s∈vs,cq g (lz s::caps) (.bool (q s))):cq 311 [mj vs,.fn (.func g) caps] (.int (Am q vs)):=by
 refine ay [_] func311 rfl ?_;simp;refine bI (λk:Nat=>k<=vs.length/\∀x∈vs.take k,(!q x)=true) (λk=>[(0,.p (mj vs)),(1,.p (.fn (.func g) caps)),(7,.p (.int vs.length)),(8,.p (.int k))]) (λk=>vs.length-k) 0 H (aB H) ?_;rintro k ⟨h1,h2⟩;by_cases c1:k<vs.length
 .simp[c1];refine cm (h vs[k] H) ?_;by_cases c2:q vs[k]=true
  .have e:=takeWhile_eq (p:=λv=>!q v) h2 h1 (λ_=>by simpa using c2);simp[c2,Am,e,c1,results311]
  .simp[c2];refine⟨k+1,⟨O,?_⟩,O,aB ?_⟩
   .intro a b hx;rw[kG c1]at hx;rcases lD.1 hx with hx|hx
    .simpa using h2 (a,b) hx
    .simp only[gK]at hx;rw[hx];simpa using c2
   .simp[aG (n:=(k:Int)+1)]
 .have e:=takeWhile_eq (p:=λv=>!q v) h2 h1 (λh=>absurd h c1);simp[e,c1,Am,results311]
def Hu(q:Ext->Bool)(vs:List Ext):decide (0<=Am q vs)=vs.any q:=by
 unfold Am
 induction vs with
 |nil=>rfl
 |cons a l ih=>
  cases h:q a with
  |true=>simp[h]
  |false=>
   simp only[uN,h,Bool.not_false,cr,cF,Nat.add_lt_add_iff_right,Fh,Bool.false_or];rw[<-ih];split<;>simp<;>omega
def B6{g:FuncId}{caps:List PC}(q:Ext->Bool)(vs:List Ext)(hk:vs.length<=1000000)(h:∀s∈vs,cq g (lz s::caps) (.bool (q s))):cq 231 [mj vs,.fn (.func g) caps] (.bool (vs.any q)):=by
 refine ay [_] func231 rfl ?_;simp;refine cm (Zu q vs hk h) ?_;simp[results231,<-Hu]
def So(e:Ext)(n:Int):cq 307 [lz e,.ref (.int n)] (.bool (decide (n<=(e.2:Int)))):=by
 refine ay [_] func307 rfl ?_;simp[results307]
def Ht{n:Nat}{F R W:List Ext}:dA (cP 3 0 1 2 n F R W) 4 (.view 0 0 F.length 2 none) (mj F)/\dA (cP 3 0 1 2 n F R W) 4 (.view 2 0 W.length 2 none) (mj W):=⟨lI (by simp[cP]) rfl,lI (by simp[cP]) rfl⟩
def XU(n:Nat)(F R W:List Ext)(hF:xP F):bN 87 [.obj 3 0] ⟨cP 3 0 1 2 n F R W,[],4⟩ (.p (.int (xV F))) ⟨cP 3 0 1 2 n F R W,[],4⟩:=by
 have hb:=(Ht (n:=n) (F:=F) (R:=R) (W:=W)).1;refine aC [_] func87 rfl ?_;simp[cP,iy,fe];refine bZ (ad4 F (by have:=hF.len;omega) (λe he=>by have:=hF.top e he;omega)) ⟨hb,trivial⟩ rfl ?_;simp[results87];exact⟨[],H⟩
def Ff(m f r w nx n:Nat)(h:RD m f r w nx)(F R W:List Ext)(hF:xP F):bN 87 [.obj m 0] ⟨cP m f r w n F R W,[],nx⟩ (.p (.int (xV F))) ⟨cP m f r w n F R W,[],nx⟩:=by
 simpa[cP,iy,fe]using h.cp (XU n F R W hF)
def XV(n:Nat)(F R W:List Ext)(k:Int)(hF:xP F)(hk:k<1\/∀e∈F,¬k<=(e.2:Int)):bN 227 [.obj 3 0,.p (.int k)] ⟨cP 3 0 1 2 n F R W,[],4⟩ (.agg true [.p (lz (0,0)),.p (.bool false)]) ⟨cP 3 0 1 2 n F R W,[],4⟩:=by
 have hb:=(Ht (n:=n) (F:=F) (R:=R) (W:=W)).1;have hi:=Mt (g:=307) (caps:=[.ref (.int k)]) (λe=>decide (k<=(e.2:Int))) F (by have:=hF.len;omega) (λe _=>So e k);have hneg:k<1\/(Am (λe=>decide (k<=(e.2:Int))) F<0):=by
  rcases hk with hk|hk
  .exact .inl hk
  .refine .inr ?_;have:=Hu (λe=>decide (k<=(e.2:Int))) F;have h2:F.any (λe=>decide (k<=(e.2:Int)))=false:=by
    rw[uM];intro e he;simpa using hk e he
   rw[h2]at this;simp only[Kr]at this;omega
 generalize Am (λe=>decide (k<=(e.2:Int))) F=i at*;refine aq [_,_] [] [(4,[(3,.r 1),(7,.r 2),(10,.w [1,2]),(11,.s 3 [1,2])])] [(1,3),(2,0),(3,5)] func227 rfl ?_;simp[cP,iy,fe];refine bZ hi ⟨lI H rfl,by simp[dA],trivial⟩ rfl ?_;by_cases c:k<1
 .simp[c,results227];exact⟨[],H⟩
 .have c2:i<0:=O;simp[c,c2,results227];exact⟨[],H⟩
def ad5(m f r w nx n:Nat)(h:RD m f r w nx)(F R W:List Ext)(k:Int)(hF:xP F)(hk:k<1\/∀e∈F,¬k<=(e.2:Int)):bN 227 [.obj m 0,.p (.int k)] ⟨cP m f r w n F R W,[],nx⟩ (.agg true [.p (lz (0,0)),.p (.bool false)]) ⟨cP m f r w n F R W,[],nx⟩:=by
 simpa[cP,iy,fe]using h.cp (XV n F R W k hF hk)
def XW(n:Nat)(F R W:List Ext)(k i:Nat)(hF:xP F)(hR:xP R)(hk:1<=k)(hi:i<F.length)(hki:k<=F[i].2)(hlt:∀p (hp:p<F.length),p<i->F[p].2<k):bN 227 [.obj 3 0,.p (.int k)] ⟨cP 3 0 1 2 n F R W,[],4⟩ (.agg true [.p (lz (F[i].1,k)),.p (.bool true)]) ⟨cP 3 4 5 2 n (jo F (F[i].1,k)) (gu R (F[i].1,k)) W,[],6⟩:=by
 have hq:Am (λe=>decide ((k:Int)<=(e.2:Int))) F=i:=by
  unfold Am;have:(F.takeWhile λe=>!decide ((k:Int)<=(e.2:Int))).length=i:=takeWhile_eq (λx hx=>by
   obtain⟨p,hp,rfl⟩:=xW hx;simp at hp⊢;exact hlt p O O) O (λ_=>by simpa using hki)
  rw[this,ai hi]
 have qz:=Mt (g:=307) (caps:=[.ref (.int k)]) (λe=>decide ((k:Int)<=(e.2:Int))) F (by have:=hF.len;omega) (λe _=>So e k);rw[hq]at qz;have Bi:=hF.top F[i] H;have hh:hasB F (F[i].1,k)=true:=by
  unfold hasB;simp only;rw[hF.ad6 hi];simp[hi];exact hki
 have g:=D8 hi;have g1:∀h',(dH F)[i*2]'h'= .int F[i].1:=λh'=>by have:=g.1;rw[n_ h']at this;injection this
 have hT:=ad7 3 0 1 2 6 n (by constructor<;>omega) F R W (F[i].1,k) hF hR hh (by simp only;omega);have c0:decide ((k:Int)<1)=false:=by simp;omega
 refine aq [_,_] [] [(4,[(3,.r 1),(7,.r 2),(10,.w [1,2]),(11,.s 3 [1,2])])] [(1,3),(2,0),(3,5)] func227 rfl ?_;simp[cP,iy,fe];refine bZ qz ⟨lI H rfl,by simp[dA],trivial⟩ rfl ?_;have hkz:k≠0:=O;simp[c0,hkz,hi,g.1,g1];refine aN hT H (by simp[aA,cP,iy,fe]) trivial rfl ?_;simp[cP,iy,fe,results227];exact⟨[(4,6),(5,7)],by simp;omega⟩
def ad8(m f r w nx n:Nat)(h:RD m f r w nx)(F R W:List Ext)(k i:Nat)(hF:xP F)(hR:xP R)(hk:1<=k)(hi:i<F.length)(hki:k<=F[i].2)(hlt:∀p (hp:p<F.length),p<i->F[p].2<k):bN 227 [.obj m 0,.p (.int k)] ⟨cP m f r w n F R W,[],nx⟩ (.agg true [.p (lz (F[i].1,k)),.p (.bool true)]) ⟨cP m nx (nx+1) w n (jo F (F[i].1,k)) (gu R (F[i].1,k)) W,[],nx+2⟩:=by
 simpa[cP,iy,fe]using h.cp (XW n F R W k i hF hR hk hi hki hlt)
def Au{P:Program}{f:FuncId}{xs:List AV}{tb a_ uj:Tb}{r:AV}(h:dm P f xs tb r a_)(hb:∀i o,lk i uj.bx=some o->lk i a_.bx=some o)(hr:∀i o,lk i uj.rw=some o->lk i a_.rw=some o)(hn:a_.nx<=uj.nx):dm P f xs tb r uj:=se h λ_ _ _ g _ _ hw hv=>⟨g,G.le_refl g,hw.sub hb hr hn,hv⟩
def ajI(nx n:Nat)(h1:1<=n)(h2:n<=65536):bN 73 [.p (.int n)] ⟨[],[],nx⟩ (.agg true [.obj (nx+1) 0,.p (.int 0)]) ⟨cP (nx+1) nx (nx+2) (nx+3) n [(0,n)] [] [],[],nx+4⟩:=by
 have c1:decide ((n:Int)<1)=false:=by simp;omega
 have c2:decide ((65536:Int)<n)=false:=by simp;omega
 have key:bN 73 [.p (.int n)] ⟨[],[],nx⟩ (.agg true [.obj (nx+1) 0,.p (.int 0)]) ⟨[(nx+1,⟨274,4,[.p (.int n),.view nx 0 1 2 (some 1),.p .nil,.p .nil]⟩),(nx,cI [(0,n)])],[],nx+2⟩:=by
  refine aq [_,_] [13,15] [] [] func73 rfl ?_;simp[c1,c2,results73,eW];exact⟨[],H⟩
 have k1:bN 73 [.p (.int n)] ⟨[],[],nx⟩ (.agg true [.obj (nx+1) 0,.p (.int 0)]) ⟨[(nx+1,⟨274,4,[.p (.int n),.view nx 0 1 2 none,.p .nil,.p .nil]⟩),(nx,cI [(0,n)])],[],nx+2⟩:=by
  simpa[Tb.aY,del]using mI (id:=nx+1) (j:=1) (x:= .view nx 0 1 2 (some 1)) (ob:=⟨274,4,[.p (.int n),.view nx 0 1 2 (some 1),.p .nil,.p .nil]⟩) (.view nx 0 1 2 none) key (by simp[lk]) rfl H
 have k2:bN 73 [.p (.int n)] ⟨[],[],nx⟩ (.agg true [.obj (nx+1) 0,.p (.int 0)]) ⟨[(nx+1,⟨274,4,[.p (.int n),.view nx 0 1 2 none,.view (nx+2) 0 0 2 none,.p .nil]⟩),(nx+2,cI []),(nx,cI [(0,n)])],[],nx+3⟩:=by
  have t:=mJ (id:=nx+1) (j:=2) (ob:=⟨274,4,[.p (.int n),.view nx 0 1 2 none,.p .nil,.p .nil]⟩) 157 2 k1 (by simp[lk]) rfl;simp[Tb.aY,Tb.bD,del]at t;exact t
 have k3:bN 73 [.p (.int n)] ⟨[],[],nx⟩ (.agg true [.obj (nx+1) 0,.p (.int 0)]) ⟨[(nx+1,⟨274,4,[.p (.int n),.view nx 0 1 2 none,.view (nx+2) 0 0 2 none,.view (nx+3) 0 0 2 none]⟩),(nx+3,cI []),(nx+2,cI []),(nx,cI [(0,n)])],[],nx+4⟩:=by
  have t:=mJ (id:=nx+1) (j:=3) (ob:=⟨274,4,[.p (.int n),.view nx 0 1 2 none,.view (nx+2) 0 0 2 none,.p .nil]⟩) 157 2 k2 (by simp[lk]) rfl;simp[Tb.aY,Tb.bD,del]at t;exact t
 refine Au k3 (λi o ho=>?_) (λi o ho=>ho) (aX _);simp only[cP,iy,fe,lk]at ho⊢;split at ho
 .rename_i h;rw[ai h];exact ho
 .split at ho
  .rename_i h;subst h;simp;simpa using ho
  .split at ho
   .rename_i h;subst h;simp;simpa using ho
   .split at ho
    .rename_i h;subst h;simp;simpa using ho
    .cases ho
end Go.Av
namespace Go.Av
open Go.Proofs
def mF(e:Ext)(s:Nat):Prop:=e.1<=s/\s<e.1+e.2
def mem(L:List Ext)(s:Nat):Prop:=∃e∈L,mF e s
structure Nr(L:List Ext):Prop where
 pos:∀e∈L,1<=e.2
 gap:L.Pairwise λa b=>a.1+a.2<b.1
def xP.nr{L:List Ext}(h:xP L):Nr L:=⟨h.pos,h.gap⟩
def Nr.up{L:List Ext}(h:Nr L):Up L:=h.gap.imp λh=>O
def Sj:Nr []:=⟨H,.nil⟩
def ad2{e:Ext}(h:1<=e.2):Nr [e]:=⟨by grind,H⟩
def iV{A B:List Ext}:Nr (A++B)↔Nr A/\Nr B/\∀a∈A,∀b∈B,a.1+a.2<b.1:=by
 constructor
 .rintro⟨h1,h2⟩;obtain⟨h3,h4,h5⟩:=uI.1 h2;exact⟨⟨λe he=>h1 e (by grind),h3⟩,⟨λe he=>h1 e (by grind),h4⟩,h5⟩
 .rintro⟨⟨h1,h2⟩,⟨h3,h4⟩,h5⟩;exact⟨λe he=>by grind,uI.2 ⟨h2,h4,h5⟩⟩
theorem mZ{e:Ext}{B:List Ext}:Nr (e::B)↔1<=e.2/\Nr B/\∀b∈B,e.1+e.2<b.1:=by
 constructor
 .rintro⟨h1,h2⟩;obtain⟨h3,h4⟩:=uJ.1 h2;exact⟨h1 e H,⟨λe he=>h1 e (by grind),h4⟩,h3⟩
 .rintro⟨h0,⟨h3,h4⟩,h5⟩;exact⟨λx hx=>by grind,uJ.2 ⟨h5,h4⟩⟩
def mem_append{A B:List Ext}{s:Nat}:mem (A++B) s↔mem A s\/mem B s:=by
 grind [mem]
theorem mem_cons{e:Ext}{B:List Ext}{s:Nat}:mem (e::B) s↔mF e s\/mem B s:=by
 grind [mem]
@[simp]theorem E_{s:Nat}:¬mem [] s:=by rintro⟨e,h,_⟩;simp at h
def tE{L:List Ext}(h:Nr L)(t:Nat):(∀a∈L.take (kO L t),a.1+a.2<=t)/\(∀b∈L.drop (kO L t),t<b.1+b.2):=by
 have key:∀(L:List Ext),Up L->(∀a∈L.take (kO L t),a.1+a.2<=t)/\(∀b∈L.drop (kO L t),t<b.1+b.2):=by
  intro L
  induction L with
  |nil=>simp
  |cons e L ih=>
   intro hU;obtain⟨h1,h2⟩:=uJ.1 hU;by_cases c:e.1+e.2<=t
   .have ea:kO (e::L) t=kO L t+1:=by simp[kO,c]
    rw[ea];obtain⟨i1,i2⟩:=ih h2
    grind
   .have ea:kO (e::L) t=0:=by simp[kO,c]
    grind
 exact key L h.up
theorem sd{L:List Ext}(h:Nr L)(e:Ext)(he:1<=e.2):vR L e=true↔∃s,mF e s/\mem L s:=by
 obtain⟨h1,h2⟩:=tE h e.1;unfold vR;have hsp:L=L.take (kO L e.1)++L.drop (kO L e.1):=(eO _ _).symm;generalize kO L e.1=i at*;have hg:L[i]?=(L.drop i)[0]?:=H;rw[hg];rw[hsp]at h;have hm:∀s,mem L s↔mem (L.take i) s\/mem (L.drop i) s:=λs=>by rw[<-mem_append,<-hsp]
 generalize L.take i=A at*;generalize L.drop i=B at*;obtain⟨hA,hB,hAB⟩:=iV.1 h;cases B with
 |nil=>
  simp;intro s hs Bg;rw[hm]at Bg;rcases Bg with⟨a,ha,zH⟩|Bg
  all_goals grind [mF,E_]
 |cons x B=>
  simp;have hx:=h2 x H;have px:=hB.pos x H;constructor
  .intro hlt;by_cases c:e.1<=x.1
   .exact⟨x.1,⟨c,hlt⟩,(hm _).2 (.inr (mem_cons.2 (.inl ⟨aX _,O⟩)))⟩
   .exact⟨e.1,⟨aX _,O⟩,(hm _).2 (.inr (mem_cons.2 (.inl ⟨O,hx⟩)))⟩
  .rintro⟨s,hs,Bg⟩;rw[hm]at Bg;rcases Bg with⟨a,ha,zH⟩|Bg
   .grind [mF]
   .rcases mem_cons.1 Bg with zH|⟨b,hb,zH⟩
    all_goals grind [mF,mZ]
def qw{L:List Ext}(h:Nr L)(e:Ext)(he:1<=e.2):hasB L e=true↔∀s,mF e s->mem L s:=by
 obtain⟨h1,h2⟩:=tE h e.1;unfold hasB;have hsp:L=L.take (kO L e.1)++L.drop (kO L e.1):=(eO _ _).symm;generalize kO L e.1=i at*;have hg:L[i]?=(L.drop i)[0]?:=H;rw[hg];rw[hsp]at h;have hm:∀s,mem L s↔mem (L.take i) s\/mem (L.drop i) s:=λs=>by rw[<-mem_append,<-hsp]
 generalize L.take i=A at*;generalize L.drop i=B at*;obtain⟨hA,hB,hAB⟩:=iV.1 h;cases B with
 |nil=>
  simp;refine⟨e.1,⟨aX _,O⟩,λBg=>?_⟩;rw[hm]at Bg;rcases Bg with⟨a,ha,zH⟩|Bg
  all_goals grind [mF,E_]
 |cons x B=>
  simp;have hx:=h2 x H;constructor
  .grind [mem_cons,mF]
  .intro hall;have ajH:∀s,mF e s->s<=x.1+x.2->mF x s:=by
    intro s hs hle;rcases(hm s).1 (hall s hs)with⟨a,ha,zH⟩|Bg
    .grind [mF]
    .rcases mem_cons.1 Bg with zH|⟨b,hb,zH⟩
     all_goals grind [mZ,mF]
   have c1:=ajH e.1 ⟨aX _,O⟩ O;refine⟨c1.1,?_⟩;by_cases c:e.1+e.2<=x.1+x.2
   .omega
   .have:=ajH (x.1+x.2) ⟨O,O⟩ (aX _)
    grind [mF]
def Bh{A B:List Ext}{E:Ext}(hAB:Nr (A++B))(hE:1<=E.2)(hA:∀a∈A,a.1+a.2<=E.1)(hB:∀b∈B,E.1+E.2<b.1):Nr (lH (A++B) A.length E)/\(∀s,mem (lH (A++B) A.length E) s↔mem A s\/mF E s\/mem B s)/\(lH (A++B) A.length E).length<=(A++B).length+1:=by
 obtain⟨nA,nB,hg⟩:=iV.1 hAB;rcases uK A with rfl|⟨A',y,rfl⟩
 .simp only[o3,fQ,lH];refine⟨mZ.2 ⟨hE,nB,hB⟩,λs=>?_,H⟩;rw[mem_cons];simp
 .have el:(A'.concat y).length=A'.length+1:=H;rw[el];simp only[xU]at*;have e1:(A'++[y]++B).getD A'.length (0,0)=y:=H;have e2:(A'++[y]++B).take A'.length=A':=H;have e3:(A'++[y]++B).drop (A'.length+1)=B:=by
   simp
  have e4:(A'++[y]++B).take (A'.length+1)=A'++[y]:=by
   grind
  simp only[lH,e1,e2,e3,e4];obtain⟨nA',ny,hgy⟩:=iV.1 nA;have hy:=hA y H;have py:=nA.pos y H;split
  .rename_i c;refine⟨iV.2 ⟨nA',mZ.2 ⟨O,nB,λb hb=>by grind⟩,?_⟩,λs=>?_,H⟩
   .grind
   .rw[mem_append,mem_cons,mem_append,mem_cons];have:mF (y.1,y.2+E.2) s↔mF y s\/mF E s:=by unfold mF;omega
    rw[this];simp only[E_,or_false]
    grind
  .rename_i c;refine⟨iV.2 ⟨nA,mZ.2 ⟨hE,nB,hB⟩,?_⟩,λs=>?_,by grind⟩
   .intro a ha b hb;have ha2:a.1+a.2<E.1:=by
     rcases lD.1 ha with h|h
     all_goals grind
    grind
   .rw[mem_append,mem_cons]
def join_top{A B:List Ext}{E:Ext}{N:Nat}(h1:∀a∈A++B,a.1+a.2<=N)(hE:E.1+E.2<=N)(hA:∀a∈A,a.1+a.2<=E.1):∀x∈lH (A++B) A.length E,x.1+x.2<=N:=by
 intro x hx;rcases uK A with rfl|⟨A',y,rfl⟩
 .grind [lH]
 .have el:(A'.concat y).length=A'.length+1:=H
  grind [lH]
def Mq{L:List Ext}(h:Nr L){e:Ext}(he:1<=e.2)(hm:vR L e=false){N:Nat}(hN:∀x∈L,x.1+x.2<=N)(heN:e.1+e.2<=N):Nr (gu L e)/\(∀s,mem (gu L e) s↔mem L s\/mF e s)/\(gu L e).length<=L.length+1/\∀x∈gu L e,x.1+x.2<=N:=by
 have hm':∀s,mF e s->¬mem L s:=λs hs Bg=>by
  grind [sd]
 obtain⟨h1,h2⟩:=tE h e.1;have hsp:L=L.take (kO L e.1)++L.drop (kO L e.1):=(eO _ _).symm;have hle:=Sk L e.1;unfold gu qx Fa vS;generalize kO L e.1=i at*;have hlA:(L.take i).length=i:=by grind
 have hg:L[i]?=(L.drop i)[0]?:=H;have hgD:L.getD i (0,0)=(L.drop i).getD 0 (0,0):=H;have hd:L.drop (i+1)=(L.drop i).drop 1:=H;rw[hg,hgD,hd];have hmL:∀s,mem L s↔mem (L.take i) s\/mem (L.drop i) s:=λs=>by rw[<-mem_append,<-hsp]
 have J8:L.length=(L.take i).length+(L.drop i).length:=by grind
 have hNA:∀x∈L.take i,x.1+x.2<=N:=λx hx=>hN x (oa hx);have hNB:∀x∈L.drop i,x.1+x.2<=N:=λx hx=>hN x (fq hx);have D7:∀b∈L.drop i,e.1+e.2<=b.1:=by
  intro b hb;have e1:=h2 b hb;rcases iD b.1 (e.1+e.2)with c|c
  .exfalso;have pb:=h.pos b (fq hb);by_cases c2:e.1<=b.1
   .exact hm' b.1 ⟨c2,c⟩ ⟨b,fq hb,aX _,O⟩
   .exact hm' e.1 ⟨aX _,O⟩ ⟨b,fq hb,O,e1⟩
  omega
 have hh:Nr (L.take i++L.drop i):=by grind
 generalize hAd:L.take i=A at*;generalize L.drop i=B at*;cases B with
 |nil=>
  simp only[List.getElem?_nil,dc,dZ];have hL:L=A++[]:=hsp;rw[hL];have hj:=Bh (E:=e) hh he h1 H;rw[hlA]at hj;refine⟨hj.1,λs=>?_,O,?_⟩
  .simp_all
  .have:=join_top (E:=e) (A:=A) (B:=[]) (N:=N) (by grind) heN h1
   grind
 |cons x B=>
  have hx:=D7 x H;obtain⟨nA,nB,gAB⟩:=iV.1 hh;obtain⟨px,nB',gx⟩:=mZ.1 nB;by_cases c:e.1+e.2=x.1
  .simp[c];have XR:Nr (A++B):=iV.2 ⟨nA,nB',λa ha b hb=>gAB a ha b (by grind)⟩;have hj:=Bh (E:=(e.1,e.2+x.2)) XR O h1 (λb hb=>by grind);rw[hlA]at hj;have hNx:=hNB x H;refine⟨hj.1,λs=>?_,?_,?_⟩
   .grind [mem_cons,mF]
   .grind
   .have:=join_top (E:=(e.1,e.2+x.2)) (A:=A) (B:=B) (N:=N) (λa ha=>by grind) O h1
    grind
  .simp[c];have hj:=Bh (E:=e) hh he h1 (λb hb=>by grind);rw[hlA,<-hsp]at hj;refine⟨hj.1,λs=>?_,?_,?_⟩
   .grind
   .omega
   .have:=join_top (E:=e) (A:=A) (B:=x::B) (N:=N) (λa ha=>by grind) heN h1
    grind
def XS{L:List Ext}(h:Nr L){e:Ext}(he:1<=e.2)(hh:hasB L e=true){N:Nat}(hN:∀x∈L,x.1+x.2<=N):Nr (jo L e)/\(∀s,mem (jo L e) s↔mem L s/\¬mF e s)/\(jo L e).length<=L.length+1/\∀x∈jo L e,x.1+x.2<=N:=by
 obtain⟨h1,h2⟩:=tE h e.1;have hsp:L=L.take (kO L e.1)++L.drop (kO L e.1):=(eO _ _).symm;unfold hasB at hh;unfold jo;generalize kO L e.1=i at*;have hg:L[i]?=(L.drop i)[0]?:=H;have hgD:L.getD i (0,0)=(L.drop i).getD 0 (0,0):=H;have hd:L.drop (i+1)=(L.drop i).drop 1:=H;rw[hg]at hh;rw[hgD,hd];have hmL:∀s,mem L s↔mem (L.take i) s\/mem (L.drop i) s:=λs=>by rw[<-mem_append,<-hsp]
 have J8:L.length=(L.take i).length+(L.drop i).length:=by grind
 have hNA:∀x∈L.take i,x.1+x.2<=N:=λx hx=>hN x (oa hx);have hNB:∀x∈L.drop i,x.1+x.2<=N:=λx hx=>hN x (fq hx);have hn:Nr (L.take i++L.drop i):=by grind
 generalize L.take i=A at*;generalize L.drop i=B at*;cases B with
 |nil=>grind
 |cons x B=>
  simp at hh;obtain⟨nA,nB,gAB⟩:=iV.1 hn;obtain⟨px,nB',gx⟩:=mZ.1 nB;have hxt:=h2 x H;simp only[Kq,gJ,jx];have nc2:Nr (qy x e++B)/\(∀s,mem (qy x e++B) s↔(mF x s/\e.1+e.2<=s)\/mem B s)/\(qy x e).length<=1/\(∀y∈qy x e,y.1=e.1+e.2/\y.1+y.2=x.1+x.2):=by
   unfold qy;split
   all_goals grind [mZ,mem_cons,mF]
  obtain⟨n2,m2,l2,t2⟩:=nc2;have nc1:Nr (uh x e++(qy x e++B))/\(∀s,mem (uh x e++(qy x e++B)) s↔(mF x s/\¬mF e s)\/mem B s)/\(uh x e).length<=1/\(∀y∈uh x e,y.1=x.1/\y.1+y.2=e.1):=by
   unfold uh;split
   .refine⟨mZ.2 ⟨O,n2,λb hb=>?_⟩,λs=>?_,H,by grind⟩
    .have hb:b∈qy x e++B:=hb
     grind
    grind [mem_cons,mF]
   grind [mF]
  obtain⟨n1,m1,l1,t1⟩:=nc1;refine⟨iV.2 ⟨nA,n1,?_⟩,λs=>?_,by grind,?_⟩
  .grind
  .rw[mem_append,m1,hmL,mem_cons];constructor
   .rintro(⟨a,ha,hs⟩|⟨a,b⟩|⟨b,hb,hs⟩)
    .exact⟨.inl ⟨a,ha,hs⟩,by grind [mF]⟩
    .grind
    .exact⟨.inr (.inr ⟨b,hb,hs⟩),by grind [mF]⟩
   grind
  grind
end Go.Av
namespace Go.Av
open Go.Proofs Go.Proofs.Tryz
abbrev F8(e:Int×Int):PC:= .agg false [.int e.1,.int e.2]
def Mz(n:Nat)(e:Int×Int):Bool:=decide (0<=e.1)&&decide (1<=e.2)&&decide (e.1<n)&&decide (e.2<=n-e.1)
def toE(e:Int×Int):Ext:=(e.1.toNat,e.2.toNat)
def ku(n:Nat)(S:List Ext):eL->Bool
 |[]=>true
 |e::es=>Mz n e&&(!vR S (toE e)&&ku n (gu S (toE e)) es)
def MV(n:Nat)(hn:n<=65536)(a b c:PC)(es:eL)(hl:es.length<=900):cq 244 [.ref (.agg false [.int n,a,b,c]),.sl (es.map F8)] (.bool (ku n [] es)):=by
 refine dK [_] [] [(5,[(1,.r 1),(5,.r 1),(10,.r 1),(19,.r 1),(25,.r 1),(30,.r 2),(31,.r 1),(32,.w [1,2])])] [(1,2),(2,0)] func244 rfl ?_;simp;refine aS (λx:Nat×List Ext=>x.1<=es.length/\x.2.length<=x.1/\Nr x.2/\(∀e∈x.2,e.1+e.2<=n)/\ku n [] es=ku n x.2 (es.drop x.1)) (λx=>[(0,.p (.ref (.agg false [.int n,a,b,c]))),(5,.obj 0 0),(8,.p (.sl (es.map F8))),(9,.p (.int es.length)),(10,.p (.int x.1))]) (λx=>⟨[(0,⟨272,1,[.view 1 0 x.2.length 2 none]⟩),(1,cI x.2)],[],2⟩) (λx=>es.length-x.1) (0,[]) ⟨H,H,Sj,H,H⟩ _ (CZ 0 0 157 2 ⟨272,1,[.p .nil]⟩ H H) (aB (by simp[Tb.aY,Tb.bD,del])) ?_;rintro⟨k,S⟩ ⟨h1,h2,h3,h4,h5⟩;simp only at h1 h2 h3 h4 h5;by_cases c0:k<es.length
 .obtain⟨e,Uj⟩:=lT (es[k]);obtain⟨u,v⟩:=e;have h6:=h5;rw[eK c0,Uj]at h6;simp only[ku]at h6;by_cases c1:u<0
  .have:Mz n (u,v)=false:=by simp[Mz];omega
   rw[this]at h6;simp[c0,Uj,c1,h6,results244]
  by_cases c2:v<1
  .have:Mz n (u,v)=false:=by simp[Mz];omega
   rw[this]at h6;simp[c0,Uj,c1,c2,h6,results244]
  by_cases c3:(n:Int)<=u
  .have:Mz n (u,v)=false:=by simp[Mz];omega
   rw[this]at h6;simp[c0,Uj,c1,c2,c3,h6,results244]
  have w1:IntKind.i64.wrap ((n:Int)-u)=(n:Int)-u:=aG;by_cases c4:(n:Int)-u<v
  .have:Mz n (u,v)=false:=by simp[Mz];omega
   rw[this]at h6;simp[c0,Uj,c1,c2,c3,w1,c4,h6,results244]
  have hok:Mz n (u,v)=true:=by simp[Mz];omega
  rw[hok]at h6;obtain⟨p,rfl⟩:∃p:Nat,u=p:=⟨u.toNat,O⟩;obtain⟨q,rfl⟩:∃q:Nat,v=q:=⟨v.toNat,O⟩;have hte:toE ((p:Int),(q:Int))=(p,q):=by simp[toE]
  rw[hte]at h6;have hm:=GQ S (p,q) h3.up O (λe he=>by have:=h4 e he;omega) (by simp only;omega);have mg:¬n<=p:=O;simp[c0,Uj,c1,c2,c3,mg,w1,c4];refine bZ hm ⟨lI H rfl,by simp[dA,j_],trivial⟩ rfl ?_;cases hmt:vR S (p,q)with
  |true=>
   rw[hmt]at h6;simp[h6,results244]
  |false=>
   rw[hmt]at h6;obtain⟨g1,g2,g3,g4⟩:=Mq h3 (e:=(p,q)) (by simp only;omega) hmt h4 (by simp only;omega);simp;refine oM (MX 3 0 1 O O O 272 1 0 [.view 1 0 S.length 2 none] S (p,q) H H h3.up O (λe he=>by have:=h4 e he;omega) (by simp only;omega)) rfl ?_;generalize gu S (p,q)=S' at*;simp;refine⟨k+1,S',⟨O,O,g1,λu v he=>g4 (u,v) he,by rw[h6];simp⟩,O,aE [(1,3)] ?_⟩;simp[aG (n:=(k:Int)+1)]
 .have e:k=es.length:=O;subst e;simp[ku]at h5;simp[h5,results244]
abbrev B5(n:Nat)(F R W:List Ext):PC:= .agg false [.int n,mj F,mj R,mj W]
def aki(n:Nat)(F R W:List Ext)(e:Ext)(hF:xP F)(he:e.1+e.2<=65536):cq 263 [lz e,.ref (.ref (B5 n F R W))] (.bool (!hasB F e)):=by
 refine ay [_] func263 rfl ?_;simp;refine aZ (akX F e hF.up (by have:=hF.len;omega) (λe he=>by have:=hF.top e he;omega) O) ?_;simp[results263]
def YZ(n:Nat)(F R W:List Ext)(e:Ext)(hF:xP F)(hW:xP W)(he:e.1+e.2<=65536):cq 245 [lz e,.ref (.ref (B5 n F R W))] (.bool (vR F e||vR W e)):=by
 refine ay [_] func245 rfl ?_;simp;refine aZ (GQ F e hF.up (by have:=hF.len;omega) (λe he=>by have:=hF.top e he;omega) O) ?_;cases vR F e with
 |true=>simp[results245]
 |false=>
  simp;refine aZ (GQ W e hW.up (by have:=hW.len;omega) (λe he=>by have:=hW.top e he;omega) O) ?_;simp[results245]
def MW{bx:List (Nat×Ob)}{k m f r w n:Nat}{F R W:List Ext}(hm:lk m bx=some (iy n f r w F R W))(hf:lk f bx=some (cI F))(hr:lk r bx=some (cI R))(hw:lk w bx=some (cI W)):dA bx (k+2) (.obj m 0) (.ref (B5 n F R W)):=by
 refine⟨_,hm,by simp[fe],?_⟩;exact⟨⟨_,rfl,.inl rfl⟩,lI hf rfl,lI hr rfl,lI hw rfl,trivial⟩
structure Ok(n:Nat)(L:List Ext):Prop where
 nr:Nr L
 top:∀e∈L,e.1+e.2<=n
def Ok.len{n:Nat}{L:List Ext}(h:Ok n L):2*L.length<=n+1:=by
 have key:∀(L:List Ext) (t:Nat),Nr L->(∀e∈L,t<=e.1/\e.1+e.2<=n)->t+2*L.length<=n+1\/L=[]:=by
  intro L
  induction L with
  |nil=>intro t _ _;exact .inr rfl
  |cons e L ih=>
   intro t hn ht;obtain⟨h1,h2,h3⟩:=mZ.1 hn;have h4:=ht e H;rcases ih (e.1+e.2+1) h2 (λx hx=>⟨by have:=h3 x hx;omega,(ht x (by simp[hx])).2⟩)with h|rfl
   .left;simp;omega
   .left;simp;omega
 rcases key L 0 h.nr (λe he=>⟨q_ _,h.top e he⟩)with h|rfl
 .omega
 .simp
def Ok.RP{n:Nat}{L:List Ext}(h:Ok n L)(hn:n<=65536):xP L:=⟨h.nr.pos,h.nr.gap,λe he=>by have:=h.top e he;omega,by have:=h.len;omega⟩
def Ok.cut{n:Nat}{L:List Ext}(h:Ok n L){e:Ext}(he:1<=e.2)(hh:hasB L e=true):Ok n (jo L e)/\∀s,mem (jo L e) s↔mem L s/\¬mF e s:=by
 obtain⟨h1,h2,_,h4⟩:=XS h.nr he hh h.top;exact⟨⟨h1,h4⟩,h2⟩
def Ok.put{n:Nat}{L:List Ext}(h:Ok n L){e:Ext}(he:1<=e.2)(hm:vR L e=false)(hn:e.1+e.2<=n):Ok n (gu L e)/\∀s,mem (gu L e) s↔mem L s\/mF e s:=by
 obtain⟨h1,h2,_,h4⟩:=Mq h.nr he hm h.top hn;exact⟨⟨h1,h4⟩,h2⟩
def pz{n:Nat}:Ok n []:=⟨Sj,H⟩
def Dj(es:List Ext):Prop:=es.Pairwise λa b=>∀s,mF a s->¬mF b s
theorem mR{n:Nat}:∀(es:eL) (S:List Ext),Ok n S->ku n S es=true->es.map F8=(es.map toE).map lz/\(∀e∈es.map toE,1<=e.2/\e.1+e.2<=n/\∀s,mF e s->¬mem S s)/\Dj (es.map toE)
 |[],_,_,_=>⟨rfl,H,.nil⟩
 |e::es,S,hS,h=>by
  simp only[ku,bG,sj]at h;obtain⟨h1,h2,h3⟩:=h;obtain⟨u,v⟩:=e;simp[Mz]at h1;have e1:1<=(toE (u,v)).2:=by simp only[toE];omega
  have e2:(toE (u,v)).1+(toE (u,v)).2<=n:=by simp only[toE];omega
  obtain⟨h4,h5⟩:=hS.put e1 h2 e2;obtain⟨i1,i2,i3⟩:=mR es _ h4 h3;refine⟨?_,?_,?_⟩
  .rw[dB,dB,dB,i1];have:F8 (u,v)=lz (toE (u,v)):=by simp only[F8,lz,toE];rw[sL O,sL O]
   rw[this]
  .intro x hx;rcases fF.1 hx with rfl|hx
   .refine⟨e1,e2,λs hs hm=>?_⟩;have:=(sd hS.nr _ e1).2 ⟨s,hs,hm⟩;rw[h2]at this;cases this
   .obtain⟨j1,j2,j3⟩:=i2 x hx;exact⟨j1,j2,λs hs hm=>j3 s hs ((h5 s).2 (.inl hm))⟩
  .refine uJ.2 ⟨λx hx s hs zH=>?_,i3⟩;exact(i2 x hx).2.2 s zH ((h5 s).2 (.inr hs))
def MU{es:List Ext}(h:Dj es){k:Nat}(hk:k<es.length){s:Nat}(hs:mF es[k] s):∀e∈es.take k,¬mF e s:=by
 intro e he OS;obtain⟨p,hp,rfl⟩:=xW he;simp at hp OS;exact yJ.1 h p k O hk O s OS hs
def B4{n:Nat}{F:List Ext}(hF:Ok n F){es:List Ext}(h1:∀e∈es,1<=e.2/\∀s,mF e s->mem F s)(hd:Dj es):∀k,k<=es.length->Ok n ((es.take k).foldl jo F)/\(∀s,mem ((es.take k).foldl jo F) s↔mem F s/\∀e∈es.take k,¬mF e s)/\∀(hk:k<es.length),hasB ((es.take k).foldl jo F) es[k]=true:=by
 have has:∀k (hk:k<es.length),Ok n ((es.take k).foldl jo F)->(∀s,mem ((es.take k).foldl jo F) s↔mem F s/\∀e∈es.take k,¬mF e s)->hasB ((es.take k).foldl jo F) es[k]=true:=by
  intro k hk hO hm;have:=h1 es[k] H;exact(qw hO.nr _ this.1).2 λs hs=>(hm s).2 ⟨this.2 s hs,MU hd hk hs⟩
 intro k
 induction k with
 |zero=>intro _;exact⟨hF,H,λhk=>has 0 hk hF H⟩
 |succ k ih=>
  intro hk;obtain⟨i1,i2,i3⟩:=ih O;have ck:k<es.length:=O;rw[kG ck,qX];simp only[F2,List.foldl_nil];obtain⟨j1,j2⟩:=i1.cut (h1 es[k] H).1 (i3 ck);have hm:∀s,mem (jo ((es.take k).foldl jo F) es[k]) s↔mem F s/\∀e∈es.take k++[es[k]],¬mF e s:=by
   intro s;rw[j2,i2];simp only[lD,gK];constructor
   .rintro⟨⟨a,b⟩,c⟩;exact⟨a,λe he=>by rcases he with he|rfl;exact b e he;exact c⟩
   .rintro⟨a,b⟩;exact⟨⟨a,λe he=>b e (.inl he)⟩,b _ (.inr rfl)⟩
  refine⟨j1,hm,λhk'=>?_⟩;have:=has (k+1) hk';rw[kG ck,qX]at this;exact this j1 hm
def pX{n:Nat}{W:List Ext}(hW:Ok n W){es:List Ext}(h1:∀e∈es,1<=e.2/\e.1+e.2<=n/\∀s,mF e s->¬mem W s)(hd:Dj es):∀k,k<=es.length->Ok n ((es.take k).foldl gu W)/\(∀s,mem ((es.take k).foldl gu W) s↔mem W s\/∃e∈es.take k,mF e s)/\∀(hk:k<es.length),vR ((es.take k).foldl gu W) es[k]=false:=by
 have has:∀k (hk:k<es.length),Ok n ((es.take k).foldl gu W)->(∀s,mem ((es.take k).foldl gu W) s↔mem W s\/∃e∈es.take k,mF e s)->vR ((es.take k).foldl gu W) es[k]=false:=by
  intro k hk hO hm;have h2:=h1 es[k] H;cases hb:vR ((es.take k).foldl gu W) es[k]with
  |false=>rfl
  |true=>
   obtain⟨s,hs,Bg⟩:=(sd hO.nr _ h2.1).1 hb;rcases(hm s).1 Bg with h|⟨e,he,h⟩
   .exact absurd h (h2.2.2 s hs)
   .exact absurd h (MU hd hk hs e he)
 intro k
 induction k with
 |zero=>intro _;exact⟨hW,H,λhk=>has 0 hk hW H⟩
 |succ k ih=>
  intro hk;obtain⟨i1,i2,i3⟩:=ih O;have ck:k<es.length:=O;rw[kG ck,qX];simp only[F2,List.foldl_nil];have hk1:=h1 es[k] H;obtain⟨j1,j2⟩:=i1.put hk1.1 (i3 ck) hk1.2.1;have hm:∀s,mem (gu ((es.take k).foldl gu W) es[k]) s↔mem W s\/∃e∈es.take k++[es[k]],mF e s:=by
   intro s;rw[j2,i2];simp only[lD,gK];constructor
   .rintro((a|⟨e,he,hs⟩)|c)
    .exact .inl a
    .exact .inr ⟨e,.inl he,hs⟩
    .exact .inr ⟨_,.inr rfl,c⟩
   .rintro(a|⟨e,he|rfl,hs⟩)
    .exact .inl (.inl a)
    .exact .inl (.inr ⟨e,he,hs⟩)
    .exact .inr hs
  refine⟨j1,hm,λhk'=>?_⟩;have:=has (k+1) hk';rw[kG ck,qX]at this;exact this j1 hm
def kg(n:Nat)(F:List Ext)(es:eL):Bool:=ku n [] es&&!(es.map toE).any λe=>!hasB F e
def fH(n:Nat)(F W:List Ext)(es:eL):Bool:=ku n [] es&&!(es.map toE).any λe=>vR F e||vR W e
def YW(n:Nat)(hn:n<=65536)(F R W:List Ext)(hF:Ok n F)(hR:Ok n R)(hW:Ok n W)(es:eL)(hl:es.length<=900):bN 173 [.obj 3 0,.p (.sl (es.map F8))] ⟨cP 3 0 1 2 n F R W,[],4⟩ (.p (.bool (kg n F es))) ⟨cP 3 4 1 2 n (if kg n F es=true then(es.map toE).foldl jo F else F) R W,[],5⟩:=by
 have hRt:=MV n O (mj F) (mj R) (mj W) es hl;have nF:=hF.RP hn;have nR:=hR.RP hn;have nW:=hW.RP hn;have hbm:∀bx k,lk 3 bx=some (iy n 0 1 2 F R W)->lk 0 bx=some (cI F)->lk 1 bx=some (cI R)->lk 2 bx=some (cI W)->dA bx (k+2) (.obj 3 0) (.ref (B5 n F R W)):=λbx k a b c d=>MW a b c d;refine aq [_] [2] [(6,[(0,.r 1),(3,.r 2),(4,.w [1,2])])] [(1,4),(2,6)] func173 rfl ?_;simp[cP,iy,fe];refine bZ hRt ⟨hbm _ _ H H H H,by simp[dA],trivial⟩ rfl ?_;cases hr:ku n [] es with
 |false=>
  have hB:kg n F es=false:=by unfold kg;rw[hr];rfl
  simp[hB,results173];exact⟨[(4,0)],by simp[fe]⟩
 |true=>
  obtain⟨g1,g2,g3⟩:=mR es [] pz hr;generalize OS:es.map toE=es' at*;have hlen:es.length=es'.length:=by rw[<-OS];simp
  rw[g1];have hC:=B6 (g:=263) (caps:=[.ref (.ref (B5 n F R W))]) (λe=>!hasB F e) es' O (λe he=>aki n F R W e nF (by have:=(g2 e he).2.1;omega));simp;refine bZ hC ⟨by simp[dA],⟨rfl,⟨⟨148,1,[.obj 3 0]⟩,.obj 3 0,H,rfl,rfl,hbm _ _ H H H H⟩,trivial⟩,trivial⟩ rfl ?_;cases ha:es'.any (λe=>!hasB F e)with
  |true=>
   have hB:kg n F es=false:=by unfold kg;rw[hr,OS,ha];rfl
   simp[hB,results173];exact⟨[(4,0)],by simp[fe]⟩
  |false=>
   have hB:kg n F es=true:=by unfold kg;rw[hr,OS,ha];rfl
   rw[uM]at ha;have DP:=B4 hF (es:=es') (λe he=>⟨(g2 e he).1,(qw hF.nr e (g2 e he).1).1 (by have:=ha e he;simpa using this)⟩) g3;rw[hB];simp;obtain⟨Fk,F9⟩:∃Fk:Nat->List Ext,Fk=λk=>(es'.take k).foldl jo F:=⟨_,rfl⟩;have h0:Fk 0=F:=by rw[F9];simp
   have hL:Fk es'.length=es'.foldl jo F:=by rw[F9];simp
   have hS:∀k (hk:k<es'.length),Fk (k+1)=jo (Fk k) es'[k]:=by intro k hk;rw[F9];simp only;rw[kG hk,qX];rfl
   have hO:∀k,k<=es'.length->Ok n (Fk k):=λk hk=>by rw[F9];exact(DP k hk).1
   have hH:∀k (hk:k<es'.length),hasB (Fk k) es'[k]=true:=λk hk=>by rw[F9];exact(DP k O).2.2 hk
   rw[<-hL];clear DP F9;refine aS (λk:Nat=>k<=es'.length) (λk=>[(2,.obj 4 0),(16,.p (mj es')),(17,.p (.int es'.length)),(18,.p (.int k))]) (λk=>⟨(4,⟨148,1,[.obj 3 0]⟩)::cP 3 5 1 2 n (Fk k) R W,[],6⟩) (λk=>es'.length-k) 0 H _ (AS.le_refl _ _) (aE [(5,0)] (by simp[cP,iy,fe,h0])) ?_;intro k hk;have k1:∀e∈es',1<=e.2/\e.1+e.2<=n:=λe he=>⟨(g2 e he).1,(g2 e he).2.1⟩;by_cases c:k<es'.length
   .have hke:=k1 es'[k] H;simp[c,cP,iy,fe];refine aN (acp 7 3 5 O O O 274 4 1 (fe n 5 1 2 (Fk k) R W) (Fk k) es'[k] H (by simp<;>omega) (hO k hk).nr.up (by have:=(hO k hk).len;omega) (λe he=>by have:=(hO k hk).top e he;omega) (hH k c)) H (by simp[aA,fe]) trivial rfl ?_;rw[<-hS k c];simp[fe];refine⟨k+1,O,O,aE [(5,7)] ?_⟩;simp[cP,iy,fe,aG (n:=(k:Int)+1)]
   .have e:k=es'.length:=O;subst e;simp[cP,iy,fe,results173];exact⟨[(4,5)],by simp[fe]⟩
def aeG(m f r w nx n:Nat)(h:RD m f r w nx)(hn:n<=65536)(F R W:List Ext)(hF:Ok n F)(hR:Ok n R)(hW:Ok n W)(es:eL)(hl:es.length<=900):bN 173 [.obj m 0,.p (.sl (es.map F8))] ⟨cP m f r w n F R W,[],nx⟩ (.p (.bool (kg n F es))) ⟨cP m nx r w n (if kg n F es=true then(es.map toE).foldl jo F else F) R W,[],nx+1⟩:=by
 simpa[cP,iy,fe]using h.cp (YW n hn F R W hF hR hW es hl)
def YX(n:Nat)(hn:n<=65536)(F R W:List Ext)(hF:Ok n F)(hR:Ok n R)(hW:Ok n W)(es:eL)(hl:es.length<=900):bN 151 [.obj 3 0,.p (.sl (es.map F8))] ⟨cP 3 0 1 2 n F R W,[],4⟩ (.p (.bool (fH n F W es))) ⟨cP 3 0 1 4 n F R (if fH n F W es=true then(es.map toE).foldl gu W else W),[],5⟩:=by
 have hRt:=MV n O (mj F) (mj R) (mj W) es hl;have nF:=hF.RP hn;have nR:=hR.RP hn;have nW:=hW.RP hn;have hbm:∀bx k,lk 3 bx=some (iy n 0 1 2 F R W)->lk 0 bx=some (cI F)->lk 1 bx=some (cI R)->lk 2 bx=some (cI W)->dA bx (k+2) (.obj 3 0) (.ref (B5 n F R W)):=λbx k a b c d=>MW a b c d;refine aq [_] [2] [(6,[(0,.r 1),(3,.r 2),(4,.w [1,2])])] [(1,4),(2,6)] func151 rfl ?_;simp[cP,iy,fe];refine bZ hRt ⟨hbm _ _ H H H H,by simp[dA],trivial⟩ rfl ?_;cases hr:ku n [] es with
 |false=>
  have hB:fH n F W es=false:=by unfold fH;rw[hr];rfl
  simp[hB,results151];exact⟨[(4,2)],by simp[fe]⟩
 |true=>
  obtain⟨g1,g2,g3⟩:=mR es [] pz hr;generalize OS:es.map toE=es' at*;have hlen:es.length=es'.length:=by rw[<-OS];simp
  rw[g1];have hC:=B6 (g:=245) (caps:=[.ref (.ref (B5 n F R W))]) (λe=>vR F e||vR W e) es' O (λe he=>YZ n F R W e nF nW (by have:=(g2 e he).2.1;omega));simp;refine bZ hC ⟨by simp[dA],⟨rfl,⟨⟨148,1,[.obj 3 0]⟩,.obj 3 0,H,rfl,rfl,hbm _ _ H H H H⟩,trivial⟩,trivial⟩ rfl ?_;cases ha:es'.any (λe=>vR F e||vR W e)with
  |true=>
   have hB:fH n F W es=false:=by unfold fH;rw[hr,OS,ha];rfl
   simp[hB,results151];exact⟨[(4,2)],by simp[fe]⟩
  |false=>
   have hB:fH n F W es=true:=by unfold fH;rw[hr,OS,ha];rfl
   rw[uM]at ha;have DP:=pX hW (es:=es') (λe he=>⟨(g2 e he).1,(g2 e he).2.1,λs hs hm=>by have h1:=ha e he;simp at h1;have:=(sd hW.nr e (g2 e he).1).2 ⟨s,hs,hm⟩;rw[h1.2]at this;cases this⟩) g3;rw[hB];simp;obtain⟨Fk,F9⟩:∃Fk:Nat->List Ext,Fk=λk=>(es'.take k).foldl gu W:=⟨_,rfl⟩;have h0:Fk 0=W:=by rw[F9];simp
   have hL:Fk es'.length=es'.foldl gu W:=by rw[F9];simp
   have hS:∀k (hk:k<es'.length),Fk (k+1)=gu (Fk k) es'[k]:=by intro k hk;rw[F9];simp only;rw[kG hk,qX];rfl
   have hO:∀k,k<=es'.length->Ok n (Fk k):=λk hk=>by rw[F9];exact(DP k hk).1
   have hH:∀k (hk:k<es'.length),vR (Fk k) es'[k]=false:=λk hk=>by rw[F9];exact(DP k O).2.2 hk
   rw[<-hL];clear DP F9;refine aS (λk:Nat=>k<=es'.length) (λk=>[(2,.obj 4 0),(16,.p (mj es')),(17,.p (.int es'.length)),(18,.p (.int k))]) (λk=>⟨(4,⟨148,1,[.obj 3 0]⟩)::cP 3 0 1 5 n F R (Fk k),[],6⟩) (λk=>es'.length-k) 0 H _ (AS.le_refl _ _) (aE [(5,2)] (by simp[cP,iy,fe,h0])) ?_;intro k hk;have k1:∀e∈es',1<=e.2/\e.1+e.2<=n:=λe he=>⟨(g2 e he).1,(g2 e he).2.1⟩;by_cases c:k<es'.length
   .have hke:=k1 es'[k] H;simp[c,cP,iy,fe];refine aN (MX 7 3 5 O O O 274 4 3 (fe n 0 1 5 F R (Fk k)) (Fk k) es'[k] H (by simp<;>omega) (hO k hk).nr.up (by have:=(hO k hk).len;omega) (λe he=>by have:=(hO k hk).top e he;omega) O) H (by simp[aA,fe]) trivial rfl ?_;rw[<-hS k c];simp[fe];refine⟨k+1,O,O,aE [(5,7)] ?_⟩;simp[cP,iy,fe,aG (n:=(k:Int)+1)]
   .have e:k=es'.length:=O;subst e;simp[cP,iy,fe,results151];exact⟨[(4,5)],by simp[fe]⟩
def Ga(m f r w nx n:Nat)(h:RD m f r w nx)(hn:n<=65536)(F R W:List Ext)(hF:Ok n F)(hR:Ok n R)(hW:Ok n W)(es:eL)(hl:es.length<=900):bN 151 [.obj m 0,.p (.sl (es.map F8))] ⟨cP m f r w n F R W,[],nx⟩ (.p (.bool (fH n F W es))) ⟨cP m f r nx n F R (if fH n F W es=true then(es.map toE).foldl gu W else W),[],nx+1⟩:=by
 simpa[cP,iy,fe]using h.cp (YX n hn F R W hF hR hW es hl)
def T7{L:List Ext}(h:Nr L):Dj L:=h.gap.imp λh s hs zH=>by unfold mF at hs zH;omega
def PJ(n:Nat)(hn:n<=65536)(F R W:List Ext)(hF:Ok n F)(hS:Ok n W)(hd:∀s,mem F s->¬mem W s):bN 76 [.obj 3 0] ⟨cP 3 0 1 2 n F R W,[],4⟩ (.agg true []) ⟨cP 3 4 5 6 n (W.foldl gu F) [] [],[],7⟩:=by
 have hSl:W.length<=65536:=by have:=hS.len;omega
 have DP:=pX hF (es:=W) (λe he=>⟨hS.nr.pos e he,hS.top e he,λs hs hm=>hd s hm ⟨e,he,hs⟩⟩) (T7 hS.nr);obtain⟨Fk,F9⟩:∃Fk:Nat->List Ext,Fk=λk=>(W.take k).foldl gu F:=⟨_,rfl⟩;have h0:Fk 0=F:=by rw[F9];simp
 have hL:Fk W.length=W.foldl gu F:=by rw[F9];simp
 have hSt:∀k (hk:k<W.length),Fk (k+1)=gu (Fk k) W[k]:=by intro k hk;rw[F9];simp only;rw[kG hk,qX];rfl
 have hO:∀k,k<=W.length->Ok n (Fk k):=λk hk=>by rw[F9];exact(DP k hk).1
 rw[<-hL];clear DP F9;have key:bN 76 [.obj 3 0] ⟨cP 3 0 1 2 n F R W,[],4⟩ (.agg true []) ⟨[(3,⟨274,4,[.p (.int n),.view 4 0 (Fk W.length).length 2 none,.p .nil,.p .nil]⟩),(4,cI (Fk W.length))],[],5⟩:=by
  refine aq [] [] [(3,[(3,.r 1),(4,.w [1])])] [(1,5)] func76 rfl ?_;simp[cP,iy,fe];refine aS (λk:Nat=>k<=W.length) (λk=>[(0,.obj 3 0),(7,.view 2 0 W.length 2 none),(8,.p (.int W.length)),(9,.p (.int k))]) (λk=>⟨cP 3 4 1 2 n (Fk k) R W,[],5⟩) (λk=>W.length-k) 0 H _ (AS.le_refl _ _) (aE [(4,0)] (by simp[cP,iy,fe,h0])) ?_;intro k hk;by_cases c:k<W.length
  .have Cp:(((dH W).map AV.p).drop (k*2)).take 2=[.p (.int W[k].1),.p (.int W[k].2)]:=by
    rw[<-jG,oW,show W.drop k=W[k]::W.drop (k+1)from eK c,eW];simp only[dB,jH,yK]
   have h2:k*2+2<=W.length*2:=O;have ht:=hS.top W[k] H;simp[c,cP,iy,fe,Cp,h2];refine aN (MX 6 3 4 O O O 274 4 1 (fe n 4 1 2 (Fk k) R W) (Fk k) W[k] H (by simp<;>omega) (hO k hk).nr.up (by have:=(hO k hk).len;omega) (λe he=>by have:=(hO k hk).top e he;omega) O) H (by simp[aA,fe]) trivial rfl ?_;rw[<-hSt k c];simp[fe];refine⟨k+1,O,O,aE [(4,6)] ?_⟩;simp[cP,iy,fe,aG (n:=(k:Int)+1)]
  .have e:k=W.length:=O;subst e;simp[cP,iy,fe,results76];exact⟨[],by simp[fe]⟩
 have k2:bN 76 [.obj 3 0] ⟨cP 3 0 1 2 n F R W,[],4⟩ (.agg true []) ⟨[(3,⟨274,4,[.p (.int n),.view 4 0 (Fk W.length).length 2 none,.view 5 0 0 2 none,.p .nil]⟩),(5,cI []),(4,cI (Fk W.length))],[],6⟩:=by
  have t:=mJ (id:=3) (j:=2) (ob:=⟨274,4,[.p (.int n),.view 4 0 (Fk W.length).length 2 none,.p .nil,.p .nil]⟩) 157 2 key (by simp[lk]) rfl;simp[Tb.aY,Tb.bD,del]at t;exact t
 have k3:bN 76 [.obj 3 0] ⟨cP 3 0 1 2 n F R W,[],4⟩ (.agg true []) ⟨[(3,⟨274,4,[.p (.int n),.view 4 0 (Fk W.length).length 2 none,.view 5 0 0 2 none,.view 6 0 0 2 none]⟩),(6,cI []),(5,cI []),(4,cI (Fk W.length))],[],7⟩:=by
  have t:=mJ (id:=3) (j:=3) (ob:=⟨274,4,[.p (.int n),.view 4 0 (Fk W.length).length 2 none,.view 5 0 0 2 none,.p .nil]⟩) 157 2 k2 (by simp[lk]) rfl;simp[Tb.aY,Tb.bD,del]at t;exact t
 refine Au k3 (λi o ho=>?_) (λi o ho=>ho) (aX _);simp only[cP,iy,fe,lk]at ho⊢;split at ho
 .rename_i h;rw[ai h];exact ho
 .rename_i RT;rw[ah RT];split at ho
  .rename_i h;subst h;simp;simpa using ho
  .split at ho
   .rename_i h;subst h;simp;simpa using ho
   .split at ho
    .rename_i h;subst h;simp;simpa using ho
    .cases ho
def lX(m f r w nx n:Nat)(h:RD m f r w nx)(hn:n<=65536)(F R W:List Ext)(hF:Ok n F)(hS:Ok n W)(hd:∀s,mem F s->¬mem W s):bN 76 [.obj m 0] ⟨cP m f r w n F R W,[],nx⟩ (.agg true []) ⟨cP m nx (nx+1) (nx+2) n (W.foldl gu F) [] [],[],nx+3⟩:=by
 simpa[cP,iy,fe,cI,dH]using h.cp (PJ n hn F R W hF hS hd)
def S7:eE prog 312:=⟨Tryz.f312,func312,bp,bp⟩
def Yt(nx id:Nat)(hid:id<nx)(L:List Ext)(hl:L.length<=65536):bN 312 [.view id 0 L.length 2 none] ⟨[(id,cI L)],[],nx⟩ (.view nx 0 L.length 2 none) ⟨[(id,cI L),(nx,cI L)],[],nx+1⟩:=by
 have hne:¬id=nx:=O;have fE:¬nx=id:=O;have hlt:id<nx+1:=O;have lF:List.take (L.length*2) ((dH L).map AV.p)=(dH L).map AV.p:=gv H;refine BI (pre:=[]) (post:=[]) S7 (λc h1 h2 h3=>?_) ?_
 .obtain⟨c,rfl⟩:∃d,c=d+1:=⟨c-1,O⟩;refine aq [_] [7] [] [] func312 rfl ?_;simp[results312,hne,fE];exact⟨O,O,[],by simp[hne,fE,hlt,lF]⟩
 .intro hn;have hL:L=[]:=o5 hn;subst hL;refine qM (pre:=[]) (post:=[]) S7 (λ_=>?_) ?_
  .have key:bN 312 [.p .nil] ⟨[(id,cI [])],[],nx⟩ (.p .nil) ⟨[(id,cI [])],[],nx⟩:=by
    refine aq [.p .nil] [7] [] [] func312 rfl ?_;simp[results312];exact⟨[],by simp[hne,fE,hid]⟩
   have:=eT (el:=157) (s:=2) key trivial;refine Au this (λi o ho=>?_) (λi o ho=>ho) (aX _);simp only[Tb.bD,lk]at ho⊢;split at ho
   .rename_i h;subst h;rw[ah hne];simpa using ho
   .split at ho
    .rename_i h;rw[ai h];exact ho
    .cases ho
  .refine aq [_] [7] [] [] func312 rfl ?_;simp[results312,hne,fE];exact⟨[],by simp[hne,fE,hlt]⟩
def Yu(n:Nat)(F R W:List Ext)(hl:F.length<=65536):bN 232 [.obj 3 0] ⟨cP 3 0 1 2 n F R W,[],4⟩ (.view 4 0 F.length 2 none) ⟨(4,cI F)::cP 3 0 1 2 n F R W,[],5⟩:=by
 refine aC [_] func232 rfl ?_;simp[cP,iy,fe];refine oM (Yt 4 0 O F hl) rfl ?_;simp[results232];exact⟨[],by simp[fe]⟩
def aem(m f r w nx n:Nat)(h:RD m f r w nx)(F R W:List Ext)(hl:F.length<=65536):bN 232 [.obj m 0] ⟨cP m f r w n F R W,[],nx⟩ (.view nx 0 F.length 2 none) ⟨(nx,cI F)::cP m f r w n F R W,[],nx+1⟩:=by
 simpa[cP,iy,fe]using h.cp (Yu n F R W hl)
end Go.Av
