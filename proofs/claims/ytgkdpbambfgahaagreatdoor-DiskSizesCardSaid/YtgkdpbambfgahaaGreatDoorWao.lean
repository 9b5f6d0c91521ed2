/- DiskSizes, part 15: what the functions compute, and the plain law of that; no condition. -/
import Derived.Test.YtgkdpbambfgahaaGreatDoorWan
set_option linter.all false
set_option maxRecDepth 100000
set_option maxHeartbeats 64000000
namespace Go.aW
def C0(n:Int)(N:UInt8)(aH:List u_):List UInt8:=72::(aF n 8++N::aH.flatMap fun p=>aF p.1 4++[p.2.getD 0 0])
def agF(n:Int)(aH:List u_):List UInt8:=C0 n (UInt8.ofNat aH.length) aH
def iO(n:Int)(aH:List u_):List cU:=uC (agF n aH)::(aH.map (fun p=>p.2.set 0 0)++[uC (67::aF n 8)])
where uC (b:List UInt8):List UInt8:=b++List.replicate (64-b.length) 0
theorem o7(n:Int)(N:UInt8)(aH:List u_):(C0 n N aH).length=10+5*aH.length:=by
 have:(aH.flatMap fun p=>aF p.1 4++[p.2.getD 0 0]).length=5*aH.length:=by
  induction aH with
  |nil=>rfl
  |cons p l ih=>simp only[List.flatMap_cons,List.length_append,ih,aY];simp;omega
 show(72::(aF n 8++N::_)).length=_;rw[List.length_cons,List.length_append,List.length_cons,this,aY];omega
end Go.aW
namespace Go.Av
open Go.Proofs Go.aW
theorem Ib(n:Int)(aH:List u_)(h1:1<=aH.length)(hm:aH.length<=10)(hp:∀p∈aH,p.2.length=64):aB Tryz.prog 355 [.int n,.sl (aH.map eM)] (.sl ((iO n aH).map cy)):=by
 refine bN (xs:=[_,_]) (r:= .view 0 0 (aH.length+2) 1 none) (aO:=⟨[(0,⟨22,1,(iO n aH).map fun b=> .p (cy b)⟩)],[],1⟩) ?_ ?_
 ·refine QgQ (rs:=[_]) [10,18,50] [(6,[(2,.r 1),(3,.w [1]),(5,.r 1),(9,.w [1])])] [(1,2)] Tryz.func355 rfl (by simp[Tryz.ntmps355]) ?_;have l8:=aY n 8;have wl:IntKind.u8.wrap (aH.length:Int)=(aH.length:Int):=by
   rw[IntKind.wrap_u8];omega
  have hN:(UInt8.ofNat aH.length).toNat=aH.length:=by simp;omega
  obtain⟨N,hNe⟩:∃N,UInt8.ofNat aH.length=N:=⟨_,rfl⟩;rw[hNe]at hN;have b0:List.take 9 (ah (72::aF n 8))++[PC.sc (.int .u8 aH.length)]=ah (C0 n N []):=by
   rw[List.take_of_length_le (by simp[ah,l8])];simp[C0,ah,hN]
  have b0':List.take 9 (List.map AV.p (ah (72::aF n 8)))++[AV.p (PC.sc (.int .u8 aH.length))]=(ah (C0 n N [])).map .p:=by
   rw[<-b0,List.map_append,List.map_take];rfl
  simp;refine az (iI 1 [72] [] (.view 0 0 1 1 none) [(0,ew [72])] 0 (.inl ⟨by simp,by simp⟩) (by simp) n 8 (by omega)) (by simp) (by simp[ay,ah]) trivial rfl ?_;simp[wl];refine⟨by omega,?_⟩;refine aN (fun k:Nat=>k<=aH.length) (fun k=>[(0,.p (.int n)),(5,.view 0 0 (10+5*k) 1 none),(6,.view 1 0 (k+1) 1 none),(19,.p (.sl (aH.map eM))),(20,.p (.int aH.length)),(21,.p (.int k))]) (fun k=>⟨[(0,ew (C0 n N (aH.take k))),(1,⟨22,1,.p .nil::((aH.take k).map fun p=>AV.p (cy (p.2.set 0 0)))⟩)],[],2⟩) (fun k=>aH.length-k) 0 (by simp) _ (AS.le_refl _ _) (aE [(0,2),(1,3)] (by simp[b0',aV])) ?_;intro k hk;by_cases ck:k<aH.length
  ·have ckl:=hp _ (List.getElem_mem ck);have lZ:aH.take (k+1)=aH.take k++[aH[k]]:=by rw[List.take_succ_eq_append_getElem ck]
   have Y4:=iI 3 (C0 n N (aH.take k)) [] (.view 0 0 (C0 n N (aH.take k)).length 1 none) [(0,ew (C0 n N (aH.take k)))] 0 (.inl ⟨rfl,by simp⟩) (by rw[o7];simp;omega) aH[k].1 4 (by omega);have hlk:(C0 n N (aH.take k)).length=10+5*k:=by rw[o7];simp;omega
   rw[hlk]at Y4;obtain⟨p,hpe⟩:∃p,aH[k]=p:=⟨_,rfl⟩;rw[hpe]at Y4 ckl lZ;have q0:(ah p.2)[0]?=some (oc p.2[0]):=by rw[List.getElem?_eq_getElem (by simp[ah];omega),cM]
   have wk:IntKind.i64.wrap ((k:Int)+1)=((k+1:Nat):Int):=by rw[af (by omega) (by omega)];rfl
   simp[ck,hpe];refine az Y4 (by simp) (by simp[ay]) trivial rfl ?_;have hz4:=aY p.1 4;simp[q0];refine⟨by omega,by omega,by omega,az (wX 5 p.2 (by omega)) (by simp) (by simp[ay]) trivial rfl ?_⟩;have gy:(AV.p (PC.sc (.int .u8 0))::(List.map AV.p (ah p.2)).tail)=(ah (p.2.set 0 0)).map .p:=by
    cases hX:p.2 with
    |nil=>rw[hX]at ckl;simp at ckl
    |cons x X=>simp[ah]
   have b3:List.take (10+5*k+4) (List.map AV.p (ah (C0 n N (List.take k aH)++aF p.1 4)))++[AV.p (PC.sc (.int .u8 p.2[0].toNat))]=(ah (C0 n N (aH.take (k+1)))).map .p:=by
    rw[List.take_of_length_le (by simp[ah];omega),lZ];have g0:p.2.getD 0 0=p.2[0]:=by rw[List.getD_eq_getElem?_getD,List.getElem?_eq_getElem (by omega)];rfl
    have g1:p.2[0]?.getD 0=p.2[0]:=by rw[List.getElem?_eq_getElem (by omega)];rfl
    simp[C0,ah,g1]
   simp[gy,b3];refine⟨by omega,by omega,?_⟩;refine Ar [cy (p.2.set 0 0)] ⟨[(4,ew (C0 n N (aH.take (k+1)))),(2,⟨364,2,[.p (.int p.1),.p (cy p.2)]⟩),(1,⟨22,1,.p .nil::List.take k (List.map (fun p=> .p (cy (p.2.set 0 0))) aH)⟩)],[],7⟩ (by simp[bq]) ?_ (by simp) (by simp) ?_
   ·simp[wZ,K2,HC];exact⟨by rw[fQ];exact List.take_of_length_le (by simp[ah]),fun y h=>cg _ y h,fun y h=>fR _ y h⟩
   have e1:10+5*k+4+1=10+5*(k+1):=by omega
   have Ic:List.take (k+1) (List.map (fun p=>AV.p (cy (p.2.set 0 0))) aH)=List.take k (List.map (fun p=>AV.p (cy (p.2.set 0 0))) aH)++[AV.p (cy (p.2.set 0 0))]:=by
    have:=congrArg (List.map fun p:u_=>AV.p (cy (p.2.set 0 0))) lZ;simpa using this
   have htt:List.take k (List.take k (List.map (fun p=>AV.p (cy (p.2.set 0 0))) aH))=List.take k (List.map (fun p=>AV.p (cy (p.2.set 0 0))) aH):=by rw[List.take_take,Nat.min_self]
   simp[wk,e1];exact⟨by omega,by omega,by omega,k+1,by omega,by omega,aE [(0,4),(1,7)] (by simp[Ic,aV,htt])⟩
  ·obtain rfl:k=aH.length:=by omega
   rw[List.take_length];have Ls:=rR (b:=dK (C0 n N aH)) (o9 2 0 (by omega) (C0 n N aH) (10+5*aH.length) (by rw[o7]) (by rw[o7];omega)) (by simp[lk]) (mE _ (by rw[o7];omega)).symm;simp;refine az Ls (by simp) (by simp[ay]) trivial rfl ?_;simp;refine az (iI 5 [67] [] (.view 4 0 1 1 none) [(4,ew [67])] 4 (.inl ⟨by simp,by simp⟩) (by simp) n 8 (by omega)) (by simp) (by simp[ay,ah]) trivial rfl ?_;simp;have aiO:=rR (b:=dK (67::aF n 8)) (o9 6 5 (by omega) (67::aF n 8) 9 (by simp[l8]) (by simp[l8])) (by simp[lk]) (mE _ (by simp[l8])).symm;refine az aiO (by simp) (by simp[ay]) trivial rfl ?_;have r1:iO n aH=dK (C0 n N aH)::(aH.map (fun p=>p.2.set 0 0)++[dK (67::aF n 8)]):=by rw[<-hNe];rfl
   simp[Tryz.results355];refine⟨by omega,by omega,[(0,8)],?_⟩;rw[r1];simp[aV];rw[List.take_of_length_le (by simp)];exact List.prefix_rfl
 ·have hrl:(iO n aH).length=aH.length+2:=by simp[iO]
  refine⟨_,by simp[lk];rfl,by omega,by simp[hrl],by simp[hrl],?_,?_,?_⟩
  ·have:∀L:List cU,(L.map cy).flatMap aV=L.map fun b=>AV.p (cy b):=by
    intro L
    induction L with
    |nil=>rfl
    |cons x L ih=>rw[List.map_cons,List.flatMap_cons,ih];rfl
   rw[this];simp only[List.drop_zero,Nat.mul_one];exact List.take_of_length_le (by simp[hrl])
  ·simp
  ·simp
end Go.Av
namespace Go.aW
def aK:List (aU->aU×Int)->aU->aU×Int
 |[],D=>(D,0)
 |f::l,D=>if(f D).2=0 then aK l (f D).1 else f D
def fmtS(aM n:Int):List (aU->aU×Int):=[fun D=>D.write (aM+0) (List.replicate n.toNat (Go.Av.dK [])),aU.flush,fun D=>D.write (aM+1) [dn ⟨1,1,2⟩],aU.flush]
def IG(D:aU)(aM n:Int):aU×Int:=if sE D.kept.length aM n=0 then aK (fmtS aM n) D else(D,sE D.kept.length aM n)
end Go.aW
namespace Go.Av
open Go.Proofs Go.aW
abbrev Bc(aM n:Int):Ob:=⟨261,3,[.obj 0 0,.p (.int aM),.p (.int n)]⟩
abbrev II(r:Nat)(L:List cU):Ob:=⟨93,1,[.own r (L.map cy)]⟩
theorem Nh(D:aU)(b:Nat)(hD:eu b D)(aM n:Int)(hf:0<=aM/\aM<=1000000)(L:List cU)(hl:L.length<=1000000)(hb:b<=1000000000):aI Tryz.prog 180 [.obj 4 0,.obj 5 0] ⟨(4,Bc aM n)::(5,II 6 L)::cC 3 D,(6,22,1)::cp 3,7⟩ (.p (.int (D.write (aM+0) L).2)) ⟨(4,Bc aM n)::(5,II 6 L)::cC 7 (D.write (aM+0) L).1,(6,22,1)::cp 7,8⟩:=by
 refine QgQ (rs:=[_]) [] [] [] Tryz.func180 rfl (by simp[Tryz.ntmps180]) ?_;simp;refine ak [0,1,2,3] (oF D b hD aM n 0 hf (by omega) L (by omega) (by omega)) (by simp) (by simp) (by simp[ay,ax]) (by simp[ay]) ?_;simp[Tryz.results180,ax];exact⟨[],by simp⟩
theorem Ni(D:aU)(b:Nat)(hD:eu b D)(aM n:Int)(hf:0<=aM/\aM<=1000000)(hb:b<=1000000000):aI Tryz.prog 182 [.obj 4 0] ⟨(4,Bc aM n)::cC 3 D,cp 3,5⟩ (.p (.int (D.write (aM+1) [dn ⟨1,1,2⟩]).2)) ⟨(4,Bc aM n)::cC 5 (D.write (aM+1) [dn ⟨1,1,2⟩]).1,cp 5,6⟩:=by
 refine QgQ (rs:=[_]) [] [(1,[(0,.r 1),(4,.w [1])])] [(1,4)] Tryz.func182 rfl (by simp[Tryz.ntmps182]) ?_;simp;refine bD (zh ⟨1,1,2⟩) ?_;simp;refine ak [0,1,2,3] (oF D b hD aM n 1 hf (by omega) [dn ⟨1,1,2⟩] (by simp) (by simp;omega)) (by simp) (by simp) (by simp[ay,ax]) (by simp[ay]) ?_;simp[Tryz.results182,ax];exact⟨[],by simp⟩
abbrev YY:Ob:=⟨91,1,[.jZ (.func 180) [.obj 4 0,.obj 5 0],.kG (.func 166) [.obj 0 0],.jZ (.func 182) [.obj 4 0],.kG (.func 166) [.obj 0 0]]⟩
theorem IJ(D:aU)(b:Nat)(hD:eu b D)(aM n:Int)(hf:0<=aM/\aM<=1000000)(hn:0<=n/\n<=1000000)(hb:b<=10000000):aI Tryz.prog 164 [.view 7 0 4 1 none] ⟨(7,YY)::(4,Bc aM n)::(5,II 6 (List.replicate n.toNat (dK [])))::cC 3 D,(6,22,1)::cp 3,8⟩ (.p (.int (aK (fmtS aM n) D).2)) ⟨(7,YY)::(4,Bc aM n)::(5,II 6 (List.replicate n.toNat (dK [])))::cC 8 (aK (fmtS aM n) D).1,(6,22,1)::cp 8,9⟩:=by
 refine QgQ (rs:=[_]) [] [] [] Tryz.func164 rfl (by simp[Tryz.ntmps164]) ?_;simp;obtain⟨L,hL⟩:∃L,List.replicate n.toNat (dK [])=L:=⟨_,rfl⟩;have hLl:L.length<=1000000:=by rw[<-hL];simp;omega
 rw[hL];refine aN (fun(kD:Nat×aU)=>kD.1<=4/\eu (b+2000000*kD.1) kD.2/\aK ((fmtS aM n).drop kD.1) kD.2=aK (fmtS aM n) D) (fun kD=>[(6,.view 7 0 4 1 none),(7,.p (.int 4)),(8,.p (.int kD.1))]) (fun kD=>⟨(7,YY)::(4,Bc aM n)::(5,II 6 L)::cC 8 kD.2,(6,22,1)::cp 8,9⟩) (fun kD=>4-kD.1) (0,D) ⟨by simp,hD,by simp⟩ _ (AS.le_refl _ _) (aE [(8,3)] (by simp[ax])) ?_;have w1:IntKind.i64.wrap 1=1:=af (by omega) (by omega);have w2:IntKind.i64.wrap 2=2:=af (by omega) (by omega);have w3:IntKind.i64.wrap 3=3:=af (by omega) (by omega);have w4:IntKind.i64.wrap 4=4:=af (by omega) (by omega);rintro⟨k,E⟩ ⟨hk,hE,hh⟩;simp only at hk hE hh;have hk':k=0\/k=1\/k=2\/k=3\/k=4:=by omega
 rcases hk' with rfl|rfl|rfl|rfl|rfl
 ·have hC:=Nh E _ hE aM n hf L hLl (by omega);have jV:=hE.write (aM+0) L;generalize hW:E.write (aM+0) L=W at hC jV;have fu:(if W.2=0 then aK ((fmtS aM n).drop 1) W.1 else W)=aK (fmtS aM n) D:=by rw[<-hh,<-hW];rw[<-hL];rfl
  simp;refine c_ [0,1,2,8,4,5,6] hC (by simp) (by simp) (by simp[ay,ax]) (by simp[ay]) ?_;by_cases c2:W.2=0
  ·rw[if_pos c2]at fu;simp[c2,ax,w1];exact⟨1,W.1,⟨by omega,jV.up (by omega),fu⟩,by omega,aE [(8,9)] (by simp[ax])⟩
  ·have dX:(W.2 !=0)=true:=by simpa using c2
   rw[if_neg c2]at fu;rw[<-fu];simp[dX,ax,Tryz.results164];exact⟨[(8,9)],by simp⟩
 ·have hC:=eL E _ hE (by omega);have jV:=hE.flush;generalize hW:E.flush=W at hC jV;have fu:(if W.2=0 then aK ((fmtS aM n).drop 2) W.1 else W)=aK (fmtS aM n) D:=by rw[<-hh,<-hW];rfl
  simp;refine c_ [0,1,2,8] hC (by simp) (by simp) (by simp[ay,ax]) (by simp[ay]) ?_;by_cases c2:W.2=0
  ·rw[if_pos c2]at fu;simp[c2,ax,w2];exact⟨2,W.1,⟨by omega,jV.up (by omega),fu⟩,by omega,aE [(8,9)] (by simp[ax])⟩
  ·have dX:(W.2 !=0)=true:=by simpa using c2
   rw[if_neg c2]at fu;rw[<-fu];simp[dX,ax,Tryz.results164];exact⟨[(8,9)],by simp⟩
 ·have hC:=Ni E _ hE aM n hf (by omega);have jV:=hE.write (aM+1) [dn ⟨1,1,2⟩];generalize hW:E.write (aM+1) [dn ⟨1,1,2⟩]=W at hC jV;have fu:(if W.2=0 then aK ((fmtS aM n).drop 3) W.1 else W)=aK (fmtS aM n) D:=by rw[<-hh,<-hW];rfl
  simp;refine c_ [0,1,2,8,4] hC (by simp) (by simp) (by simp[ay,ax]) (by simp[ay]) ?_;by_cases c2:W.2=0
  ·rw[if_pos c2]at fu;simp[c2,ax,w3];exact⟨3,W.1,⟨by omega,jV.up (by simp only[List.length_cons,List.length_nil];omega),fu⟩,by omega,aE [(8,9)] (by simp[ax])⟩
  ·have dX:(W.2 !=0)=true:=by simpa using c2
   rw[if_neg c2]at fu;rw[<-fu];simp[dX,ax,Tryz.results164];exact⟨[(8,9)],by simp⟩
 ·have hC:=eL E _ hE (by omega);have jV:=hE.flush;generalize hW:E.flush=W at hC jV;have fu:(if W.2=0 then aK ((fmtS aM n).drop 4) W.1 else W)=aK (fmtS aM n) D:=by rw[<-hh,<-hW];rfl
  simp;refine c_ [0,1,2,8] hC (by simp) (by simp) (by simp[ay,ax]) (by simp[ay]) ?_;by_cases c2:W.2=0
  ·rw[if_pos c2]at fu;simp[c2,ax,w4];exact⟨4,W.1,⟨by omega,jV.up (by omega),fu⟩,by omega,aE [(8,9)] (by simp[ax])⟩
  ·have dX:(W.2 !=0)=true:=by simpa using c2
   rw[if_neg c2]at fu;rw[<-fu];simp[dX,ax,Tryz.results164];exact⟨[(8,9)],by simp⟩
 ·rw[<-hh];simp[fmtS,aK,Tryz.results164];exact⟨[],by simp[ax]⟩
theorem Nj(D:aU)(b:Nat)(hD:eu b D)(aM n:Int)(hf:0<=aM/\aM<=1000000)(hn:0<=n/\n<=1000000)(hb:b<=10000000):aI Tryz.prog 79 [.obj 0 0,.p (.int aM),.p (.int n)] ⟨cC 3 D,cp 3,4⟩ (.p (.int (IG D aM n).2)) ⟨cC 4 (IG D aM n).1,cp 4,5⟩:=by
 have hR:=CW D hD.top aM n;unfold IG;refine QgQ (rs:=[_]) [39] [(8,[(0,.r 1),(1,.w [1]),(3,.f [1]),(4,.s 1 [])])] [(1,5)] Tryz.func79 rfl (by simp[Tryz.ntmps79]) ?_;simp;refine az hR (by simp) (by simp[ay]) trivial rfl ?_;generalize hP:sE D.kept.length aM n=P;by_cases c1:P=0
 ·subst c1;obtain⟨N,rfl⟩:∃N:Nat,n=N:=⟨n.toNat,by omega⟩;simp;refine aN (fun k:Nat=>k<=N) (fun k=>[(0,.obj 0 0),(8,.obj 4 0),(9,.obj 5 0),(23,.p (.int N)),(24,.p (.int k))]) (fun k=>⟨(4,Bc aM N)::(5,II 6 (List.replicate k (dK [])))::cC 3 D,(6,22,1)::cp 3,7⟩) (fun k=>N-k) 0 (by simp) _ (iu 5 0 22 1 ⟨93,1,[.p .nil]⟩ [] (by simp[lk]) (.inr ⟨rfl,rfl⟩)) (aA (by simp[ax,Tb.bX,Tb.aQ,del])) ?_;intro k hk;by_cases ck:k<N
  ·have wk:IntKind.i64.wrap ((k:Int)+1)=((k+1:Nat):Int):=by rw[af (by omega) (by omega)];rfl
   have Ls:=rR (b:=dK []) (xm 7) (by simp[lk]) (mE _ (by simp)).symm;simp[ck];refine az Ls (by simp) (by simp[ay]) trivial rfl ?_;simp[wk];exact⟨by omega,by omega,k+1,by omega,by omega,aE [(6,9)] (by simp[List.replicate_succ',ax])⟩
  ·obtain rfl:k=N:=by omega
   have hF:=IJ D b hD aM k hf hn hb;rw[Int.toNat_natCast]at hF;simp;refine az hF (by simp) (by simp[ay,ax]) (by simp[ay]) rfl ?_;simp[Tryz.results79];exact⟨[(4,8)],by simp[ax]⟩
 ·have jH:(P !=0)=true:=by simpa using c1
  simp[c1,jH,Tryz.results79];exact⟨[(4,3)],by simp[ax]⟩
end Go.Av
namespace Go.aW
def Cm(size:Nat)(J:Jr)(x:u_):Bool:=!tu size J.aM J.n x.1||x.2.length !=64
def m8(size:Nat)(J:Jr)(aH:List u_):Int:=if aH.length=0\/aH.any (Cm size J)=true then 2 else if 10<aH.length then 13 else if J.n-2<aH.length+2 then 30 else 0
def ko(J:Jr)(size:Int):Int×Bool:=if J.wr=true then(J.at',decide (J.at'+size<=J.base))else if J.at'+size<=J.n then(J.at',true)else if J.cnt=0 then(2,true)else(2,decide (2+size<=J.base))
end Go.aW
namespace Go.Av
open Go.Proofs Go.aW
abbrev akw(D:aU)(J:Jr):PC:= .agg false [.ref (LL D),.int J.aM,.int J.n,.int J.F0.number,.int J.F0.first,.int J.F0.at',.int J.next,.int J.at',.int J.base,.bool J.wr,.sl (J.cq.map eM),.int J.cnt]
theorem Z3(D:aU)(hl:D.kept.length<=65536)(J:Jr)(hJ:Bo J)(x:u_):aB Tryz.prog 380 [eM x,.ref (.ref (akw D J))] (.bool (Cm D.kept.length J x)):=by
 have hO:=xq D hl J.aM J.n x.1 hJ.aM (by have:=hJ.n;omega);refine QpQ (ys:=[_]) [] [] [] Tryz.func380 rfl (by simp[Tryz.ntmps380]) ?_;simp;refine bD hO ?_;unfold Cm;cases c1:tu D.kept.length J.aM J.n x.1 with
 |false=>simp[Tryz.results380]
 |true=>
  have e:((x.2.length:Int)==64)=(x.2.length==64):=by
   by_cases h:x.2.length=64
   ·simp[h]
   ·have h1:(x.2.length==64)=false:=by simpa using h
    have h2:((x.2.length:Int)==64)=false:=by simp;omega
    rw[h1,h2]
  simp[Tryz.results380,bne,e]
theorem L3(D:aU)(b:Nat)(hD:eu b D)(J:Jr)(hJ:Bo J)(aH:List u_)(hp:aH.length<=1000000):aI Tryz.prog 354 [.obj 4 0,.p (.sl (aH.map eM))] ⟨(4,eY 0 5 J)::cC 3 D,(5,364,2)::cp 3,6⟩ (.p (.int (m8 D.kept.length J aH))) ⟨(4,eY 0 5 J)::cC 3 D,(5,364,2)::cp 3,6⟩:=by
 have hn:=hJ.n;unfold m8;refine QgQ (rs:=[_]) [2] [] [] Tryz.func354 rfl (by simp[Tryz.ntmps354]) ?_;by_cases c1:aH.length=0
 ·obtain rfl:aH=[]:=List.eq_nil_of_length_eq_zero c1;simp[Tryz.results354];exact⟨[],by simp[ax]⟩
 have jH:((aH.length:Int)==0)=false:=by simpa using c1
 have akx:=K4 380 [.ref (.ref (akw D J))] (Cm D.kept.length J) aH (by omega) (fun x _=>Z3 D hD.top J hJ x);generalize aH.any (Cm D.kept.length J)=B at akx⊢;simp[c1,jH,eY];refine ze 6 akx ?_ rfl ?_
 ·have s1:=jC _ hD.kept;have s2:=jC _ hD.now;simp[ie,cQ];refine⟨rfl,⟨by simp[ax,s1],by rw[vF];simp only[ax];exact List.take_of_length_le (by simp[s1]),hD.kept⟩,by simp[ax,s2],by rw[vF];simp only[ax];exact List.take_of_length_le (by simp[s2]),hD.now⟩
 by_cases c2:B=true
 ·simp[c2,Tryz.results354];exact⟨[],by simp[ax]⟩
 have w1:IntKind.i64.wrap ((aH.length:Int)+2)=(aH.length:Int)+2:=af (by omega) (by omega);have w2:IntKind.i64.wrap (J.n-2)=J.n-2:=af (by omega) (by omega);by_cases c3:10<aH.length
 ·have lq:(10:Int)<aH.length:=by omega
  simp[c2,c3,lq,Tryz.results354];exact⟨[],by simp[ax]⟩
 have lq:¬(10:Int)<aH.length:=by omega
 by_cases c4:J.n-2<(aH.length:Int)+2
 ·simp[c2,c3,lq,c4,w1,w2,Tryz.results354];exact⟨[],by simp[ax]⟩
 ·simp[c2,c3,lq,c4,w1,w2,Tryz.results354];exact⟨[],by simp[ax]⟩
theorem Gh(J:Jr)(hJ:Bo J)(size:Int)(hs:0<=size/\size<=1000000):aI Tryz.prog 356 [.obj 4 0,.p (.int size)] ⟨[(4,eY 0 5 J)],[(5,364,2)],6⟩ (.agg true [.p (.int (ko J size).1),.p (.bool (ko J size).2)]) ⟨[(4,eY 0 5 J)],[(5,364,2)],6⟩:=by
 have ha:=hJ.at';have hb:=hJ.base;have w1:IntKind.i64.wrap (J.at'+size)=J.at'+size:=af (by omega) (by omega);have w2:IntKind.i64.wrap (2+size)=2+size:=af (by omega) (by omega);unfold ko;refine QgQ (rs:=[_,_]) [4] [(2,[(3,.r 1),(7,.r 1),(13,.r 1)]),(3,[(3,.r 1),(10,.r 1)]),(7,[(5,.r 1)])] [(1,4)] Tryz.func356 rfl (by simp[Tryz.ntmps356]) ?_;cases c1:J.wr with
 |true=>
  simp[eY,c1,w1,Tryz.results356];exact⟨[],by simp⟩
 |false=>
  by_cases c2:J.at'+size<=J.n
  ·simp[eY,c1,c2,w1,Tryz.results356];exact⟨[],by simp⟩
  by_cases c3:J.cnt=0
  ·simp[eY,c1,c2,c3,w1,Tryz.results356];exact⟨[],by simp⟩
  ·have lq:(J.cnt==0)=false:=by simpa using c3
   simp[eY,c1,c2,c3,lq,w1,w2,Tryz.results356];exact⟨[],by simp⟩
end Go.Av
namespace Go.aW
def iN(J:Jr):List (aU->aU×Int):=[aU.flush,gC J.cq,aU.flush,J.tell,aU.flush]
def Jr.settle(J:Jr)(D:aU):Jr×aU×Int:=if J.cnt=0 then(J,D,0)else if(aK (iN J) D).2=0 then(J.settled,(aK (iN J) D).1,0)else(J,(aK (iN J) D).1,(aK (iN J) D).2)
theorem eu.tell{b:Nat}{D:aU}(h:eu b D)(J:Jr):eu (b+1) (J.tell D).1:=h.write _ [_]
theorem eu.first{b c:Nat}:∀(l:List (aU->aU×Int)) {D:aU},eu b D->(∀f∈l,∀b D,eu b D->eu (b+c) (f D).1)->eu (b+l.length*c) (aK l D).1
 |[],_,h,_=>h.up (by simp)
 |f::l,D,h,hf=>by
  have h1:=hf f (by simp) b D h;unfold aK;split
  ·exact(eu.first l h1 (fun g hg=>hf g (by simp[hg]))).up (by rw[List.length_cons,Nat.succ_mul];omega)
  ·exact h1.up (by rw[List.length_cons,Nat.succ_mul];omega)
theorem eu.iN{b:Nat}{D:aU}(h:eu b D)(J:Jr):eu (b+5*(J.cq.length+1)) (aK (iN J) D).1:=eu.first (c:=J.cq.length+1) (Go.aW.iN J) h (by
 intro f hf b D hD;simp only[Go.aW.iN,List.mem_cons,List.not_mem_nil,or_false]at hf;rcases hf with rfl|rfl|rfl|rfl|rfl
 ·exact hD.flush.up (by omega)
 ·exact(hD.home J.cq).up (by omega)
 ·exact hD.flush.up (by omega)
 ·exact(hD.tell J).up (by omega)
 ·exact hD.flush.up (by omega))
end Go.aW
namespace Go.Av
open Go.Proofs Go.aW
abbrev VC:Ob:=⟨91,1,[.kG (.func 166) [.obj 0 0],.kG (.func 165) [.obj 4 0],.kG (.func 166) [.obj 0 0],.kG (.func 167) [.obj 4 0],.kG (.func 166) [.obj 0 0]]⟩
theorem G3(D:aU)(b:Nat)(hD:eu b D)(J:Jr)(hJ:Bo J)(hb:b<=10000000000)(ho:∀p∈J.cq,-9223372036854775808<=p.1/\p.1<=9223372036854775807):aI Tryz.prog 164 [.view 6 0 5 1 none] ⟨(6,VC)::(4,eY 0 5 J)::cC 3 D,(5,364,2)::cp 3,7⟩ (.p (.int (aK (iN J) D).2)) ⟨(6,VC)::(4,eY 0 5 J)::cC 7 (aK (iN J) D).1,(5,364,2)::cp 7,8⟩:=by
 have yt:=hJ.cq;refine QgQ (rs:=[_]) [] [] [] Tryz.func164 rfl (by simp[Tryz.ntmps164]) ?_;simp;refine aN (fun(kD:Nat×aU)=>kD.1<=5/\eu (b+2000000000*kD.1) kD.2/\aK ((iN J).drop kD.1) kD.2=aK (iN J) D) (fun kD=>[(6,.view 6 0 5 1 none),(7,.p (.int 5)),(8,.p (.int kD.1))]) (fun kD=>⟨(6,VC)::(4,eY 0 5 J)::cC 7 kD.2,(5,364,2)::cp 7,8⟩) (fun kD=>5-kD.1) (0,D) ⟨by simp,hD,by simp⟩ _ (AS.le_refl _ _) (aE [(7,3)] (by simp[ax])) ?_;have w1:IntKind.i64.wrap 1=1:=af (by omega) (by omega);have w2:IntKind.i64.wrap 2=2:=af (by omega) (by omega);have w3:IntKind.i64.wrap 3=3:=af (by omega) (by omega);have w4:IntKind.i64.wrap 4=4:=af (by omega) (by omega);have w5:IntKind.i64.wrap 5=5:=af (by omega) (by omega);rintro⟨k,E⟩ ⟨hk,hE,hh⟩;simp only at hk hE hh;have hk':k=0\/k=1\/k=2\/k=3\/k=4\/k=5:=by omega
 rcases hk' with rfl|rfl|rfl|rfl|rfl|rfl
 ·have hC:=eL E _ hE (by omega);have jV:=hE.flush;generalize hW:E.flush=W at hC jV;have fu:(if W.2=0 then aK ((iN J).drop 1) W.1 else W)=aK (iN J) D:=by rw[<-hh,<-hW];rfl
  simp;refine c_ [0,1,2,7] hC (by simp) (by simp) (by simp[ay,ax]) (by simp[ay]) ?_;by_cases c2:W.2=0
  ·rw[if_pos c2]at fu;simp[c2,ax,w1];exact⟨1,W.1,⟨by omega,jV.up (by omega),fu⟩,by omega,aE [(7,8)] (by simp[ax])⟩
  ·have dX:(W.2 !=0)=true:=by simpa using c2
   rw[if_neg c2]at fu;rw[<-fu];simp[dX,ax,Tryz.results164];exact⟨[(7,8)],by simp⟩
 ·have hC:=Fv E _ hE J hJ (by omega) ho;have jV:=hE.home J.cq;generalize hW:gC J.cq E=W at hC jV;have fu:(if W.2=0 then aK ((iN J).drop 2) W.1 else W)=aK (iN J) D:=by rw[<-hh,<-hW];rfl
  simp;refine c_ [0,1,2,7,4,5] hC (by simp) (by simp) (by simp[ay,ax]) (by simp[ay]) ?_;by_cases c2:W.2=0
  ·rw[if_pos c2]at fu;simp[c2,ax,w2];exact⟨2,W.1,⟨by omega,jV.up (by omega),fu⟩,by omega,aE [(7,8)] (by simp[ax])⟩
  ·have dX:(W.2 !=0)=true:=by simpa using c2
   rw[if_neg c2]at fu;rw[<-fu];simp[dX,ax,Tryz.results164];exact⟨[(7,8)],by simp⟩
 ·have hC:=eL E _ hE (by omega);have jV:=hE.flush;generalize hW:E.flush=W at hC jV;have fu:(if W.2=0 then aK ((iN J).drop 3) W.1 else W)=aK (iN J) D:=by rw[<-hh,<-hW];rfl
  simp;refine c_ [0,1,2,7] hC (by simp) (by simp) (by simp[ay,ax]) (by simp[ay]) ?_;by_cases c2:W.2=0
  ·rw[if_pos c2]at fu;simp[c2,ax,w3];exact⟨3,W.1,⟨by omega,jV.up (by omega),fu⟩,by omega,aE [(7,8)] (by simp[ax])⟩
  ·have dX:(W.2 !=0)=true:=by simpa using c2
   rw[if_neg c2]at fu;rw[<-fu];simp[dX,ax,Tryz.results164];exact⟨[(7,8)],by simp⟩
 ·have hC:=Fw E _ hE J hJ (by omega);have jV:=hE.tell J;generalize hW:J.tell E=W at hC jV;have fu:(if W.2=0 then aK ((iN J).drop 4) W.1 else W)=aK (iN J) D:=by rw[<-hh,<-hW];rfl
  simp;refine c_ [0,1,2,7,4,5] hC (by simp) (by simp) (by simp[ay,ax]) (by simp[ay]) ?_;by_cases c2:W.2=0
  ·rw[if_pos c2]at fu;simp[c2,ax,w4];exact⟨4,W.1,⟨by omega,jV.up (by omega),fu⟩,by omega,aE [(7,8)] (by simp[ax])⟩
  ·have dX:(W.2 !=0)=true:=by simpa using c2
   rw[if_neg c2]at fu;rw[<-fu];simp[dX,ax,Tryz.results164];exact⟨[(7,8)],by simp⟩
 ·have hC:=eL E _ hE (by omega);have jV:=hE.flush;generalize hW:E.flush=W at hC jV;have fu:(if W.2=0 then aK ((iN J).drop 5) W.1 else W)=aK (iN J) D:=by rw[<-hh,<-hW];rfl
  simp;refine c_ [0,1,2,7] hC (by simp) (by simp) (by simp[ay,ax]) (by simp[ay]) ?_;by_cases c2:W.2=0
  ·rw[if_pos c2]at fu;simp[c2,ax,w5];exact⟨5,W.1,⟨by omega,jV.up (by omega),fu⟩,by omega,aE [(7,8)] (by simp[ax])⟩
  ·have dX:(W.2 !=0)=true:=by simpa using c2
   rw[if_neg c2]at fu;rw[<-fu];simp[dX,ax,Tryz.results164];exact⟨[(7,8)],by simp⟩
 ·rw[<-hh];simp[iN,aK,Tryz.results164];exact⟨[],by simp[ax]⟩
theorem Ht(D:aU)(b:Nat)(hD:eu b D)(J:Jr)(hJ:Bo J)(hb:b<=10000000000)(ho:∀p∈J.cq,-9223372036854775808<=p.1/\p.1<=9223372036854775807):aI Tryz.prog 100 [.obj 4 0] ⟨(4,eY 0 5 J)::cC 3 D,(5,364,2)::cp 3,6⟩ (.p (.int (J.settle D).2.2)) ⟨(4,eY 0 7 (J.settle D).1)::cC 6 (J.settle D).2.1,(7,364,2)::cp 6,8⟩:=by
 have hF:=G3 D b hD J hJ hb ho;have hS:=wS J;unfold Jr.settle;refine QgQ (rs:=[_]) [4,31] [(3,[(4,.r 1),(12,.r 1),(20,.r 1),(22,.w [1]),(23,.w [1])])] [(1,4)] Tryz.func100 rfl (by simp[Tryz.ntmps100]) ?_;by_cases c:J.cnt=0
 ·simp[eY,c,Tryz.results100];exact⟨[(6,3),(7,5)],by simp[ax];intro a b h;omega⟩
 have c':(J.cnt==0)=false:=by simpa using c
 generalize aK (iN J) D=W at hF⊢;simp[eY,c,c'];refine az hF (by simp) (by simp[ay,ax]) (by simp[ay]) rfl ?_;by_cases c2:W.2=0
 ·simp[c2];refine ak [0,1,2,7,4,5] hS (by simp) (by simp) (by simp[ay]) (by simp[ay]) ?_;simp[ax,Tryz.results100];exact⟨[(6,7),(7,8)],by simp;intro a b h;omega⟩
 ·have dX:(W.2 !=0)=true:=by simpa using c2
  simp[c2,dX,Tryz.results100];exact⟨[(6,7),(7,5)],by simp[ax];intro a b h;omega⟩
theorem SV(nx k:Nat)(hb:k<=4000000000000):aI Tryz.prog 381 [.p .nil,.p (.int k)] ⟨[],[],nx⟩ (.view nx 0 0 1 none) ⟨[(nx,⟨22,1,[]⟩)],[],nx+1⟩:=by
 have w1:IntKind.i64.wrap (k:Int)=k:=af (by omega) (by omega);by_cases h0:k=0
 ·subst h0;refine fU (r:= .p .nil) (aO:=⟨[],[],nx⟩) (el:=22) (s:=1) ?_ trivial;refine QgQ (rs:=[_]) [22] [] [] Tryz.func381 rfl (by simp[Tryz.ntmps381]) ?_;have z:IntKind.i64.wrap 0=0:=af (by omega) (by omega);simp[Tryz.results381,z];exact⟨[],by simp⟩
 ·have e0:0<k:=by omega
  have z:IntKind.i64.wrap 0=0:=af (by omega) (by omega);refine QgQ (rs:=[_]) [22] [] [] Tryz.func381 rfl (by simp[Tryz.ntmps381]) ?_;simp[Tryz.results381,w1,z,e0];exact⟨by omega,by omega,[],by simp⟩
theorem I1(nx:Nat)(L:List (List PC))(hw:∀l∈L,∀x∈l,x.width=1)(ht:∀l∈L,∀x∈l,cF x=true)(hb:(L.map List.length).sum<=1000000000000)(uy:L.length<=1000000000000):aI Tryz.prog 358 [.p (.sl (L.map .sl))] ⟨[],[],nx⟩ (.view nx 0 (L.map List.length).sum 1 none) ⟨[(nx,⟨22,1,(L.flatten.flatMap gu).map .p⟩)],[],nx+1⟩:=by
 refine QgQ (rs:=[_]) [] [] [] Tryz.func358 rfl (by simp[Tryz.ntmps358]) ?_;simp;refine bW (fun k:Nat=>k<=L.length) (fun k=>[(0,.p (.sl (L.map .sl))),(2,.p .nil),(9,.p (.sl (L.map .sl))),(10,.p (.int L.length)),(3,.p (.int ((L.map List.length).take k).sum)),(11,.p (.int k))]) (fun k=>L.length-k) 0 (by simp) (aA (by simp)) ?_;intro k hk;by_cases c1:k<L.length
 ·have e1:decide ((k:Int)<L.length)=true:=by simp;omega
  have hs:((L.map List.length).take (k+1)).sum=((L.map List.length).take k).sum+L[k].length:=by
   rw[kM (by simpa using c1)];simp
  have Xb:=lO (L.map List.length) (k+1);have w1:IntKind.i64.wrap ((((L.map List.length).take k).sum:Int)+(L[k].length:Int))=(((L.map List.length).take (k+1)).sum:Int):=by rw[hs];push_cast;exact af (by omega) (by omega)
  have w2:IntKind.i64.wrap ((k:Int)+1)=((k+1:Nat):Int):=by rw[af (by omega) (by omega)];rfl
  have e2:decide ((((L.map List.length).take (k+1)).sum:Int)<0)=false:=by simp
  simp[c1,w1,w2];refine⟨k+1,by omega,by omega,aA ?_⟩;simp
 ·have e1:decide ((k:Int)<L.length)=false:=by simp;omega
  have hk':(L.map List.length).take k=L.map List.length:=List.take_of_length_le (by simp;omega);simp[c1,hk'];refine az (SV nx (L.map List.length).sum (by omega)) (by simp) trivial trivial rfl ?_;simp;refine aN (fun k:Nat=>k<=L.length) (fun k=>[(0,.p (.sl (L.map .sl))),(2,.p .nil),(25,.p (.sl (L.map .sl))),(26,.p (.int L.length)),(6,.view nx 0 ((L.map List.length).take k).sum 1 none),(27,.p (.int k))]) (fun k=>⟨[(nx,⟨22,1,((L.take k).flatten.flatMap gu).map .p⟩)],[],nx+1⟩) (fun k=>L.length-k) 0 (by simp) _ (AS.le_refl _ _) (aA (by simp)) ?_;clear hk c1 e1 hk' k;intro k hk;by_cases c1:k<L.length
  ·have e1:decide ((k:Int)<L.length)=true:=by simp;omega
   have hs:((L.map List.length).take (k+1)).sum=((L.map List.length).take k).sum+L[k].length:=by
    rw[kM (by simpa using c1)];simp
   have Xb:=lO (L.map List.length) (k+1);have w2:IntKind.i64.wrap ((k:Int)+1)=((k+1:Nat):Int):=by rw[af (by omega) (by omega)];rfl
   have hwk:=hw L[k] (by simp);have lZ:=ht L[k] (by simp);have hfl:(L.take (k+1)).flatten=(L.take k).flatten++L[k]:=by rw[kM c1];simp only[List.flatten_append,List.flatten_cons,List.flatten_nil,List.append_nil]
   have hlen:(((L.take k).flatten.flatMap gu).map AV.p).length=((L.map List.length).take k).sum:=by
    have hww:∀x∈(L.take k).flatten,x.width=1:=fun x hx=>by
     obtain⟨l,hl,hx⟩:=List.mem_flatten.1 hx;exact hw l (List.mem_of_mem_take hl) x hx
    have:=mm hww;simp only[List.length_map,this,List.length_flatten,List.map_take,Nat.mul_one]
   have Xc:List.take ((L.map List.length).take k).sum (((L.take k).flatten.flatMap gu).map AV.p)=((L.take k).flatten.flatMap gu).map AV.p:=List.take_of_length_le (by omega);simp[c1,w2];refine⟨by simpa using Nat.le_of_eq hlen.symm,hwk,lZ,by omega,by omega,k+1,by omega,by omega,aE [(nx,nx+1)] ?_⟩;rw[hfl,hs,Xc];simp
  ·have e1:decide ((k:Int)<L.length)=false:=by simp;omega
   have hkL:k=L.length:=by omega
   subst hkL;have hk':(L.map List.length).take L.length=L.map List.length:=List.take_of_length_le (by simp);simp[Tryz.results358,hk'];exact⟨[],by simp⟩
theorem E7(L:List (List PC))(hw:∀l∈L,∀x∈l,x.width=1)(ht:∀l∈L,∀x∈l,cF x=true)(hb:(L.map List.length).sum<=1000000000000)(uy:L.length<=1000000000000):aB Tryz.prog 358 [.sl (L.map .sl)] (.sl L.flatten):=bN (xs:=[_]) (I1 0 L hw ht hb uy) (Cp (e:=22) (by simp) (by simp[List.length_flatten]) (fun x h=>by obtain⟨l,h1,h2⟩:=List.mem_flatten.1 h;exact hw l h1 x h2) (fun x h=>by obtain⟨l,h1,h2⟩:=List.mem_flatten.1 h;exact ht l h1 x h2))
theorem Wr(L:List (List cU))(hb:L.flatten.length<=1000000000000)(uy:L.length<=1000000000000):aB Tryz.prog 358 [.sl (L.map fun l=> .sl (l.map cy))] (.sl (L.flatten.map cy)):=by
 have h:=E7 (L.map (List.map cy)) (fun l hl x hx=>by obtain⟨b,_,rfl⟩:=List.mem_map.1 hl;obtain⟨c,_,rfl⟩:=List.mem_map.1 hx;rfl) (fun l hl x hx=>by obtain⟨b,_,rfl⟩:=List.mem_map.1 hl;obtain⟨c,_,rfl⟩:=List.mem_map.1 hx;rfl) (by
  have e:((L.map (List.map cy)).map List.length).sum=L.flatten.length:=by
   rw[List.length_flatten,List.map_map];congr 1;refine List.map_congr_left fun b _=>by simp
  omega) (by simpa using uy)
 rw[<-List.map_flatten,List.map_map]at h;exact h
end Go.Av
namespace Go.aW
def fP(aM:Int)(L:List cU)(a:Int):List (aU->aU×Int):=[fun D=>D.write (aM+a) (L.take (L.length-1)++[Go.Av.dK []]),aU.flush,fun D=>D.write (aM+(a+(L.length-1:Nat))) [L.getD (L.length-1) []]]
end Go.aW
namespace Go.Av
open Go.Proofs Go.aW
@[reducible]def Eg(q:Nat)(D:aU)(J:Jr)(L:List cU)(a:Int)(m:Nat):List (Nat×Ob):=(6,⟨147,1,[.obj 4 0]⟩)::(8,⟨3,1,[.p (.int a)]⟩)::(7,⟨93,1,[.p (.sl (L.map cy))]⟩)::(9,⟨3,1,[.p (.int m)]⟩)::(4,eY 0 5 J)::cC q D
theorem PS(D:aU)(b:Nat)(hD:eu b D)(J:Jr)(hJ:Bo J)(L:List cU)(m:Nat)(hm:L.length=m+1)(hm2:m<=1000000)(a:Int)(ha:0<=a/\a<=100000000)(hb:b<=100000000000):aI Tryz.prog 357 [.obj 6 0,.obj 8 0,.obj 7 0,.obj 9 0] ⟨Eg 3 D J L a m,(5,364,2)::cp 3,10⟩ (.p (.int (D.write (J.aM+a) (L.take m++[dK []])).2)) ⟨Eg 10 (D.write (J.aM+a) (L.take m++[dK []])).1 J L a m,(5,364,2)::cp 10,11⟩:=by
 have hf:=hJ.aM;have Wq:=Wr [L.take m,[dK []]] (by simp;omega) (by simp);have hW:=oF D b hD J.aM J.n a hf (by omega) (L.take m++[dK []]) (by simp;omega) (by simp;omega);generalize hX:L.take m++[dK []]=X at hW⊢;have hX2:[L.take m,[dK []]].flatten=X:=by rw[<-hX];simp
 rw[hX2]at Wq;simp at Wq;have Ls:=rR (b:=dK []) (xm 10) (by simp[lk]) (mE _ (by simp)).symm;refine QgQ (rs:=[_]) [4] [(1,[(0,.r 1),(3,.r 2),(4,.r 3),(5,.r 4),(6,.r 5),(8,.w [1,2,3,4,5]),(12,.w [1,2,3,4,5])])] [(1,6),(2,4),(3,8),(4,7),(5,9)] Tryz.func357 rfl (by simp[Tryz.ntmps357]) ?_;simp[eY,hm];refine az Ls (by simp) (by simp[ay]) trivial rfl ?_;simp;refine bD Wq ?_;simp;refine ak [0,1,2,3] hW (by simp) (by simp) (by simp[ay,ax]) (by simp[ay]) ?_;simp[Tryz.results357,ax];exact⟨[(10,12)],by simp⟩
theorem PT(D:aU)(b:Nat)(hD:eu b D)(J:Jr)(hJ:Bo J)(L:List cU)(m:Nat)(hm:L.length=m+1)(hm2:m<=1000000)(a:Int)(ha:0<=a/\a<=100000000)(hb:b<=100000000000):aI Tryz.prog 359 [.obj 6 0,.obj 8 0,.obj 9 0,.obj 7 0] ⟨Eg 3 D J L a m,(5,364,2)::cp 3,10⟩ (.p (.int (D.write (J.aM+(a+m)) [L.getD m []]).2)) ⟨Eg 10 (D.write (J.aM+(a+m)) [L.getD m []]).1 J L a m,(5,364,2)::cp 10,11⟩:=by
 have hf:=hJ.aM;have hW:=oF D b hD J.aM J.n (a+m) hf (by omega) [L.getD m []] (by simp) (by simp;omega);have gm:L.getD m []=L[m]:=by rw[List.getD_eq_getElem?_getD,List.getElem?_eq_getElem (by omega)];rfl
 rw[gm]at hW⊢;have w1:IntKind.i64.wrap (a+m)=a+m:=af (by omega) (by omega);have hmL:m<L.length:=by omega
 refine QgQ (rs:=[_]) [4] [(1,[(0,.r 1),(3,.r 2),(4,.r 3),(5,.r 5),(7,.r 4),(8,.r 5),(12,.w [1,2,3,4,5])])] [(1,6),(2,4),(3,8),(4,7),(5,9)] Tryz.func359 rfl (by simp[Tryz.ntmps359]) ?_;simp[eY,hm,w1];refine ak [0,1,2,3] hW (by simp) (by simp) (by simp[ay,ax]) (by simp[ay]) ?_;simp[Tryz.results359,ax];exact⟨[],by simp⟩
end Go.Av
namespace Go.aW
theorem eu.com{b:Nat}{D:aU}(h:eu b D)(aM:Int)(L:List cU)(a:Int):eu (b+3*(L.length+1)) (aK (fP aM L a) D).1:=eu.first (c:=L.length+1) (fP aM L a) h (by
 intro f hf b D hD;simp only[fP,List.mem_cons,List.not_mem_nil,or_false]at hf;rcases hf with rfl|rfl|rfl
 ·exact(hD.write _ _).up (by simp)
 ·exact hD.flush.up (by omega)
 ·exact(hD.write _ _).up (by simp))
end Go.aW
namespace Go.Av
open Go.Proofs Go.aW
abbrev Xu:Ob:=⟨91,1,[.jZ (.func 357) [.obj 6 0,.obj 8 0,.obj 7 0,.obj 9 0],.kG (.func 166) [.obj 0 0],.jZ (.func 359) [.obj 6 0,.obj 8 0,.obj 9 0,.obj 7 0]]⟩
theorem zn(D:aU)(b:Nat)(hD:eu b D)(J:Jr)(hJ:Bo J)(L:List cU)(m:Nat)(hm:L.length=m+1)(hm2:m<=1000000)(a:Int)(ha:0<=a/\a<=100000000)(hb:b<=50000000000):aI Tryz.prog 164 [.view 10 0 3 1 none] ⟨(10,Xu)::Eg 3 D J L a m,(5,364,2)::cp 3,11⟩ (.p (.int (aK (fP J.aM L a) D).2)) ⟨(10,Xu)::Eg 11 (aK (fP J.aM L a) D).1 J L a m,(5,364,2)::cp 11,12⟩:=by
 have hS:fP J.aM L a=[fun D=>D.write (J.aM+a) (L.take m++[dK []]),aU.flush,fun D=>D.write (J.aM+(a+m)) [L.getD m []]]:=by
  unfold fP;rw[show L.length-1=m by omega]
 refine QgQ (rs:=[_]) [] [] [] Tryz.func164 rfl (by simp[Tryz.ntmps164]) ?_;simp;refine aN (fun(kD:Nat×aU)=>kD.1<=3/\eu (b+2000000*kD.1) kD.2/\aK ((fP J.aM L a).drop kD.1) kD.2=aK (fP J.aM L a) D) (fun kD=>[(6,.view 10 0 3 1 none),(7,.p (.int 3)),(8,.p (.int kD.1))]) (fun kD=>⟨(10,Xu)::Eg 11 kD.2 J L a m,(5,364,2)::cp 11,12⟩) (fun kD=>3-kD.1) (0,D) ⟨by simp,hD,by simp⟩ _ (AS.le_refl _ _) (aE [(11,3)] (by simp[ax])) ?_;have w1:IntKind.i64.wrap 1=1:=af (by omega) (by omega);have w2:IntKind.i64.wrap 2=2:=af (by omega) (by omega);have w3:IntKind.i64.wrap 3=3:=af (by omega) (by omega);rintro⟨k,E⟩ ⟨hk,hE,hh⟩;simp only at hk hE hh;have hk':k=0\/k=1\/k=2\/k=3:=by omega
 rcases hk' with rfl|rfl|rfl|rfl
 ·have hC:=PS E _ hE J hJ L m hm hm2 a ha (by omega);have jV:=hE.write (J.aM+a) (L.take m++[dK []]);generalize hW:E.write (J.aM+a) (L.take m++[dK []])=W at hC jV;have fu:(if W.2=0 then aK ((fP J.aM L a).drop 1) W.1 else W)=aK (fP J.aM L a) D:=by rw[<-hh,<-hW,hS];rfl
  simp;refine c_ [0,1,2,11,4,5,6,7,8,9] hC (by simp) (by simp) (by simp[ay,ax]) (by simp[ay]) ?_;by_cases c2:W.2=0
  ·rw[if_pos c2]at fu;simp[c2,ax,w1];exact⟨1,W.1,⟨by omega,jV.up (by rw[List.length_append,List.length_take];simp only[List.length_cons,List.length_nil];omega),fu⟩,by omega,aE [(11,12)] (by simp[ax])⟩
  ·have dX:(W.2 !=0)=true:=by simpa using c2
   rw[if_neg c2]at fu;rw[<-fu];simp[dX,ax,Tryz.results164];exact⟨[(11,12)],by simp⟩
 ·have hC:=eL E _ hE (by omega);have jV:=hE.flush;generalize hW:E.flush=W at hC jV;have fu:(if W.2=0 then aK ((fP J.aM L a).drop 2) W.1 else W)=aK (fP J.aM L a) D:=by rw[<-hh,<-hW,hS];rfl
  simp;refine c_ [0,1,2,11] hC (by simp) (by simp) (by simp[ay,ax]) (by simp[ay]) ?_;by_cases c2:W.2=0
  ·rw[if_pos c2]at fu;simp[c2,ax,w2];exact⟨2,W.1,⟨by omega,jV.up (by omega),fu⟩,by omega,aE [(11,12)] (by simp[ax])⟩
  ·have dX:(W.2 !=0)=true:=by simpa using c2
   rw[if_neg c2]at fu;rw[<-fu];simp[dX,ax,Tryz.results164];exact⟨[(11,12)],by simp⟩
 ·have hC:=PT E _ hE J hJ L m hm hm2 a ha (by omega);have jV:=hE.write (J.aM+(a+m)) [L.getD m []];generalize hW:E.write (J.aM+(a+m)) [L.getD m []]=W at hC jV;have fu:(if W.2=0 then aK ((fP J.aM L a).drop 3) W.1 else W)=aK (fP J.aM L a) D:=by rw[<-hh,<-hW,hS];rfl
  simp;refine c_ [0,1,2,11,4,5,6,7,8,9] hC (by simp) (by simp) (by simp[ay,ax]) (by simp[ay]) ?_;by_cases c2:W.2=0
  ·rw[if_pos c2]at fu;simp[c2,ax,w3];exact⟨3,W.1,⟨by omega,jV.up (by simp only[List.length_cons,List.length_nil];omega),fu⟩,by omega,aE [(11,12)] (by simp[ax])⟩
  ·have dX:(W.2 !=0)=true:=by simpa using c2
   rw[if_neg c2]at fu;rw[<-fu];simp[dX,ax,Tryz.results164];exact⟨[(11,12)],by simp⟩
 ·rw[<-hh,hS];simp[aK,Tryz.results164];exact⟨[],by simp[ax]⟩
end Go.Av
namespace Go.aW
def Jr.done(J:Jr)(aH:List u_)(a:Int):Jr:={J with base:=if J.cnt=0 then a else J.base,wr:=if J.cnt=0 then J.wr else if a<J.at' then true else J.wr,at':=a+(aH.length+2),cq:=J.cq++aH,next:=IntKind.i64.wrap (J.next+1),cnt:=IntKind.i64.wrap (J.cnt+1)}
def Jr.Cl(J:Jr)(D:aU)(aH:List u_)(a:Int):Jr×aU×Bool×Int:=if(aK (fP J.aM (iO J.next aH) a) D).2=0 then(J.done aH a,(aK (fP J.aM (iO J.next aH) a) D).1.flush.1,true,(aK (fP J.aM (iO J.next aH) a) D).1.flush.2)else(J,(aK (fP J.aM (iO J.next aH) a) D).1,false,(aK (fP J.aM (iO J.next aH) a) D).2)
def Jr.aX(J:Jr)(D:aU)(aH:List u_):Jr×aU×Bool×Int:=if m8 D.kept.length J aH=0 then
 (if(ko J (aH.length+2)).2=true then J.Cl D aH (ko J (aH.length+2)).1
 else if(J.settle D).2.2=0 then(J.settle D).1.Cl (J.settle D).2.1 aH (ko (J.settle D).1 (aH.length+2)).1
 else((J.settle D).1,(J.settle D).2.1,false,(J.settle D).2.2))else(J,D,false,m8 D.kept.length J aH)
theorem L0{size:Nat}{J:Jr}{aH:List u_}(h:m8 size J aH=0):1<=aH.length/\aH.length<=10/\(aH.length:Int)+4<=J.n/\∀p∈aH,tu size J.aM J.n p.1=true/\p.2.length=64:=by
 unfold m8 at h;split at h
 ·omega
 ·rename_i h1;split at h
  ·omega
  ·split at h
   ·omega
   ·have h3:¬aH.length=0:=fun e=>h1 (.inl e);have h4:¬aH.any (Cm size J)=true:=fun e=>h1 (.inr e);refine⟨by omega,by omega,by omega,fun p hp=>?_⟩;have h5:¬Cm size J p=true:=fun e=>h4 (List.any_eq_true.2 ⟨p,hp,e⟩);unfold Cm at h5;simp at h5;exact h5
theorem AO{J:Jr}(s:Int)(h:0<=J.at'/\J.at'<=100000000):0<=(ko J s).1/\(ko J s).1<=100000000:=by
 unfold ko;split
 ·exact h
 ·split
  ·exact h
  ·split
   ·simp
   ·simp
theorem rZ(n:Int)(aH:List u_):(iO n aH).length=aH.length+2:=by simp[iO]
end Go.aW
namespace Go.Av
open Go.Proofs Go.aW
theorem Eo{J:Jr}(h:Bo J):Bo J.settled:=⟨h.aM,h.n,by simp[Jr.settled],h.at',h.at'⟩
theorem zm{J:Jr}(h:Bo J)(D:aU):Bo (J.settle D).1:=by
 unfold Jr.settle;split
 ·exact h
 ·split
  ·exact Eo h
  ·exact h
theorem m9(J:Jr)(D:aU):(J.settle D).1.next=J.next/\(J.settle D).1.aM=J.aM/\(J.settle D).1.at'=J.at'/\(J.settle D).1.cq.length<=J.cq.length:=by
 unfold Jr.settle;split
 ·exact⟨rfl,rfl,rfl,Nat.le_refl _⟩
 ·split
  ·exact⟨rfl,rfl,rfl,by simp[Jr.settled]⟩
  ·exact⟨rfl,rfl,rfl,Nat.le_refl _⟩
theorem Ep{b:Nat}{D:aU}(h:eu b D)(J:Jr):eu (b+5*(J.cq.length+1)) (J.settle D).2.1:=by
 unfold Jr.settle;split
 ·exact h.up (by omega)
 ·split
  ·exact h.iN J
  ·exact h.iN J
theorem Ia(D:aU)(b:Nat)(hD:eu b D)(J:Jr)(hJ:Bo J)(hb:b<=1000000000)(dS:J.at'<=90000000)(ho:∀p∈J.cq,-9223372036854775808<=p.1/\p.1<=9223372036854775807)(yt:J.cq.length<=1000000)(aH:List u_)(hpl:aH.length<=1000000):aI Tryz.prog 313 [.obj 4 0,.p (.sl (aH.map eM))] ⟨(4,eY 0 5 J)::cC 3 D,(5,364,2)::cp 3,6⟩ (.agg true [.p (.bool (J.aX D aH).2.2.1),.p (.int (J.aX D aH).2.2.2)]) ⟨(4,eY 0 7 (J.aX D aH).1)::cC 6 (J.aX D aH).2.1,(7,364,2)::cp 6,8⟩:=by
 have hFt:=L3 D b hD J hJ aH hpl;obtain⟨R,ig⟩:∃R,J.aX D aH=R:=⟨_,rfl⟩;rw[ig];unfold Jr.aX at ig;refine QgQ (rs:=[_,_]) [2,4,63] [(25,[(0,.r 1),(1,.r 1),(4,.r 2),(6,.r 3),(8,.r 3),(12,.f [1,2,3]),(15,.s 2 [1,3])]),(19,[(0,.r 4),(1,.r 1),(4,.r 2)])] [(1,6),(2,4),(3,9),(4,8)] Tryz.func313 rfl (by simp[Tryz.ntmps313]) ?_;by_cases c1:m8 D.kept.length J aH=0
 ·rw[c1]at hFt;obtain⟨h1,h10,hn,hp⟩:=L0 c1;have hR:=Ib J.next aH h1 h10 (fun p hp'=>(hp p hp').2);have hLl:=rZ J.next aH;have hRo:=Gh J hJ (aH.length+2) (by omega);have hRb:=AO (J:=J) (aH.length+2) (by have:=hJ.at';omega);rw[if_pos c1]at ig;unfold Jr.Cl at ig;simp;refine ak [0,1,2,3,4,5] hFt (by simp) (by simp) (by simp[ay,ax,eY]) (by simp[ay]) ?_;simp[ax,eY];refine ai hR (by simp) ?_;generalize hLe:iO J.next aH=L at hLl ig;have Oi:(L.length:Int)=(aH.length:Int)+2:=by omega
  generalize hroom:ko J (aH.length+2)=RM at hRo hRb ig;obtain⟨A,ok⟩:=RM;simp only at hRo hRb ig;have wl:IntKind.i64.wrap ((aH.length:Int)+2-1)=((aH.length+1:Nat):Int):=by rw[af (by omega) (by omega)];omega
  have wA:IntKind.i64.wrap (A+((aH.length:Int)+2))=A+((aH.length:Int)+2):=af (by omega) (by omega);simp[Oi];refine ak [0,1,2,3,4,5] hRo (by simp) (by simp) (by simp[ay]) (by simp[ay]) ?_;cases ok with
  |true=>
   have hF:=zn D b hD J hJ L (aH.length+1) (by omega) (by omega) A hRb (by omega);generalize hCm:aK (fP J.aM L A) D=W at hF ig;simp[Oi,wl];refine az hF (by simp) (by simp[ay,ax]) (by simp[ay]) rfl ?_;by_cases c2:W.2=0
   ·rw[if_pos rfl,if_pos c2]at ig;rw[<-ig];have W9:eu (b+3*(L.length+1)) W.1:=by rw[<-hCm];exact hD.com J.aM L A
    by_cases c3:J.cnt=0
    ·obtain⟨Jx,Cn⟩:∃Jx:Jr,Jx={J with base:=A,at':=A+(aH.length+2)}:=⟨_,rfl⟩;simp[c2,c3,eY,Oi,wA,ax];refine aN (fun k:Nat=>k<=aH.length) (fun k=>[(2,.obj 6 0),(95,.p (.sl (aH.map eM))),(96,.p (.int aH.length)),(97,.p (.int k))]) (fun k=>⟨(6,⟨147,1,[.obj 4 0]⟩)::(4,eY 0 8 {Jx with cq:=J.cq++aH.take k})::cC 7 W.1,(8,364,2)::cp 7,9⟩) (fun k=>aH.length-k) 0 (by simp) _ (AS.le_refl _ _) (aE [(7,11),(8,5)] (by simp[ax,Cn,eY,c3])) ?_;intro k hk;by_cases ck:k<aH.length
     ·have gR:=jb aH[k].2 (by rw[(hp _ (List.getElem_mem ck)).2];omega);have Ic:List.take (k+1) (List.map eM aH)=List.take k (List.map eM aH)++[eM aH[k]]:=by rw[List.take_succ_eq_append_getElem (by simpa using ck)];simp
      have wk:IntKind.i64.wrap ((k:Int)+1)=((k+1:Nat):Int):=by rw[af (by omega) (by omega)];rfl
      simp[ck,eY];refine bD gR ?_;simp[wk];refine⟨fun x hx=>?_,by omega,by omega,k+1,by omega,by omega,aE [(8,10)] (by simp[Ic,ax])⟩;rcases hx with⟨a,b,_,rfl⟩|hx
      ·rfl
      ·obtain⟨y,_,rfl⟩:=List.mem_map.1 (List.mem_of_mem_take hx);rfl
     ·obtain rfl:k=aH.length:=by omega
      rw[List.take_length];simp[eY];refine ak [0,1,2,7] (eL W.1 _ W9 (by omega)) (by simp) (by simp) (by simp[ay,ax]) (by simp[ay]) ?_;simp[Tryz.results313,ax];exact⟨[(6,9),(7,8)],by simp[Jr.done,Cn,c3];intro a b h;omega⟩
    ·have lq:(J.cnt==0)=false:=by simpa using c3
     by_cases c4:A<J.at'
     ·obtain⟨Jx,Cn⟩:∃Jx:Jr,Jx={J with wr:=true,at':=A+(aH.length+2)}:=⟨_,rfl⟩;simp[c2,lq,c4,eY,Oi,wA,ax];refine aN (fun k:Nat=>k<=aH.length) (fun k=>[(2,.obj 6 0),(95,.p (.sl (aH.map eM))),(96,.p (.int aH.length)),(97,.p (.int k))]) (fun k=>⟨(6,⟨147,1,[.obj 4 0]⟩)::(4,eY 0 8 {Jx with cq:=J.cq++aH.take k})::cC 7 W.1,(8,364,2)::cp 7,9⟩) (fun k=>aH.length-k) 0 (by simp) _ (AS.le_refl _ _) (aE [(7,11),(8,5)] (by simp[ax,Cn,eY])) ?_;intro k hk;by_cases ck:k<aH.length
      ·have gR:=jb aH[k].2 (by rw[(hp _ (List.getElem_mem ck)).2];omega);have Ic:List.take (k+1) (List.map eM aH)=List.take k (List.map eM aH)++[eM aH[k]]:=by rw[List.take_succ_eq_append_getElem (by simpa using ck)];simp
       have wk:IntKind.i64.wrap ((k:Int)+1)=((k+1:Nat):Int):=by rw[af (by omega) (by omega)];rfl
       simp[ck,eY];refine bD gR ?_;simp[wk];refine⟨fun x hx=>?_,by omega,by omega,k+1,by omega,by omega,aE [(8,10)] (by simp[Ic,ax])⟩;rcases hx with⟨a,b,_,rfl⟩|hx
       ·rfl
       ·obtain⟨y,_,rfl⟩:=List.mem_map.1 (List.mem_of_mem_take hx);rfl
      ·obtain rfl:k=aH.length:=by omega
       rw[List.take_length];simp[eY];refine ak [0,1,2,7] (eL W.1 _ W9 (by omega)) (by simp) (by simp) (by simp[ay,ax]) (by simp[ay]) ?_;simp[Tryz.results313,ax];exact⟨[(6,9),(7,8)],by simp[Jr.done,Cn,c3,c4];intro a b h;omega⟩
     ·obtain⟨Jx,Cn⟩:∃Jx:Jr,Jx={J with at':=A+(aH.length+2)}:=⟨_,rfl⟩;simp[c2,lq,c4,eY,Oi,wA,ax];refine aN (fun k:Nat=>k<=aH.length) (fun k=>[(2,.obj 6 0),(95,.p (.sl (aH.map eM))),(96,.p (.int aH.length)),(97,.p (.int k))]) (fun k=>⟨(6,⟨147,1,[.obj 4 0]⟩)::(4,eY 0 8 {Jx with cq:=J.cq++aH.take k})::cC 7 W.1,(8,364,2)::cp 7,9⟩) (fun k=>aH.length-k) 0 (by simp) _ (AS.le_refl _ _) (aE [(7,11),(8,5)] (by simp[ax,Cn,eY])) ?_;intro k hk;by_cases ck:k<aH.length
      ·have gR:=jb aH[k].2 (by rw[(hp _ (List.getElem_mem ck)).2];omega);have Ic:List.take (k+1) (List.map eM aH)=List.take k (List.map eM aH)++[eM aH[k]]:=by rw[List.take_succ_eq_append_getElem (by simpa using ck)];simp
       have wk:IntKind.i64.wrap ((k:Int)+1)=((k+1:Nat):Int):=by rw[af (by omega) (by omega)];rfl
       simp[ck,eY];refine bD gR ?_;simp[wk];refine⟨fun x hx=>?_,by omega,by omega,k+1,by omega,by omega,aE [(8,10)] (by simp[Ic,ax])⟩;rcases hx with⟨a,b,_,rfl⟩|hx
       ·rfl
       ·obtain⟨y,_,rfl⟩:=List.mem_map.1 (List.mem_of_mem_take hx);rfl
      ·obtain rfl:k=aH.length:=by omega
       rw[List.take_length];simp[eY];refine ak [0,1,2,7] (eL W.1 _ W9 (by omega)) (by simp) (by simp) (by simp[ay,ax]) (by simp[ay]) ?_;simp[Tryz.results313,ax];exact⟨[(6,9),(7,8)],by simp[Jr.done,Cn,c3,c4];intro a b h;omega⟩
   ·have dX:(W.2 !=0)=true:=by simpa using c2
    rw[if_pos rfl,if_neg c2]at ig;rw[<-ig];simp[dX,ax,Tryz.results313];exact⟨[(6,11),(7,5)],by simp;intro a b h;omega⟩
  |false=>
   have hSt:=Ht D b hD J hJ (by omega) ho;have hJ1:=zm hJ D;obtain⟨kp1,kp2,kp3,kp4⟩:=m9 J D;have xy:=Ep hD J;rw[kp1,kp2,hLe]at ig;rw[<-kp2]at ig;generalize J.settle D=S at hSt hJ1 ig kp1 kp2 kp3 kp4 xy;obtain⟨J1,D1,e⟩:=S;simp only at hSt hJ1 ig kp1 kp2 kp3 kp4 xy;rw[if_neg (by simp)]at ig;simp;refine ak [0,1,2,3,4,5] hSt (by simp) (by simp) (by simp[ay,ax]) (by simp[ay]) ?_;by_cases c5:e=0
   ·rw[if_pos c5]at ig;have W_:=Gh J1 hJ1 (aH.length+2) (by omega);have Xa:=AO (J:=J1) (aH.length+2) (by have:=hJ1.at';omega);generalize am1:ko J1 (aH.length+2)=RM at W_ Xa ig;obtain⟨A1,ok1⟩:=RM;simp only at W_ Xa ig;have V_:IntKind.i64.wrap (A1+((aH.length:Int)+2))=A1+((aH.length:Int)+2):=af (by omega) (by omega);simp[c5,ax,Oi];refine ak [0,1,2,9,4,10] W_ (by simp) (by simp) (by simp[ay]) (by simp[ay]) ?_;have hF:=zn D1 _ xy J1 hJ1 L (aH.length+1) (by omega) (by omega) A1 Xa (by omega);generalize hCm:aK (fP J1.aM L A1) D1=W at hF ig;simp[Oi,wl];refine ak [0,1,2,9,4,10,6,7,8,11,12] hF (by simp) (by simp) (by simp[ay,ax]) (by simp[ay]) ?_;by_cases c2:W.2=0
    ·rw[if_pos c2]at ig;rw[<-ig];have W9:eu (b+5*(J.cq.length+1)+3*(L.length+1)) W.1:=by rw[<-hCm];exact xy.com J1.aM L A1
     by_cases c3:J1.cnt=0
     ·obtain⟨Jx,Cn⟩:∃Jx:Jr,Jx={J1 with base:=A1,at':=A1+(aH.length+2)}:=⟨_,rfl⟩;simp[c2,c3,eY,Oi,V_,ax];refine aN (fun k:Nat=>k<=aH.length) (fun k=>[(2,.obj 6 0),(95,.p (.sl (aH.map eM))),(96,.p (.int aH.length)),(97,.p (.int k))]) (fun k=>⟨(6,⟨147,1,[.obj 4 0]⟩)::(4,eY 0 8 {Jx with cq:=J1.cq++aH.take k})::cC 7 W.1,(8,364,2)::cp 7,9⟩) (fun k=>aH.length-k) 0 (by simp) _ (AS.le_refl _ _) (aE [(7,13),(8,10)] (by simp[ax,Cn,eY,c3])) ?_;intro k hk;by_cases ck:k<aH.length
      ·have gR:=jb aH[k].2 (by rw[(hp _ (List.getElem_mem ck)).2];omega);have Ic:List.take (k+1) (List.map eM aH)=List.take k (List.map eM aH)++[eM aH[k]]:=by rw[List.take_succ_eq_append_getElem (by simpa using ck)];simp
       have wk:IntKind.i64.wrap ((k:Int)+1)=((k+1:Nat):Int):=by rw[af (by omega) (by omega)];rfl
       simp[ck,eY];refine bD gR ?_;simp[wk];refine⟨fun x hx=>?_,by omega,by omega,k+1,by omega,by omega,aE [(8,10)] (by simp[Ic,ax])⟩;rcases hx with⟨a,b,_,rfl⟩|hx
       ·rfl
       ·obtain⟨y,_,rfl⟩:=List.mem_map.1 (List.mem_of_mem_take hx);rfl
      ·obtain rfl:k=aH.length:=by omega
       rw[List.take_length];simp[eY];refine ak [0,1,2,7] (eL W.1 _ W9 (by omega)) (by simp) (by simp) (by simp[ay,ax]) (by simp[ay]) ?_;simp[Tryz.results313,ax];exact⟨[(6,9),(7,8)],by simp[Jr.done,Cn,c3];intro a b h;omega⟩
     ·have lq:(J1.cnt==0)=false:=by simpa using c3
      by_cases c4:A1<J1.at'
      ·obtain⟨Jx,Cn⟩:∃Jx:Jr,Jx={J1 with wr:=true,at':=A1+(aH.length+2)}:=⟨_,rfl⟩;simp[c2,lq,c4,eY,Oi,V_,ax];refine aN (fun k:Nat=>k<=aH.length) (fun k=>[(2,.obj 6 0),(95,.p (.sl (aH.map eM))),(96,.p (.int aH.length)),(97,.p (.int k))]) (fun k=>⟨(6,⟨147,1,[.obj 4 0]⟩)::(4,eY 0 8 {Jx with cq:=J1.cq++aH.take k})::cC 7 W.1,(8,364,2)::cp 7,9⟩) (fun k=>aH.length-k) 0 (by simp) _ (AS.le_refl _ _) (aE [(7,13),(8,10)] (by simp[ax,Cn,eY])) ?_;intro k hk;by_cases ck:k<aH.length
       ·have gR:=jb aH[k].2 (by rw[(hp _ (List.getElem_mem ck)).2];omega);have Ic:List.take (k+1) (List.map eM aH)=List.take k (List.map eM aH)++[eM aH[k]]:=by rw[List.take_succ_eq_append_getElem (by simpa using ck)];simp
        have wk:IntKind.i64.wrap ((k:Int)+1)=((k+1:Nat):Int):=by rw[af (by omega) (by omega)];rfl
        simp[ck,eY];refine bD gR ?_;simp[wk];refine⟨fun x hx=>?_,by omega,by omega,k+1,by omega,by omega,aE [(8,10)] (by simp[Ic,ax])⟩;rcases hx with⟨a,b,_,rfl⟩|hx
        ·rfl
        ·obtain⟨y,_,rfl⟩:=List.mem_map.1 (List.mem_of_mem_take hx);rfl
       ·obtain rfl:k=aH.length:=by omega
        rw[List.take_length];simp[eY];refine ak [0,1,2,7] (eL W.1 _ W9 (by omega)) (by simp) (by simp) (by simp[ay,ax]) (by simp[ay]) ?_;simp[Tryz.results313,ax];exact⟨[(6,9),(7,8)],by simp[Jr.done,Cn,c3,c4];intro a b h;omega⟩
      ·obtain⟨Jx,Cn⟩:∃Jx:Jr,Jx={J1 with at':=A1+(aH.length+2)}:=⟨_,rfl⟩;simp[c2,lq,c4,eY,Oi,V_,ax];refine aN (fun k:Nat=>k<=aH.length) (fun k=>[(2,.obj 6 0),(95,.p (.sl (aH.map eM))),(96,.p (.int aH.length)),(97,.p (.int k))]) (fun k=>⟨(6,⟨147,1,[.obj 4 0]⟩)::(4,eY 0 8 {Jx with cq:=J1.cq++aH.take k})::cC 7 W.1,(8,364,2)::cp 7,9⟩) (fun k=>aH.length-k) 0 (by simp) _ (AS.le_refl _ _) (aE [(7,13),(8,10)] (by simp[ax,Cn,eY])) ?_;intro k hk;by_cases ck:k<aH.length
       ·have gR:=jb aH[k].2 (by rw[(hp _ (List.getElem_mem ck)).2];omega);have Ic:List.take (k+1) (List.map eM aH)=List.take k (List.map eM aH)++[eM aH[k]]:=by rw[List.take_succ_eq_append_getElem (by simpa using ck)];simp
        have wk:IntKind.i64.wrap ((k:Int)+1)=((k+1:Nat):Int):=by rw[af (by omega) (by omega)];rfl
        simp[ck,eY];refine bD gR ?_;simp[wk];refine⟨fun x hx=>?_,by omega,by omega,k+1,by omega,by omega,aE [(8,10)] (by simp[Ic,ax])⟩;rcases hx with⟨a,b,_,rfl⟩|hx
        ·rfl
        ·obtain⟨y,_,rfl⟩:=List.mem_map.1 (List.mem_of_mem_take hx);rfl
       ·obtain rfl:k=aH.length:=by omega
        rw[List.take_length];simp[eY];refine ak [0,1,2,7] (eL W.1 _ W9 (by omega)) (by simp) (by simp) (by simp[ay,ax]) (by simp[ay]) ?_;simp[Tryz.results313,ax];exact⟨[(6,9),(7,8)],by simp[Jr.done,Cn,c3,c4];intro a b h;omega⟩
    ·have dX:(W.2 !=0)=true:=by simpa using c2
     rw[if_neg c2]at ig;rw[<-ig];simp[dX,ax,Tryz.results313];exact⟨[(6,13),(7,10)],by simp;intro a b h;omega⟩
   ·have pP:(e !=0)=true:=by simpa using c5
    rw[if_neg c5]at ig;rw[<-ig];simp[pP,ax,Tryz.results313];exact⟨[(6,9),(7,10)],by simp;intro a b h;omega⟩
 ·have jH:(m8 D.kept.length J aH !=0)=true:=by simpa using c1
  rw[if_neg c1]at ig;rw[<-ig];simp;refine ak [0,1,2,3,4,5] hFt (by simp) (by simp) (by simp[ay,ax,eY]) (by simp[ay]) ?_;simp[jH,ax,eY,Tryz.results313];exact⟨[(6,3),(7,5)],by simp;intro a b h;omega⟩
end Go.Av
namespace Go.aW
def tH(size:Nat)(all:List cU)(J:Jr):Option Jr:=if(oC size J.aM J.n all J.at' J.next).2=true then
 some {J with at':=J.at'+((oC size J.aM J.n all J.at' J.next).1.length+2),cq:=J.cq++(oC size J.aM J.n all J.at' J.next).1,next:=IntKind.i64.wrap (J.next+1)}else if(oC size J.aM J.n all 2 J.next).2=true then
 some {J with at':=2+((oC size J.aM J.n all 2 J.next).1.length+2),cq:=J.cq++(oC size J.aM J.n all 2 J.next).1,next:=IntKind.i64.wrap (J.next+1)}else none
def kU(size:Nat)(all:List cU):Nat->Jr->Jr
 |0,J=>J
 |k+1,J=>match tH size all J with
  |some J'=>kU size all k J'
  |none=>J
def QO(all:List cU)(i:Nat):Int:=cK (((all.getD i []).drop 1).take 8)
structure HV(size:Nat)(aM n:Int)(all:List cU)(m:Mk)(r:Nat)(J:Jr):Prop where
 aM:J.aM=aM
 n:J.n=n
 F0:J.F0=m
 base:J.base=m.at'
 wr:J.wr=false
 cnt:J.cnt=0
 lo:2<=J.at'
 hi:J.at'<=all.length
 cq:J.cq.length<=10*r
 pos:∀p∈J.cq,0<=p.1/\p.1<size
 next:(J.next-m.first-r)%18446744073709551616=0
 used:∃is:List Nat,is.length=r/\is.Nodup/\∀i∈is,i<all.length/\∃t:Nat,t<r/\(QO all i-m.first-t)%18446744073709551616=0
theorem xu:∀(n:Nat) (l:List Nat),l.Nodup->(∀x∈l,x<n)->l.length<=n
 |0,l,_,h=>by
  cases l with
  |nil=>simp
  |cons x l=>have:=h x (by simp);omega
 |n+1,l,hn,h=>by
  have h1:=xu n (l.erase n) (hn.erase n) (fun x hx=>by
   have h2:=(hn.mem_erase_iff).1 hx;have:=h x h2.2;omega)
  rw[List.length_erase]at h1;split at h1
  ·omega
  ·omega
theorem rW(x:Int):(IntKind.i64.wrap x-x)%18446744073709551616=0:=by
 rw[IntWalk.i64_left];unfold RowKit.wrap64;omega
theorem tI{size:Nat}{aM n:Int}{all:List cU}{a nx:Int}(h:(oC size aM n all a nx).2=true):2<=a/\a<all.length/\QO all a.toNat=nx/\(oC size aM n all a nx).1.length<=10/\1<=(oC size aM n all a nx).1.length/\a+((oC size aM n all a nx).1.length+2)<=all.length/\∀p∈(oC size aM n all a nx).1,0<=p.1/\p.1<size:=by
 unfold oC at h⊢;by_cases hB:Ap all a nx=true
 ·rw[if_pos hB]at h;simp only[if_pos hB];unfold Ap at hB;simp only[Bool.and_eq_true,decide_eq_true_eq,beq_iff_eq]at hB;obtain⟨⟨⟨⟨⟨⟨⟨h1,h2⟩,h3⟩,h4⟩,h5⟩,h6⟩,h7⟩,h8⟩:=hB;have hl:(Aq all a).length=((all.getD a.toNat []).getD 9 0).toNat:=by simp[Aq]
  refine⟨h1,h2,h4,by omega,by omega,by omega,fun p hp=>?_⟩;have h9:¬((Aq all a).any fun x=>!tu size aM n x.1)=true:=by simpa using h
  have h10:tu size aM n p.1=true:=by
   cases hc:tu size aM n p.1 with
   |true=>rfl
   |false=>exact absurd (List.any_eq_true.2 ⟨p,hp,by rw[hc];rfl⟩) h9
  unfold tu at h10;simp at h10;omega
 ·rw[if_neg hB]at h;cases h
theorem HW{size:Nat}{aM n:Int}{all:List cU}{m:Mk}{r:Nat}{J J':Jr}(hl:all.length<=65536)(h:HV size aM n all m r J)(hr:tH size all J=some J'):HV size aM n all m (r+1) J'/\r<all.length:=by
 obtain⟨h1,h2,h3,h4,h5,h6,h7,h8,h9,h10,h11,is,i1,i2,i3⟩:=h;have key:∀a:Int,(oC size J.aM J.n all a J.next).2=true->HV size aM n all m (r+1) {J with at':=a+((oC size J.aM J.n all a J.next).1.length+2),cq:=J.cq++(oC size J.aM J.n all a J.next).1,next:=IntKind.i64.wrap (J.next+1)}/\r<all.length:=by
  intro a ha;obtain⟨f1,f2,f3,f4,f5,f6,f7⟩:=tI ha;have hr0:r<=all.length:=i1▸xu _ is i2 (fun x hx=>(i3 x hx).1);have hnew:a.toNat∉is:=fun hm=>by
   obtain⟨_,t,t1,t2⟩:=i3 _ hm;rw[f3]at t2;omega
  have hnd:(a.toNat::is).Nodup:=List.nodup_cons.2 ⟨hnew,i2⟩;have hlen:=xu all.length (a.toNat::is) hnd (fun x hx=>by
   rcases List.mem_cons.1 hx with rfl|hx
   ·omega
   ·exact(i3 x hx).1)
  have hw:=rW (J.next+1);refine⟨⟨h1,h2,h3,h4,h5,h6,by show 2<=a+_;omega,f6,by simp only[List.length_append];omega,fun p hp=>?_,by show(IntKind.i64.wrap (J.next+1)-m.first-((r+1:Nat):Int))%_=0;omega,a.toNat::is,by simp[i1],hnd,fun i hi=>?_⟩,by simp[i1]at hlen;omega⟩
  ·rcases List.mem_append.1 hp with hp|hp
   ·exact h10 p hp
   ·exact f7 p hp
  ·rcases List.mem_cons.1 hi with rfl|hi
   ·exact⟨by omega,r,by omega,by rw[f3];exact h11⟩
   ·obtain⟨j1,t,t1,t2⟩:=i3 i hi;exact⟨j1,t,by omega,t2⟩
 unfold tH at hr;split at hr
 ·rename_i hc;injection hr with hr;subst hr;exact key J.at' hc
 ·split at hr
  ·rename_i hc;injection hr with hr;subst hr;exact key 2 hc
  ·cases hr
def mN(J:Jr):List (aU->aU×Int):=[gC J.cq,aU.flush,J.tell,aU.flush]
end Go.aW
namespace Go.Av
open Go.Proofs Go.aW
abbrev Zt:Ob:=⟨91,1,[.kG (.func 165) [.obj 4 0],.kG (.func 166) [.obj 0 0],.kG (.func 167) [.obj 4 0],.kG (.func 166) [.obj 0 0]]⟩
theorem IV(D:aU)(b:Nat)(hD:eu b D)(J:Jr)(hJ:Bo J)(hb:b<=10000000000)(ho:∀p∈J.cq,-9223372036854775808<=p.1/\p.1<=9223372036854775807):aI Tryz.prog 164 [.view 6 0 4 1 none] ⟨(6,Zt)::(4,eY 0 5 J)::cC 3 D,(5,364,2)::cp 3,7⟩ (.p (.int (aK (mN J) D).2)) ⟨(6,Zt)::(4,eY 0 5 J)::cC 7 (aK (mN J) D).1,(5,364,2)::cp 7,8⟩:=by
 have yt:=hJ.cq;refine QgQ (rs:=[_]) [] [] [] Tryz.func164 rfl (by simp[Tryz.ntmps164]) ?_;simp;refine aN (fun(kD:Nat×aU)=>kD.1<=4/\eu (b+2000000000*kD.1) kD.2/\aK ((mN J).drop kD.1) kD.2=aK (mN J) D) (fun kD=>[(6,.view 6 0 4 1 none),(7,.p (.int 4)),(8,.p (.int kD.1))]) (fun kD=>⟨(6,Zt)::(4,eY 0 5 J)::cC 7 kD.2,(5,364,2)::cp 7,8⟩) (fun kD=>4-kD.1) (0,D) ⟨by simp,hD,by simp⟩ _ (AS.le_refl _ _) (aE [(7,3)] (by simp[ax])) ?_;have w1:IntKind.i64.wrap 1=1:=af (by omega) (by omega);have w2:IntKind.i64.wrap 2=2:=af (by omega) (by omega);have w3:IntKind.i64.wrap 3=3:=af (by omega) (by omega);have w4:IntKind.i64.wrap 4=4:=af (by omega) (by omega);have w5:IntKind.i64.wrap 5=5:=af (by omega) (by omega);rintro⟨k,E⟩ ⟨hk,hE,hh⟩;simp only at hk hE hh;have hk':k=0\/k=1\/k=2\/k=3\/k=4:=by omega
 rcases hk' with rfl|rfl|rfl|rfl|rfl
 ·have hC:=Fv E _ hE J hJ (by omega) ho;have jV:=hE.home J.cq;generalize hW:gC J.cq E=W at hC jV;have fu:(if W.2=0 then aK ((mN J).drop 1) W.1 else W)=aK (mN J) D:=by rw[<-hh,<-hW];rfl
  simp;refine c_ [0,1,2,7,4,5] hC (by simp) (by simp) (by simp[ay,ax]) (by simp[ay]) ?_;by_cases c2:W.2=0
  ·rw[if_pos c2]at fu;simp[c2,ax,w1];exact⟨1,W.1,⟨by omega,jV.up (by omega),fu⟩,by omega,aE [(7,8)] (by simp[ax])⟩
  ·have dX:(W.2 !=0)=true:=by simpa using c2
   rw[if_neg c2]at fu;rw[<-fu];simp[dX,ax,Tryz.results164];exact⟨[(7,8)],by simp⟩
 ·have hC:=eL E _ hE (by omega);have jV:=hE.flush;generalize hW:E.flush=W at hC jV;have fu:(if W.2=0 then aK ((mN J).drop 2) W.1 else W)=aK (mN J) D:=by rw[<-hh,<-hW];rfl
  simp;refine c_ [0,1,2,7] hC (by simp) (by simp) (by simp[ay,ax]) (by simp[ay]) ?_;by_cases c2:W.2=0
  ·rw[if_pos c2]at fu;simp[c2,ax,w2];exact⟨2,W.1,⟨by omega,jV.up (by omega),fu⟩,by omega,aE [(7,8)] (by simp[ax])⟩
  ·have dX:(W.2 !=0)=true:=by simpa using c2
   rw[if_neg c2]at fu;rw[<-fu];simp[dX,ax,Tryz.results164];exact⟨[(7,8)],by simp⟩
 ·have hC:=Fw E _ hE J hJ (by omega);have jV:=hE.tell J;generalize hW:J.tell E=W at hC jV;have fu:(if W.2=0 then aK ((mN J).drop 3) W.1 else W)=aK (mN J) D:=by rw[<-hh,<-hW];rfl
  simp;refine c_ [0,1,2,7,4,5] hC (by simp) (by simp) (by simp[ay,ax]) (by simp[ay]) ?_;by_cases c2:W.2=0
  ·rw[if_pos c2]at fu;simp[c2,ax,w3];exact⟨3,W.1,⟨by omega,jV.up (by omega),fu⟩,by omega,aE [(7,8)] (by simp[ax])⟩
  ·have dX:(W.2 !=0)=true:=by simpa using c2
   rw[if_neg c2]at fu;rw[<-fu];simp[dX,ax,Tryz.results164];exact⟨[(7,8)],by simp⟩
 ·have hC:=eL E _ hE (by omega);have jV:=hE.flush;generalize hW:E.flush=W at hC jV;have fu:(if W.2=0 then aK ((mN J).drop 4) W.1 else W)=aK (mN J) D:=by rw[<-hh,<-hW];rfl
  simp;refine c_ [0,1,2,7] hC (by simp) (by simp) (by simp[ay,ax]) (by simp[ay]) ?_;by_cases c2:W.2=0
  ·rw[if_pos c2]at fu;simp[c2,ax,w4];exact⟨4,W.1,⟨by omega,jV.up (by omega),fu⟩,by omega,aE [(7,8)] (by simp[ax])⟩
  ·have dX:(W.2 !=0)=true:=by simpa using c2
   rw[if_neg c2]at fu;rw[<-fu];simp[dX,ax,Tryz.results164];exact⟨[(7,8)],by simp⟩
 ·rw[<-hh];simp[mN,aK,Tryz.results164];exact⟨[],by simp[ax]⟩
end Go.Av
