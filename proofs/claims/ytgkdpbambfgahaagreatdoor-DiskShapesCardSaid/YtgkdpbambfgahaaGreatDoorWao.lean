/- DiskShapes, part 15: what functions compute, and its plain law; no condition. -/
import Derived.Test.YtgkdpbambfgahaaGreatDoorWan
set_option linter.all false
set_option maxRecDepth 100000
set_option maxHeartbeats 64000000
namespace Go.aT
def aI:List (aN->aN×Int)->aN->aN×Int
 |[],D=>(D,0)
 |f::l,D=>if(f D).2=0 then aI l (f D).1 else f D
def fmtS(aK n:Int):List (aN->aN×Int):=[fun D=>D.write (aK+0) (List.replicate n.toNat (Go.Av.cW [])),aN.flush,fun D=>D.write (aK+1) [bX ⟨1,1,2⟩],aN.flush]
def DY(D:aN)(aK n:Int):aN×Int:=if pU D.kept.length aK n=0 then aI (fmtS aK n) D else(D,pU D.kept.length aK n)
end Go.aT
namespace Go.Av
open Go.Proofs Go.Proofs.Tryz Go.aT
abbrev CZ(aK n:Int):Ob:=⟨261,3,[.obj 0 0,.p (.int aK),.p (.int n)]⟩
abbrev KT(r:Nat)(L:List dh):Ob:=⟨93,1,[.own r (L.map cy)]⟩
theorem Pz(D:aN)(b:Nat)(hD:dO b D)(aK n:Int)(hf:0<=aK/\aK<=1000000)(L:List dh)(hl:L.length<=1000000)(hb:b<=1000000000):aE prog 180 [.obj 4 0,.obj 5 0] ⟨(4,CZ aK n)::(5,KT 6 L)::cE 3 D,(6,22,1)::cn 3,7⟩ (.p (.int (D.write (aK+0) L).2)) ⟨(4,CZ aK n)::(5,KT 6 L)::cE 7 (D.write (aK+0) L).1,(6,22,1)::cn 7,8⟩:=by
 refine ah (rs:=[_]) [] [] [] func180 rfl ?_;simp;refine qU [0,1,2,3] (qt D b hD aK n 0 hf (by omega) L (by omega) (by omega)) ?_;simp[results180,aj];exact⟨[],by simp⟩
theorem PA(D:aN)(b:Nat)(hD:dO b D)(aK n:Int)(hf:0<=aK/\aK<=1000000)(hb:b<=1000000000):aE prog 182 [.obj 4 0] ⟨(4,CZ aK n)::cE 3 D,cn 3,5⟩ (.p (.int (D.write (aK+1) [bX ⟨1,1,2⟩]).2)) ⟨(4,CZ aK n)::cE 5 (D.write (aK+1) [bX ⟨1,1,2⟩]).1,cn 5,6⟩:=by
 refine ah (rs:=[_]) [] [(1,[(0,.r 1),(4,.w [1])])] [(1,4)] func182 rfl ?_;simp;refine bJ (A5 ⟨1,1,2⟩) ?_;simp;refine qU [0,1,2,3] (qt D b hD aK n 1 hf (by omega) [bX ⟨1,1,2⟩] (by simp) (by simp;omega)) ?_;simp[results182,aj];exact⟨[],by simp⟩
abbrev Zd:Ob:=⟨91,1,[.lJ (.func 180) [.obj 4 0,.obj 5 0],.mE (.func 166) [.obj 0 0],.lJ (.func 182) [.obj 4 0],.mE (.func 166) [.obj 0 0]]⟩
theorem KU(D:aN)(b:Nat)(hD:dO b D)(aK n:Int)(hf:0<=aK/\aK<=1000000)(hn:0<=n/\n<=1000000)(hb:b<=10000000):aE prog 164 [.view 7 0 4 1 none] ⟨(7,Zd)::(4,CZ aK n)::(5,KT 6 (List.replicate n.toNat (cW [])))::cE 3 D,(6,22,1)::cn 3,8⟩ (.p (.int (aI (fmtS aK n) D).2)) ⟨(7,Zd)::(4,CZ aK n)::(5,KT 6 (List.replicate n.toNat (cW [])))::cE 8 (aI (fmtS aK n) D).1,(6,22,1)::cn 8,9⟩:=by
 refine ah (rs:=[_]) [] [] [] func164 rfl ?_;simp;obtain⟨L,hL⟩:∃L,List.replicate n.toNat (cW [])=L:=⟨_,rfl⟩;have hLl:L.length<=1000000:=by rw[<-hL];simp;omega
 rw[hL];refine aL (fun(kD:Nat×aN)=>kD.1<=4/\dO (b+2000000*kD.1) kD.2/\aI ((fmtS aK n).drop kD.1) kD.2=aI (fmtS aK n) D) (fun kD=>[(6,.view 7 0 4 1 none),(7,.p (.int 4)),(8,.p (.int kD.1))]) (fun kD=>⟨(7,Zd)::(4,CZ aK n)::(5,KT 6 L)::cE 8 kD.2,(6,22,1)::cn 8,9⟩) (fun kD=>4-kD.1) (0,D) ⟨by simp,hD,by simp⟩ _ (AS.le_refl _ _) (aB [(8,3)] (by simp[aj])) ?_;have w1:IntKind.i64.wrap 1=1:=aD;have w2:IntKind.i64.wrap 2=2:=aD;have w3:IntKind.i64.wrap 3=3:=aD;have w4:IntKind.i64.wrap 4=4:=aD;rintro⟨k,E⟩ ⟨hk,hE,hh⟩;simp only at hk hE hh;have hk':k=0\/k=1\/k=2\/k=3\/k=4:=by omega
 rcases hk' with rfl|rfl|rfl|rfl|rfl
 ·have hC:=Pz E _ hE aK n hf L hLl (by omega);have mF:=hE.write (aK+0) L;generalize hW:E.write (aK+0) L=W at hC mF;have fM:(if W.2=0 then aI ((fmtS aK n).drop 1) W.1 else W)=aI (fmtS aK n) D:=by rw[<-hh,<-hW];rw[<-hL];rfl
  simp;refine dg [0,1,2,8,4,5,6] hC (by simp) (by simp) (by simp[ay,aj]) (by simp[ay]) ?_;by_cases c2:W.2=0
  ·rw[if_pos c2]at fM;simp[c2,aj,w1];exact⟨1,W.1,⟨by omega,mF.up (by omega),fM⟩,by omega,aB [(8,9)] (by simp[aj])⟩
  ·have dM:(W.2 !=0)=true:=by simpa using c2
   rw[if_neg c2]at fM;rw[<-fM];simp[dM,aj,results164];exact⟨[(8,9)],by simp⟩
 ·have hC:=eR E _ hE (by omega);have mF:=hE.flush;generalize hW:E.flush=W at hC mF;have fM:(if W.2=0 then aI ((fmtS aK n).drop 2) W.1 else W)=aI (fmtS aK n) D:=by rw[<-hh,<-hW];rfl
  simp;refine dg [0,1,2,8] hC (by simp) (by simp) (by simp[ay,aj]) (by simp[ay]) ?_;by_cases c2:W.2=0
  ·rw[if_pos c2]at fM;simp[c2,aj,w2];exact⟨2,W.1,⟨by omega,mF.up (by omega),fM⟩,by omega,aB [(8,9)] (by simp[aj])⟩
  ·have dM:(W.2 !=0)=true:=by simpa using c2
   rw[if_neg c2]at fM;rw[<-fM];simp[dM,aj,results164];exact⟨[(8,9)],by simp⟩
 ·have hC:=PA E _ hE aK n hf (by omega);have mF:=hE.write (aK+1) [bX ⟨1,1,2⟩];generalize hW:E.write (aK+1) [bX ⟨1,1,2⟩]=W at hC mF;have fM:(if W.2=0 then aI ((fmtS aK n).drop 3) W.1 else W)=aI (fmtS aK n) D:=by rw[<-hh,<-hW];rfl
  simp;refine dg [0,1,2,8,4] hC (by simp) (by simp) (by simp[ay,aj]) (by simp[ay]) ?_;by_cases c2:W.2=0
  ·rw[if_pos c2]at fM;simp[c2,aj,w3];exact⟨3,W.1,⟨by omega,mF.up (by simp only[List.length_cons,List.length_nil];omega),fM⟩,by omega,aB [(8,9)] (by simp[aj])⟩
  ·have dM:(W.2 !=0)=true:=by simpa using c2
   rw[if_neg c2]at fM;rw[<-fM];simp[dM,aj,results164];exact⟨[(8,9)],by simp⟩
 ·have hC:=eR E _ hE (by omega);have mF:=hE.flush;generalize hW:E.flush=W at hC mF;have fM:(if W.2=0 then aI ((fmtS aK n).drop 4) W.1 else W)=aI (fmtS aK n) D:=by rw[<-hh,<-hW];rfl
  simp;refine dg [0,1,2,8] hC (by simp) (by simp) (by simp[ay,aj]) (by simp[ay]) ?_;by_cases c2:W.2=0
  ·rw[if_pos c2]at fM;simp[c2,aj,w4];exact⟨4,W.1,⟨by omega,mF.up (by omega),fM⟩,by omega,aB [(8,9)] (by simp[aj])⟩
  ·have dM:(W.2 !=0)=true:=by simpa using c2
   rw[if_neg c2]at fM;rw[<-fM];simp[dM,aj,results164];exact⟨[(8,9)],by simp⟩
 ·rw[<-hh];simp[fmtS,aI,results164];exact⟨[],by simp[aj]⟩
theorem PD(D:aN)(b:Nat)(hD:dO b D)(aK n:Int)(hf:0<=aK/\aK<=1000000)(hn:0<=n/\n<=1000000)(hb:b<=10000000):aE prog 79 [.obj 0 0,.p (.int aK),.p (.int n)] ⟨cE 3 D,cn 3,4⟩ (.p (.int (DY D aK n).2)) ⟨cE 4 (DY D aK n).1,cn 4,5⟩:=by
 have hR:=EW D hD.top aK n;unfold DY;refine ah (rs:=[_]) [39] [(8,[(0,.r 1),(1,.w [1]),(3,.f [1]),(4,.s 1 [])])] [(1,5)] func79 rfl ?_;simp;refine mC hR rfl ?_;generalize hP:pU D.kept.length aK n=P;by_cases c1:P=0
 ·subst c1;obtain⟨N,rfl⟩:∃N:Nat,n=N:=⟨n.toNat,by omega⟩;simp;refine aL (fun k:Nat=>k<=N) (fun k=>[(0,.obj 0 0),(8,.obj 4 0),(9,.obj 5 0),(23,.p (.int N)),(24,.p (.int k))]) (fun k=>⟨(4,CZ aK N)::(5,KT 6 (List.replicate k (cW [])))::cE 3 D,(6,22,1)::cn 3,7⟩) (fun k=>N-k) 0 (by simp) _ (ja 5 0 22 1 ⟨93,1,[.p .nil]⟩ [] (by simp[lk]) (.inr ⟨rfl,rfl⟩)) (ak (by simp[aj,Tb.bU,Tb.aP,del])) ?_;intro k hk;by_cases ck:k<N
  ·have wk:=jq k;have NF:=tT (b:=cW []) (yS 7) (by simp[lk]) (ox _ (by simp)).symm;simp[ck];refine mC NF rfl ?_;simp[wk];exact⟨by omega,by omega,k+1,by omega,by omega,aB [(6,9)] (by simp[List.replicate_succ',aj])⟩
  ·obtain rfl:k=N:=by omega
   have hF:=KU D b hD aK k hf hn hb;rw[Int.toNat_natCast]at hF;simp;refine aA hF (by simp) (by simp[ay,aj]) (by simp[ay]) rfl ?_;simp[results79];exact⟨[(4,8)],by simp[aj]⟩
 ·have iP:(P !=0)=true:=by simpa using c1
  simp[c1,iP,results79];exact⟨[(4,3)],by simp[aj]⟩
end Go.Av
namespace Go.aT
def Ea(size:Nat)(J:Jr)(x:xe):Bool:=!vb size J.aK J.n x.1||x.2.length !=64
def oZ(size:Nat)(J:Jr)(aF:List xe):Int:=if aF.length=0\/aF.any (Ea size J)=true then 2 else if 10<aF.length then 13 else if J.n-2<aF.length+2 then 30 else 0
def mg(J:Jr)(size:Int):Int×Bool:=if J.wr=true then(J.at',decide (J.at'+size<=J.base))else if J.at'+size<=J.n then(J.at',true)else if J.cnt=0 then(2,true)else(2,decide (2+size<=J.base))
end Go.aT
namespace Go.Av
open Go.Proofs Go.Proofs.Tryz Go.aT
abbrev agW(D:aN)(J:Jr):PC:= .agg false [.ref (NY D),.int J.aK,.int J.n,.int J.H6.number,.int J.H6.first,.int J.H6.at',.int J.next,.int J.at',.int J.base,.bool J.wr,.sl (J.bY.map eS),.int J.cnt]
theorem Z'(D:aN)(hl:D.kept.length<=65536)(J:Jr)(hJ:C7 J)(x:xe):aq prog 380 [eS x,.ref (.ref (agW D J))] (.bool (Ea D.kept.length J x)):=by
 have hO:=yW D hl J.aK J.n x.1 hJ.aK (by have:=hJ.n;omega);refine ai (ys:=[_]) [] [] [] func380 rfl ?_;simp;refine bJ hO ?_;unfold Ea;cases c1:vb D.kept.length J.aK J.n x.1 with
 |false=>simp[results380]
 |true=>
  have e:((x.2.length:Int)==64)=(x.2.length==64):=by
   by_cases h:x.2.length=64
   ·simp[h]
   ·have h1:(x.2.length==64)=false:=by simpa using h
    have h2:((x.2.length:Int)==64)=false:=by simp;omega
    rw[h1,h2]
  simp[results380,bne,e]
theorem Oi(D:aN)(b:Nat)(hD:dO b D)(J:Jr)(hJ:C7 J)(aF:List xe)(hp:aF.length<=1000000):aE prog 354 [.obj 4 0,.p (.sl (aF.map eS))] ⟨(4,fy 0 5 J)::cE 3 D,(5,364,2)::cn 3,6⟩ (.p (.int (oZ D.kept.length J aF))) ⟨(4,fy 0 5 J)::cE 3 D,(5,364,2)::cn 3,6⟩:=by
 have hn:=hJ.n;unfold oZ;refine ah (rs:=[_]) [2] [] [] func354 rfl ?_;by_cases c1:aF.length=0
 ·obtain rfl:aF=[]:=mB c1;simp[results354];exact⟨[],by simp[aj]⟩
 have iP:((aF.length:Int)==0)=false:=by simpa using c1
 have agX:=Nj 380 [.ref (.ref (agW D J))] (Ea D.kept.length J) aF (by omega) (fun x _=>Z' D hD.top J hJ x);generalize aF.any (Ea D.kept.length J)=B at agX⊢;simp[c1,iP,fy];refine A2 6 agX ?_ rfl ?_
 ·have s1:=kV _ hD.kept;have s2:=kV _ hD.now;simp[gY,cQ];refine⟨rfl,⟨by simp[aj,s1],by rw[xK];simp only[aj];exact fY (by simp[s1]),hD.kept⟩,by simp[aj,s2],by rw[xK];simp only[aj];exact fY (by simp[s2]),hD.now⟩
 by_cases c2:B=true
 ·simp[c2,results354];exact⟨[],by simp[aj]⟩
 have w1:IntKind.i64.wrap ((aF.length:Int)+2)=(aF.length:Int)+2:=aD;have w2:IntKind.i64.wrap (J.n-2)=J.n-2:=aD;by_cases c3:10<aF.length
 ·have j_:(10:Int)<aF.length:=by omega
  simp[c2,c3,j_,results354];exact⟨[],by simp[aj]⟩
 have j_:¬(10:Int)<aF.length:=by omega
 by_cases c4:J.n-2<(aF.length:Int)+2
 ·simp[c2,c3,j_,c4,w1,w2,results354];exact⟨[],by simp[aj]⟩
 ·simp[c2,c3,j_,c4,w1,w2,results354];exact⟨[],by simp[aj]⟩
theorem Io(J:Jr)(hJ:C7 J)(size:Int)(hs:0<=size/\size<=1000000):aE prog 356 [.obj 4 0,.p (.int size)] ⟨[(4,fy 0 5 J)],[(5,364,2)],6⟩ (.agg true [.p (.int (mg J size).1),.p (.bool (mg J size).2)]) ⟨[(4,fy 0 5 J)],[(5,364,2)],6⟩:=by
 have ha:=hJ.at';have hb:=hJ.base;have w1:IntKind.i64.wrap (J.at'+size)=J.at'+size:=aD;have w2:IntKind.i64.wrap (2+size)=2+size:=aD;unfold mg;refine ah (rs:=[_,_]) [4] [(2,[(3,.r 1),(7,.r 1),(13,.r 1)]),(3,[(3,.r 1),(10,.r 1)]),(7,[(5,.r 1)])] [(1,4)] func356 rfl ?_;cases c1:J.wr with
 |true=>
  simp[fy,c1,w1,results356];exact⟨[],by simp⟩
 |false=>
  by_cases c2:J.at'+size<=J.n
  ·simp[fy,c1,c2,w1,results356];exact⟨[],by simp⟩
  by_cases c3:J.cnt=0
  ·simp[fy,c1,c2,c3,w1,results356];exact⟨[],by simp⟩
  ·have j_:(J.cnt==0)=false:=by simpa using c3
   simp[fy,c1,c2,c3,j_,w1,w2,results356];exact⟨[],by simp⟩
end Go.Av
namespace Go.aT
def jE(J:Jr):List (aN->aN×Int):=[aN.flush,gU J.bY,aN.flush,J.tell,aN.flush]
def Jr.settle(J:Jr)(D:aN):Jr×aN×Int:=if J.cnt=0 then(J,D,0)else if(aI (jE J) D).2=0 then(J.settled,(aI (jE J) D).1,0)else(J,(aI (jE J) D).1,(aI (jE J) D).2)
theorem dO.tell{b:Nat}{D:aN}(h:dO b D)(J:Jr):dO (b+1) (J.tell D).1:=h.write _ [_]
theorem dO.first{b c:Nat}:∀(l:List (aN->aN×Int)) {D:aN},dO b D->(∀f∈l,∀b D,dO b D->dO (b+c) (f D).1)->dO (b+l.length*c) (aI l D).1
 |[],_,h,_=>h.up (by simp)
 |f::l,D,h,hf=>by
  have h1:=hf f (by simp) b D h;unfold aI;split
  ·exact(dO.first l h1 (fun g hg=>hf g (by simp[hg]))).up (by rw[List.length_cons,Nat.succ_mul];omega)
  ·exact h1.up (by rw[List.length_cons,Nat.succ_mul];omega)
theorem dO.jE{b:Nat}{D:aN}(h:dO b D)(J:Jr):dO (b+5*(J.bY.length+1)) (aI (jE J) D).1:=dO.first (c:=J.bY.length+1) (Go.aT.jE J) h (by
 intro f hf b D hD;simp only[Go.aT.jE,List.mem_cons,List.not_mem_nil,or_false]at hf;rcases hf with rfl|rfl|rfl|rfl|rfl
 ·exact hD.flush.up (by omega)
 ·exact(hD.home J.bY).up (by omega)
 ·exact hD.flush.up (by omega)
 ·exact(hD.tell J).up (by omega)
 ·exact hD.flush.up (by omega))
end Go.aT
namespace Go.Av
open Go.Proofs Go.Proofs.Tryz Go.aT
abbrev V':Ob:=⟨91,1,[.mE (.func 166) [.obj 0 0],.mE (.func 165) [.obj 4 0],.mE (.func 166) [.obj 0 0],.mE (.func 167) [.obj 4 0],.mE (.func 166) [.obj 0 0]]⟩
theorem Jj(D:aN)(b:Nat)(hD:dO b D)(J:Jr)(hJ:C7 J)(hb:b<=10000000000)(ho:∀p∈J.bY,-9223372036854775808<=p.1/\p.1<=9223372036854775807):aE prog 164 [.view 6 0 5 1 none] ⟨(6,V')::(4,fy 0 5 J)::cE 3 D,(5,364,2)::cn 3,7⟩ (.p (.int (aI (jE J) D).2)) ⟨(6,V')::(4,fy 0 5 J)::cE 7 (aI (jE J) D).1,(5,364,2)::cn 7,8⟩:=by
 have zX:=hJ.bY;refine ah (rs:=[_]) [] [] [] func164 rfl ?_;simp;refine aL (fun(kD:Nat×aN)=>kD.1<=5/\dO (b+2000000000*kD.1) kD.2/\aI ((jE J).drop kD.1) kD.2=aI (jE J) D) (fun kD=>[(6,.view 6 0 5 1 none),(7,.p (.int 5)),(8,.p (.int kD.1))]) (fun kD=>⟨(6,V')::(4,fy 0 5 J)::cE 7 kD.2,(5,364,2)::cn 7,8⟩) (fun kD=>5-kD.1) (0,D) ⟨by simp,hD,by simp⟩ _ (AS.le_refl _ _) (aB [(7,3)] (by simp[aj])) ?_;have w1:IntKind.i64.wrap 1=1:=aD;have w2:IntKind.i64.wrap 2=2:=aD;have w3:IntKind.i64.wrap 3=3:=aD;have w4:IntKind.i64.wrap 4=4:=aD;have w5:IntKind.i64.wrap 5=5:=aD;rintro⟨k,E⟩ ⟨hk,hE,hh⟩;simp only at hk hE hh;have hk':k=0\/k=1\/k=2\/k=3\/k=4\/k=5:=by omega
 rcases hk' with rfl|rfl|rfl|rfl|rfl|rfl
 ·have hC:=eR E _ hE (by omega);have mF:=hE.flush;generalize hW:E.flush=W at hC mF;have fM:(if W.2=0 then aI ((jE J).drop 1) W.1 else W)=aI (jE J) D:=by rw[<-hh,<-hW];rfl
  simp;refine dg [0,1,2,7] hC (by simp) (by simp) (by simp[ay,aj]) (by simp[ay]) ?_;by_cases c2:W.2=0
  ·rw[if_pos c2]at fM;simp[c2,aj,w1];exact⟨1,W.1,⟨by omega,mF.up (by omega),fM⟩,by omega,aB [(7,8)] (by simp[aj])⟩
  ·have dM:(W.2 !=0)=true:=by simpa using c2
   rw[if_neg c2]at fM;rw[<-fM];simp[dM,aj,results164];exact⟨[(7,8)],by simp⟩
 ·have hC:=HC E _ hE J hJ (by omega) ho;have mF:=hE.home J.bY;generalize hW:gU J.bY E=W at hC mF;have fM:(if W.2=0 then aI ((jE J).drop 2) W.1 else W)=aI (jE J) D:=by rw[<-hh,<-hW];rfl
  simp;refine dg [0,1,2,7,4,5] hC (by simp) (by simp) (by simp[ay,aj]) (by simp[ay]) ?_;by_cases c2:W.2=0
  ·rw[if_pos c2]at fM;simp[c2,aj,w2];exact⟨2,W.1,⟨by omega,mF.up (by omega),fM⟩,by omega,aB [(7,8)] (by simp[aj])⟩
  ·have dM:(W.2 !=0)=true:=by simpa using c2
   rw[if_neg c2]at fM;rw[<-fM];simp[dM,aj,results164];exact⟨[(7,8)],by simp⟩
 ·have hC:=eR E _ hE (by omega);have mF:=hE.flush;generalize hW:E.flush=W at hC mF;have fM:(if W.2=0 then aI ((jE J).drop 3) W.1 else W)=aI (jE J) D:=by rw[<-hh,<-hW];rfl
  simp;refine dg [0,1,2,7] hC (by simp) (by simp) (by simp[ay,aj]) (by simp[ay]) ?_;by_cases c2:W.2=0
  ·rw[if_pos c2]at fM;simp[c2,aj,w3];exact⟨3,W.1,⟨by omega,mF.up (by omega),fM⟩,by omega,aB [(7,8)] (by simp[aj])⟩
  ·have dM:(W.2 !=0)=true:=by simpa using c2
   rw[if_neg c2]at fM;rw[<-fM];simp[dM,aj,results164];exact⟨[(7,8)],by simp⟩
 ·have hC:=HD E _ hE J hJ (by omega);have mF:=hE.tell J;generalize hW:J.tell E=W at hC mF;have fM:(if W.2=0 then aI ((jE J).drop 4) W.1 else W)=aI (jE J) D:=by rw[<-hh,<-hW];rfl
  simp;refine dg [0,1,2,7,4,5] hC (by simp) (by simp) (by simp[ay,aj]) (by simp[ay]) ?_;by_cases c2:W.2=0
  ·rw[if_pos c2]at fM;simp[c2,aj,w4];exact⟨4,W.1,⟨by omega,mF.up (by omega),fM⟩,by omega,aB [(7,8)] (by simp[aj])⟩
  ·have dM:(W.2 !=0)=true:=by simpa using c2
   rw[if_neg c2]at fM;rw[<-fM];simp[dM,aj,results164];exact⟨[(7,8)],by simp⟩
 ·have hC:=eR E _ hE (by omega);have mF:=hE.flush;generalize hW:E.flush=W at hC mF;have fM:(if W.2=0 then aI ((jE J).drop 5) W.1 else W)=aI (jE J) D:=by rw[<-hh,<-hW];rfl
  simp;refine dg [0,1,2,7] hC (by simp) (by simp) (by simp[ay,aj]) (by simp[ay]) ?_;by_cases c2:W.2=0
  ·rw[if_pos c2]at fM;simp[c2,aj,w5];exact⟨5,W.1,⟨by omega,mF.up (by omega),fM⟩,by omega,aB [(7,8)] (by simp[aj])⟩
  ·have dM:(W.2 !=0)=true:=by simpa using c2
   rw[if_neg c2]at fM;rw[<-fM];simp[dM,aj,results164];exact⟨[(7,8)],by simp⟩
 ·rw[<-hh];simp[jE,aI,results164];exact⟨[],by simp[aj]⟩
theorem JD(D:aN)(b:Nat)(hD:dO b D)(J:Jr)(hJ:C7 J)(hb:b<=10000000000)(ho:∀p∈J.bY,-9223372036854775808<=p.1/\p.1<=9223372036854775807):aE prog 100 [.obj 4 0] ⟨(4,fy 0 5 J)::cE 3 D,(5,364,2)::cn 3,6⟩ (.p (.int (J.settle D).2.2)) ⟨(4,fy 0 7 (J.settle D).1)::cE 6 (J.settle D).2.1,(7,364,2)::cn 6,8⟩:=by
 have hF:=Jj D b hD J hJ hb ho;have hS:=yC J;unfold Jr.settle;refine ah (rs:=[_]) [4,31] [(3,[(4,.r 1),(12,.r 1),(20,.r 1),(22,.w [1]),(23,.w [1])])] [(1,4)] func100 rfl ?_;by_cases c:J.cnt=0
 ·simp[fy,c,results100];exact⟨[(6,3),(7,5)],by simp[aj];intro a b h;omega⟩
 have c':(J.cnt==0)=false:=by simpa using c
 generalize aI (jE J) D=W at hF⊢;simp[fy,c,c'];refine aA hF (by simp) (by simp[ay,aj]) (by simp[ay]) rfl ?_;by_cases c2:W.2=0
 ·simp[c2];refine bq [0,1,2,7,4,5] hS (by simp) (by simp) (by simp[ay]) (by simp[ay]) ?_;simp[aj,results100];exact⟨[(6,7),(7,8)],by simp;intro a b h;omega⟩
 ·have dM:(W.2 !=0)=true:=by simpa using c2
  simp[c2,dM,results100];exact⟨[(6,7),(7,5)],by simp[aj];intro a b h;omega⟩
theorem T_(nx k:Nat)(hb:k<=4000000000000):aE prog 381 [.p .nil,.p (.int k)] ⟨[],[],nx⟩ (.view nx 0 0 1 none) ⟨[(nx,⟨22,1,[]⟩)],[],nx+1⟩:=by
 have w1:IntKind.i64.wrap (k:Int)=k:=aD;by_cases h0:k=0
 ·subst h0;refine fG (r:= .p .nil) (aM:=⟨[],[],nx⟩) (el:=22) (s:=1) ?_ trivial;refine ah (rs:=[_]) [22] [] [] func381 rfl ?_;have z:IntKind.i64.wrap 0=0:=aD;simp[results381,z];exact⟨[],by simp⟩
 ·have e0:0<k:=by omega
  have z:IntKind.i64.wrap 0=0:=aD;refine ah (rs:=[_]) [22] [] [] func381 rfl ?_;simp[results381,w1,z,e0];exact⟨by omega,by omega,[],by simp⟩
theorem La(nx:Nat)(L:List (List PC))(hw:∀l∈L,∀x∈l,x.width=1)(ht:∀l∈L,∀x∈l,cw x=true)(hb:(L.map List.length).sum<=1000000000000)(vV:L.length<=1000000000000):aE prog 358 [.p (.sl (L.map .sl))] ⟨[],[],nx⟩ (.view nx 0 (L.map List.length).sum 1 none) ⟨[(nx,⟨22,1,(L.flatten.flatMap ga).map .p⟩)],[],nx+1⟩:=by
 refine ah (rs:=[_]) [] [] [] func358 rfl ?_;simp;refine bg (fun k:Nat=>k<=L.length) (fun k=>[(0,.p (.sl (L.map .sl))),(2,.p .nil),(9,.p (.sl (L.map .sl))),(10,.p (.int L.length)),(3,.p (.int ((L.map List.length).take k).sum)),(11,.p (.int k))]) (fun k=>L.length-k) 0 (by simp) (ak (by simp)) ?_;intro k hk;by_cases c1:k<L.length
 ·have e1:decide ((k:Int)<L.length)=true:=by simp;omega
  have hs:((L.map List.length).take (k+1)).sum=((L.map List.length).take k).sum+L[k].length:=by
   rw[mM (by simpa using c1)];simp
  have Xr:=nI (L.map List.length) (k+1);have w1:IntKind.i64.wrap ((((L.map List.length).take k).sum:Int)+(L[k].length:Int))=(((L.map List.length).take (k+1)).sum:Int):=by rw[hs];push_cast;exact aD
  have w2:=jq k;have e2:decide ((((L.map List.length).take (k+1)).sum:Int)<0)=false:=by simp
  simp[c1,w1,w2];refine⟨k+1,by omega,by omega,ak ?_⟩;simp
 ·have e1:decide ((k:Int)<L.length)=false:=by simp;omega
  have hk':(L.map List.length).take k=L.map List.length:=fY (by simp;omega);simp[c1,hk'];refine aA (T_ nx (L.map List.length).sum (by omega)) (by simp) trivial trivial rfl ?_;simp;refine aL (fun k:Nat=>k<=L.length) (fun k=>[(0,.p (.sl (L.map .sl))),(2,.p .nil),(25,.p (.sl (L.map .sl))),(26,.p (.int L.length)),(6,.view nx 0 ((L.map List.length).take k).sum 1 none),(27,.p (.int k))]) (fun k=>⟨[(nx,⟨22,1,((L.take k).flatten.flatMap ga).map .p⟩)],[],nx+1⟩) (fun k=>L.length-k) 0 (by simp) _ (AS.le_refl _ _) (ak (by simp)) ?_;clear hk c1 e1 hk' k;intro k hk;by_cases c1:k<L.length
  ·have e1:decide ((k:Int)<L.length)=true:=by simp;omega
   have hs:((L.map List.length).take (k+1)).sum=((L.map List.length).take k).sum+L[k].length:=by
    rw[mM (by simpa using c1)];simp
   have Xr:=nI (L.map List.length) (k+1);have w2:=jq k;have hwk:=hw L[k] (by simp);have oK:=ht L[k] (by simp);have hfl:(L.take (k+1)).flatten=(L.take k).flatten++L[k]:=by rw[mM c1];simp only[List.flatten_append,List.flatten_cons,List.flatten_nil,List.append_nil]
   have hlen:(((L.take k).flatten.flatMap ga).map AV.p).length=((L.map List.length).take k).sum:=by
    have hww:∀x∈(L.take k).flatten,x.width=1:=fun x hx=>by
     obtain⟨l,hl,hx⟩:=List.mem_flatten.1 hx;exact hw l (jH hl) x hx
    have:=oe hww;simp only[List.length_map,this,List.length_flatten,List.map_take,Nat.mul_one]
   have Xt:List.take ((L.map List.length).take k).sum (((L.take k).flatten.flatMap ga).map AV.p)=((L.take k).flatten.flatMap ga).map AV.p:=fY (by omega);simp[c1,w2];refine⟨by simpa using Nat.le_of_eq hlen.symm,hwk,oK,by omega,by omega,k+1,by omega,by omega,aB [(nx,nx+1)] ?_⟩;rw[hfl,hs,Xt];simp
  ·have e1:decide ((k:Int)<L.length)=false:=by simp;omega
   have hkL:k=L.length:=by omega
   subst hkL;have hk':(L.map List.length).take L.length=L.map List.length:=fY (by simp);simp[results358,hk'];exact⟨[],by simp⟩
theorem G_(L:List (List PC))(hw:∀l∈L,∀x∈l,x.width=1)(ht:∀l∈L,∀x∈l,cw x=true)(hb:(L.map List.length).sum<=1000000000000)(vV:L.length<=1000000000000):aq prog 358 [.sl (L.map .sl)] (.sl L.flatten):=bI (xs:=[_]) (La 0 L hw ht hb vV) (Ed (e:=22) (by simp) (by simp[List.length_flatten]) (fun x h=>by obtain⟨l,h1,h2⟩:=List.mem_flatten.1 h;exact hw l h1 x h2) (fun x h=>by obtain⟨l,h1,h2⟩:=List.mem_flatten.1 h;exact ht l h1 x h2))
theorem WW(L:List (List dh))(hb:L.flatten.length<=1000000000000)(vV:L.length<=1000000000000):aq prog 358 [.sl (L.map fun l=> .sl (l.map cy))] (.sl (L.flatten.map cy)):=by
 have h:=G_ (L.map (List.map cy)) (fun l hl x hx=>by obtain⟨b,_,rfl⟩:=List.mem_map.1 hl;obtain⟨c,_,rfl⟩:=List.mem_map.1 hx;rfl) (fun l hl x hx=>by obtain⟨b,_,rfl⟩:=List.mem_map.1 hl;obtain⟨c,_,rfl⟩:=List.mem_map.1 hx;rfl) (by
  have e:((L.map (List.map cy)).map List.length).sum=L.flatten.length:=by
   rw[List.length_flatten,List.map_map];congr 1;refine List.map_congr_left fun b _=>by simp
  omega) (by simpa using vV)
 rw[<-List.map_flatten,List.map_map]at h;exact h
end Go.Av
namespace Go.aT
def gv(aK:Int)(L:List dh)(a:Int):List (aN->aN×Int):=[fun D=>D.write (aK+a) (L.take (L.length-1)++[Go.Av.cW []]),aN.flush,fun D=>D.write (aK+(a+(L.length-1:Nat))) [L.getD (L.length-1) []]]
end Go.aT
namespace Go.Av
open Go.Proofs Go.Proofs.Tryz Go.aT
@[reducible]def Gg(q:Nat)(D:aN)(J:Jr)(L:List dh)(a:Int)(m:Nat):List (Nat×Ob):=(6,⟨147,1,[.obj 4 0]⟩)::(8,⟨3,1,[.p (.int a)]⟩)::(7,⟨93,1,[.p (.sl (L.map cy))]⟩)::(9,⟨3,1,[.p (.int m)]⟩)::(4,fy 0 5 J)::cE q D
theorem Sd(D:aN)(b:Nat)(hD:dO b D)(J:Jr)(hJ:C7 J)(L:List dh)(m:Nat)(hm:L.length=m+1)(hm2:m<=1000000)(a:Int)(ha:0<=a/\a<=100000000)(hb:b<=100000000000):aE prog 357 [.obj 6 0,.obj 8 0,.obj 7 0,.obj 9 0] ⟨Gg 3 D J L a m,(5,364,2)::cn 3,10⟩ (.p (.int (D.write (J.aK+a) (L.take m++[cW []])).2)) ⟨Gg 10 (D.write (J.aK+a) (L.take m++[cW []])).1 J L a m,(5,364,2)::cn 10,11⟩:=by
 have hf:=hJ.aK;have WV:=WW [L.take m,[cW []]] (by simp;omega) (by simp);have hW:=qt D b hD J.aK J.n a hf (by omega) (L.take m++[cW []]) (by simp;omega) (by simp;omega);generalize hX:L.take m++[cW []]=X at hW⊢;have hX2:[L.take m,[cW []]].flatten=X:=by rw[<-hX];simp
 rw[hX2]at WV;simp at WV;have NF:=tT (b:=cW []) (yS 10) (by simp[lk]) (ox _ (by simp)).symm;refine ah (rs:=[_]) [4] [(1,[(0,.r 1),(3,.r 2),(4,.r 3),(5,.r 4),(6,.r 5),(8,.w [1,2,3,4,5]),(12,.w [1,2,3,4,5])])] [(1,6),(2,4),(3,8),(4,7),(5,9)] func357 rfl ?_;simp[fy,hm];refine mC NF rfl ?_;simp;refine bJ WV ?_;simp;refine qU [0,1,2,3] hW ?_;simp[results357,aj];exact⟨[(10,12)],by simp⟩
theorem Se(D:aN)(b:Nat)(hD:dO b D)(J:Jr)(hJ:C7 J)(L:List dh)(m:Nat)(hm:L.length=m+1)(hm2:m<=1000000)(a:Int)(ha:0<=a/\a<=100000000)(hb:b<=100000000000):aE prog 359 [.obj 6 0,.obj 8 0,.obj 9 0,.obj 7 0] ⟨Gg 3 D J L a m,(5,364,2)::cn 3,10⟩ (.p (.int (D.write (J.aK+(a+m)) [L.getD m []]).2)) ⟨Gg 10 (D.write (J.aK+(a+m)) [L.getD m []]).1 J L a m,(5,364,2)::cn 10,11⟩:=by
 have hf:=hJ.aK;have hW:=qt D b hD J.aK J.n (a+m) hf (by omega) [L.getD m []] (by simp) (by simp;omega);have gm:L.getD m []=L[m]:=by rw[pR,kq (by omega)];rfl
 rw[gm]at hW⊢;have w1:IntKind.i64.wrap (a+m)=a+m:=aD;have hmL:m<L.length:=by omega
 refine ah (rs:=[_]) [4] [(1,[(0,.r 1),(3,.r 2),(4,.r 3),(5,.r 5),(7,.r 4),(8,.r 5),(12,.w [1,2,3,4,5])])] [(1,6),(2,4),(3,8),(4,7),(5,9)] func359 rfl ?_;simp[fy,hm,w1];refine qU [0,1,2,3] hW ?_;simp[results359,aj];exact⟨[],by simp⟩
end Go.Av
namespace Go.aT
theorem dO.com{b:Nat}{D:aN}(h:dO b D)(aK:Int)(L:List dh)(a:Int):dO (b+3*(L.length+1)) (aI (gv aK L a) D).1:=dO.first (c:=L.length+1) (gv aK L a) h (by
 intro f hf b D hD;simp only[gv,List.mem_cons,List.not_mem_nil,or_false]at hf;rcases hf with rfl|rfl|rfl
 ·exact(hD.write _ _).up (by simp)
 ·exact hD.flush.up (by omega)
 ·exact(hD.write _ _).up (by simp))
end Go.aT
namespace Go.Av
open Go.Proofs Go.Proofs.Tryz Go.aT
abbrev XK:Ob:=⟨91,1,[.lJ (.func 357) [.obj 6 0,.obj 8 0,.obj 7 0,.obj 9 0],.mE (.func 166) [.obj 0 0],.lJ (.func 359) [.obj 6 0,.obj 8 0,.obj 9 0,.obj 7 0]]⟩
theorem Ba(D:aN)(b:Nat)(hD:dO b D)(J:Jr)(hJ:C7 J)(L:List dh)(m:Nat)(hm:L.length=m+1)(hm2:m<=1000000)(a:Int)(ha:0<=a/\a<=100000000)(hb:b<=50000000000):aE prog 164 [.view 10 0 3 1 none] ⟨(10,XK)::Gg 3 D J L a m,(5,364,2)::cn 3,11⟩ (.p (.int (aI (gv J.aK L a) D).2)) ⟨(10,XK)::Gg 11 (aI (gv J.aK L a) D).1 J L a m,(5,364,2)::cn 11,12⟩:=by
 have hS:gv J.aK L a=[fun D=>D.write (J.aK+a) (L.take m++[cW []]),aN.flush,fun D=>D.write (J.aK+(a+m)) [L.getD m []]]:=by
  unfold gv;rw[show L.length-1=m by omega]
 refine ah (rs:=[_]) [] [] [] func164 rfl ?_;simp;refine aL (fun(kD:Nat×aN)=>kD.1<=3/\dO (b+2000000*kD.1) kD.2/\aI ((gv J.aK L a).drop kD.1) kD.2=aI (gv J.aK L a) D) (fun kD=>[(6,.view 10 0 3 1 none),(7,.p (.int 3)),(8,.p (.int kD.1))]) (fun kD=>⟨(10,XK)::Gg 11 kD.2 J L a m,(5,364,2)::cn 11,12⟩) (fun kD=>3-kD.1) (0,D) ⟨by simp,hD,by simp⟩ _ (AS.le_refl _ _) (aB [(11,3)] (by simp[aj])) ?_;have w1:IntKind.i64.wrap 1=1:=aD;have w2:IntKind.i64.wrap 2=2:=aD;have w3:IntKind.i64.wrap 3=3:=aD;rintro⟨k,E⟩ ⟨hk,hE,hh⟩;simp only at hk hE hh;have hk':k=0\/k=1\/k=2\/k=3:=by omega
 rcases hk' with rfl|rfl|rfl|rfl
 ·have hC:=Sd E _ hE J hJ L m hm hm2 a ha (by omega);have mF:=hE.write (J.aK+a) (L.take m++[cW []]);generalize hW:E.write (J.aK+a) (L.take m++[cW []])=W at hC mF;have fM:(if W.2=0 then aI ((gv J.aK L a).drop 1) W.1 else W)=aI (gv J.aK L a) D:=by rw[<-hh,<-hW,hS];rfl
  simp;refine dg [0,1,2,11,4,5,6,7,8,9] hC (by simp) (by simp) (by simp[ay,aj]) (by simp[ay]) ?_;by_cases c2:W.2=0
  ·rw[if_pos c2]at fM;simp[c2,aj,w1];exact⟨1,W.1,⟨by omega,mF.up (by rw[dU,List.length_take];simp only[List.length_cons,List.length_nil];omega),fM⟩,by omega,aB [(11,12)] (by simp[aj])⟩
  ·have dM:(W.2 !=0)=true:=by simpa using c2
   rw[if_neg c2]at fM;rw[<-fM];simp[dM,aj,results164];exact⟨[(11,12)],by simp⟩
 ·have hC:=eR E _ hE (by omega);have mF:=hE.flush;generalize hW:E.flush=W at hC mF;have fM:(if W.2=0 then aI ((gv J.aK L a).drop 2) W.1 else W)=aI (gv J.aK L a) D:=by rw[<-hh,<-hW,hS];rfl
  simp;refine dg [0,1,2,11] hC (by simp) (by simp) (by simp[ay,aj]) (by simp[ay]) ?_;by_cases c2:W.2=0
  ·rw[if_pos c2]at fM;simp[c2,aj,w2];exact⟨2,W.1,⟨by omega,mF.up (by omega),fM⟩,by omega,aB [(11,12)] (by simp[aj])⟩
  ·have dM:(W.2 !=0)=true:=by simpa using c2
   rw[if_neg c2]at fM;rw[<-fM];simp[dM,aj,results164];exact⟨[(11,12)],by simp⟩
 ·have hC:=Se E _ hE J hJ L m hm hm2 a ha (by omega);have mF:=hE.write (J.aK+(a+m)) [L.getD m []];generalize hW:E.write (J.aK+(a+m)) [L.getD m []]=W at hC mF;have fM:(if W.2=0 then aI ((gv J.aK L a).drop 3) W.1 else W)=aI (gv J.aK L a) D:=by rw[<-hh,<-hW,hS];rfl
  simp;refine dg [0,1,2,11,4,5,6,7,8,9] hC (by simp) (by simp) (by simp[ay,aj]) (by simp[ay]) ?_;by_cases c2:W.2=0
  ·rw[if_pos c2]at fM;simp[c2,aj,w3];exact⟨3,W.1,⟨by omega,mF.up (by simp only[List.length_cons,List.length_nil];omega),fM⟩,by omega,aB [(11,12)] (by simp[aj])⟩
  ·have dM:(W.2 !=0)=true:=by simpa using c2
   rw[if_neg c2]at fM;rw[<-fM];simp[dM,aj,results164];exact⟨[(11,12)],by simp⟩
 ·rw[<-hh,hS];simp[aI,results164];exact⟨[],by simp[aj]⟩
end Go.Av
namespace Go.aT
def Jr.done(J:Jr)(aF:List xe)(a:Int):Jr:={J with base:=if J.cnt=0 then a else J.base,wr:=if J.cnt=0 then J.wr else if a<J.at' then true else J.wr,at':=a+(aF.length+2),bY:=J.bY++aF,next:=IntKind.i64.wrap (J.next+1),cnt:=IntKind.i64.wrap (J.cnt+1)}
def Jr.Cv(J:Jr)(D:aN)(aF:List xe)(a:Int):Jr×aN×Bool×Int:=if(aI (gv J.aK (jF J.next aF) a) D).2=0 then(J.done aF a,(aI (gv J.aK (jF J.next aF) a) D).1.flush.1,true,(aI (gv J.aK (jF J.next aF) a) D).1.flush.2)else(J,(aI (gv J.aK (jF J.next aF) a) D).1,false,(aI (gv J.aK (jF J.next aF) a) D).2)
def Jr.commit(J:Jr)(D:aN)(aF:List xe):Jr×aN×Bool×Int:=if oZ D.kept.length J aF=0 then
 (if(mg J (aF.length+2)).2=true then J.Cv D aF (mg J (aF.length+2)).1
 else if(J.settle D).2.2=0 then(J.settle D).1.Cv (J.settle D).2.1 aF (mg (J.settle D).1 (aF.length+2)).1
 else((J.settle D).1,(J.settle D).2.1,false,(J.settle D).2.2))else(J,D,false,oZ D.kept.length J aF)
theorem Oh{size:Nat}{J:Jr}{aF:List xe}(h:oZ size J aF=0):1<=aF.length/\aF.length<=10/\(aF.length:Int)+4<=J.n/\∀p∈aF,vb size J.aK J.n p.1=true/\p.2.length=64:=by
 unfold oZ at h;split at h
 ·omega
 ·rename_i h1;split at h
  ·omega
  ·split at h
   ·omega
   ·have h3:¬aF.length=0:=fun e=>h1 (.inl e);have h4:¬aF.any (Ea size J)=true:=fun e=>h1 (.inr e);refine⟨by omega,by omega,by omega,fun p hp=>?_⟩;have h5:¬Ea size J p=true:=fun e=>h4 (List.any_eq_true.2 ⟨p,hp,e⟩);unfold Ea at h5;simp at h5;exact h5
theorem Cy{J:Jr}(s:Int)(h:0<=J.at'/\J.at'<=100000000):0<=(mg J s).1/\(mg J s).1<=100000000:=by
 unfold mg;split
 ·exact h
 ·split
  ·exact h
  ·split
   ·simp
   ·simp
theorem ud(n:Int)(aF:List xe):(jF n aF).length=aF.length+2:=by simp[jF]
end Go.aT
namespace Go.Av
open Go.Proofs Go.Proofs.Tryz Go.aT
theorem Gq{J:Jr}(h:C7 J):C7 J.settled:=⟨h.aK,h.n,by simp[Jr.settled],h.at',h.at'⟩
theorem A_{J:Jr}(h:C7 J)(D:aN):C7 (J.settle D).1:=by
 unfold Jr.settle;split
 ·exact h
 ·split
  ·exact Gq h
  ·exact h
theorem o3(J:Jr)(D:aN):(J.settle D).1.next=J.next/\(J.settle D).1.aK=J.aK/\(J.settle D).1.at'=J.at'/\(J.settle D).1.bY.length<=J.bY.length:=by
 unfold Jr.settle;split
 ·exact⟨rfl,rfl,rfl,Nat.le_refl _⟩
 ·split
  ·exact⟨rfl,rfl,rfl,by simp[Jr.settled]⟩
  ·exact⟨rfl,rfl,rfl,Nat.le_refl _⟩
theorem Gr{b:Nat}{D:aN}(h:dO b D)(J:Jr):dO (b+5*(J.bY.length+1)) (J.settle D).2.1:=by
 unfold Jr.settle;split
 ·exact h.up (by omega)
 ·split
  ·exact h.jE J
  ·exact h.jE J
theorem Ki(D:aN)(b:Nat)(hD:dO b D)(J:Jr)(hJ:C7 J)(hb:b<=1000000000)(hat:J.at'<=90000000)(ho:∀p∈J.bY,-9223372036854775808<=p.1/\p.1<=9223372036854775807)(zX:J.bY.length<=1000000)(aF:List xe)(hpl:aF.length<=1000000):aE prog 313 [.obj 4 0,.p (.sl (aF.map eS))] ⟨(4,fy 0 5 J)::cE 3 D,(5,364,2)::cn 3,6⟩ (.agg true [.p (.bool (J.commit D aF).2.2.1),.p (.int (J.commit D aF).2.2.2)]) ⟨(4,fy 0 7 (J.commit D aF).1)::cE 6 (J.commit D aF).2.1,(7,364,2)::cn 6,8⟩:=by
 have hFt:=Oi D b hD J hJ aF hpl;obtain⟨R,iT⟩:∃R,J.commit D aF=R:=⟨_,rfl⟩;rw[iT];unfold Jr.commit at iT;refine ah (rs:=[_,_]) [2,4,63] [(25,[(0,.r 1),(1,.r 1),(4,.r 2),(6,.r 3),(8,.r 3),(12,.f [1,2,3]),(15,.s 2 [1,3])]),(19,[(0,.r 4),(1,.r 1),(4,.r 2)])] [(1,6),(2,4),(3,9),(4,8)] func313 rfl ?_;by_cases c1:oZ D.kept.length J aF=0
 ·rw[c1]at hFt;obtain⟨h1,h10,hn,hp⟩:=Oh c1;have hR:=Kj J.next aF h1 h10 (fun p hp'=>(hp p hp').2);have hLl:=ud J.next aF;have hRo:=Io J hJ (aF.length+2) (by omega);have hRb:=Cy (J:=J) (aF.length+2) (by have:=hJ.at';omega);rw[if_pos c1]at iT;unfold Jr.Cv at iT;simp;refine bq [0,1,2,3,4,5] hFt (by simp) (by simp) (by simp[ay,aj,fy]) (by simp[ay]) ?_;simp[aj,fy];refine bS hR ?_;generalize hLe:jF J.next aF=L at hLl iT;have Qu:(L.length:Int)=(aF.length:Int)+2:=by omega
  generalize hroom:mg J (aF.length+2)=RM at hRo hRb iT;obtain⟨A,ok⟩:=RM;simp only at hRo hRb iT;have wl:IntKind.i64.wrap ((aF.length:Int)+2-1)=((aF.length+1:Nat):Int):=by rw[aD];omega
  have wA:IntKind.i64.wrap (A+((aF.length:Int)+2))=A+((aF.length:Int)+2):=aD;simp[Qu];refine bq [0,1,2,3,4,5] hRo (by simp) (by simp) (by simp[ay]) (by simp[ay]) ?_;cases ok with
  |true=>
   have hF:=Ba D b hD J hJ L (aF.length+1) (by omega) (by omega) A hRb (by omega);generalize hCm:aI (gv J.aK L A) D=W at hF iT;simp[Qu,wl];refine aA hF (by simp) (by simp[ay,aj]) (by simp[ay]) rfl ?_;by_cases c2:W.2=0
   ·rw[if_pos rfl,if_pos c2]at iT;rw[<-iT];have Xo:dO (b+3*(L.length+1)) W.1:=by rw[<-hCm];exact hD.com J.aK L A
    by_cases c3:J.cnt=0
    ·obtain⟨Jx,Eb⟩:∃Jx:Jr,Jx={J with base:=A,at':=A+(aF.length+2)}:=⟨_,rfl⟩;simp[c2,c3,fy,Qu,wA,aj];refine aL (fun k:Nat=>k<=aF.length) (fun k=>[(2,.obj 6 0),(95,.p (.sl (aF.map eS))),(96,.p (.int aF.length)),(97,.p (.int k))]) (fun k=>⟨(6,⟨147,1,[.obj 4 0]⟩)::(4,fy 0 8 {Jx with bY:=J.bY++aF.take k})::cE 7 W.1,(8,364,2)::cn 7,9⟩) (fun k=>aF.length-k) 0 (by simp) _ (AS.le_refl _ _) (aB [(7,11),(8,5)] (by simp[aj,Eb,fy,c3])) ?_;intro k hk;by_cases ck:k<aF.length
     ·have iB:=j7 aF[k].2 (by rw[(hp _ (List.getElem_mem ck)).2];omega);have Kk:List.take (k+1) (List.map eS aF)=List.take k (List.map eS aF)++[eS aF[k]]:=by rw[iA (by simpa using ck)];simp
      have wk:=jq k;simp[ck,fy];refine bJ iB ?_;simp[wk];refine⟨fun x hx=>?_,by omega,by omega,k+1,by omega,by omega,aB [(8,10)] (by simp[Kk,aj])⟩;rcases hx with⟨a,b,_,rfl⟩|hx
      ·rfl
      ·obtain⟨y,_,rfl⟩:=List.mem_map.1 (jH hx);rfl
     ·obtain rfl:k=aF.length:=by omega
      rw[List.take_length];simp[fy];refine qU [0,1,2,7] (eR W.1 _ Xo (by omega)) ?_;simp[results313,aj];exact⟨[(6,9),(7,8)],by simp[Jr.done,Eb,c3];intro a b h;omega⟩
    ·have j_:(J.cnt==0)=false:=by simpa using c3
     by_cases c4:A<J.at'
     ·obtain⟨Jx,Eb⟩:∃Jx:Jr,Jx={J with wr:=true,at':=A+(aF.length+2)}:=⟨_,rfl⟩;simp[c2,j_,c4,fy,Qu,wA,aj];refine aL (fun k:Nat=>k<=aF.length) (fun k=>[(2,.obj 6 0),(95,.p (.sl (aF.map eS))),(96,.p (.int aF.length)),(97,.p (.int k))]) (fun k=>⟨(6,⟨147,1,[.obj 4 0]⟩)::(4,fy 0 8 {Jx with bY:=J.bY++aF.take k})::cE 7 W.1,(8,364,2)::cn 7,9⟩) (fun k=>aF.length-k) 0 (by simp) _ (AS.le_refl _ _) (aB [(7,11),(8,5)] (by simp[aj,Eb,fy])) ?_;intro k hk;by_cases ck:k<aF.length
      ·have iB:=j7 aF[k].2 (by rw[(hp _ (List.getElem_mem ck)).2];omega);have Kk:List.take (k+1) (List.map eS aF)=List.take k (List.map eS aF)++[eS aF[k]]:=by rw[iA (by simpa using ck)];simp
       have wk:=jq k;simp[ck,fy];refine bJ iB ?_;simp[wk];refine⟨fun x hx=>?_,by omega,by omega,k+1,by omega,by omega,aB [(8,10)] (by simp[Kk,aj])⟩;rcases hx with⟨a,b,_,rfl⟩|hx
       ·rfl
       ·obtain⟨y,_,rfl⟩:=List.mem_map.1 (jH hx);rfl
      ·obtain rfl:k=aF.length:=by omega
       rw[List.take_length];simp[fy];refine qU [0,1,2,7] (eR W.1 _ Xo (by omega)) ?_;simp[results313,aj];exact⟨[(6,9),(7,8)],by simp[Jr.done,Eb,c3,c4];intro a b h;omega⟩
     ·obtain⟨Jx,Eb⟩:∃Jx:Jr,Jx={J with at':=A+(aF.length+2)}:=⟨_,rfl⟩;simp[c2,j_,c4,fy,Qu,wA,aj];refine aL (fun k:Nat=>k<=aF.length) (fun k=>[(2,.obj 6 0),(95,.p (.sl (aF.map eS))),(96,.p (.int aF.length)),(97,.p (.int k))]) (fun k=>⟨(6,⟨147,1,[.obj 4 0]⟩)::(4,fy 0 8 {Jx with bY:=J.bY++aF.take k})::cE 7 W.1,(8,364,2)::cn 7,9⟩) (fun k=>aF.length-k) 0 (by simp) _ (AS.le_refl _ _) (aB [(7,11),(8,5)] (by simp[aj,Eb,fy])) ?_;intro k hk;by_cases ck:k<aF.length
      ·have iB:=j7 aF[k].2 (by rw[(hp _ (List.getElem_mem ck)).2];omega);have Kk:List.take (k+1) (List.map eS aF)=List.take k (List.map eS aF)++[eS aF[k]]:=by rw[iA (by simpa using ck)];simp
       have wk:=jq k;simp[ck,fy];refine bJ iB ?_;simp[wk];refine⟨fun x hx=>?_,by omega,by omega,k+1,by omega,by omega,aB [(8,10)] (by simp[Kk,aj])⟩;rcases hx with⟨a,b,_,rfl⟩|hx
       ·rfl
       ·obtain⟨y,_,rfl⟩:=List.mem_map.1 (jH hx);rfl
      ·obtain rfl:k=aF.length:=by omega
       rw[List.take_length];simp[fy];refine qU [0,1,2,7] (eR W.1 _ Xo (by omega)) ?_;simp[results313,aj];exact⟨[(6,9),(7,8)],by simp[Jr.done,Eb,c3,c4];intro a b h;omega⟩
   ·have dM:(W.2 !=0)=true:=by simpa using c2
    rw[if_pos rfl,if_neg c2]at iT;rw[<-iT];simp[dM,aj,results313];exact⟨[(6,11),(7,5)],by simp;intro a b h;omega⟩
  |false=>
   have hSt:=JD D b hD J hJ (by omega) ho;have hJ1:=A_ hJ D;obtain⟨kp1,kp2,kp3,kp4⟩:=o3 J D;have y7:=Gr hD J;rw[kp1,kp2,hLe]at iT;rw[<-kp2]at iT;generalize J.settle D=S at hSt hJ1 iT kp1 kp2 kp3 kp4 y7;obtain⟨J1,D1,e⟩:=S;simp only at hSt hJ1 iT kp1 kp2 kp3 kp4 y7;rw[if_neg (by simp)]at iT;simp;refine qU [0,1,2,3,4,5] hSt ?_;by_cases c5:e=0
   ·rw[if_pos c5]at iT;have Xp:=Io J1 hJ1 (aF.length+2) (by omega);have Xq:=Cy (J:=J1) (aF.length+2) (by have:=hJ1.at';omega);generalize ai_:mg J1 (aF.length+2)=RM at Xp Xq iT;obtain⟨A1,ok1⟩:=RM;simp only at Xp Xq iT;have WH:IntKind.i64.wrap (A1+((aF.length:Int)+2))=A1+((aF.length:Int)+2):=aD;simp[c5,aj,Qu];refine bq [0,1,2,9,4,10] Xp (by simp) (by simp) (by simp[ay]) (by simp[ay]) ?_;have hF:=Ba D1 _ y7 J1 hJ1 L (aF.length+1) (by omega) (by omega) A1 Xq (by omega);generalize hCm:aI (gv J1.aK L A1) D1=W at hF iT;simp[Qu,wl];refine qU [0,1,2,9,4,10,6,7,8,11,12] hF ?_;by_cases c2:W.2=0
    ·rw[if_pos c2]at iT;rw[<-iT];have Xo:dO (b+5*(J.bY.length+1)+3*(L.length+1)) W.1:=by rw[<-hCm];exact y7.com J1.aK L A1
     by_cases c3:J1.cnt=0
     ·obtain⟨Jx,Eb⟩:∃Jx:Jr,Jx={J1 with base:=A1,at':=A1+(aF.length+2)}:=⟨_,rfl⟩;simp[c2,c3,fy,Qu,WH,aj];refine aL (fun k:Nat=>k<=aF.length) (fun k=>[(2,.obj 6 0),(95,.p (.sl (aF.map eS))),(96,.p (.int aF.length)),(97,.p (.int k))]) (fun k=>⟨(6,⟨147,1,[.obj 4 0]⟩)::(4,fy 0 8 {Jx with bY:=J1.bY++aF.take k})::cE 7 W.1,(8,364,2)::cn 7,9⟩) (fun k=>aF.length-k) 0 (by simp) _ (AS.le_refl _ _) (aB [(7,13),(8,10)] (by simp[aj,Eb,fy,c3])) ?_;intro k hk;by_cases ck:k<aF.length
      ·have iB:=j7 aF[k].2 (by rw[(hp _ (List.getElem_mem ck)).2];omega);have Kk:List.take (k+1) (List.map eS aF)=List.take k (List.map eS aF)++[eS aF[k]]:=by rw[iA (by simpa using ck)];simp
       have wk:=jq k;simp[ck,fy];refine bJ iB ?_;simp[wk];refine⟨fun x hx=>?_,by omega,by omega,k+1,by omega,by omega,aB [(8,10)] (by simp[Kk,aj])⟩;rcases hx with⟨a,b,_,rfl⟩|hx
       ·rfl
       ·obtain⟨y,_,rfl⟩:=List.mem_map.1 (jH hx);rfl
      ·obtain rfl:k=aF.length:=by omega
       rw[List.take_length];simp[fy];refine qU [0,1,2,7] (eR W.1 _ Xo (by omega)) ?_;simp[results313,aj];exact⟨[(6,9),(7,8)],by simp[Jr.done,Eb,c3];intro a b h;omega⟩
     ·have j_:(J1.cnt==0)=false:=by simpa using c3
      by_cases c4:A1<J1.at'
      ·obtain⟨Jx,Eb⟩:∃Jx:Jr,Jx={J1 with wr:=true,at':=A1+(aF.length+2)}:=⟨_,rfl⟩;simp[c2,j_,c4,fy,Qu,WH,aj];refine aL (fun k:Nat=>k<=aF.length) (fun k=>[(2,.obj 6 0),(95,.p (.sl (aF.map eS))),(96,.p (.int aF.length)),(97,.p (.int k))]) (fun k=>⟨(6,⟨147,1,[.obj 4 0]⟩)::(4,fy 0 8 {Jx with bY:=J1.bY++aF.take k})::cE 7 W.1,(8,364,2)::cn 7,9⟩) (fun k=>aF.length-k) 0 (by simp) _ (AS.le_refl _ _) (aB [(7,13),(8,10)] (by simp[aj,Eb,fy])) ?_;intro k hk;by_cases ck:k<aF.length
       ·have iB:=j7 aF[k].2 (by rw[(hp _ (List.getElem_mem ck)).2];omega);have Kk:List.take (k+1) (List.map eS aF)=List.take k (List.map eS aF)++[eS aF[k]]:=by rw[iA (by simpa using ck)];simp
        have wk:=jq k;simp[ck,fy];refine bJ iB ?_;simp[wk];refine⟨fun x hx=>?_,by omega,by omega,k+1,by omega,by omega,aB [(8,10)] (by simp[Kk,aj])⟩;rcases hx with⟨a,b,_,rfl⟩|hx
        ·rfl
        ·obtain⟨y,_,rfl⟩:=List.mem_map.1 (jH hx);rfl
       ·obtain rfl:k=aF.length:=by omega
        rw[List.take_length];simp[fy];refine qU [0,1,2,7] (eR W.1 _ Xo (by omega)) ?_;simp[results313,aj];exact⟨[(6,9),(7,8)],by simp[Jr.done,Eb,c3,c4];intro a b h;omega⟩
      ·obtain⟨Jx,Eb⟩:∃Jx:Jr,Jx={J1 with at':=A1+(aF.length+2)}:=⟨_,rfl⟩;simp[c2,j_,c4,fy,Qu,WH,aj];refine aL (fun k:Nat=>k<=aF.length) (fun k=>[(2,.obj 6 0),(95,.p (.sl (aF.map eS))),(96,.p (.int aF.length)),(97,.p (.int k))]) (fun k=>⟨(6,⟨147,1,[.obj 4 0]⟩)::(4,fy 0 8 {Jx with bY:=J1.bY++aF.take k})::cE 7 W.1,(8,364,2)::cn 7,9⟩) (fun k=>aF.length-k) 0 (by simp) _ (AS.le_refl _ _) (aB [(7,13),(8,10)] (by simp[aj,Eb,fy])) ?_;intro k hk;by_cases ck:k<aF.length
       ·have iB:=j7 aF[k].2 (by rw[(hp _ (List.getElem_mem ck)).2];omega);have Kk:List.take (k+1) (List.map eS aF)=List.take k (List.map eS aF)++[eS aF[k]]:=by rw[iA (by simpa using ck)];simp
        have wk:=jq k;simp[ck,fy];refine bJ iB ?_;simp[wk];refine⟨fun x hx=>?_,by omega,by omega,k+1,by omega,by omega,aB [(8,10)] (by simp[Kk,aj])⟩;rcases hx with⟨a,b,_,rfl⟩|hx
        ·rfl
        ·obtain⟨y,_,rfl⟩:=List.mem_map.1 (jH hx);rfl
       ·obtain rfl:k=aF.length:=by omega
        rw[List.take_length];simp[fy];refine qU [0,1,2,7] (eR W.1 _ Xo (by omega)) ?_;simp[results313,aj];exact⟨[(6,9),(7,8)],by simp[Jr.done,Eb,c3,c4];intro a b h;omega⟩
    ·have dM:(W.2 !=0)=true:=by simpa using c2
     rw[if_neg c2]at iT;rw[<-iT];simp[dM,aj,results313];exact⟨[(6,13),(7,10)],by simp;intro a b h;omega⟩
   ·have qS:(e !=0)=true:=by simpa using c5
    rw[if_neg c5]at iT;rw[<-iT];simp[qS,aj,results313];exact⟨[(6,9),(7,10)],by simp;intro a b h;omega⟩
 ·have iP:(oZ D.kept.length J aF !=0)=true:=by simpa using c1
  rw[if_neg c1]at iT;rw[<-iT];simp;refine bq [0,1,2,3,4,5] hFt (by simp) (by simp) (by simp[ay,aj,fy]) (by simp[ay]) ?_;simp[iP,aj,fy,results313];exact⟨[(6,3),(7,5)],by simp;intro a b h;omega⟩
end Go.Av
namespace Go.aT
def qu(size:Nat)(all:List dh)(J:Jr):Option Jr:=if(pT size J.aK J.n all J.at' J.next).2=true then
 some {J with at':=J.at'+((pT size J.aK J.n all J.at' J.next).1.length+2),bY:=J.bY++(pT size J.aK J.n all J.at' J.next).1,next:=IntKind.i64.wrap (J.next+1)}else if(pT size J.aK J.n all 2 J.next).2=true then
 some {J with at':=2+((pT size J.aK J.n all 2 J.next).1.length+2),bY:=J.bY++(pT size J.aK J.n all 2 J.next).1,next:=IntKind.i64.wrap (J.next+1)}else none
def k9(size:Nat)(all:List dh):Nat->Jr->Jr
 |0,J=>J
 |k+1,J=>match qu size all J with
  |some J'=>k9 size all k J'
  |none=>J
def SB(all:List dh)(i:Nat):Int:=cq (((all.getD i []).drop 1).take 8)
structure J8(size:Nat)(aK n:Int)(all:List dh)(m:Mk)(r:Nat)(J:Jr):Prop where
 aK:J.aK=aK
 n:J.n=n
 H6:J.H6=m
 base:J.base=m.at'
 wr:J.wr=false
 cnt:J.cnt=0
 lo:2<=J.at'
 hi:J.at'<=all.length
 bY:J.bY.length<=10*r
 pos:∀p∈J.bY,0<=p.1/\p.1<size
 next:(J.next-m.first-r)%18446744073709551616=0
 used:∃is:List Nat,is.length=r/\is.Nodup/\∀i∈is,i<all.length/\∃t:Nat,t<r/\(SB all i-m.first-t)%18446744073709551616=0
theorem yX:∀(n:Nat) (l:List Nat),l.Nodup->(∀x∈l,x<n)->l.length<=n
 |0,l,_,h=>by
  cases l with
  |nil=>simp
  |cons x l=>have:=h x (by simp);omega
 |n+1,l,hn,h=>by
  have h1:=yX n (l.erase n) (hn.erase n) (fun x hx=>by
   have h2:=(hn.mem_erase_iff).1 hx;have:=h x h2.2;omega)
  rw[List.length_erase]at h1;split at h1
  ·omega
  ·omega
theorem tY(x:Int):(IntKind.i64.wrap x-x)%18446744073709551616=0:=by
 rw[IntWalk.i64_left];unfold RowKit.wrap64;omega
theorem vk{size:Nat}{aK n:Int}{all:List dh}{a nx:Int}(h:(pT size aK n all a nx).2=true):2<=a/\a<all.length/\SB all a.toNat=nx/\(pT size aK n all a nx).1.length<=10/\1<=(pT size aK n all a nx).1.length/\a+((pT size aK n all a nx).1.length+2)<=all.length/\∀p∈(pT size aK n all a nx).1,0<=p.1/\p.1<size:=by
 unfold pT at h⊢;by_cases hB:yH all a nx=true
 ·rw[if_pos hB]at h;simp only[if_pos hB];unfold yH at hB;simp only[Bool.and_eq_true,decide_eq_true_eq,beq_iff_eq]at hB;obtain⟨⟨⟨⟨⟨⟨⟨h1,h2⟩,h3⟩,h4⟩,h5⟩,h6⟩,h7⟩,h8⟩:=hB;have hl:(Cd all a).length=((all.getD a.toNat []).getD 9 0).toNat:=by simp[Cd]
  refine⟨h1,h2,h4,by omega,by omega,by omega,fun p hp=>?_⟩;have h9:¬((Cd all a).any fun x=>!vb size aK n x.1)=true:=by simpa using h
  have h10:vb size aK n p.1=true:=by
   cases hc:vb size aK n p.1 with
   |true=>rfl
   |false=>exact absurd (List.any_eq_true.2 ⟨p,hp,by rw[hc];rfl⟩) h9
  unfold vb at h10;simp at h10;omega
 ·rw[if_neg hB]at h;cases h
theorem J9{size:Nat}{aK n:Int}{all:List dh}{m:Mk}{r:Nat}{J J':Jr}(hl:all.length<=65536)(h:J8 size aK n all m r J)(hr:qu size all J=some J'):J8 size aK n all m (r+1) J'/\r<all.length:=by
 obtain⟨h1,h2,h3,h4,h5,h6,h7,h8,h9,h10,h11,is,i1,i2,i3⟩:=h;have key:∀a:Int,(pT size J.aK J.n all a J.next).2=true->J8 size aK n all m (r+1) {J with at':=a+((pT size J.aK J.n all a J.next).1.length+2),bY:=J.bY++(pT size J.aK J.n all a J.next).1,next:=IntKind.i64.wrap (J.next+1)}/\r<all.length:=by
  intro a ha;obtain⟨f1,f2,f3,f4,f5,f6,f7⟩:=vk ha;have hr0:r<=all.length:=i1▸yX _ is i2 (fun x hx=>(i3 x hx).1);have hnew:a.toNat∉is:=fun hm=>by
   obtain⟨_,t,t1,t2⟩:=i3 _ hm;rw[f3]at t2;omega
  have hnd:(a.toNat::is).Nodup:=List.nodup_cons.2 ⟨hnew,i2⟩;have hlen:=yX all.length (a.toNat::is) hnd (fun x hx=>by
   rcases List.mem_cons.1 hx with rfl|hx
   ·omega
   ·exact(i3 x hx).1)
  have hw:=tY (J.next+1);refine⟨⟨h1,h2,h3,h4,h5,h6,by show 2<=a+_;omega,f6,by simp only[List.length_append];omega,fun p hp=>?_,by show(IntKind.i64.wrap (J.next+1)-m.first-((r+1:Nat):Int))%_=0;omega,a.toNat::is,by simp[i1],hnd,fun i hi=>?_⟩,by simp[i1]at hlen;omega⟩
  ·rcases List.mem_append.1 hp with hp|hp
   ·exact h10 p hp
   ·exact f7 p hp
  ·rcases List.mem_cons.1 hi with rfl|hi
   ·exact⟨by omega,r,by omega,by rw[f3];exact h11⟩
   ·obtain⟨j1,t,t1,t2⟩:=i3 i hi;exact⟨j1,t,by omega,t2⟩
 unfold qu at hr;split at hr
 ·rename_i hc;injection hr with hr;subst hr;exact key J.at' hc
 ·split at hr
  ·rename_i hc;injection hr with hr;subst hr;exact key 2 hc
  ·cases hr
def oJ(J:Jr):List (aN->aN×Int):=[gU J.bY,aN.flush,J.tell,aN.flush]
end Go.aT
namespace Go.Av
open Go.Proofs Go.Proofs.Tryz Go.aT
abbrev ZB:Ob:=⟨91,1,[.mE (.func 165) [.obj 4 0],.mE (.func 166) [.obj 0 0],.mE (.func 167) [.obj 4 0],.mE (.func 166) [.obj 0 0]]⟩
theorem K5(D:aN)(b:Nat)(hD:dO b D)(J:Jr)(hJ:C7 J)(hb:b<=10000000000)(ho:∀p∈J.bY,-9223372036854775808<=p.1/\p.1<=9223372036854775807):aE prog 164 [.view 6 0 4 1 none] ⟨(6,ZB)::(4,fy 0 5 J)::cE 3 D,(5,364,2)::cn 3,7⟩ (.p (.int (aI (oJ J) D).2)) ⟨(6,ZB)::(4,fy 0 5 J)::cE 7 (aI (oJ J) D).1,(5,364,2)::cn 7,8⟩:=by
 have zX:=hJ.bY;refine ah (rs:=[_]) [] [] [] func164 rfl ?_;simp;refine aL (fun(kD:Nat×aN)=>kD.1<=4/\dO (b+2000000000*kD.1) kD.2/\aI ((oJ J).drop kD.1) kD.2=aI (oJ J) D) (fun kD=>[(6,.view 6 0 4 1 none),(7,.p (.int 4)),(8,.p (.int kD.1))]) (fun kD=>⟨(6,ZB)::(4,fy 0 5 J)::cE 7 kD.2,(5,364,2)::cn 7,8⟩) (fun kD=>4-kD.1) (0,D) ⟨by simp,hD,by simp⟩ _ (AS.le_refl _ _) (aB [(7,3)] (by simp[aj])) ?_;have w1:IntKind.i64.wrap 1=1:=aD;have w2:IntKind.i64.wrap 2=2:=aD;have w3:IntKind.i64.wrap 3=3:=aD;have w4:IntKind.i64.wrap 4=4:=aD;have w5:IntKind.i64.wrap 5=5:=aD;rintro⟨k,E⟩ ⟨hk,hE,hh⟩;simp only at hk hE hh;have hk':k=0\/k=1\/k=2\/k=3\/k=4:=by omega
 rcases hk' with rfl|rfl|rfl|rfl|rfl
 ·have hC:=HC E _ hE J hJ (by omega) ho;have mF:=hE.home J.bY;generalize hW:gU J.bY E=W at hC mF;have fM:(if W.2=0 then aI ((oJ J).drop 1) W.1 else W)=aI (oJ J) D:=by rw[<-hh,<-hW];rfl
  simp;refine dg [0,1,2,7,4,5] hC (by simp) (by simp) (by simp[ay,aj]) (by simp[ay]) ?_;by_cases c2:W.2=0
  ·rw[if_pos c2]at fM;simp[c2,aj,w1];exact⟨1,W.1,⟨by omega,mF.up (by omega),fM⟩,by omega,aB [(7,8)] (by simp[aj])⟩
  ·have dM:(W.2 !=0)=true:=by simpa using c2
   rw[if_neg c2]at fM;rw[<-fM];simp[dM,aj,results164];exact⟨[(7,8)],by simp⟩
 ·have hC:=eR E _ hE (by omega);have mF:=hE.flush;generalize hW:E.flush=W at hC mF;have fM:(if W.2=0 then aI ((oJ J).drop 2) W.1 else W)=aI (oJ J) D:=by rw[<-hh,<-hW];rfl
  simp;refine dg [0,1,2,7] hC (by simp) (by simp) (by simp[ay,aj]) (by simp[ay]) ?_;by_cases c2:W.2=0
  ·rw[if_pos c2]at fM;simp[c2,aj,w2];exact⟨2,W.1,⟨by omega,mF.up (by omega),fM⟩,by omega,aB [(7,8)] (by simp[aj])⟩
  ·have dM:(W.2 !=0)=true:=by simpa using c2
   rw[if_neg c2]at fM;rw[<-fM];simp[dM,aj,results164];exact⟨[(7,8)],by simp⟩
 ·have hC:=HD E _ hE J hJ (by omega);have mF:=hE.tell J;generalize hW:J.tell E=W at hC mF;have fM:(if W.2=0 then aI ((oJ J).drop 3) W.1 else W)=aI (oJ J) D:=by rw[<-hh,<-hW];rfl
  simp;refine dg [0,1,2,7,4,5] hC (by simp) (by simp) (by simp[ay,aj]) (by simp[ay]) ?_;by_cases c2:W.2=0
  ·rw[if_pos c2]at fM;simp[c2,aj,w3];exact⟨3,W.1,⟨by omega,mF.up (by omega),fM⟩,by omega,aB [(7,8)] (by simp[aj])⟩
  ·have dM:(W.2 !=0)=true:=by simpa using c2
   rw[if_neg c2]at fM;rw[<-fM];simp[dM,aj,results164];exact⟨[(7,8)],by simp⟩
 ·have hC:=eR E _ hE (by omega);have mF:=hE.flush;generalize hW:E.flush=W at hC mF;have fM:(if W.2=0 then aI ((oJ J).drop 4) W.1 else W)=aI (oJ J) D:=by rw[<-hh,<-hW];rfl
  simp;refine dg [0,1,2,7] hC (by simp) (by simp) (by simp[ay,aj]) (by simp[ay]) ?_;by_cases c2:W.2=0
  ·rw[if_pos c2]at fM;simp[c2,aj,w4];exact⟨4,W.1,⟨by omega,mF.up (by omega),fM⟩,by omega,aB [(7,8)] (by simp[aj])⟩
  ·have dM:(W.2 !=0)=true:=by simpa using c2
   rw[if_neg c2]at fM;rw[<-fM];simp[dM,aj,results164];exact⟨[(7,8)],by simp⟩
 ·rw[<-hh];simp[oJ,aI,results164];exact⟨[],by simp[aj]⟩
end Go.Av
namespace Go.aT
def fq(aK n:Int)(m:Mk):Jr:=⟨aK,n,m,m.first,m.at',m.at',false,[],0⟩
def Jr.oB(J:Jr)(m:Mk):Jr:={J with cnt:=IntKind.i64.wrap (J.next-m.first)}
def nG(D:aN)(aK n:Int):aN×Option Jr×Int×Int:=if pU D.kept.length aK n=0 then
 (if(D.read aK n).2.2=0 then
  (if(rO (D.read aK n).2.1).2=true then
   (
    let J:=(k9 D.kept.length (D.read aK n).2.1 (D.read aK n).2.1.length (fq aK n (rO (D.read aK n).2.1).1)).oB (rO (D.read aK n).2.1).1
    if 0<J.cnt then
     (if(aI (oJ J) (D.read aK n).1).2=0 then((aI (oJ J) (D.read aK n).1).1,some J.settled,J.cnt,0)else((aI (oJ J) (D.read aK n).1).1,none,0,(aI (oJ J) (D.read aK n).1).2))
    else((D.read aK n).1,some J.settled,J.cnt,0))
  else((D.read aK n).1,none,0,33))
 else((D.read aK n).1,none,0,(D.read aK n).2.2))else(D,none,0,pU D.kept.length aK n)
end Go.aT
namespace Go.Av
open Go.Proofs Go.Proofs.Tryz Go.aT
def PW(R:aN×Option Jr×Int×Int):AV:=match R.2.1 with
 |some _=> .obj 4 0
 |none=> .p (.sc (.pointer none))
def S0(R:aN×Option Jr×Int×Int):AV:= .agg true [PW R,.p (.int R.2.2.1),.p (.int R.2.2.2)]
def S2(R:aN×Option Jr×Int×Int):Tb:=match R.2.1 with
 |some J=>⟨(4,fy 0 5 J)::cE 6 R.1,(5,364,2)::cn 6,7⟩
 |none=>⟨cE 4 R.1,cn 4,5⟩
theorem T7{all:List dh}(h:(rO all).2=true):2<=(rO all).1.at'/\(rO all).1.at'<=all.length:=by
 have key:∀(b:List UInt8) (r:Int),(mY b r all.length).2=true->2<=(mY b r all.length).1.at'/\(mY b r all.length).1.at'<=all.length:=by
  intro b r hb;unfold mY at hb⊢;simp at hb⊢;omega
 unfold rO at h⊢;simp only at h⊢;split at h
 ·rename_i hc;rw[if_pos hc];exact key _ _ hc.1
 ·rename_i hc;rw[if_neg hc];exact key _ _ h
theorem T8(size:Nat)(aK n:Int)(all:List dh)(m:Mk)(h:2<=m.at'/\m.at'<=all.length):J8 size aK n all m 0 (fq aK n m):=⟨rfl,rfl,rfl,rfl,rfl,rfl,h.1,h.2,by simp[fq],by simp[fq],by simp[fq],[],rfl,List.nodup_nil,by simp⟩
theorem XS(D:aN)(b:Nat)(hD:dO b D)(aK n:Int)(hf:0<=aK/\aK<=1000000)(hb:b<=100000000):aE prog 71 [.obj 0 0,.p (.int aK),.p (.int n)] ⟨cE 3 D,cn 3,4⟩ (S0 (nG D aK n)) (S2 (nG D aK n)):=by
 have hR:=EW D hD.top aK n;obtain⟨R,iT⟩:∃R,nG D aK n=R:=⟨_,rfl⟩;rw[iT];unfold nG at iT;have QA:∀(e:Int) (D':aN),S0 (D',none,0,e)= .agg true [.p (.sc (.pointer none)),.p (.int 0),.p (.int e)]:=fun _ _=>rfl;have hjt:∀(e:Int) (D':aN),S2 (D',none,0,e)=⟨cE 4 D',cn 4,5⟩:=fun _ _=>rfl;have al9:∀(J:Jr) (k:Int) (D':aN),S0 (D',some J,k,0)= .agg true [.obj 4 0,.p (.int k),.p (.int 0)]:=fun _ _ _=>rfl;have afy:∀(J:Jr) (k:Int) (D':aN),S2 (D',some J,k,0)=⟨(4,fy 0 5 J)::cE 6 D',(5,364,2)::cn 6,7⟩:=fun _ _ _=>rfl;by_cases c1:pU D.kept.length aK n=0
 ·have hn:5<=n/\n<=D.kept.length/\aK<=(D.kept.length:Int)-n:=by
   unfold pU at c1;split at c1<;>omega
  have FI:=hD.top;have PX:=CL D b hD aK n (by omega);have y7:=hD.read aK n;have rQ:(D.read aK n).1.kept.length=D.kept.length:=by
   unfold aN.read;split
   ·split
    ·unfold aN.next;split<;>rfl
    ·unfold aN.next;split<;>rfl
   ·rfl
  have hal:(D.read aK n).2.2=0->(D.read aK n).2.1.length=n.toNat/\∀s∈(D.read aK n).2.1,s.length=64:=by
   unfold aN.read;split
   ·split
    ·intro _;refine⟨by rw[List.length_take,List.length_drop,hD.len];omega,fun s hs=>hD.now s (List.mem_of_mem_drop (jH hs))⟩
    ·rename_i hc;intro h;exact absurd h hc
   ·intro h;cases h
  rw[if_pos c1]at iT;rw[c1]at hR;generalize D.read aK n=X at PX y7 iT rQ hal;obtain⟨E,all,e⟩:=X;simp only at PX y7 iT rQ hal;by_cases c2:e=0
  ·subst c2;obtain⟨ha1,Qp⟩:=hal rfl;have hN:=JT all (by omega) (by omega) Qp;have Hz:=T7 (all:=all);rw[if_pos rfl]at iT;generalize rO all=Y at hN iT Hz;obtain⟨m,ok⟩:=Y;simp only at hN iT Hz;cases ok with
   |false=>
    rw[if_neg (by simp)]at iT;rw[<-iT,QA,hjt];refine ah (rs:=[_,_,_]) [57,146] [] [] func71 rfl ?_;simp;refine mC hR rfl ?_;simp;refine qU [0,1,2,3] PX ?_;simp;refine bS hN ?_;simp[aj,results71];exact⟨[(4,5)],by simp⟩
   |true=>
    rw[if_pos rfl]at iT;have hm:=Hz rfl;have hI0:=T8 D.kept.length aK n all m hm;have hall:all.length<=65536:=by omega
    have alM:(all.length:Int)=n:=by omega
    have ek:E.kept.length<=65536:=y7.top;have hfd:∀(a nx:Int),2<=a/\a<=all.length->aE prog 163 [.agg false [.obj 0 0,.p (.int aK),.p (.int n)],.p (.sl (all.map cy)),.p (.int a),.p (.int nx)] ⟨cE 3 E,cn 3,4⟩ (.agg true [.p (.sl ((pT D.kept.length aK n all a nx).1.map eS)),.p (.bool (pT D.kept.length aK n all a nx).2)]) ⟨cE 3 E,cn 3,4⟩:=by
     intro a nx ha;have:=Ng E ek y7.kept y7.now aK n hf (by omega) all hall Qp a nx (by omega);rw[rQ]at this;exact this
    refine ah (rs:=[PW R,.p (.int R.2.2.1),.p (.int R.2.2.2)]) [57,146] [(12,[(0,.r 1),(5,.r 2),(9,.r 2),(10,.w [1,2])]),(16,[(0,.r 1),(5,.r 2),(6,.w [1,2])]),(22,[(4,.r 2),(6,.r 3),(10,.s 2 [3])])] [(1,4),(2,7),(3,6)] func71 rfl ?_;simp;refine mC hR rfl ?_;simp;refine qU [0,1,2,3] PX ?_;simp;refine bS hN ?_;simp[aj];refine aL (fun(rJ:Nat×Jr)=>J8 D.kept.length aK n all m rJ.1 rJ.2/\rJ.1<=all.length/\k9 D.kept.length all (all.length-rJ.1) rJ.2=k9 D.kept.length all all.length (fq aK n m)) (fun rJ=>[(0,.obj 0 0),(10,.obj 4 0),(11,.p (.sl (all.map cy))),(12,.p (.int 0)),(13,.obj 6 0),(15,.obj 7 0)]) (fun rJ=>⟨(4,CZ aK n)::(6,⟨263,3,[.p (.int m.number),.p (.int m.first),.p (.int m.at')]⟩)::(7,fy 0 8 rJ.2)::cE 5 E,(8,364,2)::cn 5,9⟩) (fun rJ=>all.length-rJ.1) (0,fq aK n m) ⟨hI0,by simp,by simp⟩ _ (ja 7 10 364 2 ⟨268,12,[.obj 0 0,.p (.int aK),.p (.int n),.p (.int m.number),.p (.int m.first),.p (.int m.at'),.p (.int m.first),.p (.int m.at'),.p (.int m.at'),.p (.bool false),.p .nil,.p (.int 0)]⟩ [] (by simp[lk]) (.inr ⟨rfl,rfl⟩)) (ak (by simp[aj,Tb.bU,Tb.aP,del,fq,fy])) ?_;rintro⟨r,J⟩ ⟨hI,hr,hh⟩;simp only at hI hr hh;have hrd:qu D.kept.length all J=if(pT D.kept.length aK n all J.at' J.next).2=true then
     some {J with at':=J.at'+((pT D.kept.length aK n all J.at' J.next).1.length+2),bY:=J.bY++(pT D.kept.length aK n all J.at' J.next).1,next:=IntKind.i64.wrap (J.next+1)}else if(pT D.kept.length aK n all 2 J.next).2=true then
     some {J with at':=2+((pT D.kept.length aK n all 2 J.next).1.length+2),bY:=J.bY++(pT D.kept.length aK n all 2 J.next).1,next:=IntKind.i64.wrap (J.next+1)}else none:=by unfold qu;rw[hI.aK,hI.n]
    have hF1:=hfd J.at' J.next ⟨hI.lo,hI.hi⟩;have hF2:=hfd 2 J.next (by omega);have hf1:=@vk D.kept.length aK n all J.at' J.next;have hf2:=@vk D.kept.length aK n all 2 J.next;generalize pT D.kept.length aK n all J.at' J.next=F1 at hrd hF1 hf1;generalize pT D.kept.length aK n all 2 J.next=F2 at hrd hF2 hf2;obtain⟨L1,b1⟩:=F1;obtain⟨L2,b2⟩:=F2;simp only at hrd hF1 hF2 hf1 hf2;have hnext:∀J',qu D.kept.length all J=some J'->J8 D.kept.length aK n all m (r+1) J'/\r+1<=all.length/\k9 D.kept.length all (all.length-(r+1)) J'=k9 D.kept.length all all.length (fq aK n m):=by
     intro J' hJ';obtain⟨g1,g2⟩:=J9 hall hI hJ';refine⟨g1,by omega,?_⟩;rw[<-hh];obtain⟨k,hk⟩:∃k,all.length-r=k+1:=⟨all.length-r-1,by omega⟩;rw[hk,show all.length-(r+1)=k by omega,k9,hJ']
    simp[fy];refine qU [0,1,2,5] hF1 ?_;have Qw:=hI.bY;have al_:=hI.lo;have al':=hI.hi;cases b1 with
    |true=>
     obtain⟨f1,f2,f3,f4,f5,f6,f7⟩:=hf1 rfl;rw[if_pos rfl]at hrd;have FF:=hnext _ hrd;have w1:IntKind.i64.wrap ((L1.length:Int)+2)=(L1.length:Int)+2:=aD;have w2:IntKind.i64.wrap (J.at'+((L1.length:Int)+2))=J.at'+((L1.length:Int)+2):=aD;simp[aj,w1,w2];exact⟨fun x a b _ h=>h▸rfl,fun x a b _ h=>h▸rfl,by omega,by omega,r+1,_,FF,by omega,aB [(8,9)] (by simp[aj])⟩
    |false=>
     rw[if_neg (by simp)]at hrd;simp[aj];refine qU [0,1,2,5] hF2 ?_;cases b2 with
     |true=>
      obtain⟨f1,f2,f3,f4,f5,f6,f7⟩:=hf2 rfl;rw[if_pos rfl]at hrd;have FF:=hnext _ hrd;have w1:IntKind.i64.wrap ((L2.length:Int)+2)=(L2.length:Int)+2:=aD;have w2:IntKind.i64.wrap (2+((L2.length:Int)+2))=2+((L2.length:Int)+2):=aD;simp[aj,w1,w2];exact⟨fun x a b _ h=>h▸rfl,fun x a b _ h=>h▸rfl,by omega,by omega,r+1,_,FF,by omega,aB [(8,9)] (by simp[aj])⟩
     |false=>
      rw[if_neg (by simp)]at hrd;have hJe:k9 D.kept.length all all.length (fq aK n m)=J:=by
       rw[<-hh];cases all.length-r with
       |zero=>rfl
       |succ k=>rw[k9,hrd]
      rw[hJe]at iT;have y1:(J.oB m).aK=aK:=hI.aK;have y2:(J.oB m).n=n:=hI.n;have y3:(J.oB m).at'=J.at':=rfl;have y4:(J.oB m).base=m.at':=hI.base;have y5:(J.oB m).bY.length=J.bY.length:=rfl;have hJk:C7 (J.oB m):=⟨by rw[y1];exact hf,by rw[y2];omega,by rw[y5];omega,by rw[y3];omega,by rw[y4];omega⟩;have hpo:∀p∈(J.oB m).bY,-9223372036854775808<=p.1/\p.1<=9223372036854775807:=fun p hp=>by have:=hI.pos p hp;omega
      have hFo:=K5 E b y7 (J.oB m) hJk (by omega) hpo;have hSe:=yC (J.oB m);change(if 0<IntKind.i64.wrap (J.next-m.first)then _ else _)=R at iT;generalize hW:aI (oJ (J.oB m)) E=W at hFo iT;by_cases c3:0<IntKind.i64.wrap (J.next-m.first)
      ·rw[if_pos c3]at iT;simp[aj,c3];refine bq [0,1,2,5,7,8,9] hFo (by simp) (by simp) (by simp[ay,aj,Jr.oB]) (by simp[ay]) ?_;by_cases c4:W.2=0
       ·rw[if_pos c4]at iT;rw[<-iT,afy];simp[aj,c4];refine bq [0,1,2,10,7,8] hSe (by simp) (by simp) (by simp[ay]) (by simp[ay]) ?_;simp[aj,results71];exact⟨[(4,7),(5,11),(6,10)],by simp[PW,Jr.oB];intro a b h;omega⟩
       ·have kT:(W.2 !=0)=true:=by simpa using c4
        rw[if_neg c4]at iT;rw[<-iT,hjt];simp[aj,kT,results71];exact⟨[(4,10)],by simp[PW]⟩
      ·rw[if_neg c3]at iT;rw[<-iT,afy];simp[aj,c3];refine bq [0,1,2,5,7,8] hSe (by simp) (by simp) (by simp[ay,Jr.oB]) (by simp[ay]) ?_;simp[aj,results71];exact⟨[(4,7),(5,9),(6,5)],by simp[PW,Jr.oB];intro a b h;omega⟩
  ·have dM:(e !=0)=true:=by simpa using c2
   rw[if_neg c2]at iT;rw[<-iT,QA,hjt];refine ah (rs:=[_,_,_]) [57,146] [] [] func71 rfl ?_;simp;refine mC hR rfl ?_;simp;refine qU [0,1,2,3] PX ?_;simp[dM,aj,results71];exact⟨[(4,5)],by simp⟩
 ·have iP:(pU D.kept.length aK n !=0)=true:=by simpa using c1
  rw[if_neg c1]at iT;rw[<-iT,QA,hjt];refine ah (rs:=[_,_,_]) [57,146] [] [] func71 rfl ?_;simp;refine mC hR rfl ?_;simp[iP,results71];exact⟨[(4,3)],by simp[aj]⟩
end Go.Av
namespace Go.aT
def cG(j p:Int):Int:=1+j+p*8
def ig(size:Int)(j p:Int):Int:=if j<5\/4096<j\/p<30\/4096<p then 2 else if size-cG j p<16 then 2 else 0
end Go.aT
namespace Go.Av
open Go.Proofs Go.Proofs.Tryz Go.aT
theorem vg(b:List UInt8)(hb:b.length<=1000000000):aq prog 157 [cy b] (.int (cq b)):=by
 refine ai (ys:=[_]) [] [] [] func157 rfl ?_;simp;have w00:IntKind.i64.wrap 0=0:=aD;refine bg (fun k:Nat=>k<=b.length) (fun k=>[(6,.p (cy b)),(7,.p (.int b.length)),(8,.p (.int k)),(3,.p (.int (cq (b.take k))))]) (fun k=>b.length-k) 0 (by simp) (ak (by simp[cq,jA,w00])) ?_;intro k hk;by_cases ck:k<b.length
 ·have w1:=jq k;have wx:IntKind.i64.wrap (b[k].toNat:Int)=(b[k].toNat:Int):=bf (by omega) (by have:=b[k].toNat_lt;omega);have ho:=yL (jA (b.take k)) b[k].toNat (b[k].toNat_lt);have hts:cq (b.take (k+1))=IntKind.i64.wrap ((jA (b.take k)*256+b[k].toNat:Nat):Int):=by
   unfold cq;rw[iA ck,kE]
  rw[<-hts]at ho;change bits .or .i64 (IntKind.i64.wrap (cq (b.take k)*2^min 8 IntKind.i64.bits)) _=_ at ho;simp[ck,w1,wx,ho,cH];exact⟨k+1,by omega,by omega,ak (by simp)⟩
 ·obtain rfl:k=b.length:=by omega
  simp[results157]
theorem HX(n:Int):aq prog 177 [.int n] (cy (aC n 4)):=by
 have h:∀k:Nat,k<=24->IntKind.u8.wrap (n.fdiv (2^min k IntKind.i64.bits))=((wF (n/2^k)).toNat:Int):=by
  intro k hk;have e:min k IntKind.i64.bits=k:=by
   have e2:IntKind.i64.bits=64:=rfl;rw[e2];omega
  rw[e,Int.fdiv_eq_ediv_of_nonneg _ (Int.le_of_lt (Int.pow_pos (by omega))),mX]
 have h24:=h 24 (by omega);have h16:=h 16 (by omega);have h8:=h 8 (by omega);have h0:=mX n;have e4:aC n 4=[wF (n/2^24),wF (n/2^16),wF (n/2^8),wF n]:=by
  show[wF (n/2^24),wF (n/2^16),wF (n/2^8),wF (n/2^0)]=_;simp
 rw[e4];refine ai (ys:=[_]) [] [] [] func177 rfl ?_;simp[h24,h16,h8,h0,results177];rfl
theorem yb(j p:Int)(hj:0<=j/\j<=1000000):aE prog 160 [.agg false [.obj 0 0,.p (.int j),.p (.int p)]] ⟨[],[],1⟩ (.p (.int (1+j))) ⟨[],[],1⟩:=by
 have w1:IntKind.i64.wrap (1+j)=1+j:=aD;refine ah (rs:=[_]) [1] [] [] func160 rfl ?_;simp[w1,results160];exact⟨[],by simp⟩
theorem yM(j p:Int)(hj:0<=j/\j<=1000000)(hp:0<=p/\p<=1000000):aE prog 67 [.agg false [.obj 0 0,.p (.int j),.p (.int p)]] ⟨[],[],1⟩ (.p (.int (cG j p))) ⟨[],[],1⟩:=by
 have w1:IntKind.i64.wrap (p*8)=p*8:=aD;have w2:IntKind.i64.wrap (1+j+p*8)=1+j+p*8:=aD;refine ah (rs:=[_]) [1] [(1,[(0,.r 1),(1,.w [1]),(4,.r 1)])] [(1,1)] func67 rfl ?_;simp;refine jI [0] (yb j p hj) ?_;simp[w1,w2,results67,cG];exact⟨[],by simp⟩
theorem Cl(D:aN)(hl:D.kept.length<=65536)(j p:Int):aE prog 70 [.obj 0 0,.p (.agg false [.int j,.int p])] ⟨[(0,yN 3 D)],[],4⟩ (.p (.int (ig D.kept.length j p))) ⟨[(0,yN 3 D)],[],4⟩:=by
 have hS:=Ge D;unfold ig;refine ah (rs:=[_]) [] [(5,[(1,.w []),(5,.w [])])] [] func70 rfl ?_;by_cases c1:j<5
 ·simp[c1,results70];exact⟨[],by simp⟩
 by_cases c2:4096<j
 ·simp[c1,c2,results70];exact⟨[],by simp⟩
 by_cases c3:p<30
 ·simp[c1,c2,c3,results70];exact⟨[],by simp⟩
 by_cases c4:4096<p
 ·simp[c1,c2,c3,c4,results70];exact⟨[],by simp⟩
 have w1:IntKind.i64.wrap ((D.kept.length:Int)-cG j p)=(D.kept.length:Int)-cG j p:=bf (by unfold cG;omega) (by unfold cG;omega);simp[c1,c2,c3,c4];refine mC hS rfl ?_;simp;refine jI [0] (yM j p (by omega) (by omega)) ?_;by_cases c5:(D.kept.length:Int)-cG j p<16
 ·simp[c5,w1,results70];exact⟨[],by simp⟩
 ·simp[c5,w1,results70];exact⟨[],by simp⟩
end Go.Av
