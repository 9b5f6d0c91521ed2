/- TiersAgain, part 13: what functions compute, and its plain law; no condition. -/
import Derived.Test.YtgkdpbambfgahaaGreatDoorWal
import Derived.Lib.BytesEntry
import Derived.Lib.Bytealg
import Derived.Test.YtgkdpbambfgahaaGreatDoorProg
import Derived.Shelf.Lays
import Derived.Shelf.Strings.AsciiSet
import Derived.Shelf.Strings.IndexAnyAll
set_option linter.all false
set_option maxRecDepth 100000
set_option maxHeartbeats 64000000
namespace Go.aL
def Jo(n:Int)(N:UInt8)(aI:List wB):List UInt8:=72::(cL n 8++N::aI.flatMap λp=>cL p.1 4++[p.2.getD 0 0])
def akg(n:Int)(aI:List wB):List UInt8:=Jo n (UInt8.ofNat aI.length) aI
def nQ(n:Int)(aI:List wB):List dY:=zN (akg n aI)::(aI.map (λp=>p.2.set 0 0)++[zN (67::cL n 8)])
where zN (b:List UInt8):List UInt8:=b++List.replicate (64-b.length) 0
def tI(n:Int)(N:UInt8)(aI:List wB):(Jo n N aI).length=10+5*aI.length:=by
 have:(aI.flatMap λp=>cL p.1 4++[p.2.getD 0 0]).length=5*aI.length:=by
  induction aI with
  |nil=>rfl
  |cons p l ih=>simp only[List.flatMap_cons,List.length_append,ih,bC];simp;omega
 show(72::(cL n 8++N::_)).length=_;rw[List.length_cons,List.length_append,List.length_cons,this,bC];omega
end Go.aL
namespace Go.Av
open Go.Proofs Go.Proofs.Tryz Go.aL
def Qf(n:Int)(aI:List wB)(h1:1<=aI.length)(hm:aI.length<=10)(hp:∀p∈aI,p.2.length=64):cq 355 [.int n,.sl (aI.map iL)] (.sl ((nQ n aI).map cK)):=by
 refine bF (xs:=[_,_]) (r:= .view 0 0 (aI.length+2) 1 none) (a_:=⟨[(0,⟨22,1,(nQ n aI).map λb=> .p (cK b)⟩)],[],1⟩) ?_ ?_
 .refine aq [_] [10,18,50] [(6,[(2,.r 1),(3,.w [1]),(5,.r 1),(9,.w [1])])] [(1,2)] func355 rfl ?_;have l8:=bC n 8;have wl:IntKind.u8.wrap (aI.length:Int)=(aI.length:Int):=by
   rw[IntKind.wrap_u8];omega
  have hN:(UInt8.ofNat aI.length).toNat=aI.length:=by simp;omega
  generalize hNe:UInt8.ofNat aI.length=N at hN;have b0:List.take 9 (af (72::cL n 8))++[PC.sc (.int .u8 aI.length)]=af (Jo n N []):=by
   rw[B2 (by simp[af,l8])];simp[Jo,af,hN]
  have b0':List.take 9 (List.map AV.p (af (72::cL n 8)))++[AV.p (PC.sc (.int .u8 aI.length))]=(af (Jo n N [])).map .p:=by
   rw[<-b0,jB,fG];rfl
  simp;refine aN (mU 1 [72] [] (.view 0 0 1 1 none) [(0,gE [72])] 0 (.inl ⟨H,H⟩) H n 8 O) H (by simp[aA,af]) trivial rfl ?_;simp[wl];refine⟨O,?_⟩;refine aS (λk:Nat=>k<=aI.length) (λk=>[(0,.p (.int n)),(5,.view 0 0 (10+5*k) 1 none),(6,.view 1 0 (k+1) 1 none),(19,.p (.sl (aI.map iL))),(20,.p (.int aI.length)),(21,.p (.int k))]) (λk=>⟨[(0,gE (Jo n N (aI.take k))),(1,⟨22,1,.p .nil::((aI.take k).map λp=>AV.p (cK (p.2.set 0 0)))⟩)],[],2⟩) (λk=>aI.length-k) 0 H _ (AS.le_refl _ _) (aE [(0,2),(1,3)] (by simp[b0',bA])) ?_;intro k hk;by_cases ck:k<aI.length
  .have ckl:=hp _ (bB ck);have lF:aI.take (k+1)=aI.take k++[aI[k]]:=by rw[F6 ck]
   have agX:=mU 3 (Jo n N (aI.take k)) [] (.view 0 0 (Jo n N (aI.take k)).length 1 none) [(0,gE (Jo n N (aI.take k)))] 0 (.inl ⟨rfl,H⟩) (by rw[tI];simp;omega) aI[k].1 4 O;have hlk:(Jo n N (aI.take k)).length=10+5*k:=by rw[tI];simp;omega
   rw[hlk]at agX;generalize hpe:aI[k]=p at agX ckl lF;have q0:(af p.2)[0]?=some (sS p.2[0]):=by rw[K2 (by simp[af];omega),eX]
   have wk:=ju k;simp[ck,hpe];refine oM agX rfl ?_;have hz4:=bC p.1 4;simp[q0];refine⟨O,O,O,aN (K7 5 p.2 O) H (by simp[aA]) trivial rfl ?_⟩;have iG:(AV.p (PC.sc (.int .u8 0))::(List.map AV.p (af p.2)).tail)=(af (p.2.set 0 0)).map .p:=by
    cases hX:p.2 with
    |nil=>rw[hX]at ckl;simp at ckl
    |cons x X=>simp[af]
   have b3:List.take (10+5*k+4) (List.map AV.p (af (Jo n N (List.take k aI)++cL p.1 4)))++[AV.p (PC.sc (.int .u8 p.2[0].toNat))]=(af (Jo n N (aI.take (k+1)))).map .p:=by
    rw[B2 (by simp[af];omega),lF];have g0:p.2.getD 0 0=p.2[0]:=by rw[List.getD_eq_getElem?_getD,K2 O];rfl
    have g1:p.2[0]?.getD 0=p.2[0]:=by rw[K2 O];rfl
    simp[Jo,af,g1]
   simp[iG,b3];refine⟨O,O,?_⟩;refine U' [cK (p.2.set 0 0)] ⟨[(4,gE (Jo n N (aI.take (k+1)))),(2,⟨364,2,[.p (.int p.1),.p (cK p.2)]⟩),(1,⟨22,1,.p .nil::List.take k (List.map (λp=> .p (cK (p.2.set 0 0))) aI)⟩)],[],7⟩ (by simp[bW]) ?_ H H ?_
   .simp[Gz,aa6,Wu];exact⟨by rw[j7];exact B2 (by simp[af]),λy h=>cJ _ y h,λy h=>j8 _ y h⟩
   have e1:10+5*k+4+1=10+5*(k+1):=O;have Qg:List.take (k+1) (List.map (λp=>AV.p (cK (p.2.set 0 0))) aI)=List.take k (List.map (λp=>AV.p (cK (p.2.set 0 0))) aI)++[AV.p (cK (p.2.set 0 0))]:=by
    have:=dg (List.map λp:wB=>AV.p (cK (p.2.set 0 0))) lF;simpa using this
   have htt:List.take k (List.take k (List.map (λp=>AV.p (cK (p.2.set 0 0))) aI))=List.take k (List.map (λp=>AV.p (cK (p.2.set 0 0))) aI):=by rw[qY,Nat.min_self]
   simp[wk,e1];exact⟨O,O,O,k+1,O,O,aE [(0,4),(1,7)] (by simp[Qg,bA,htt])⟩
  .obtain rfl:k=aI.length:=O;rw[eH];have Ui:=w9 (b:=fU (Jo n N aI)) (yQ 2 0 O (Jo n N aI) (10+5*aI.length) (by rw[tI]) (by rw[tI];omega)) (by simp[lk]) (p_ _ (by rw[tI];omega)).symm;simp;refine oM Ui rfl ?_;simp;refine aN (mU 5 [67] [] (.view 4 0 1 1 none) [(4,gE [67])] 4 (.inl ⟨H,H⟩) H n 8 O) H (by simp[aA,af]) trivial rfl ?_;simp;have alG:=w9 (b:=fU (67::cL n 8)) (yQ 6 5 O (67::cL n 8) 9 (by simp[l8]) (by simp[l8])) (by simp[lk]) (p_ _ (by simp[l8])).symm;refine oM alG rfl ?_;have r1:nQ n aI=fU (Jo n N aI)::(aI.map (λp=>p.2.set 0 0)++[fU (67::cL n 8)]):=by rw[<-hNe];rfl
   simp[results355];refine⟨O,O,[(0,8)],?_⟩;rw[r1];simp[bA];rw[B2 H];exact List.prefix_rfl
 .have hrl:(nQ n aI).length=aI.length+2:=by simp[nQ]
  refine⟨_,by simp[lk];rfl,O,by simp[hrl],by simp[hrl],?_,?_,?_⟩
  .have:∀L:List dY,(L.map cK).flatMap bA=L.map λb=>AV.p (cK b):=by
    intro L
    induction L with
    |nil=>rfl
    |cons x L ih=>rw[dB,cU,ih];rfl
   rw[this];simp only[jx,o4];exact B2 (by simp[hrl])
  .simp
  .simp
end Go.Av
namespace Go.aL
def bg:List (bt->bt×Int)->bt->bt×Int
 |[],D=>(D,0)
 |f::l,D=>if(f D).2=0 then bg l (f D).1 else f D
def fmtS(cy n:Int):List (bt->bt×Int):=[λD=>D.write (cy+0) (List.replicate n.toNat (Go.Av.fU [])),bt.flush,λD=>D.write (cy+1) [fW ⟨1,1,2⟩],bt.flush]
def UG(D:bt)(cy n:Int):bt×Int:=if Gr D.kept.length cy n=0 then bg (fmtS cy n) D else(D,Gr D.kept.length cy n)
end Go.aL
namespace Go.Av
open Go.Proofs Go.Proofs.Tryz Go.aL
abbrev G1(cy n:Int):Ob:=⟨261,3,[.obj 0 0,.p (.int cy),.p (.int n)]⟩
abbrev QK(r:Nat)(L:List dY):Ob:=⟨93,1,[.own r (L.map cK)]⟩
def Wm(D:bt)(b:Nat)(hD:fJ b D)(cy n:Int)(hf:0<=cy/\cy<=1000000)(L:List dY)(hl:L.length<=1000000)(hb:b<=1000000000):bN 180 [.obj 4 0,.obj 5 0] ⟨(4,G1 cy n)::(5,QK 6 L)::eG 3 D,(6,22,1)::dN 3,7⟩ (.p (.int (D.write (cy+0) L).2)) ⟨(4,G1 cy n)::(5,QK 6 L)::eG 7 (D.write (cy+0) L).1,(6,22,1)::dN 7,8⟩:=by
 refine aC [_] func180 rfl ?_;simp;refine wu [0,1,2,3] (sV D b hD cy n 0 hf O L O O) ?_;simp[results180,ak];exact⟨[],H⟩
def Wn(D:bt)(b:Nat)(hD:fJ b D)(cy n:Int)(hf:0<=cy/\cy<=1000000)(hb:b<=1000000000):bN 182 [.obj 4 0] ⟨(4,G1 cy n)::eG 3 D,dN 3,5⟩ (.p (.int (D.write (cy+1) [fW ⟨1,1,2⟩]).2)) ⟨(4,G1 cy n)::eG 5 (D.write (cy+1) [fW ⟨1,1,2⟩]).1,dN 5,6⟩:=by
 refine aq [_] [] [(1,[(0,.r 1),(4,.w [1])])] [(1,4)] func182 rfl ?_;simp;refine aZ (Ep ⟨1,1,2⟩) ?_;simp;refine wu [0,1,2,3] (sV D b hD cy n 1 hf O [fW ⟨1,1,2⟩] H (by simp;omega)) ?_;simp[results182,ak];exact⟨[],H⟩
abbrev agS:Ob:=⟨91,1,[.mB (.func 180) [.obj 4 0,.obj 5 0],.pK (.func 166) [.obj 0 0],.mB (.func 182) [.obj 4 0],.pK (.func 166) [.obj 0 0]]⟩
def QL(D:bt)(b:Nat)(hD:fJ b D)(cy n:Int)(hf:0<=cy/\cy<=1000000)(hn:0<=n/\n<=1000000)(hb:b<=10000000):bN 164 [.view 7 0 4 1 none] ⟨(7,agS)::(4,G1 cy n)::(5,QK 6 (List.replicate n.toNat (fU [])))::eG 3 D,(6,22,1)::dN 3,8⟩ (.p (.int (bg (fmtS cy n) D).2)) ⟨(7,agS)::(4,G1 cy n)::(5,QK 6 (List.replicate n.toNat (fU [])))::eG 8 (bg (fmtS cy n) D).1,(6,22,1)::dN 8,9⟩:=by
 refine aC [_] func164 rfl ?_;simp;obtain⟨L,hL⟩:=lT (List.replicate n.toNat (fU []));have hLl:L.length<=1000000:=by rw[<-hL];simp;omega
 rw[hL];refine aS (λ(kD:Nat×bt)=>kD.1<=4/\fJ (b+2000000*kD.1) kD.2/\bg ((fmtS cy n).drop kD.1) kD.2=bg (fmtS cy n) D) (λkD=>[(6,.view 7 0 4 1 none),(7,.p (.int 4)),(8,.p (.int kD.1))]) (λkD=>⟨(7,agS)::(4,G1 cy n)::(5,QK 6 L)::eG 8 kD.2,(6,22,1)::dN 8,9⟩) (λkD=>4-kD.1) (0,D) ⟨H,hD,H⟩ _ (AS.le_refl _ _) (aE [(8,3)] (by simp[ak])) ?_;have w1:IntKind.i64.wrap 1=1:=aG;have w2:IntKind.i64.wrap 2=2:=aG;have w3:IntKind.i64.wrap 3=3:=aG;have w4:IntKind.i64.wrap 4=4:=aG;rintro⟨k,E⟩ ⟨hk,hE,hh⟩;simp only at hk hE hh;have hk':k=0\/k=1\/k=2\/k=3\/k=4:=O;rcases hk' with rfl|rfl|rfl|rfl|rfl
 .have hC:=Wm E _ hE cy n hf L hLl O;have o8:=hE.write (cy+0) L;generalize hW:E.write (cy+0) L=W at hC o8;have lQ:(if W.2=0 then bg ((fmtS cy n).drop 1) W.1 else W)=bg (fmtS cy n) D:=by rw[<-hh,<-hW];rw[<-hL];rfl
  simp;refine bK [0,1,2,8,4,5,6] hC H H (by simp[aA,ak]) (by simp[aA]) ?_;by_cases c2:W.2=0
  .rw[ai c2]at lQ;simp[c2,ak,w1];exact⟨1,W.1,⟨O,o8.up O,lQ⟩,O,aE [(8,9)] (by simp[ak])⟩
  .have eY:(W.2 !=0)=true:=U c2;rw[ah c2]at lQ;rw[<-lQ];simp[eY,ak,results164];exact⟨[(8,9)],H⟩
 .have hC:=iP E _ hE O;have o8:=hE.flush;generalize hW:E.flush=W at hC o8;have lQ:(if W.2=0 then bg ((fmtS cy n).drop 2) W.1 else W)=bg (fmtS cy n) D:=by rw[<-hh,<-hW];rfl
  simp;refine bK [0,1,2,8] hC H H (by simp[aA,ak]) (by simp[aA]) ?_;by_cases c2:W.2=0
  .rw[ai c2]at lQ;simp[c2,ak,w2];exact⟨2,W.1,⟨O,o8.up O,lQ⟩,O,aE [(8,9)] (by simp[ak])⟩
  .have eY:(W.2 !=0)=true:=U c2;rw[ah c2]at lQ;rw[<-lQ];simp[eY,ak,results164];exact⟨[(8,9)],H⟩
 .have hC:=Wn E _ hE cy n hf O;have o8:=hE.write (cy+1) [fW ⟨1,1,2⟩];generalize hW:E.write (cy+1) [fW ⟨1,1,2⟩]=W at hC o8;have lQ:(if W.2=0 then bg ((fmtS cy n).drop 3) W.1 else W)=bg (fmtS cy n) D:=by rw[<-hh,<-hW];rfl
  simp;refine bK [0,1,2,8,4] hC H H (by simp[aA,ak]) (by simp[aA]) ?_;by_cases c2:W.2=0
  .rw[ai c2]at lQ;simp[c2,ak,w3];exact⟨3,W.1,⟨O,o8.up (by simp only[cF,fQ];omega),lQ⟩,O,aE [(8,9)] (by simp[ak])⟩
  .have eY:(W.2 !=0)=true:=U c2;rw[ah c2]at lQ;rw[<-lQ];simp[eY,ak,results164];exact⟨[(8,9)],H⟩
 .have hC:=iP E _ hE O;have o8:=hE.flush;generalize hW:E.flush=W at hC o8;have lQ:(if W.2=0 then bg ((fmtS cy n).drop 4) W.1 else W)=bg (fmtS cy n) D:=by rw[<-hh,<-hW];rfl
  simp;refine bK [0,1,2,8] hC H H (by simp[aA,ak]) (by simp[aA]) ?_;by_cases c2:W.2=0
  .rw[ai c2]at lQ;simp[c2,ak,w4];exact⟨4,W.1,⟨O,o8.up O,lQ⟩,O,aE [(8,9)] (by simp[ak])⟩
  .have eY:(W.2 !=0)=true:=U c2;rw[ah c2]at lQ;rw[<-lQ];simp[eY,ak,results164];exact⟨[(8,9)],H⟩
 .rw[<-hh];simp[fmtS,bg,results164];exact⟨[],by simp[ak]⟩
def Wo(D:bt)(b:Nat)(hD:fJ b D)(cy n:Int)(hf:0<=cy/\cy<=1000000)(hn:0<=n/\n<=1000000)(hb:b<=10000000):bN 79 [.obj 0 0,.p (.int cy),.p (.int n)] ⟨eG 3 D,dN 3,4⟩ (.p (.int (UG D cy n).2)) ⟨eG 4 (UG D cy n).1,dN 4,5⟩:=by
 have hR:=Jk D hD.top cy n;unfold UG;refine aq [_] [39] [(8,[(0,.r 1),(1,.w [1]),(3,.f [1]),(4,.s 1 [])])] [(1,5)] func79 rfl ?_;simp;refine oM hR rfl ?_;generalize hP:Gr D.kept.length cy n=P;by_cases c1:P=0
 .subst c1;obtain⟨N,rfl⟩:∃N:Nat,n=N:=⟨n.toNat,O⟩;simp;refine aS (λk:Nat=>k<=N) (λk=>[(0,.obj 0 0),(8,.obj 4 0),(9,.obj 5 0),(23,.p (.int N)),(24,.p (.int k))]) (λk=>⟨(4,G1 cy N)::(5,QK 6 (List.replicate k (fU [])))::eG 3 D,(6,22,1)::dN 3,7⟩) (λk=>N-k) 0 H _ (j9 5 0 22 1 ⟨93,1,[.p .nil]⟩ [] (by simp[lk]) (.inr ⟨rfl,rfl⟩)) (aB (by simp[ak,Tb.cC,Tb.aY,del])) ?_;intro k hk;by_cases ck:k<N
  .have wk:=ju k;have Ui:=w9 (b:=fU []) (Co 7) (by simp[lk]) (p_ _ H).symm;simp[ck];refine oM Ui rfl ?_;simp[wk];exact⟨O,O,k+1,O,O,aE [(6,9)] (by simp[TL,ak])⟩
  .obtain rfl:k=N:=O;have hF:=QL D b hD cy k hf hn hb;rw[qS]at hF;simp;refine aN hF H (by simp[aA,ak]) (by simp[aA]) rfl ?_;simp[results79];exact⟨[(4,8)],by simp[ak]⟩
 .have jR:(P !=0)=true:=U c1;simp[c1,jR,results79];exact⟨[(4,3)],by simp[ak]⟩
end Go.Av
namespace Go.aL
def DI(size:Nat)(J:Jr)(x:wB):Bool:=!O_ size J.cy J.n x.1||x.2.length !=64
def om(size:Nat)(J:Jr)(aI:List wB):Int:=if aI.length=0\/aI.any (DI size J)=true then 2 else if 10<aI.length then 13 else if J.n-2<aI.length+2 then 30 else 0
def jh(J:Jr)(size:Int):Int×Bool:=if J.wr=true then(J.at',decide (J.at'+size<=J.base))else if J.at'+size<=J.n then(J.at',true)else if J.cnt=0 then(2,true)else(2,decide (2+size<=J.base))
end Go.aL
namespace Go.Av
open Go.Proofs Go.Proofs.Tryz Go.aL
abbrev amZ(D:bt)(J:Jr):PC:= .agg false [.ref (UH D),.int J.cy,.int J.n,.int J.RU.number,.int J.RU.first,.int J.RU.at',.int J.next,.int J.at',.int J.base,.bool J.wr,.sl (J.di.map iL),.int J.cnt]
def ahM(D:bt)(hl:D.kept.length<=65536)(J:Jr)(hJ:J_ J)(x:wB):cq 380 [iL x,.ref (.ref (amZ D J))] (.bool (DI D.kept.length J x)):=by
 have hO:=Lt D hl J.cy J.n x.1 hJ.cy (by have:=hJ.n;omega);refine ay [_] func380 rfl ?_;simp;refine aZ hO ?_;unfold DI;cases c1:O_ D.kept.length J.cy J.n x.1 with
 |false=>simp[results380]
 |true=>
  have e:((x.2.length:Int)==64)=(x.2.length==64):=by
   by_cases h:x.2.length=64
   .simp[h]
   .have h1:(x.2.length==64)=false:=U h;have h2:((x.2.length:Int)==64)=false:=by simp;omega
    rw[h1,h2]
  simp[results380,bne,e]
def U6(D:bt)(b:Nat)(hD:fJ b D)(J:Jr)(hJ:J_ J)(aI:List wB)(hp:aI.length<=1000000):bN 354 [.obj 4 0,.p (.sl (aI.map iL))] ⟨(4,iB 0 5 J)::eG 3 D,(5,364,2)::dN 3,6⟩ (.p (.int (om D.kept.length J aI))) ⟨(4,iB 0 5 J)::eG 3 D,(5,364,2)::dN 3,6⟩:=by
 have hn:=hJ.n;unfold om;refine aq [_] [2] [] [] func354 rfl ?_;by_cases c1:aI.length=0
 .obtain rfl:aI=[]:=o5 c1;simp[results354];exact⟨[],by simp[ak]⟩
 have jR:((aI.length:Int)==0)=false:=U c1;have am0:=afd 380 [.ref (.ref (amZ D J))] (DI D.kept.length J) aI O (λx _=>ahM D hD.top J hJ x);generalize aI.any (DI D.kept.length J)=B at am0⊢;simp[c1,jR,iB];refine tJ 6 am0 ?_ rfl ?_
 .have s1:=tT _ hD.kept;have s2:=tT _ hD.now;simp[j_,dA];refine⟨rfl,⟨by simp[ak,s1],by rw[M3];simp only[ak];exact gv (by simp[s1]),hD.kept⟩,by simp[ak,s2],by rw[M3];simp only[ak];exact gv (by simp[s2]),hD.now⟩
 by_cases c2:B=true
 .simp[c2,results354];exact⟨[],by simp[ak]⟩
 have w1:IntKind.i64.wrap ((aI.length:Int)+2)=(aI.length:Int)+2:=aG;have w2:IntKind.i64.wrap (J.n-2)=J.n-2:=aG;by_cases c3:10<aI.length
 .have mg:(10:Int)<aI.length:=O;simp[c2,c3,mg,results354];exact⟨[],by simp[ak]⟩
 have mg:¬(10:Int)<aI.length:=O;by_cases c4:J.n-2<(aI.length:Int)+2
 .simp[c2,c3,mg,c4,w1,w2,results354];exact⟨[],by simp[ak]⟩
 .simp[c2,c3,mg,c4,w1,w2,results354];exact⟨[],by simp[ak]⟩
def NM(J:Jr)(hJ:J_ J)(size:Int)(hs:0<=size/\size<=1000000):bN 356 [.obj 4 0,.p (.int size)] ⟨[(4,iB 0 5 J)],[(5,364,2)],6⟩ (.agg true [.p (.int (jh J size).1),.p (.bool (jh J size).2)]) ⟨[(4,iB 0 5 J)],[(5,364,2)],6⟩:=by
 have ha:=hJ.at';have hb:=hJ.base;have w1:IntKind.i64.wrap (J.at'+size)=J.at'+size:=aG;have w2:IntKind.i64.wrap (2+size)=2+size:=aG;unfold jh;refine aq [_,_] [4] [(2,[(3,.r 1),(7,.r 1),(13,.r 1)]),(3,[(3,.r 1),(10,.r 1)]),(7,[(5,.r 1)])] [(1,4)] func356 rfl ?_;cases c1:J.wr with
 |true=>
  simp[iB,c1,w1,results356];exact⟨[],H⟩
 |false=>
  by_cases c2:J.at'+size<=J.n
  .simp[iB,c1,c2,w1,results356];exact⟨[],H⟩
  by_cases c3:J.cnt=0
  .simp[iB,c1,c2,c3,w1,results356];exact⟨[],H⟩
  .have mg:(J.cnt==0)=false:=U c3;simp[iB,c1,c2,c3,mg,w1,w2,results356];exact⟨[],H⟩
end Go.Av
namespace Go.aL
def kJ(J:Jr):List (bt->bt×Int):=[bt.flush,ko J.di,bt.flush,J.tell,bt.flush]
def Jr.settle(J:Jr)(D:bt):Jr×bt×Int:=if J.cnt=0 then(J,D,0)else if(bg (kJ J) D).2=0 then(J.settled,(bg (kJ J) D).1,0)else(J,(bg (kJ J) D).1,(bg (kJ J) D).2)
def fJ.tell{b:Nat}{D:bt}(h:fJ b D)(J:Jr):fJ (b+1) (J.tell D).1:=h.write _ [_]
theorem fJ.first{b c:Nat}:∀(l:List (bt->bt×Int)) {D:bt},fJ b D->(∀f∈l,∀b D,fJ b D->fJ (b+c) (f D).1)->fJ (b+l.length*c) (bg l D).1
 |[],_,h,_=>h.up H
 |f::l,D,h,hf=>by
  have h1:=hf f H b D h;unfold bg;split
  .exact(fJ.first l h1 (λg hg=>hf g (by simp[hg]))).up (by rw[List.length_cons,Nat.succ_mul];omega)
  .exact h1.up (by rw[List.length_cons,Nat.succ_mul];omega)
def fJ.kJ{b:Nat}{D:bt}(h:fJ b D)(J:Jr):fJ (b+5*(J.di.length+1)) (bg (kJ J) D).1:=fJ.first (c:=J.di.length+1) (Go.aL.kJ J) h (by
 intro f hf b D hD;simp only[Go.aL.kJ,List.mem_cons,List.not_mem_nil,or_false]at hf;rcases hf with rfl|rfl|rfl|rfl|rfl
 .exact hD.flush.up O
 .exact(hD.home J.di).up O
 .exact hD.flush.up O
 .exact(hD.tell J).up O
 .exact hD.flush.up O)
end Go.aL
namespace Go.Av
open Go.Proofs Go.Proofs.Tryz Go.aL
abbrev aeb:Ob:=⟨91,1,[.pK (.func 166) [.obj 0 0],.pK (.func 165) [.obj 4 0],.pK (.func 166) [.obj 0 0],.pK (.func 167) [.obj 4 0],.pK (.func 166) [.obj 0 0]]⟩
def O8(D:bt)(b:Nat)(hD:fJ b D)(J:Jr)(hJ:J_ J)(hb:b<=10000000000)(ho:∀p∈J.di,-9223372036854775808<=p.1/\p.1<=9223372036854775807):bN 164 [.view 6 0 5 1 none] ⟨(6,aeb)::(4,iB 0 5 J)::eG 3 D,(5,364,2)::dN 3,7⟩ (.p (.int (bg (kJ J) D).2)) ⟨(6,aeb)::(4,iB 0 5 J)::eG 7 (bg (kJ J) D).1,(5,364,2)::dN 7,8⟩:=by
 have xS:=hJ.di;refine aC [_] func164 rfl ?_;simp;refine aS (λ(kD:Nat×bt)=>kD.1<=5/\fJ (b+2000000000*kD.1) kD.2/\bg ((kJ J).drop kD.1) kD.2=bg (kJ J) D) (λkD=>[(6,.view 6 0 5 1 none),(7,.p (.int 5)),(8,.p (.int kD.1))]) (λkD=>⟨(6,aeb)::(4,iB 0 5 J)::eG 7 kD.2,(5,364,2)::dN 7,8⟩) (λkD=>5-kD.1) (0,D) ⟨H,hD,H⟩ _ (AS.le_refl _ _) (aE [(7,3)] (by simp[ak])) ?_;have w1:IntKind.i64.wrap 1=1:=aG;have w2:IntKind.i64.wrap 2=2:=aG;have w3:IntKind.i64.wrap 3=3:=aG;have w4:IntKind.i64.wrap 4=4:=aG;have w5:IntKind.i64.wrap 5=5:=aG;rintro⟨k,E⟩ ⟨hk,hE,hh⟩;simp only at hk hE hh;have hk':k=0\/k=1\/k=2\/k=3\/k=4\/k=5:=O;rcases hk' with rfl|rfl|rfl|rfl|rfl|rfl
 .have hC:=iP E _ hE O;have o8:=hE.flush;generalize hW:E.flush=W at hC o8;have lQ:(if W.2=0 then bg ((kJ J).drop 1) W.1 else W)=bg (kJ J) D:=by rw[<-hh,<-hW];rfl
  simp;refine bK [0,1,2,7] hC H H (by simp[aA,ak]) (by simp[aA]) ?_;by_cases c2:W.2=0
  .rw[ai c2]at lQ;simp[c2,ak,w1];exact⟨1,W.1,⟨O,o8.up O,lQ⟩,O,aE [(7,8)] (by simp[ak])⟩
  .have eY:(W.2 !=0)=true:=U c2;rw[ah c2]at lQ;rw[<-lQ];simp[eY,ak,results164];exact⟨[(7,8)],H⟩
 .have hC:=Yg E _ hE J hJ O ho;have o8:=hE.home J.di;generalize hW:ko J.di E=W at hC o8;have lQ:(if W.2=0 then bg ((kJ J).drop 2) W.1 else W)=bg (kJ J) D:=by rw[<-hh,<-hW];rfl
  simp;refine bK [0,1,2,7,4,5] hC H H (by simp[aA,ak]) (by simp[aA]) ?_;by_cases c2:W.2=0
  .rw[ai c2]at lQ;simp[c2,ak,w2];exact⟨2,W.1,⟨O,o8.up O,lQ⟩,O,aE [(7,8)] (by simp[ak])⟩
  .have eY:(W.2 !=0)=true:=U c2;rw[ah c2]at lQ;rw[<-lQ];simp[eY,ak,results164];exact⟨[(7,8)],H⟩
 .have hC:=iP E _ hE O;have o8:=hE.flush;generalize hW:E.flush=W at hC o8;have lQ:(if W.2=0 then bg ((kJ J).drop 3) W.1 else W)=bg (kJ J) D:=by rw[<-hh,<-hW];rfl
  simp;refine bK [0,1,2,7] hC H H (by simp[aA,ak]) (by simp[aA]) ?_;by_cases c2:W.2=0
  .rw[ai c2]at lQ;simp[c2,ak,w3];exact⟨3,W.1,⟨O,o8.up O,lQ⟩,O,aE [(7,8)] (by simp[ak])⟩
  .have eY:(W.2 !=0)=true:=U c2;rw[ah c2]at lQ;rw[<-lQ];simp[eY,ak,results164];exact⟨[(7,8)],H⟩
 .have hC:=Yh E _ hE J hJ O;have o8:=hE.tell J;generalize hW:J.tell E=W at hC o8;have lQ:(if W.2=0 then bg ((kJ J).drop 4) W.1 else W)=bg (kJ J) D:=by rw[<-hh,<-hW];rfl
  simp;refine bK [0,1,2,7,4,5] hC H H (by simp[aA,ak]) (by simp[aA]) ?_;by_cases c2:W.2=0
  .rw[ai c2]at lQ;simp[c2,ak,w4];exact⟨4,W.1,⟨O,o8.up O,lQ⟩,O,aE [(7,8)] (by simp[ak])⟩
  .have eY:(W.2 !=0)=true:=U c2;rw[ah c2]at lQ;rw[<-lQ];simp[eY,ak,results164];exact⟨[(7,8)],H⟩
 .have hC:=iP E _ hE O;have o8:=hE.flush;generalize hW:E.flush=W at hC o8;have lQ:(if W.2=0 then bg ((kJ J).drop 5) W.1 else W)=bg (kJ J) D:=by rw[<-hh,<-hW];rfl
  simp;refine bK [0,1,2,7] hC H H (by simp[aA,ak]) (by simp[aA]) ?_;by_cases c2:W.2=0
  .rw[ai c2]at lQ;simp[c2,ak,w5];exact⟨5,W.1,⟨O,o8.up O,lQ⟩,O,aE [(7,8)] (by simp[ak])⟩
  .have eY:(W.2 !=0)=true:=U c2;rw[ah c2]at lQ;rw[<-lQ];simp[eY,ak,results164];exact⟨[(7,8)],H⟩
 .rw[<-hh];simp[kJ,bg,results164];exact⟨[],by simp[ak]⟩
def Eh(D:bt)(b:Nat)(hD:fJ b D)(J:Jr)(hJ:J_ J)(hb:b<=10000000000)(ho:∀p∈J.di,-9223372036854775808<=p.1/\p.1<=9223372036854775807):bN 100 [.obj 4 0] ⟨(4,iB 0 5 J)::eG 3 D,(5,364,2)::dN 3,6⟩ (.p (.int (J.settle D).2.2)) ⟨(4,iB 0 7 (J.settle D).1)::eG 6 (J.settle D).2.1,(7,364,2)::dN 6,8⟩:=by
 have hF:=O8 D b hD J hJ hb ho;have hS:=BS J;unfold Jr.settle;refine aq [_] [4,31] [(3,[(4,.r 1),(12,.r 1),(20,.r 1),(22,.w [1]),(23,.w [1])])] [(1,4)] func100 rfl ?_;by_cases c:J.cnt=0
 .simp[iB,c,results100];exact⟨[(6,3),(7,5)],by simp[ak];intro a b h;omega⟩
 have c':(J.cnt==0)=false:=U c;generalize bg (kJ J) D=W at hF⊢;simp[iB,c,c'];refine aN hF H (by simp[aA,ak]) (by simp[aA]) rfl ?_;by_cases c2:W.2=0
 .simp[c2];refine aD [0,1,2,7,4,5] hS H H (by simp[aA]) (by simp[aA]) ?_;simp[ak,results100];exact⟨[(6,7),(7,8)],by simp;intro a b h;omega⟩
 .have eY:(W.2 !=0)=true:=U c2;simp[c2,eY,results100];exact⟨[(6,7),(7,5)],by simp[ak];intro a b h;omega⟩
def abg(nx k:Nat)(hb:k<=4000000000000):bN 381 [.p .nil,.p (.int k)] ⟨[],[],nx⟩ (.view nx 0 0 1 none) ⟨[(nx,⟨22,1,[]⟩)],[],nx+1⟩:=by
 have w1:IntKind.i64.wrap (k:Int)=k:=aG;by_cases h0:k=0
 .subst h0;refine eT (r:= .p .nil) (a_:=⟨[],[],nx⟩) (el:=22) (s:=1) ?_ trivial;refine aq [_] [22] [] [] func381 rfl ?_;have z:IntKind.i64.wrap 0=0:=aG;simp[results381,z];exact⟨[],H⟩
 .have e0:0<k:=O;have z:IntKind.i64.wrap 0=0:=aG;refine aq [_] [22] [] [] func381 rfl ?_;simp[results381,w1,z,e0];exact⟨O,O,[],H⟩
def Q_(nx:Nat)(L:List (List PC))(hw:∀l∈L,∀x∈l,x.width=1)(ht:∀l∈L,∀x∈l,cE x=true)(hb:(L.map List.length).sum<=1000000000000)(oK:L.length<=1000000000000):bN 358 [.p (.sl (L.map .sl))] ⟨[],[],nx⟩ (.view nx 0 (L.map List.length).sum 1 none) ⟨[(nx,⟨22,1,(L.flatten.flatMap fM).map .p⟩)],[],nx+1⟩:=by
 refine aC [_] func358 rfl ?_;simp;refine bI (λk:Nat=>k<=L.length) (λk=>[(0,.p (.sl (L.map .sl))),(2,.p .nil),(9,.p (.sl (L.map .sl))),(10,.p (.int L.length)),(3,.p (.int ((L.map List.length).take k).sum)),(11,.p (.int k))]) (λk=>L.length-k) 0 H (aB H) ?_;intro k hk;by_cases c1:k<L.length
 .have e1:decide ((k:Int)<L.length)=true:=by simp;omega
  have hs:((L.map List.length).take (k+1)).sum=((L.map List.length).take k).sum+L[k].length:=by
   rw[dS (U c1)];simp
  have DS:=eD (L.map List.length) (k+1);have w1:IntKind.i64.wrap ((((L.map List.length).take k).sum:Int)+(L[k].length:Int))=(((L.map List.length).take (k+1)).sum:Int):=by rw[hs];push_cast;exact aG
  have w2:=ju k;have e2:decide ((((L.map List.length).take (k+1)).sum:Int)<0)=false:=H;simp[c1,w1,w2];refine⟨k+1,O,O,aB ?_⟩;simp
 .have e1:decide ((k:Int)<L.length)=false:=by simp;omega
  have hk':(L.map List.length).take k=L.map List.length:=gv (by simp;omega);simp[c1,hk'];refine aN (abg nx (L.map List.length).sum O) H trivial trivial rfl ?_;simp;refine aS (λk:Nat=>k<=L.length) (λk=>[(0,.p (.sl (L.map .sl))),(2,.p .nil),(25,.p (.sl (L.map .sl))),(26,.p (.int L.length)),(6,.view nx 0 ((L.map List.length).take k).sum 1 none),(27,.p (.int k))]) (λk=>⟨[(nx,⟨22,1,((L.take k).flatten.flatMap fM).map .p⟩)],[],nx+1⟩) (λk=>L.length-k) 0 H _ (AS.le_refl _ _) (aB H) ?_;clear hk c1 e1 hk' k;intro k hk;by_cases c1:k<L.length
  .have e1:decide ((k:Int)<L.length)=true:=by simp;omega
   have hs:((L.map List.length).take (k+1)).sum=((L.map List.length).take k).sum+L[k].length:=by
    rw[dS (U c1)];simp
   have DS:=eD (L.map List.length) (k+1);have w2:=ju k;have hwk:=hw L[k] H;have lF:=ht L[k] H;have hfl:(L.take (k+1)).flatten=(L.take k).flatten++L[k]:=by rw[dS c1];simp only[vg,jz,qW,gL]
   have hlen:(((L.take k).flatten.flatMap fM).map AV.p).length=((L.map List.length).take k).sum:=by
    have Y_:∀x∈(L.take k).flatten,x.width=1:=λx hx=>by
     obtain⟨l,hl,hx⟩:=mQ.1 hx;exact hw l (oa hl) x hx
    have:=lR Y_;simp only[pe,this,je,fG,o4]
   have An:List.take ((L.map List.length).take k).sum (((L.take k).flatten.flatMap fM).map AV.p)=((L.take k).flatten.flatMap fM).map AV.p:=gv O;simp[c1,w2];refine⟨by simpa using qI hlen.symm,hwk,lF,O,O,k+1,O,O,aE [(nx,nx+1)] ?_⟩;rw[hfl,hs,An];simp
  .have e1:decide ((k:Int)<L.length)=false:=by simp;omega
   have T8:k=L.length:=O;subst T8;have hk':(L.map List.length).take L.length=L.map List.length:=gv H;simp[results358,hk'];exact⟨[],H⟩
def Mg(L:List (List PC))(hw:∀l∈L,∀x∈l,x.width=1)(ht:∀l∈L,∀x∈l,cE x=true)(hb:(L.map List.length).sum<=1000000000000)(oK:L.length<=1000000000000):cq 358 [.sl (L.map .sl)] (.sl L.flatten):=bF (xs:=[_]) (Q_ 0 L hw ht hb oK) (xk (e:=22) H (by simp[je]) (λx h=>by obtain⟨l,h1,h2⟩:=mQ.1 h;exact hw l h1 x h2) (λx h=>by obtain⟨l,h1,h2⟩:=mQ.1 h;exact ht l h1 x h2))
def aeQ(L:List (List dY))(hb:L.flatten.length<=1000000000000)(oK:L.length<=1000000000000):cq 358 [.sl (L.map λl=> .sl (l.map cK))] (.sl (L.flatten.map cK)):=by
 have h:=Mg (L.map (List.map cK)) (λl hl x hx=>by obtain⟨b,_,rfl⟩:=bE.1 hl;obtain⟨c,_,rfl⟩:=bE.1 hx;rfl) (λl hl x hx=>by obtain⟨b,_,rfl⟩:=bE.1 hl;obtain⟨c,_,rfl⟩:=bE.1 hx;rfl) (by
  have e:((L.map (List.map cK)).map List.length).sum=L.flatten.length:=by
   rw[je,jF];congr 1;refine yG λb _=>H
  omega) (U oK)
 rw[<-F4,jF]at h;exact h
end Go.Av
namespace Go.aL
def jd(cy:Int)(L:List dY)(a:Int):List (bt->bt×Int):=[λD=>D.write (cy+a) (L.take (L.length-1)++[Go.Av.fU []]),bt.flush,λD=>D.write (cy+(a+(L.length-1:Nat))) [L.getD (L.length-1) []]]
end Go.aL
namespace Go.Av
open Go.Proofs Go.Proofs.Tryz Go.aL
@[reducible]def Li(q:Nat)(D:bt)(J:Jr)(L:List dY)(a:Int)(m:Nat):List (Nat×Ob):=(6,⟨147,1,[.obj 4 0]⟩)::(8,⟨3,1,[.p (.int a)]⟩)::(7,⟨93,1,[.p (.sl (L.map cK))]⟩)::(9,⟨3,1,[.p (.int m)]⟩)::(4,iB 0 5 J)::eG q D
def Zd(D:bt)(b:Nat)(hD:fJ b D)(J:Jr)(hJ:J_ J)(L:List dY)(m:Nat)(hm:L.length=m+1)(hm2:m<=1000000)(a:Int)(ha:0<=a/\a<=100000000)(hb:b<=100000000000):bN 357 [.obj 6 0,.obj 8 0,.obj 7 0,.obj 9 0] ⟨Li 3 D J L a m,(5,364,2)::dN 3,10⟩ (.p (.int (D.write (J.cy+a) (L.take m++[fU []])).2)) ⟨Li 10 (D.write (J.cy+a) (L.take m++[fU []])).1 J L a m,(5,364,2)::dN 10,11⟩:=by
 have hf:=hJ.cy;have Lj:=aeQ [L.take m,[fU []]] (by simp;omega) H;have hW:=sV D b hD J.cy J.n a hf O (L.take m++[fU []]) (by simp;omega) (by simp;omega);generalize hX:L.take m++[fU []]=X at hW⊢;have hX2:[L.take m,[fU []]].flatten=X:=by rw[<-hX];simp
 rw[hX2]at Lj;simp at Lj;have Ui:=w9 (b:=fU []) (Co 10) (by simp[lk]) (p_ _ H).symm;refine aq [_] [4] [(1,[(0,.r 1),(3,.r 2),(4,.r 3),(5,.r 4),(6,.r 5),(8,.w [1,2,3,4,5]),(12,.w [1,2,3,4,5])])] [(1,6),(2,4),(3,8),(4,7),(5,9)] func357 rfl ?_;simp[iB,hm];refine oM Ui rfl ?_;simp;refine aZ Lj ?_;simp;refine wu [0,1,2,3] hW ?_;simp[results357,ak];exact⟨[(10,12)],H⟩
def Ze(D:bt)(b:Nat)(hD:fJ b D)(J:Jr)(hJ:J_ J)(L:List dY)(m:Nat)(hm:L.length=m+1)(hm2:m<=1000000)(a:Int)(ha:0<=a/\a<=100000000)(hb:b<=100000000000):bN 359 [.obj 6 0,.obj 8 0,.obj 9 0,.obj 7 0] ⟨Li 3 D J L a m,(5,364,2)::dN 3,10⟩ (.p (.int (D.write (J.cy+(a+m)) [L.getD m []]).2)) ⟨Li 10 (D.write (J.cy+(a+m)) [L.getD m []]).1 J L a m,(5,364,2)::dN 10,11⟩:=by
 have hf:=hJ.cy;have hW:=sV D b hD J.cy J.n (a+m) hf O [L.getD m []] H (by simp;omega);have gm:L.getD m []=L[m]:=by rw[u6,n_ O];rfl
 rw[gm]at hW⊢;have w1:IntKind.i64.wrap (a+m)=a+m:=aG;have hmL:m<L.length:=O;refine aq [_] [4] [(1,[(0,.r 1),(3,.r 2),(4,.r 3),(5,.r 5),(7,.r 4),(8,.r 5),(12,.w [1,2,3,4,5])])] [(1,6),(2,4),(3,8),(4,7),(5,9)] func359 rfl ?_;simp[iB,hm,w1];refine wu [0,1,2,3] hW ?_;simp[results359,ak];exact⟨[],H⟩
end Go.Av
namespace Go.aL
def fJ.com{b:Nat}{D:bt}(h:fJ b D)(cy:Int)(L:List dY)(a:Int):fJ (b+3*(L.length+1)) (bg (jd cy L a) D).1:=fJ.first (c:=L.length+1) (jd cy L a) h (by
 intro f hf b D hD;simp only[jd,List.mem_cons,List.not_mem_nil,or_false]at hf;rcases hf with rfl|rfl|rfl
 .exact(hD.write _ _).up H
 .exact hD.flush.up O
 .exact(hD.write _ _).up H)
end Go.aL
namespace Go.Av
open Go.Proofs Go.Proofs.Tryz Go.aL
abbrev afr:Ob:=⟨91,1,[.mB (.func 357) [.obj 6 0,.obj 8 0,.obj 7 0,.obj 9 0],.pK (.func 166) [.obj 0 0],.mB (.func 359) [.obj 6 0,.obj 8 0,.obj 9 0,.obj 7 0]]⟩
def Ez(D:bt)(b:Nat)(hD:fJ b D)(J:Jr)(hJ:J_ J)(L:List dY)(m:Nat)(hm:L.length=m+1)(hm2:m<=1000000)(a:Int)(ha:0<=a/\a<=100000000)(hb:b<=50000000000):bN 164 [.view 10 0 3 1 none] ⟨(10,afr)::Li 3 D J L a m,(5,364,2)::dN 3,11⟩ (.p (.int (bg (jd J.cy L a) D).2)) ⟨(10,afr)::Li 11 (bg (jd J.cy L a) D).1 J L a m,(5,364,2)::dN 11,12⟩:=by
 have hS:jd J.cy L a=[λD=>D.write (J.cy+a) (L.take m++[fU []]),bt.flush,λD=>D.write (J.cy+(a+m)) [L.getD m []]]:=by
  unfold jd;rw[show L.length-1=m by omega]
 refine aC [_] func164 rfl ?_;simp;refine aS (λ(kD:Nat×bt)=>kD.1<=3/\fJ (b+2000000*kD.1) kD.2/\bg ((jd J.cy L a).drop kD.1) kD.2=bg (jd J.cy L a) D) (λkD=>[(6,.view 10 0 3 1 none),(7,.p (.int 3)),(8,.p (.int kD.1))]) (λkD=>⟨(10,afr)::Li 11 kD.2 J L a m,(5,364,2)::dN 11,12⟩) (λkD=>3-kD.1) (0,D) ⟨H,hD,H⟩ _ (AS.le_refl _ _) (aE [(11,3)] (by simp[ak])) ?_;have w1:IntKind.i64.wrap 1=1:=aG;have w2:IntKind.i64.wrap 2=2:=aG;have w3:IntKind.i64.wrap 3=3:=aG;rintro⟨k,E⟩ ⟨hk,hE,hh⟩;simp only at hk hE hh;have hk':k=0\/k=1\/k=2\/k=3:=O;rcases hk' with rfl|rfl|rfl|rfl
 .have hC:=Zd E _ hE J hJ L m hm hm2 a ha O;have o8:=hE.write (J.cy+a) (L.take m++[fU []]);generalize hW:E.write (J.cy+a) (L.take m++[fU []])=W at hC o8;have lQ:(if W.2=0 then bg ((jd J.cy L a).drop 1) W.1 else W)=bg (jd J.cy L a) D:=by rw[<-hh,<-hW,hS];rfl
  simp;refine bK [0,1,2,11,4,5,6,7,8,9] hC H H (by simp[aA,ak]) (by simp[aA]) ?_;by_cases c2:W.2=0
  .rw[ai c2]at lQ;simp[c2,ak,w1];exact⟨1,W.1,⟨O,o8.up (by rw[mo,lV];simp only[cF,fQ];omega),lQ⟩,O,aE [(11,12)] (by simp[ak])⟩
  .have eY:(W.2 !=0)=true:=U c2;rw[ah c2]at lQ;rw[<-lQ];simp[eY,ak,results164];exact⟨[(11,12)],H⟩
 .have hC:=iP E _ hE O;have o8:=hE.flush;generalize hW:E.flush=W at hC o8;have lQ:(if W.2=0 then bg ((jd J.cy L a).drop 2) W.1 else W)=bg (jd J.cy L a) D:=by rw[<-hh,<-hW,hS];rfl
  simp;refine bK [0,1,2,11] hC H H (by simp[aA,ak]) (by simp[aA]) ?_;by_cases c2:W.2=0
  .rw[ai c2]at lQ;simp[c2,ak,w2];exact⟨2,W.1,⟨O,o8.up O,lQ⟩,O,aE [(11,12)] (by simp[ak])⟩
  .have eY:(W.2 !=0)=true:=U c2;rw[ah c2]at lQ;rw[<-lQ];simp[eY,ak,results164];exact⟨[(11,12)],H⟩
 .have hC:=Ze E _ hE J hJ L m hm hm2 a ha O;have o8:=hE.write (J.cy+(a+m)) [L.getD m []];generalize hW:E.write (J.cy+(a+m)) [L.getD m []]=W at hC o8;have lQ:(if W.2=0 then bg ((jd J.cy L a).drop 3) W.1 else W)=bg (jd J.cy L a) D:=by rw[<-hh,<-hW,hS];rfl
  simp;refine bK [0,1,2,11,4,5,6,7,8,9] hC H H (by simp[aA,ak]) (by simp[aA]) ?_;by_cases c2:W.2=0
  .rw[ai c2]at lQ;simp[c2,ak,w3];exact⟨3,W.1,⟨O,o8.up (by simp only[cF,fQ];omega),lQ⟩,O,aE [(11,12)] (by simp[ak])⟩
  .have eY:(W.2 !=0)=true:=U c2;rw[ah c2]at lQ;rw[<-lQ];simp[eY,ak,results164];exact⟨[(11,12)],H⟩
 .rw[<-hh,hS];simp[bg,results164];exact⟨[],by simp[ak]⟩
end Go.Av
namespace Go.aL
def Jr.done(J:Jr)(aI:List wB)(a:Int):Jr:={J with base:=if J.cnt=0 then a else J.base,wr:=if J.cnt=0 then J.wr else if a<J.at' then true else J.wr,at':=a+(aI.length+2),di:=J.di++aI,next:=IntKind.i64.wrap (J.next+1),cnt:=IntKind.i64.wrap (J.cnt+1)}
def Jr.uo(J:Jr)(D:bt)(aI:List wB)(a:Int):Jr×bt×Bool×Int:=if(bg (jd J.cy (nQ J.next aI) a) D).2=0 then(J.done aI a,(bg (jd J.cy (nQ J.next aI) a) D).1.flush.1,true,(bg (jd J.cy (nQ J.next aI) a) D).1.flush.2)else(J,(bg (jd J.cy (nQ J.next aI) a) D).1,false,(bg (jd J.cy (nQ J.next aI) a) D).2)
def Jr.commit(J:Jr)(D:bt)(aI:List wB):Jr×bt×Bool×Int:=if om D.kept.length J aI=0 then
 (if(jh J (aI.length+2)).2=true then J.uo D aI (jh J (aI.length+2)).1
 else if(J.settle D).2.2=0 then(J.settle D).1.uo (J.settle D).2.1 aI (jh (J.settle D).1 (aI.length+2)).1
 else((J.settle D).1,(J.settle D).2.1,false,(J.settle D).2.2))else(J,D,false,om D.kept.length J aI)
def U5{size:Nat}{J:Jr}{aI:List wB}(h:om size J aI=0):1<=aI.length/\aI.length<=10/\(aI.length:Int)+4<=J.n/\∀p∈aI,O_ size J.cy J.n p.1=true/\p.2.length=64:=by
 unfold om at h;split at h
 .omega
 .rename_i h1;split at h
  .omega
  .split at h
   .omega
   .have h3:¬aI.length=0:=λe=>h1 (.inl e);have h4:¬aI.any (DI size J)=true:=λe=>h1 (.inr e);refine⟨O,O,O,λp hp=>?_⟩;have h5:¬DI size J p=true:=λe=>h4 (List.any_eq_true.2 ⟨p,hp,e⟩);unfold DI at h5;simp at h5;exact h5
def Gx{J:Jr}(s:Int)(h:0<=J.at'/\J.at'<=100000000):0<=(jh J s).1/\(jh J s).1<=100000000:=by
 unfold jh;split
 .exact h
 .split
  .exact h
  .split
   .simp
   .simp
def wv(n:Int)(aI:List wB):(nQ n aI).length=aI.length+2:=by simp[nQ]
end Go.aL
namespace Go.Av
open Go.Proofs Go.Proofs.Tryz Go.aL
def LA{J:Jr}(h:J_ J):J_ J.settled:=⟨h.cy,h.n,by simp[Jr.settled],h.at',h.at'⟩
def Ey{J:Jr}(h:J_ J)(D:bt):J_ (J.settle D).1:=by
 unfold Jr.settle;split
 .exact h
 .split
  .exact LA h
  .exact h
def rA(J:Jr)(D:bt):(J.settle D).1.next=J.next/\(J.settle D).1.cy=J.cy/\(J.settle D).1.at'=J.at'/\(J.settle D).1.di.length<=J.di.length:=by
 unfold Jr.settle;split
 .exact⟨rfl,rfl,rfl,aX _⟩
 .split
  .exact⟨rfl,rfl,rfl,by simp[Jr.settled]⟩
  .exact⟨rfl,rfl,rfl,aX _⟩
def LB{b:Nat}{D:bt}(h:fJ b D)(J:Jr):fJ (b+5*(J.di.length+1)) (J.settle D).2.1:=by
 unfold Jr.settle;split
 .exact h.up O
 .split
  .exact h.kJ J
  .exact h.kJ J
def Qe(D:bt)(b:Nat)(hD:fJ b D)(J:Jr)(hJ:J_ J)(hb:b<=1000000000)(eM:J.at'<=90000000)(ho:∀p∈J.di,-9223372036854775808<=p.1/\p.1<=9223372036854775807)(xS:J.di.length<=1000000)(aI:List wB)(hpl:aI.length<=1000000):bN 313 [.obj 4 0,.p (.sl (aI.map iL))] ⟨(4,iB 0 5 J)::eG 3 D,(5,364,2)::dN 3,6⟩ (.agg true [.p (.bool (J.commit D aI).2.2.1),.p (.int (J.commit D aI).2.2.2)]) ⟨(4,iB 0 7 (J.commit D aI).1)::eG 6 (J.commit D aI).2.1,(7,364,2)::dN 6,8⟩:=by
 have hFt:=U6 D b hD J hJ aI hpl;generalize pL:J.commit D aI=R;unfold Jr.commit at pL;refine aq [_,_] [2,4,63] [(25,[(0,.r 1),(1,.r 1),(4,.r 2),(6,.r 3),(8,.r 3),(12,.f [1,2,3]),(15,.s 2 [1,3])]),(19,[(0,.r 4),(1,.r 1),(4,.r 2)])] [(1,6),(2,4),(3,9),(4,8)] func313 rfl ?_;by_cases c1:om D.kept.length J aI=0
 .rw[c1]at hFt;obtain⟨h1,h10,hn,hp⟩:=U5 c1;have hR:=Qf J.next aI h1 h10 (λp hp'=>(hp p hp').2);have hLl:=wv J.next aI;have Ye:=NM J hJ (aI.length+2) O;have hRb:=Gx (J:=J) (aI.length+2) (by have:=hJ.at';omega);rw[ai c1]at pL;unfold Jr.uo at pL;simp;refine aD [0,1,2,3,4,5] hFt H H (by simp[aA,ak,iB]) (by simp[aA]) ?_;simp[ak,iB];refine cm hR ?_;generalize hLe:nQ J.next aI=L at hLl pL;have XD:(L.length:Int)=(aI.length:Int)+2:=O;generalize hroom:jh J (aI.length+2)=RM at Ye hRb pL;obtain⟨A,ok⟩:=RM;simp only at Ye hRb pL;have wl:IntKind.i64.wrap ((aI.length:Int)+2-1)=((aI.length+1:Nat):Int):=by rw[aG];omega
  have wA:IntKind.i64.wrap (A+((aI.length:Int)+2))=A+((aI.length:Int)+2):=aG;simp[XD];refine aD [0,1,2,3,4,5] Ye H H (by simp[aA]) (by simp[aA]) ?_;cases ok with
  |true=>
   have hF:=Ez D b hD J hJ L (aI.length+1) O O A hRb O;generalize hCm:bg (jd J.cy L A) D=W at hF pL;simp[XD,wl];refine aN hF H (by simp[aA,ak]) (by simp[aA]) rfl ?_;by_cases c2:W.2=0
   .rw[ai rfl,ai c2]at pL;rw[<-pL];have hDW:fJ (b+3*(L.length+1)) W.1:=by rw[<-hCm];exact hD.com J.cy L A
    by_cases c3:J.cnt=0
    .obtain⟨Jx,IJ⟩:∃Jx:Jr,Jx={J with base:=A,at':=A+(aI.length+2)}:=⟨_,rfl⟩;simp[c2,c3,iB,XD,wA,ak];refine aS (λk:Nat=>k<=aI.length) (λk=>[(2,.obj 6 0),(95,.p (.sl (aI.map iL))),(96,.p (.int aI.length)),(97,.p (.int k))]) (λk=>⟨(6,⟨147,1,[.obj 4 0]⟩)::(4,iB 0 8 {Jx with di:=J.di++aI.take k})::eG 7 W.1,(8,364,2)::dN 7,9⟩) (λk=>aI.length-k) 0 H _ (AS.le_refl _ _) (aE [(7,11),(8,5)] (by simp[ak,IJ,iB,c3])) ?_;intro k hk;by_cases ck:k<aI.length
     .have kW:=kM aI[k].2 (by rw[(hp _ (bB ck)).2];omega);have Qg:List.take (k+1) (List.map iL aI)=List.take k (List.map iL aI)++[iL aI[k]]:=by rw[kG (U ck)];simp
      have wk:=ju k;simp[ck,iB];refine aZ kW ?_;simp[wk];refine⟨λx hx=>?_,O,O,k+1,O,O,aE [(8,10)] (by simp[Qg,ak])⟩;rcases hx with⟨a,b,_,rfl⟩|hx
      .rfl
      .obtain⟨y,_,rfl⟩:=bE.1 (oa hx);rfl
     .obtain rfl:k=aI.length:=O;rw[eH];simp[iB];refine wu [0,1,2,7] (iP W.1 _ hDW O) ?_;simp[results313,ak];exact⟨[(6,9),(7,8)],by simp[Jr.done,IJ,c3];intro a b h;omega⟩
    .have mg:(J.cnt==0)=false:=U c3;by_cases c4:A<J.at'
     .obtain⟨Jx,IJ⟩:∃Jx:Jr,Jx={J with wr:=true,at':=A+(aI.length+2)}:=⟨_,rfl⟩;simp[c2,mg,c4,iB,XD,wA,ak];refine aS (λk:Nat=>k<=aI.length) (λk=>[(2,.obj 6 0),(95,.p (.sl (aI.map iL))),(96,.p (.int aI.length)),(97,.p (.int k))]) (λk=>⟨(6,⟨147,1,[.obj 4 0]⟩)::(4,iB 0 8 {Jx with di:=J.di++aI.take k})::eG 7 W.1,(8,364,2)::dN 7,9⟩) (λk=>aI.length-k) 0 H _ (AS.le_refl _ _) (aE [(7,11),(8,5)] (by simp[ak,IJ,iB])) ?_;intro k hk;by_cases ck:k<aI.length
      .have kW:=kM aI[k].2 (by rw[(hp _ (bB ck)).2];omega);have Qg:List.take (k+1) (List.map iL aI)=List.take k (List.map iL aI)++[iL aI[k]]:=by rw[kG (U ck)];simp
       have wk:=ju k;simp[ck,iB];refine aZ kW ?_;simp[wk];refine⟨λx hx=>?_,O,O,k+1,O,O,aE [(8,10)] (by simp[Qg,ak])⟩;rcases hx with⟨a,b,_,rfl⟩|hx
       .rfl
       .obtain⟨y,_,rfl⟩:=bE.1 (oa hx);rfl
      .obtain rfl:k=aI.length:=O;rw[eH];simp[iB];refine wu [0,1,2,7] (iP W.1 _ hDW O) ?_;simp[results313,ak];exact⟨[(6,9),(7,8)],by simp[Jr.done,IJ,c3,c4];intro a b h;omega⟩
     .obtain⟨Jx,IJ⟩:∃Jx:Jr,Jx={J with at':=A+(aI.length+2)}:=⟨_,rfl⟩;simp[c2,mg,c4,iB,XD,wA,ak];refine aS (λk:Nat=>k<=aI.length) (λk=>[(2,.obj 6 0),(95,.p (.sl (aI.map iL))),(96,.p (.int aI.length)),(97,.p (.int k))]) (λk=>⟨(6,⟨147,1,[.obj 4 0]⟩)::(4,iB 0 8 {Jx with di:=J.di++aI.take k})::eG 7 W.1,(8,364,2)::dN 7,9⟩) (λk=>aI.length-k) 0 H _ (AS.le_refl _ _) (aE [(7,11),(8,5)] (by simp[ak,IJ,iB])) ?_;intro k hk;by_cases ck:k<aI.length
      .have kW:=kM aI[k].2 (by rw[(hp _ (bB ck)).2];omega);have Qg:List.take (k+1) (List.map iL aI)=List.take k (List.map iL aI)++[iL aI[k]]:=by rw[kG (U ck)];simp
       have wk:=ju k;simp[ck,iB];refine aZ kW ?_;simp[wk];refine⟨λx hx=>?_,O,O,k+1,O,O,aE [(8,10)] (by simp[Qg,ak])⟩;rcases hx with⟨a,b,_,rfl⟩|hx
       .rfl
       .obtain⟨y,_,rfl⟩:=bE.1 (oa hx);rfl
      .obtain rfl:k=aI.length:=O;rw[eH];simp[iB];refine wu [0,1,2,7] (iP W.1 _ hDW O) ?_;simp[results313,ak];exact⟨[(6,9),(7,8)],by simp[Jr.done,IJ,c3,c4];intro a b h;omega⟩
   .have eY:(W.2 !=0)=true:=U c2;rw[ai rfl,ah c2]at pL;rw[<-pL];simp[eY,ak,results313];exact⟨[(6,11),(7,5)],by simp;intro a b h;omega⟩
  |false=>
   have hSt:=Eh D b hD J hJ O ho;have hJ1:=Ey hJ D;obtain⟨kp1,kp2,kp3,kp4⟩:=rA J D;have RV:=LB hD J;rw[kp1,kp2,hLe]at pL;rw[<-kp2]at pL;generalize J.settle D=S at hSt hJ1 pL kp1 kp2 kp3 kp4 RV;obtain⟨J1,D1,e⟩:=S;simp only at hSt hJ1 pL kp1 kp2 kp3 kp4 RV;rw[ah H]at pL;simp;refine wu [0,1,2,3,4,5] hSt ?_;by_cases c5:e=0
   .rw[ai c5]at pL;have ae_:=NM J1 hJ1 (aI.length+2) O;have ae':=Gx (J:=J1) (aI.length+2) (by have:=hJ1.at';omega);generalize aoJ:jh J1 (aI.length+2)=RM at ae_ ae' pL;obtain⟨A1,ok1⟩:=RM;simp only at ae_ ae' pL;have wA1:IntKind.i64.wrap (A1+((aI.length:Int)+2))=A1+((aI.length:Int)+2):=aG;simp[c5,ak,XD];refine aD [0,1,2,9,4,10] ae_ H H (by simp[aA]) (by simp[aA]) ?_;have hF:=Ez D1 _ RV J1 hJ1 L (aI.length+1) O O A1 ae' O;generalize hCm:bg (jd J1.cy L A1) D1=W at hF pL;simp[XD,wl];refine wu [0,1,2,9,4,10,6,7,8,11,12] hF ?_;by_cases c2:W.2=0
    .rw[ai c2]at pL;rw[<-pL];have hDW:fJ (b+5*(J.di.length+1)+3*(L.length+1)) W.1:=by rw[<-hCm];exact RV.com J1.cy L A1
     by_cases c3:J1.cnt=0
     .obtain⟨Jx,IJ⟩:∃Jx:Jr,Jx={J1 with base:=A1,at':=A1+(aI.length+2)}:=⟨_,rfl⟩;simp[c2,c3,iB,XD,wA1,ak];refine aS (λk:Nat=>k<=aI.length) (λk=>[(2,.obj 6 0),(95,.p (.sl (aI.map iL))),(96,.p (.int aI.length)),(97,.p (.int k))]) (λk=>⟨(6,⟨147,1,[.obj 4 0]⟩)::(4,iB 0 8 {Jx with di:=J1.di++aI.take k})::eG 7 W.1,(8,364,2)::dN 7,9⟩) (λk=>aI.length-k) 0 H _ (AS.le_refl _ _) (aE [(7,13),(8,10)] (by simp[ak,IJ,iB,c3])) ?_;intro k hk;by_cases ck:k<aI.length
      .have kW:=kM aI[k].2 (by rw[(hp _ (bB ck)).2];omega);have Qg:List.take (k+1) (List.map iL aI)=List.take k (List.map iL aI)++[iL aI[k]]:=by rw[kG (U ck)];simp
       have wk:=ju k;simp[ck,iB];refine aZ kW ?_;simp[wk];refine⟨λx hx=>?_,O,O,k+1,O,O,aE [(8,10)] (by simp[Qg,ak])⟩;rcases hx with⟨a,b,_,rfl⟩|hx
       .rfl
       .obtain⟨y,_,rfl⟩:=bE.1 (oa hx);rfl
      .obtain rfl:k=aI.length:=O;rw[eH];simp[iB];refine wu [0,1,2,7] (iP W.1 _ hDW O) ?_;simp[results313,ak];exact⟨[(6,9),(7,8)],by simp[Jr.done,IJ,c3];intro a b h;omega⟩
     .have mg:(J1.cnt==0)=false:=U c3;by_cases c4:A1<J1.at'
      .obtain⟨Jx,IJ⟩:∃Jx:Jr,Jx={J1 with wr:=true,at':=A1+(aI.length+2)}:=⟨_,rfl⟩;simp[c2,mg,c4,iB,XD,wA1,ak];refine aS (λk:Nat=>k<=aI.length) (λk=>[(2,.obj 6 0),(95,.p (.sl (aI.map iL))),(96,.p (.int aI.length)),(97,.p (.int k))]) (λk=>⟨(6,⟨147,1,[.obj 4 0]⟩)::(4,iB 0 8 {Jx with di:=J1.di++aI.take k})::eG 7 W.1,(8,364,2)::dN 7,9⟩) (λk=>aI.length-k) 0 H _ (AS.le_refl _ _) (aE [(7,13),(8,10)] (by simp[ak,IJ,iB])) ?_;intro k hk;by_cases ck:k<aI.length
       .have kW:=kM aI[k].2 (by rw[(hp _ (bB ck)).2];omega);have Qg:List.take (k+1) (List.map iL aI)=List.take k (List.map iL aI)++[iL aI[k]]:=by rw[kG (U ck)];simp
        have wk:=ju k;simp[ck,iB];refine aZ kW ?_;simp[wk];refine⟨λx hx=>?_,O,O,k+1,O,O,aE [(8,10)] (by simp[Qg,ak])⟩;rcases hx with⟨a,b,_,rfl⟩|hx
        .rfl
        .obtain⟨y,_,rfl⟩:=bE.1 (oa hx);rfl
       .obtain rfl:k=aI.length:=O;rw[eH];simp[iB];refine wu [0,1,2,7] (iP W.1 _ hDW O) ?_;simp[results313,ak];exact⟨[(6,9),(7,8)],by simp[Jr.done,IJ,c3,c4];intro a b h;omega⟩
      .obtain⟨Jx,IJ⟩:∃Jx:Jr,Jx={J1 with at':=A1+(aI.length+2)}:=⟨_,rfl⟩;simp[c2,mg,c4,iB,XD,wA1,ak];refine aS (λk:Nat=>k<=aI.length) (λk=>[(2,.obj 6 0),(95,.p (.sl (aI.map iL))),(96,.p (.int aI.length)),(97,.p (.int k))]) (λk=>⟨(6,⟨147,1,[.obj 4 0]⟩)::(4,iB 0 8 {Jx with di:=J1.di++aI.take k})::eG 7 W.1,(8,364,2)::dN 7,9⟩) (λk=>aI.length-k) 0 H _ (AS.le_refl _ _) (aE [(7,13),(8,10)] (by simp[ak,IJ,iB])) ?_;intro k hk;by_cases ck:k<aI.length
       .have kW:=kM aI[k].2 (by rw[(hp _ (bB ck)).2];omega);have Qg:List.take (k+1) (List.map iL aI)=List.take k (List.map iL aI)++[iL aI[k]]:=by rw[kG (U ck)];simp
        have wk:=ju k;simp[ck,iB];refine aZ kW ?_;simp[wk];refine⟨λx hx=>?_,O,O,k+1,O,O,aE [(8,10)] (by simp[Qg,ak])⟩;rcases hx with⟨a,b,_,rfl⟩|hx
        .rfl
        .obtain⟨y,_,rfl⟩:=bE.1 (oa hx);rfl
       .obtain rfl:k=aI.length:=O;rw[eH];simp[iB];refine wu [0,1,2,7] (iP W.1 _ hDW O) ?_;simp[results313,ak];exact⟨[(6,9),(7,8)],by simp[Jr.done,IJ,c3,c4];intro a b h;omega⟩
    .have eY:(W.2 !=0)=true:=U c2;rw[ah c2]at pL;rw[<-pL];simp[eY,ak,results313];exact⟨[(6,13),(7,10)],by simp;intro a b h;omega⟩
   .have BP:(e !=0)=true:=U c5;rw[ah c5]at pL;rw[<-pL];simp[BP,ak,results313];exact⟨[(6,9),(7,10)],by simp;intro a b h;omega⟩
 .have jR:(om D.kept.length J aI !=0)=true:=U c1;rw[ah c1]at pL;rw[<-pL];simp;refine aD [0,1,2,3,4,5] hFt H H (by simp[aA,ak,iB]) (by simp[aA]) ?_;simp[jR,ak,iB,results313];exact⟨[(6,3),(7,5)],by simp;intro a b h;omega⟩
end Go.Av
namespace Go.aL
def aky(all:List dY)(i:Nat):Int:=cZ (((all.getD i []).drop 1).take 8)
end Go.aL
namespace Go.Av
open Go.Proofs Go.aL
end Go.Av
namespace Go.aL
def AA(cy n:Int)(m:Mk):Jr:=⟨cy,n,m,m.first,m.at',m.at',false,[],0⟩
end Go.aL
namespace Go.Av
open Go.Proofs Go.aL
end Go.Av
namespace Go.aL
def cY(j p:Int):Int:=1+j+p*8
def Cc(size:Int)(j p:Int):Int:=if j<5\/4096<j\/p<30\/4096<p then 2 else if size-cY j p<16 then 2 else 0
end Go.aL
namespace Go.Av
open Go.Proofs Go.Proofs.Tryz Go.aL
def yN(b:aF)(hb:b.length<=1000000000):cq 157 [cK b] (.int (cZ b)):=by
 refine ay [_] func157 rfl ?_;simp;have w00:IntKind.i64.wrap 0=0:=aG;refine bI (λk:Nat=>k<=b.length) (λk=>[(6,.p (cK b)),(7,.p (.int b.length)),(8,.p (.int k)),(3,.p (.int (cZ (b.take k))))]) (λk=>b.length-k) 0 H (aB (by simp[cZ,m7,w00])) ?_;intro k hk;by_cases ck:k<b.length
 .have w1:=ju k;have wx:IntKind.i64.wrap (b[k].toNat:Int)=(b[k].toNat:Int):=bQ O (by have:=b[k].toNat_lt;omega);have ho:=Cd (m7 (b.take k)) b[k].toNat (b[k].toNat_lt);have hts:cZ (b.take (k+1))=IntKind.i64.wrap ((m7 (b.take k)*256+b[k].toNat:Nat):Int):=by
   unfold cZ;rw[kG ck,mG]
  rw[<-hts]at ho;change bits .or .i64 (IntKind.i64.wrap (cZ (b.take k)*2^min 8 IntKind.i64.bits)) _=_ at ho;simp[ck,w1,wx,ho,eX];exact⟨k+1,O,O,aB H⟩
 .obtain rfl:k=b.length:=O;simp[results157]
def M9(n:Int):cq 177 [.int n] (cK (cL n 4)):=by
 have h:∀k:Nat,k<=24->IntKind.u8.wrap (n.fdiv (2^min k IntKind.i64.bits))=((zS (n/2^k)).toNat:Int):=by
  intro k hk;have e:min k IntKind.i64.bits=k:=by
   have e2:IntKind.i64.bits=64:=rfl;rw[e2];omega
  rw[e,mP _ (yC (yD O)),oA]
 have h24:=h 24 O;have h16:=h 16 O;have h8:=h 8 O;have h0:=oA n;have e4:cL n 4=[zS (n/2^24),zS (n/2^16),zS (n/2^8),zS n]:=by
  show[zS (n/2^24),zS (n/2^16),zS (n/2^8),zS (n/2^0)]=_;simp
 rw[e4];refine ay [_] func177 rfl ?_;simp[h24,h16,h8,h0,results177];rfl
def Bw(j p:Int)(hj:0<=j/\j<=1000000):bN 160 [.agg false [.obj 0 0,.p (.int j),.p (.int p)]] ⟨[],[],1⟩ (.p (.int (1+j))) ⟨[],[],1⟩:=by
 have w1:IntKind.i64.wrap (1+j)=1+j:=aG;refine aq [_] [1] [] [] func160 rfl ?_;simp[w1,results160];exact⟨[],H⟩
def yO(j p:Int)(hj:0<=j/\j<=1000000)(hp:0<=p/\p<=1000000):bN 67 [.agg false [.obj 0 0,.p (.int j),.p (.int p)]] ⟨[],[],1⟩ (.p (.int (cY j p))) ⟨[],[],1⟩:=by
 have w1:IntKind.i64.wrap (p*8)=p*8:=aG;have w2:IntKind.i64.wrap (1+j+p*8)=1+j+p*8:=aG;refine aq [_] [1] [(1,[(0,.r 1),(1,.w [1]),(4,.r 1)])] [(1,1)] func67 rfl ?_;simp;refine jf [0] (Bw j p hj) ?_;simp[w1,w2,results67,cY];exact⟨[],H⟩
def M_(D:bt)(hl:D.kept.length<=65536)(j p:Int):bN 70 [.obj 0 0,.p (.agg false [.int j,.int p])] ⟨[(0,Gf 3 D)],[],4⟩ (.p (.int (Cc D.kept.length j p))) ⟨[(0,Gf 3 D)],[],4⟩:=by
 have hS:=La D;unfold Cc;refine aq [_] [] [(5,[(1,.w []),(5,.w [])])] [] func70 rfl ?_;by_cases c1:j<5
 .simp[c1,results70];exact⟨[],H⟩
 by_cases c2:4096<j
 .simp[c1,c2,results70];exact⟨[],H⟩
 by_cases c3:p<30
 .simp[c1,c2,c3,results70];exact⟨[],H⟩
 by_cases c4:4096<p
 .simp[c1,c2,c3,c4,results70];exact⟨[],H⟩
 have w1:IntKind.i64.wrap ((D.kept.length:Int)-cY j p)=(D.kept.length:Int)-cY j p:=bQ (by unfold cY;omega) (by unfold cY;omega);simp[c1,c2,c3,c4];refine oM hS rfl ?_;simp;refine jf [0] (yO j p O O) ?_;by_cases c5:(D.kept.length:Int)-cY j p<16
 .simp[c5,w1,results70];exact⟨[],H⟩
 .simp[c5,w1,results70];exact⟨[],H⟩
end Go.Av
namespace Go.aL
def RW(root count:Int):List UInt8:=83::(cL root 4++cL count 4)
def pS(root count:Int):dY:=frame (RW root count++List.replicate 51 0)
def hdU(b:List UInt8):(Int×Int)×Int:=if(fN b).2=0/\(fN b).1.length=60/\(fN b).1.getD 0 0=83 then
 (if pS (cZ (((fN b).1.drop 1).take 4)) (cZ (((fN b).1.drop 5).take 4))=b then((cZ (((fN b).1.drop 1).take 4),cZ (((fN b).1.drop 5).take 4)),0)else((0,0),33))else((0,0),33)
def AI(r c:Int):(RW r c).length=9:=by simp[RW,bC]
end Go.aL
namespace Go.Av
open Go.Proofs Go.Proofs.Tryz Go.aL
abbrev hdP(root count:Int):PC:= .agg false [.int root,.int count]
def CG(root count:Int):cq 78 [hdP root count] (cK (pS root count)):=by
 have h4:=M9 root;have h4':=M9 count;have hc:=EA [[83],cL root 4,cL count 4] (by simp[bC]) H;have e1:[[83],cL root 4,cL count 4].flatten=RW root count:=by simp[RW]
 rw[e1]at hc;have hF:=Cg [RW root count,List.replicate 51 0] (by simp[AI]) H;have e2:[RW root count,List.replicate 51 0].flatten=RW root count++List.replicate 51 0:=H;rw[e2]at hF;change cq 178 _ (cK (pS root count))at hF;have l9:(af (RW root count)).length=9:=by rw[show(af (RW root count)).length=(RW root count).length from by simp[af],AI]
 generalize pS root count=S at hF⊢;generalize hX:RW root count=X at hc hF l9;have w1:IntKind.i64.wrap 51=51:=aG;refine dK [_] [17] [] [] func78 rfl ?_;simp;refine aZ h4 ?_;simp;refine aZ h4' ?_;simp;refine aZ hc ?_;have xl:X.length=9:=by rw[<-hX,AI]
 have er:List.replicate 51 (PC.sc (Value.int IntKind.u8 0))=af (List.replicate 51 0):=by simp[af]
 simp[xl,w1];refine⟨by unfold maxLen;omega,fY hF rfl ?_⟩;simp[results78]
def U7(b:aF)(hb:b.length<=1000000000):cq 72 [cK b] (.tp [hdP (hdU b).1.1 (hdU b).1.2,.int (hdU b).2]):=by
 have hO:=Gy b hb;have hbb:b≠[]\/b=[]:=by cases b<;>simp
 generalize hR:hdU b=R;unfold hdU at hR;generalize fN b=O1 at hO hR;obtain⟨x,e⟩:=O1;simp only at hO hR;refine dK [_,_] [] [(4,[(7,.w []),(8,.s 1 [])]),(5,[(0,.r 1)])] [(1,1)] func72 rfl ?_;simp;refine cm hO ?_;by_cases c1:e=0
 .by_cases c2:x.length=60
  .have g0:x.getD 0 0=x[0]:=by rw[u6,n_ O];rfl
   have q0:(af x)[0]?=some (sS x[0]):=by rw[n_ (by simp[af];omega),eX]
   by_cases c3:x[0]=83
   .have k1:List.drop 1 (List.take 5 (af x))=af ((x.drop 1).take 4):=by simp[af,xT]
    have k2:List.drop 5 (List.take 9 (af x))=af ((x.drop 5).take 4):=by simp[af,xT]
    have RS:=yN ((x.drop 1).take 4) (by simp;omega);have hn2:=yN ((x.drop 5).take 4) (by simp;omega);have hS:=CG (cZ ((x.drop 1).take 4)) (cZ ((x.drop 5).take 4));rw[ai ⟨c1,c2,by rw[g0,c3]⟩]at hR;generalize cZ ((x.drop 1).take 4)=r at RS hS hR;generalize cZ ((x.drop 5).take 4)=c at hn2 hS hR;simp[c1,c2,c3,bne,k1,eX];rw[List.drop_one]at RS;refine⟨λy h=>(cJ _ y h).symm,aZ RS ?_⟩;simp[k2];refine⟨λy h=>(cJ _ y h).symm,O,aZ hn2 ?_⟩;simp;refine aZ hS ?_;by_cases c4:pS r c=b
    .rw[ai c4]at hR;rw[<-hR];simp[c4,bne,results72]
    .have uy:(pS r c==b)=false:=U c4;rw[ah c4]at hR;rw[<-hR];simp[uy,bne,results72]
   .have mg:((x[0].toNat:Int)==83)=false:=by
     have:¬x[0].toNat=83:=λh3=>c3 (yt.1 h3);simp;omega
    rw[ah (λh=>c3 (by rw[<-g0];exact h.2.2))]at hR;rw[<-hR];simp[c1,c2,mg,bne,eX,results72]
  .have eY:((x.length:Int)==60)=false:=by simp;omega
   rw[ah (λh=>c2 h.2.1)]at hR;rw[<-hR];simp[c1,eY,bne,results72]
 .have jR:(e==0)=false:=U c1;rw[ah (λh=>c1 h.1)]at hR;rw[<-hR];simp[jR,bne,results72]
end Go.Av
namespace Go.aL
def FC(D:bt)(j p:Int):bt×Int:=if Cc D.kept.length j p=0 then(if(D.write 0 [pS 0 0]).2=0 then UG (D.write 0 [pS 0 0]).1 1 j else D.write 0 [pS 0 0])else(D,Cc D.kept.length j p)
end Go.aL
namespace Go.Av
open Go.Proofs Go.Proofs.Tryz Go.aL
def S4(D:bt)(b:Nat)(hD:fJ b D)(j p:Int)(hb:b<=1000000):bN 22 [.obj 0 0,.p (.agg false [.int j,.int p])] ⟨eG 3 D,dN 3,4⟩ (.p (.int (FC D j p).2)) ⟨eG 4 (FC D j p).1,dN 4,5⟩:=by
 have hR:=M_ D hD.top j p;generalize pL:FC D j p=R;unfold FC at pL;refine aC [_] func22 rfl ?_;simp;refine oM hR rfl ?_;by_cases c1:Cc D.kept.length j p=0
 .have hj:0<=j/\j<=1000000:=by unfold Cc at c1;split at c1<;>omega
  have hW:=tL D b hD 0 O [pS 0 0] H (by simp;omega);have hWD:=hD.write 0 [pS 0 0];rw[ai c1]at pL;generalize D.write 0 [pS 0 0]=W at hW hWD pL;simp[c1];refine cm (CG 0 0) ?_;simp;refine aN hW H (by simp[aA,ak]) (by simp[aA]) rfl ?_;by_cases c2:W.2=0
  .rw[ai c2]at pL;rw[<-pL];simp[c2];refine wu [0,1,2,4] (Wo W.1 _ hWD 1 j O hj (by simp only[cF,fQ];omega)) ?_;simp[ak,results22];exact⟨[(4,5)],H⟩
  .have eY:(W.2 !=0)=true:=U c2;rw[ah c2]at pL;rw[<-pL];simp[eY,results22];exact⟨[],by simp[ak]⟩
 .have jR:(Cc D.kept.length j p !=0)=true:=U c1;rw[ah c1]at pL;rw[<-pL];simp[jR,results22];exact⟨[(4,3)],by simp[ak]⟩
end Go.Av
namespace Go.Av
open Go.Proofs Go.Proofs.Tryz
abbrev Pk(l:aF)(c:UInt8):Int:=Go.Lib.indexByte l c
def Zm(c:UInt8):((c.toNat:Int)).toNat.toUInt8=c:=H
def aeS(l:aF)(c:UInt8):Zn prog 377 [.str l,.sc (.int .u8 c.toNat)] (.int (Pk l c)):=by
 refine⟨Tryz.f377,Extern.BytealgIndexByte.indexByte,func377,bp,bp,bp,bp,?_⟩;intro M w vs hH hr;cases hr with
 |cons h1 hs=>
  cases hs with
  |cons h2 hs=>
   cases hs;have h1:=bU (.p (g:=⟨M,λ_=>none,λ_=>none⟩) h1);have h2:=bU (.p (g:=⟨M,λ_=>none,λ_=>none⟩) h2);subst h1;subst h2;refine⟨.int .i64 (Pk l c),?_,.sc _ rfl⟩;have:=Go.Lib.run_indexByteString (P:=prog) ⟨l.toArray⟩ (c.toNat:Int) w;rw[Zm]at this;exact this
def Eu(l:aF)(c:UInt8):cq 345 [.str l,.sc (.int .u8 c.toNat)] (.int (Pk l c)):=by
 refine ay [_] func345 rfl ?_;simp;refine Uq (aeS l c) H ?_;simp[results345]
def Ur(l:aF)(c:UInt8):cq 303 [.str l,.sc (.int .u8 c.toNat)] (.int (Pk l c)):=by
 refine ay [_] func303 rfl ?_;simp;refine cm (Eu l c) ?_;simp[results303]
def Us(c:UInt8):Pk [c] c=0:=by simp[Pk,Go.Lib.indexByte]
def Ut(l:aF)(c:UInt8):cq 293 [.str l,.str [c]] (.int (Pk l c)):=by
 refine ay [_] func293 rfl ?_;by_cases h:[c]=l
 .subst h;simp[results293,Us]
 .have hd:([c]==l)=false:=U h;simp[hd];refine cm (Eu l c) ?_;simp[results293]
def Tw(l:aF)(c:UInt8):cq 216 [.str l,.str [c]] (.int (Pk l c)):=by
 refine ay [_] func216 rfl ?_;simp;refine cm (Ut l c) ?_;simp[results216]
def Zo(c:UInt8):Bool:=(decide (97<=c.toNat)&&decide (c.toNat<=122))||((decide (65<=c.toNat)&&decide (c.toNat<=90))||(decide (48<=c.toNat)&&decide (c.toNat<=57)))
def Uu(c:UInt8):Bool:=(decide (32<=c.toNat)&&!decide (c.toNat=127))||decide (c.toNat=9)
def marks:aF:=[33,35,36,37,38,39,42,43,45,46,94,95,96,124,126]
def HW(c:UInt8):Bool:=Zo c||decide (0<=Pk marks c)
def Uv(c:UInt8):cq 302 [sS c] (.bool (Zo c)):=by
 refine ay [_] func302 rfl ?_;unfold Zo sS;generalize c.toNat=k;by_cases a1:97<=k
 .have b1:(97:Int)<=(k:Int):=O;by_cases a2:k<=122
  .have b2:(k:Int)<=122:=O;simp[a1,a2,b1,b2,results302]
  .have b2:¬(k:Int)<=122:=O;have b3:(65:Int)<=(k:Int):=O;have b4:¬(k:Int)<=90:=O;have b5:(48:Int)<=(k:Int):=O;have b6:¬(k:Int)<=57:=O;simp[a1,a2,b1,b2,b3,b4,b5,b6,show 65<=k by omega,show¬k<=90 by omega,show 48<=k by omega,show¬k<=57 by omega,results302]
 .have b1:¬(97:Int)<=(k:Int):=O;by_cases a3:65<=k
  .have b3:(65:Int)<=(k:Int):=O;by_cases a4:k<=90
   .have b4:(k:Int)<=90:=O;simp[a1,a3,a4,b1,b3,b4,results302]
   .have b4:¬(k:Int)<=90:=O;have b5:(48:Int)<=(k:Int):=O;have b6:¬(k:Int)<=57:=O;simp[a1,a3,a4,b1,b3,b4,b5,b6,show 48<=k by omega,show¬k<=57 by omega,results302]
  .have b3:¬(65:Int)<=(k:Int):=O;by_cases a5:48<=k
   .have b5:(48:Int)<=(k:Int):=O;by_cases a6:k<=57
    .have b6:(k:Int)<=57:=O;simp[a1,a3,a5,a6,b1,b3,b5,b6,results302]
    .have b6:¬(k:Int)<=57:=O;simp[a1,a3,a5,a6,b1,b3,b5,b6,results302]
   .have b5:¬(48:Int)<=(k:Int):=O;simp[a1,a3,a5,b1,b3,b5,results302]
def Zp(c:UInt8):cq 349 [sS c] (.bool (Uu c)):=by
 refine ay [_] func349 rfl ?_;unfold Uu sS;generalize c.toNat=k;by_cases a1:32<=k
 .have b1:(32:Int)<=(k:Int):=O;by_cases a2:k=127
  .subst a2;simp[results349]
  .have b2:((k:Int) !=127)=true:=by simp;omega
   simp[a1,a2,b1,b2,results349]
 .have b1:¬(32:Int)<=(k:Int):=O;by_cases a3:k=9
  .subst a3;simp[results349]
  .have b3:((k:Int)==9)=false:=by simp;omega
   simp[a1,a3,b1,b3,results349]
def akt(c:UInt8):cq 301 [sS c] (.bool (HW c)):=by
 refine ay [_] func301 rfl ?_;unfold HW;simp;refine cm (Uv c) ?_;cases Zo c with
 |true=>simp[results301]
 |false=>
  simp;refine fY (Ur marks c) (by simp[marks]) ?_;simp[results301]
def acu{g:FuncId}(q:UInt8->Bool)(l:aF)(hl:l.length<=140737488351232)(hq:∀c,cq g [sS c] (.bool (q c))):cq 300 [.str l,.fn (.func g) []] (.bool (l.all q)):=by
 refine ay [_] func300 rfl ?_;simp;refine bI (λk:Nat=>k<=l.length/\l.all q=(l.drop k).all q) (λk=>[(0,.p (.str l)),(1,.p (.fn (.func g) [])),(7,.p (.int l.length)),(8,.p (.int k))]) (λk=>l.length-k) 0 H (aB H) ?_;rintro k ⟨h1,h2⟩;by_cases c:k<l.length
 .rw[eK c,yE]at h2;simp[c];refine cm (hq l[k]) ?_;cases hz:q l[k]with
  |true=>
   rw[hz]at h2;simp;refine⟨k+1,⟨O,U h2⟩,O,aB ?_⟩;simp[aG (n:=(k:Int)+1)]
  |false=>
   rw[hz,gy]at h2;simp[h2,results300]
 .obtain rfl:k=l.length:=O;rw[sM,List.all_nil]at h2;simp[h2,results300]
def FP(l:aF)(hl:l.length<=140737488351232):cq 220 [.str l] (.bool (decide (l≠[])&&l.all HW)):=by
 refine ay [_] func220 rfl ?_;by_cases h:l=[]
 .subst h;simp[results220]
 .have hd:(l !=[])=true:=U h;simp[h,hd];refine cm (acu HW l hl akt) ?_;simp[results220]
end Go.Av
namespace Go.Proofs
open Go.Shelf
def Tryz.zP:Go.Shelf.Ren:=⟨fun|227=>394|n=>n,fun|9=>9|116=>474|4=>4|0=>0|3=>3|5=>5|n=>n,fun|n=>n⟩
def Tryz.YV:Go.Proofs.Lays.n227 Tryz.prog Tryz.zP:={
 mixed:=bp
 f227:=Tryz.func394.trans (congrArg some bp)
 t0:=Tryz.underlying0
 a0:=Tryz.isAgg0
 z0:=Tryz.sizeOf0
 v0:=Tryz.zeroValue0
 t3:=Tryz.underlying3
 a3:=Tryz.isAgg3
 z3:=Tryz.sizeOf3
 v3:=Tryz.zeroValue3
 t4:=Tryz.underlying4
 a4:=Tryz.isAgg4
 z4:=Tryz.sizeOf4
 v4:=Tryz.zeroValue4
 t5:=Tryz.underlying5
 a5:=Tryz.isAgg5
 z5:=Tryz.sizeOf5
 v5:=Tryz.zeroValue5
 t9:=Tryz.underlying9
 a9:=Tryz.isAgg9
 z9:=Tryz.sizeOf9
 v9:=Tryz.zeroValue9
 t116:=Tryz.underlying474
 a116:=Tryz.isAgg474
 z116:=Tryz.sizeOf474}
end Go.Proofs
namespace Go.Av
open Go.Proofs Go.Proofs.Tryz Go.RowKit Go.Shelf
def G4(c:UInt8):Bool:=decide (33<=c.toNat)&&decide (c.toNat<=126)
def Lh(l:aF):Bool:=decide (l≠[])&&l.all G4
def PG(l:aF)(hl:l.length<=140737488351232):cq 294 [.str l] (.bool (Lh l)):=by
 refine ay [_] func294 rfl ?_;simp;refine bI (λk:Nat=>k<=l.length/\l.all G4=(l.drop k).all G4) (λk=>[(0,.p (.str l)),(5,.p (.int l.length)),(6,.p (.int k))]) (λk=>l.length-k) 0 H (aB H) ?_;rintro k ⟨h1,h2⟩;by_cases c:k<l.length
 .rw[eK c,yE]at h2;have hne:l≠[]:=by intro h;subst h;simp at c
  by_cases a1:l[k].toNat<=32
  .have b1:(l[k].toNat:Int)<=32:=O;have hv:G4 l[k]=false:=by unfold G4;simp;omega
   rw[hv,gy]at h2;simp[c,b1,results294,Lh,h2]
  .have b1:¬(l[k].toNat:Int)<=32:=O;by_cases a2:127<=l[k].toNat
   .have b2:(127:Int)<=(l[k].toNat:Int):=O;have hv:G4 l[k]=false:=by unfold G4;simp;omega
    rw[hv,gy]at h2;simp[c,b1,b2,results294,Lh,h2]
   .have b2:¬(127:Int)<=(l[k].toNat:Int):=O;have hv:G4 l[k]=true:=by unfold G4;simp;omega
    rw[hv,ox]at h2;simp[c,b1,b2];refine⟨k+1,⟨O,h2⟩,O,aB ?_⟩;simp[aG (n:=(k:Int)+1)]
 .obtain rfl:k=l.length:=O;rw[sM,List.all_nil]at h2;by_cases hne:l=[]
  .subst hne;simp[results294,Lh]
  .have hd:(l !=[])=true:=U hne;simp[results294,Lh,h2,hne,hd]
def zu:List PC:=(List.range 256).map λc=> .sc (.bool (decide (c=32\/c=9)))
def QZ:(Lib.setCells [32,9]).toList=(List.range 256).map λc=>Value.bool (decide (c=32\/c=9)):=bp
def Js{M:Mem}{w w':World}(h:iO w M)(hB:Below w.heap.size w w'):iO w' M:=⟨λb o v e=>by
 have hlt:=h.lt e;rw[hB.cell (p:=⟨b,o,none⟩) hlt];exact h b o v e,h.g⟩
theorem Dl{M:Mem}(f:Nat->Bool):∀l:List Nat,dh M (l.map λc=>Value.bool (f c)) (l.map λc=>PC.sc (.bool (f c)))
 |[]=> .nil
 |a::l=> .cons (.sc _ rfl) (Dl f l)
theorem tq{M:Mem}(f:Nat->Bool):∀{l:List Nat} {us:List Value},dh M us (l.map λc=>PC.sc (.bool (f c)))->us=l.map λc=>Value.bool (f c)
 |[],_,.nil=>rfl
 |a::l,_,.cons h hs=>by
  cases h;rw[tq f hs];rfl
def LW:cq 394 [.str [32,9]] (.tp [.agg false zu,.bool true]):=by
 refine⟨⟨_,func394,bp,bp⟩,λM w vs hH hr=>?_⟩;cases hr with
 |cons h hs=>
  cases hs;cases h;have hi:(prog.info? (Tryz.zP.t 116)).map (λi=>(i.zero,i.size))=some (some (.agg (Array.replicate 256 (.bool false))),256):=bp;refine(Any.strings_makeASCIISet Tryz.YV (zero_of_info hi).1 (zero_of_info hi).2 ⟨#[32,9]⟩ w (by decide) (λj b e=>?_)).mono λe w' ⟨h1,h2⟩=>?_
  .match j,e with
   |0,e=>cases e;decide
   |1,e=>cases e;decide
   |j+2,e=>cases e
  .have hB:Below w.heap.size w w':=by rw[h2];exact(Below.refl _ _).alloc (aX _) _
   refine⟨_,M,h1,?_,Js hH hB,Mem.le_refl _,λ_ _=>rfl,hB⟩;have e1:(Value.agg (Lib.setCells (ByteArray.mk #[32,9]).data.toList))= .agg ((List.range 256).map λc=>Value.bool (decide (c=32\/c=9))).toArray:=by
    exact dg Value.agg (Array.ext' (QZ.trans List.toList_toArray.symm))
   rw[e1];refine jc.sE (vs:=[_,_]) (.cons (.agg (Dl _ _) ?_) (.cons (.sc _ rfl) .nil));intro v hv;obtain⟨c,_,rfl⟩:=bE.1 hv;rfl
def G5(b off:Nat)(x:UInt8)(v:Bool)(w:World)(hc:w.cell? ⟨b,off+x.toNat,none⟩=some (.bool v)):Calls prog 402 #[.pointer (some ⟨b,off,none⟩),.int .u8 x.toNat] w λe w'=>e= .returned (.bool v)/\w'=w:=by
 have aqX:(x.toNat:Int)<256:=by have:=UInt8.toNat_lt x;omega
 go_enter func402,ntmps402
 go_wp2
 go_ret
 exact⟨rfl,rfl⟩
def blO(c:UInt8):Bool:=decide (c.toNat=32\/c.toNat=9)
def Ad(x:UInt8):cq 402 [.ref (.agg false zu),sS x] (.bool (blO x)):=by
 refine⟨⟨_,func402,bp,bp⟩,λM w vs hH hr=>?_⟩;cases hr with
 |cons h hs=>
  cases hs with
  |cons h2 hs=>
  cases hs;cases h2;cases h with
  |ref eM h=>
   rename_i b off u;have hx:=UInt8.toNat_lt x;have hcell:w.cell? ⟨b,off+x.toNat,none⟩=some (.bool (blO x)):=by
    refine hH _ _ _ (eM x.toNat _ ?_);cases h with
    |agg hs h1=>
     rename_i us;have e:us=(List.range 256).map λc=>Value.bool (decide (c=32\/c=9)):=tq _ hs;subst e;show((List.range 256).map λc=>Value.bool (decide (c=32\/c=9)))[x.toNat]?=some (.bool (blO x));rw[sO,List.getElem?_range hx];rfl
   refine(G5 b off x _ w hcell).mono λe w' ⟨h1,h2⟩=>?_;subst h2;exact⟨_,M,h1,.sc _ rfl,hH,Mem.le_refl _,λ_ _=>rfl,Below.refl _ _⟩
def Da(l:aF):aF:=l.dropWhile blO
def rR(l:aF):aF:=(l.reverse.dropWhile blO).reverse
def Jm(l:aF):aF:=Da (rR l)
def LV(l:aF)(a:UInt8):rR (l++[a])=if blO a=true then rR l else l++[a]:=by
 unfold rR;rw[List.reverse_append,List.reverse_singleton,List.singleton_append,List.dropWhile_cons];split
 .rfl
 .simp
def Wb(l:aF):(rR l).length<=l.length:=by
 unfold rR;rw[List.length_reverse];have:=(List.dropWhile_sublist (l:=l.reverse) blO).length_le;simpa using this
def Wa(l:aF)(hl:l.length<=140737488351232):cq 395 [.str l,.ref (.agg false zu)] (.str (Da l)):=by
 refine ay [_] func395 rfl ?_;simp;refine bI (λs:aF=>s.length<=l.length/\Da l=Da s) (λs=>[(0,.p (.str s)),(1,.p (.ref (.agg false zu)))]) (λs=>s.length) l H (aB H) ?_;rintro s ⟨h1,h2⟩;cases s with
 |nil=>rw[h2];simp[results395,Da]
 |cons a s=>
  rw[h2];have hd:(0:Int)<((s.length:Int)+1):=O;simp[hd];refine cm (Ad a) ?_;unfold Da;rw[List.dropWhile_cons];cases hb:blO a with
  |false=>simp[results395]
  |true=>
   simp;refine⟨s,⟨by simp at h1;omega,?_⟩,H,aB ?_⟩
   .first|rfl|simp
   .simp
end Go.Av
