/- TiersAgain, part 25: what functions compute, and its plain law; no condition. -/
import Derived.Test.YtgkdpbambfgahaaGreatDoorWax
import Derived.OpenShut
import Derived.LaidMore
import Derived.SizedLaws
set_option linter.all false
set_option maxRecDepth 100000
set_option maxHeartbeats 64000000
namespace Go.Av
open Go.Proofs Go.Proofs.Tryz Go.aL
def akb(i:Nat):IntKind.u8.wrap (i:Int)=((UInt8.ofNat i).toNat:Int):=by
 have e1:IntKind.u8.bits=8:=rfl;have e2:IntKind.u8.signed=false:=rfl;unfold IntKind.wrap;simp only[e1,e2,gy,dZ,dc];rw[xY];omega
def akc{r c n k:Nat}{W:Wd}(h:WI r c n k W)(hc:c<=14000)(hn:n<=870)(hk:k<=900)(u m:Int)(hu:-9223372036854775808<=u/\u<=9223372036854775807)(hm:-9223372036854775808<=m/\m<=9223372036854775807)(x:UInt8):∃W' d,WI r (c+900) (n+1) (k+1) W'/\bN 42 [.obj 9 0,.p (.int u),.p (.int m),.p (.sc (.int .u8 (x.toNat:Int)))] ⟨lA 10 W,cH 10,22⟩ (.agg true [.p (.bool d),.p (.bool true)]) ⟨lA 22 W',cH 22,34⟩:=by
 have hb:(pV x (m%600).toNat).length<=600:=by rw[qR];omega
 by_cases z:((W.gb u).w.aQ (pV x (m%600).toNat)).2=0
 .obtain⟨L,hP,hI⟩:=h.SR hc hn hk u hb z;exact⟨_,_,hI,H8 W u m hu hm x L (KZ u) hP⟩
 .obtain⟨L,hP,hI⟩:=h.KG hc hn hk u hb z;exact⟨_,_,hI,TF W u m hu hm x L (KZ u) hP⟩
def YS{r c n:Nat}{T:Ti}{M:jV}(h:TM r c n T M)(hc:c<=18000)(hn:n<=870)(key:aF):∃x is T1 T2,DE x/\TM r c (n+2) T2 M/\T2.s.ix=T.s.ix/\T2.s.dR=T.s.dR/\bN 43 [.obj 8 0,.p (.str key)] ⟨fu 9 T,cH 9,21⟩ (.agg true [.p (k8 x),.p (.bool is),.p (.int 0)]) ⟨fu 21 T1,cH 21,33⟩/\bN 43 [.obj 8 0,.p (.str key)] ⟨fu 9 T1,cH 9,21⟩ (.agg true [.p (k8 x),.p (.bool is),.p (.int 0)]) ⟨fu 21 T2,cH 21,33⟩:=by
 obtain⟨un,a1,a2,a3,a4,a5,a6,a7⟩:=h.get key;obtain⟨vn,b1,b2,b3,b4,b5,b6,b7⟩:=a4.get key;have g1:=TG un T h.t hc O key a1 a2;have g2:=TG vn _ a4.t hc O key b1 b2;rw[b3,a5]at g2;rw[a3]at g1;have hx:=h.ok key;have he:(ad9 (og M T key)).2.2=0:=by cases og M T key<;>rfl
 rw[he]at g1 g2;exact⟨_,_,_,_,hx,b4,b6.trans a6,b7.trans a7,g1,g2⟩
def aoo(b s r:Int)(hb:-9223372036854775808<=b/\b<=9223372036854775807)(hs:-9223372036854775808<=s/\s<=9223372036854775807)(hr:-9223372036854775808<=r/\r<=9223372036854775807)(us ls:List Int)(hu:∀x∈us,-9223372036854775808<=x/\x<=9223372036854775807)(hl:∀x∈ls,-9223372036854775808<=x/\x<=9223372036854775807)(hul:us.length<=9223372036854775807)(J8:ls.length<=9223372036854775807):cq 7 [.agg false [.int b,.int s,.int r],.sl (us.map PC.int),.sl (ls.map PC.int)] (.bool true):=by
 have ha:=YT;obtain⟨N,hN⟩:∃N:Nat,(N:Int)=357+r%300:=⟨(357+r%300).toNat,O⟩;obtain⟨D,hD,ho⟩:=HF b s r hb hs hr N hN;have hW0:=HJ (aed (N:=N) O) hD b s;generalize vM N b s D=W0 at*
 suffices key:bN 7 [.p (.agg false [.int b,.int s,.int r]),.p (.sl (us.map PC.int)),.p (.sl (ls.map PC.int))] ⟨[],[],0⟩ (.p (.bool true)) ⟨[],[],0⟩from bF (xs:=[_,_,_]) key (by simp[dA])
 refine zM (rs:=[_]) [] [] [] [(12,(.one 0 (.one 1 (.one 2 (.one 8 (.one 9 (.one 10 (.br 3 (.one 4 (.one 5 (.br 6 (.br 7 (.br 11 (.one 12 (.one 13 (.br 14 (.br 15 (.one 16 (.one 17 (.one 18 .lf))) .lf) .lf))) .lf) (.br 11 (.one 12 (.one 13 (.br 7 (.br 14 (.br 15 (.one 16 (.one 17 (.one 18 .lf))) .lf) .lf) (.br 14 (.br 7 (.br 15 (.one 16 (.one 17 (.one 18 .lf))) .lf) .lf) .lf)))) .lf)) (.br 11 (.one 12 (.one 13 (.br 6 (.br 7 (.br 14 (.br 15 (.one 16 (.one 17 (.one 18 .lf))) .lf) .lf) (.br 14 (.br 7 (.br 15 (.one 16 (.one 17 (.one 18 .lf))) .lf) .lf) .lf)) (.br 14 (.br 6 (.br 7 (.br 15 (.one 16 (.one 17 (.one 18 .lf))) .lf) .lf) .lf) .lf)))) .lf)))) (.br 11 (.one 12 (.one 13 (.br 3 (.one 4 (.one 5 (.br 6 (.br 7 (.br 14 (.br 15 (.one 16 (.one 17 (.one 18 .lf))) .lf) .lf) (.br 14 (.br 7 (.br 15 (.one 16 (.one 17 (.one 18 .lf))) .lf) .lf) .lf)) (.br 14 (.br 6 (.br 7 (.br 15 (.one 16 (.one 17 (.one 18 .lf))) .lf) .lf) .lf) .lf)))) (.br 14 (.br 3 (.one 4 (.one 5 (.br 6 (.br 7 (.br 15 (.one 16 (.one 17 (.one 18 .lf))) .lf) .lf) .lf))) .lf) .lf)))) .lf))))))))),(16,(.one 0 (.one 1 (.one 2 (.one 4 (.one 5 (.one 6 (.one 7 (.one 8 (.one 9 (.br 3 (.br 10 (.one 11 (.one 12 (.one 13 (.one 14 (.br 15 (.br 16 (.one 17 (.one 18 .lf)) .lf) .lf))))) (.br 15 (.br 10 (.one 11 (.one 12 (.one 13 (.one 14 (.br 16 (.one 17 (.one 18 .lf)) .lf))))) .lf) .lf)) (.br 15 (.br 3 (.br 10 (.one 11 (.one 12 (.one 13 (.one 14 (.br 16 (.one 17 (.one 18 .lf)) .lf))))) .lf) .lf) .lf)))))))))))),(17,(.one 0 (.one 1 (.one 2 (.one 4 (.one 5 (.one 6 (.one 7 (.one 8 (.one 9 (.br 3 (.br 10 (.one 11 (.one 12 (.one 13 (.one 14 (.br 15 (.br 16 (.one 17 (.one 18 .lf)) .lf) .lf))))) (.br 15 (.br 10 (.one 11 (.one 12 (.one 13 (.one 14 (.br 16 (.one 17 (.one 18 .lf)) .lf))))) .lf) .lf)) (.br 15 (.br 3 (.br 10 (.one 11 (.one 12 (.one 13 (.one 14 (.br 16 (.one 17 (.one 18 .lf)) .lf))))) .lf) .lf) .lf))))))))))))] func7 rfl bp bp (by simp[ntmps7]) rfl ?_;refine iF mixed [(1,.p (.sl (us.map PC.int))),(2,.p (.sl (ls.map PC.int))),(3,.p (.ref (.agg false [.int b,.int s,.int r]))),(6,.p (.bool false))] ⟨[],[],0⟩ ?_ ?_
 .simp;exact aB H
 refine oU mixed (λ_:Unit=>us.length<=12/\ls.length<=30) (λ_=>[(1,.p (.sl (us.map PC.int))),(2,.p (.sl (ls.map PC.int))),(3,.p (.ref (.agg false [.int b,.int s,.int r]))),(6,.p (.bool false))]) (λ_=>⟨[],[],0⟩) ?_ (λ_ hc=>?_)
 .simp;refine cm ha ?_;by_cases c1:us.length<=12
  .by_cases c2:ls.length<=30
   .have d1:¬(12:Int)<us.length:=O;have d2:¬(30:Int)<ls.length:=O;simp[d1,d2,c1,c2];exact aB H
   .have d1:¬(12:Int)<us.length:=O;have d2:(30:Int)<ls.length:=O;simp[d1,d2];refine cm ha ?_;simp[-az,results7];exact⟨[],H⟩
  .have d1:(12:Int)<us.length:=O;simp[d1];refine cm ha ?_;simp[-az,results7];exact⟨[],H⟩
 obtain⟨c1,c2⟩:=hc;refine iF mixed [(1,.p (.sl (us.map PC.int))),(2,.p (.sl (ls.map PC.int))),(6,.p (.bool false)),(7,.obj 9 0)] ⟨lA 10 W0,cH 10,22⟩ ?_ ?_
 .simp;refine jf [] ho ?_;simp[lA,fu,aH,aj,ak,aR,aM,aJ,aP];exact aB (by simp[lA,fu,aH,aj,ak,aR,aM,aJ,aP])
 refine iF mixed [(1,.p (.sl (us.map PC.int))),(2,.p (.sl (ls.map PC.int))),(6,.p (.bool false)),(7,.obj 9 0)] ⟨lA 10 W0,cH 10,22⟩ ?_ ?_
 .simp[lA,fu,aH,aj,ak,aR,aM,aJ,aP];exact aB (by simp[lA,fu,aH,aj,ak,aR,aM,aJ,aP])
 refine oU mixed (λW:Wd=>∃k,k<=12/\WI 341 (200+900*k) k k W) (λ_=>[(1,.p (.sl (us.map PC.int))),(2,.p (.sl (ls.map PC.int))),(6,.p (.bool false)),(7,.obj 9 0)]) (λW=>⟨lA 10 W,cH 10,22⟩) ?_ (λW hW=>?_)
 .simp[lA,fu,aH,aj,ak,aR,aM,aJ,aP];refine aS (λq:Nat×Wd=>q.1<=us.length/\WI 341 (200+900*q.1) q.1 q.1 q.2) (λq=>[(1,.p (.sl (us.map PC.int))),(2,.p (.sl (ls.map PC.int))),(6,.p (.bool false)),(7,.obj 9 0),(8,.p (.int q.1))]) (λq=>⟨lA 10 q.2,cH 10,22⟩) (λq=>us.length-q.1) (0,W0) ⟨O,hW0⟩ _ (AS.le_refl _ _) (aB (by simp[lA,fu,aH,aj,ak,aR,aM,aJ,aP])) ?_;rintro⟨i,W⟩ ⟨g1,g2⟩;simp only at g1 g2;by_cases ci:i<us.length
  .have hui:=hu us[i] (bB ci);have w1:IntKind.i64.wrap (40*(i:Int))=40*(i:Int):=aG;have w2:=akb i;have w3:=ju i;obtain⟨W',d,hI,hp⟩:=akc g2 O O O us[i] (40*(i:Int)) hui O (UInt8.ofNat i);simp[ci,w1,w2,lA,fu,aH,aj,ak,aR,aM,aJ,aP];refine rcK [0,1,2,3,4,5,6,7,8,9,10,11,12,13,14,15,16,17,18,19,20,21] hp ?_;simp[lA,fu,aH,aj,ak,aR,aM,aJ,aP];exact⟨i+1,W',⟨O,by simpa[yu,ow]using hI⟩,O,aE [(10,22),(11,23),(12,24),(13,25),(14,26),(15,27),(16,28),(17,29),(18,30),(19,31),(20,32),(21,33)] (by simp[w3,lA,fu,aH,aj,ak,aR,aM,aJ,aP])⟩
  .have hi:i=us.length:=O;simp[ci,lA,fu,aH,aj,ak,aR,aM,aJ,aP];exact⟨W,⟨i,O,g2⟩,aB (by simp[lA,fu,aH,aj,ak,aR,aM,aJ,aP])⟩
 obtain⟨k,hk,hW⟩:=hW;obtain⟨M,hM⟩:=hW.tm;have hS:=hM.t.s.lM;have qz:=hS.RQ;have Yj:=hS.dR;have hke:=TH W.T.s O;have hlo:=BT W.T.s O;refine iF mixed [(2,.p (.sl (ls.map PC.int))),(6,.p (.bool false)),(7,.obj 9 0),(11,.p (.sl (W.T.s.ix.map λk=>PC.str k.key))),(12,.p (.int W.T.s.dR.length))] ⟨lA 10 W,cH 10,25⟩ ?_ ?_
 .simp[lA,fu,aH,aj,ak,aR,aM,aJ,aP]
  repeat' refine And.intro ?_ ?_
  all_goals
   refine rcK [0,1,2,3,4,5,6,10,11,12,13,14,15,16,17,18,19] hke ?_;simp[lA,fu,aH,aj,ak,aR,aM,aJ,aP];refine rcK [0,1,2,3,4,5,6,10,11,12,13,14,15,16,17,18,19] hlo ?_;simp[lA,fu,aH,aj,ak,aR,aM,aJ,aP];exact aB (by simp[lA,fu,aH,aj,ak,aR,aM,aJ,aP])
 refine oU mixed (λT:Ti=>T.s.ix=W.T.s.ix/\T.s.dR=W.T.s.dR) (λ_=>[(6,.p (.bool false)),(7,.obj 9 0),(11,.p (.sl (W.T.s.ix.map λk=>PC.str k.key))),(12,.p (.int W.T.s.dR.length))]) (λT=>⟨(9,w22 W)::fu 10 T,cH 10,25⟩) ?_ (λT hT=>?_)
 .simp[lA,fu,aH,aj,ak,aR,aM,aJ,aP];refine aS (λq:Nat×Ti=>q.1<=ls.length/\TM 341 (200+900*k) (k+2*q.1) q.2 M/\q.2.s.ix=W.T.s.ix/\q.2.s.dR=W.T.s.dR) (λq=>[(2,.p (.sl (ls.map PC.int))),(6,.p (.bool false)),(7,.obj 9 0),(11,.p (.sl (W.T.s.ix.map λk=>PC.str k.key))),(12,.p (.int W.T.s.dR.length)),(13,.p (.int q.1))]) (λq=>⟨(9,w22 W)::fu 10 q.2,cH 10,25⟩) (λq=>ls.length-q.1) (0,W.T) ⟨O,hM,rfl,rfl⟩ _ (AS.le_refl _ _) (aB (by simp[lA,fu,aH,aj,ak,aR,aM,aJ,aP])) ?_;rintro⟨i,T⟩ ⟨g1,g2,g3,g4⟩;simp only at g1 g2 g3 g4;by_cases ci:i<ls.length
  .have hli:=hl ls[i] (bB ci);have w3:=ju i;obtain⟨x,is,T1,T2,hx,O4,e1,e2,hg1,hg2⟩:=YS g2 O O (aU ls[i]).kk;have hM3:TM 341 (200+900*k) (k+2*(i+1)) T2 M:=by rw[show k+2*(i+1)=k+2*i+2 by omega];exact O4
   have hso:=FW ls[i] hli;have hky:=BU (aU ls[i]) (by simp[aU]) (by have:=m_ ls[i];omega);unfold fK at hky;rw[show(aU ls[i]).body=[]from rfl,qN]at hky;have hhd:=TI x.e x.e (by have:=hx.nl;have:=hx.fl;omega) (by have:=hx.nl;have:=hx.fl;omega);rw[Bz]at hhd;simp[ci,lA,fu,aH,aj,ak,aR,aM,aJ,aP];generalize aU ls[i]=en at*;refine aZ hso ?_;simp;refine aZ hky ?_;simp;refine⟨⟨?_,?_⟩,?_⟩
   all_goals
    refine rcK [0,1,2,3,4,5,6,7,8,10,11,12,13,14,15,16,17,18,19,20,21] hg1 ?_;simp[ci,lA,fu,aH,aj,ak,aR,aM,aJ,aP];refine aZ hso ?_;simp;refine aZ hky ?_;simp;refine⟨⟨?_,?_⟩,?_⟩
   all_goals
    first
     |(
      refine aD [0,1,2,3,4,5,6,7,8,25,26,27,28,29,30,31,32,33,34,35,36] hg2 H H ?_ ?_ ?_
      .simp[aA,lA,fu,aH,aj,ak,aR,aM,aJ,aP]
      .simp[aA])
     |(
      refine aD [0,1,2,3,4,5,6,7,8,26,27,28,29,30,31,32,33,34,35,36,37] hg2 H H ?_ ?_ ?_
      .simp[aA,lA,fu,aH,aj,ak,aR,aM,aJ,aP]
      .simp[aA])
    simp[lA,fu,aH,aj,ak,aR,aM,aJ,aP];refine cm hhd ?_;simp[lA,fu,aH,aj,ak,aR,aM,aJ,aP,w3];refine⟨i+1,T2,⟨O,hM3,e1.trans g3,e2.trans g4⟩,O,?_⟩
    first
     |(
      refine aE [(10,38),(11,39),(12,40),(13,41),(14,42),(15,43),(16,44),(17,45),(18,46),(19,47),(20,48),(21,49)] ?_;simp[lA,fu,aH,aj,ak,aR,aM,aJ,aP]
      done)
     |(
      refine aE [(10,39),(11,40),(12,41),(13,42),(14,43),(15,44),(16,45),(17,46),(18,47),(19,48),(20,49),(21,50)] ?_;simp[lA,fu,aH,aj,ak,aR,aM,aJ,aP]
      done)
  .have hi:i=ls.length:=O;simp[ci,lA,fu,aH,aj,ak,aR,aM,aJ,aP];exact⟨T,⟨g3,g4⟩,aB (by simp[lA,fu,aH,aj,ak,aR,aM,aJ,aP])⟩
 refine g_ mixed ?_;obtain⟨t1,t2⟩:=hT;have aop:=TH T.s (by rw[t1];omega);have aoq:=BT T.s (by rw[t2];omega);have sx:=MR (T.s.ix.map λk=>k.key) (W.T.s.ix.map λk=>k.key) (by rw[t1];simpa using qz) (U qz);rw[nw (by rw[t1])]at sx;simp only[jF,aeF]at sx;have aor:T.s.dR.length=W.T.s.dR.length:=by rw[t2]
 simp[lA,fu,aH,aj,ak,aR,aM,aJ,aP];refine rcK [0,1,2,3,4,5,6,10,11,12,13,14,15,16,17,18,19] aop ?_;simp[lA,fu,aH,aj,ak,aR,aM,aJ,aP];refine cm sx ?_;simp[lA,fu,aH,aj,ak,aR,aM,aJ,aP];refine rcK [0,1,2,3,4,5,6,10,11,12,13,14,15,16,17,18,19] aoq ?_;simp[-az,lA,fu,aH,aj,ak,aR,aM,aJ,aP,aor,results7];exact⟨[],H⟩
end Go.Av
namespace Go.Av
open Go.Proofs Go.Proofs.Tryz Go.aL Go.ChangeShapes Go.WideShapes Go.ChangeAt Go.RowKit
def OL:prog.cellsOf 3=1:=bp
def acf:prog.cellsOf 107=3:=bp
def acg:W5 prog 3 amU:=(ahk underlying3).mono λx ⟨n,h,hw⟩=>by
 have hmin:IntKind.i64.min=-9223372036854775808:=rfl;have lC:IntKind.i64.max=9223372036854775807:=rfl;simp only[Lit.wf,bG,eZ,hmin,lC]at hw;exact⟨n,h,O,O⟩
def ach{xs:List PC}(h:∀x∈xs,amU x):∃l:List Int,xs=l.map PC.int/\∀n∈l,-9223372036854775808<=n/\n<=9223372036854775807:=by
 induction xs with
 |nil=>exact⟨[],rfl,H⟩
 |cons x xs ih=>
  obtain⟨l,rfl,hl⟩:=ih λy hy=>h y (by simp[hy]);obtain⟨s,rfl,hs⟩:=h x H;exact⟨s::l,rfl,λy hy=>by rcases fF.1 hy with rfl|hy;exact hs;exact hl y hy⟩
def HU(x:PC):Prop:=∃l:List Int,x= .sl (l.map PC.int)/\l.length<=9223372036854775807/\∀n∈l,-9223372036854775808<=n/\n<=9223372036854775807
def aj7:RdV prog 87 HU:=ahm (by rw[underlying87];simp) (by rw[underlying87];simp) ((W7 underlying87 (by rw[OL];omega) acg).mono λx ⟨xs,h,hl,hv⟩=>by
 obtain⟨l,rfl,h2⟩:=ach hv;exact⟨l,h,by simp[maxLen]at hl;omega,h2⟩) (by rintro x ⟨s,rfl,_⟩ b xs h;cases h)
def szS(x:PC):Prop:=∃a b c:Int,x= .agg false [.int a,.int b,.int c]/\(-9223372036854775808<=a/\a<=9223372036854775807)/\(-9223372036854775808<=b/\b<=9223372036854775807)/\(-9223372036854775808<=c/\c<=9223372036854775807)
def aj6:RdV prog 107 szS:=Rq underlying107 ((Rp (Ss:=[_,_,_]) underlying107 (by rw[acf];simp[Ro,OL]) ⟨rfl,acg.c,(by simp[OL]),acg.c,(by simp[OL]),acg.c,trivial⟩).mono (by
 rintro x ⟨ys,rfl,h⟩;obtain⟨_,ys1,rfl,⟨a,rfl,w1⟩,h1⟩:=Hj h;obtain⟨_,ys2,rfl,⟨b,rfl,w2⟩,h2⟩:=Hj h1;obtain⟨_,rfl,c,rfl,w3⟩:=W8 h2;exact⟨a,b,c,rfl,w1,w2,w3⟩)) (by rintro x ⟨a,b,c,rfl,_⟩;exact⟨_,rfl⟩)
def aj8{x y z:PC}(hx:szS x)(hy:HU y)(hz:HU z):cq 7 [x,y,z] (.bool true):=by
 obtain⟨a,b,c,rfl,h1,h2,h3⟩:=hx;obtain⟨us,rfl,h4,h5⟩:=hy;obtain⟨ls,rfl,h6,h7⟩:=hz;exact aoo a b c h1 h2 h3 us ls h5 h7 h4 h6
end Go.Av
namespace Go.Av
open Go.ChangeShapes Go.WideShapes Go.ChangeAt Go.RowKit
theorem My{H1:Type}{P:Program}:∀{a:List TypeId} {c:List (DataW H1)} (b:List TypeId) (d:List (DataW H1)),∀n∈DataW.weightsEach P a c,n∈DataW.weightsEach P (a++b) (c++d)
 |[],c,b,d,n,h=>by simp[DataW.weightsEach]at h
 |t::a,[],b,d,n,h=>by simp[DataW.weightsEach]at h
 |t::a,x::c,b,d,n,h=>by
  simp only[DataW.weightsEach,lD,kP]at h⊢;exact h.imp id (My b d n)
def Fp{H1:Type}{enc:TypeId×Value->H1}{a:Assume}{C:Checked}{os:Os}{f:FuncId}{fn:Func}{s:ChangeSpec}{conds:List PathCond}{apart fresh handsOn again:Bool}{X:World->Array Value->Prop}(hX:∀(w w':World) (args:Array Value),w.heap=w'.heap->X w args->X w' args)(own:ownKnob C.prog.godebug=none)(started:os.Started)(noInit:C.prog.inits.idxOf? f=none)(hfn:C.prog.funcs[f]?=some fn)(witness:∃(w:World) (tape:Tape) (i:Input),w.os=os/\(w.forCall tape i).Shaped C.prog/\i.vars=[]/\Input.okWide C.prog (w.forCall tape i) .any w.heap.size f i/\((s.pre enc C.prog fn conds apart (w.forCall tape i).memory i.args/\X (w.forCall tape i).memory i.args)/\sizedMet enc C.prog fn (OpenSpec.ofChange s) apart (w.forCall tape i).memory i.args)/\a.holds C.prog (lone (Frame.enter C.prog f i.args .normal) [] (w.forCall tape i)))(contract:∀(W:World) (base:Nat) (args:Array Value) (ds gs:List (DataW H1)) (before:List MemPlace),(∀(j:Nat) t v,fn.params[j]?=some t->args[j]?=some v->Value.okWide C.prog W .any base t v)->DataW.Whole enc C.prog fn.params.toList s.vars apart W args.toList ds gs before->X W args->(∀n∈DataW.weightsEach C.prog fn.params.toList ds,n<=reachBytes)->Calls C.prog f args W λe W'=>∃v,e= .returned v/\s.post enc C.prog fn apart fresh handsOn again W args v W'):ReturnsInHanded a C os f .any (λw args=>(s.pre enc C.prog fn conds apart w args/\X w args)/\sizedMet enc C.prog fn (OpenSpec.ofChange s) apart w args) (s.post enc C.prog fn apart fresh handsOn again):=by
 refine returnsInHanded_of_calls own started noInit witness λw tape i _ _ _ hok hpre _=>?_;obtain⟨_,_,_,fn',aoe,_,_,_,_,hval⟩:=hok;cases KB (aoe.symm.trans hfn);obtain⟨⟨⟨ds,gs,before,hw,hc⟩,hx⟩,hz⟩:=hpre;have hw':=DataW.Whole.of_heap (w':=w.forCall tape i) (by rfl) hw;have hwt:=hz.weights hw;refine(contract (w.forCall tape i) w.heap.size i.args ds gs before hval hw' (hX _ _ _ (by rfl) hx) (λn hn=>by simpa using gX.1 hwt n (My _ _ n hn))).mono λe W' ⟨v,he,hp⟩=>?_;subst he;exact ChangeSpec.post_blind hp
end Go.Av
