/- DiskSizes, part 25: what the functions compute, and the plain law of that; no condition. -/
import Derived.Test.YtgkdpbambfgahaaGreatDoorWax
import Derived.ProofKit
import Derived.OpenShut
import Derived.Carry
import Derived.Handed
import Derived.Lib.LaidU8
import Derived.MakeChecks
set_option linter.all false
set_option maxRecDepth 100000
set_option maxHeartbeats 64000000
namespace Go.Av
open Go.Proofs Go.aW
theorem Tl{eW:Nat}{st:AS}(t d n s:Nat)(m:Option Nat)(od:Ob)(ys:List PC)(jJ:st.sl t= .view d 0 n s m)(hl:lk d st.tb.bx=some od)(hsz:od.sz=s)(hs:0<s)(hx:n*s<=od.xs.length)(hc:od.xs.take (n*s)=ys.flatMap aV)(hy:ys.length=n)(hw':∀y∈ys,y.width=s)(ht:∀y∈ys,cF y=true):st.le eW ⟨rF st.sl t (.p (.sl ys)),⟨(st.tb.cE d).bx,st.tb.rw,st.tb.nx+1⟩⟩:=by
 rintro fr a w hf ⟨g,h0,h1,h2,h3,h4⟩;have hr:=h2 t;rw[jJ]at hr;obtain⟨g',k1,k2,k3⟩:=AP hl hsz hs hx hc hy hw' ht _ _ _ g w _ h1 hr;refine⟨g',h0.trans k1,k2,fun u=>?_,h3,h4⟩;simp only[rF];split
 ·rename_i e;subst e;exact k3
 ·exact(h2 u).mono k1
def bO(x:UInt8)(i:Nat):UInt8:=x+UInt8.ofNat (i%251)
def bL(x:UInt8)(k:Nat):List UInt8:=(List.range k).map (bO x)
theorem Tm(x:UInt8)(k:Nat):bL x (k+1)=bL x k++[bO x k]:=by simp[bL,List.range_succ]
theorem Bk(x:UInt8)(k:Nat):(bL x k).length=k:=by simp[bL]
theorem ZA(x:UInt8)(i:Nat):IntKind.u8.wrap ((x.toNat:Int)+IntKind.u8.wrap ((i:Int)%251))=((bO x i).toNat:Int):=by
 have h1:=Go.Av.jM ((i:Int)%251);have e1:IntKind.u8.bits=8:=rfl;have e2:IntKind.u8.signed=false:=rfl;unfold IntKind.wrap bO;simp only[e1,e2,Bool.false_and,Bool.false_eq_true,if_false];rw[UInt8.toNat_add,UInt8.toNat_ofNat'];omega
theorem an8(n:Int)(hn:-9223372036854775808<=n/\n<=9223372036854775807)(x:UInt8)(vn:List UInt8)(gR:vn.length<=9223372036854775807):aB Tryz.prog 3 [.int n,.sc (.int .u8 (x.toNat:Int)),cy vn] (.bool true):=by
 have haw:=SS;have hN:(462:Nat)=262\/(462:Nat)=462:= .inr rfl;obtain⟨D,hD,hop⟩:=BP hN 200 (by decide);have hso:=Mr;have PR:=U7 (jB 462 D);have h0:=Lh (t:=1000) hN (by omega) hD;have hs:=Li (t:=1000) hN (by omega) hD;have sN:(jB 462 D).rm.n=216:=rfl;obtain⟨k,hk⟩:∃k:Nat,n%3000=k:=⟨(n%3000).toNat,by omega⟩;have hk3:k<3000:=by omega
 have bj:=z_ n 3000 (by omega);have mj:=z8 n 3000 (by omega);have a1:IntKind.i64.wrap (n.tmod 3000)=n.tmod 3000:=af (by omega) (by omega);have a2:IntKind.i64.wrap (n.tmod 3000+3000)=n.tmod 3000+3000:=af (by omega) (by omega);have a3:IntKind.i64.wrap (k:Int)=(k:Int):=af (by omega) (by omega);refine bN (xs:=[_,_,_]) (r:= .p (.bool true)) (aO:=⟨[],[],60⟩) ?_ ⟨_,rfl,.inl rfl⟩;refine uH (rs:=[_]) [] [(12,[(3,.r 1),(4,.w [1]),(5,.w [1])]),(36,[(4,.r 1),(8,.r 1),(9,.w [1]),(15,.s 1 [])])] [(1,17)] [(31,(.one 0 (.one 1 (.one 2 (.one 4 (.one 5 (.one 6 (.one 7 (.one 8 (.one 9 (.br 3 (.br 10 (.one 11 (.one 12 (.one 13 (.one 14 (.br 15 (.br 16 (.one 17 (.one 18 .lf)) .lf) .lf))))) (.br 15 (.br 10 (.one 11 (.one 12 (.one 13 (.one 14 (.br 16 (.one 17 (.one 18 .lf)) .lf))))) .lf) .lf)) (.br 15 (.br 3 (.br 10 (.one 11 (.one 12 (.one 13 (.one 14 (.br 16 (.one 17 (.one 18 .lf)) .lf))))) .lf) .lf) .lf)))))))))))),(32,(.one 0 (.one 1 (.one 2 (.br 3 (.br 4 (.br 5 (.one 6 (.one 7 (.one 8 (.one 9 (.one 10 .lf))))) .lf) .lf) (.br 4 (.br 3 (.br 5 (.one 6 (.one 7 (.one 8 (.one 9 (.one 10 .lf))))) .lf) .lf) .lf))))))] Tryz.func3 rfl (by kernel_rfl) (by kernel_rfl) (by simp[Tryz.ntmps3]) rfl ?_;refine ga mixed ?_;by_cases c30:30<vn.length
 ·simp;refine ai haw (by simp) ?_;have aom:(30:Int)<(vn.length:Int):=by omega
  simp[aom];refine ai haw (by simp) ?_;simp[-aD,Tryz.results3];exact⟨[],by simp⟩
 have aon:¬(30:Int)<(vn.length:Int):=by omega
 simp;refine ai haw (by simp) ?_;simp[aon];refine ak [] hop (by simp) (by simp) (by simp) (by simp) ?_;generalize aoo:jB 462 D=s0 at PR h0 hs sN;simp[a2,mj,hk];refine⟨by omega,by unfold maxLen;omega,?_⟩;have hz:List.replicate k (AV.p (PC.sc (Value.int IntKind.u8 0)))=List.map AV.p (ah (List.replicate k 0)):=by simp[ah]
 refine aN (fun i:Nat=>i<=k) (fun i=>[(1,.p (.sc (.int .u8 (x.toNat:Int)))),(2,.p (cy vn)),(7,.obj 17 0),(8,.p (.int k)),(9,.view 18 0 k 1 (some k)),(10,.p (.int i))]) (fun i=>⟨(18,⟨5,1,(ah (bL x i++List.replicate (k-i) 0)).map .p⟩)::(17,Hf 0 6 462 (.full [.agg false [.nil]]))::bF 0 7 s0,eR 7,19⟩) (fun i=>k-i) 0 (by simp) _ (AS.le_refl _ _) (aA (by simp[Hf,bF,aC,ax,bZ,bT,bP,b_,bL,hz])) ?_
 ·intro i hi;by_cases ci:i<k
  ·have w1:IntKind.i64.wrap ((i:Int)+1)=((i+1:Nat):Int):=by rw[af (by omega) (by omega)];rfl
   have hv:=ZA x i;rw[<-Int.tmod_eq_emod_of_nonneg (a:=(i:Int)) (by omega)]at hv;have W7:List.take i (List.map AV.p (ah (bL x i++List.replicate (k-i) 0)))++AV.p (PC.sc (.int .u8 ((bO x i).toNat:Int)))::List.drop (i+1) (List.map AV.p (ah (bL x i++List.replicate (k-i) 0)))=List.map AV.p (ah (bL x (i+1)++List.replicate (k-(i+1)) 0)):=by
    have hL:bL x i++List.replicate (k-i) 0=bL x i++(0::List.replicate (k-(i+1)) 0):=by rw[show k-i=(k-(i+1))+1 by omega,List.replicate_succ]
    have hd:∀(A R:List AV) (a:AV),A.length=i->List.drop (i+1) (A++a::R)=R:=fun A R a h=>by
     rw[show A++a::R=(A++[a])++R by simp];exact List.drop_left' (by simp[h])
    rw[hL,Tm];simp only[ah,List.map_append,List.map_cons,List.map_nil];rw[List.take_left' (by simp[Bk]),hd _ _ _ (by simp[Bk])];simp
   simp[ci,w1,hv];exact⟨by rw[Bk];omega,i+1,by omega,by omega,aA (by simp[W7,Hf,bF,aC,ax,bZ,bT,bP,b_])⟩
  ·obtain rfl:i=k:=by omega
   have mg:=Bk x i;obtain⟨b,hb⟩:∃b,bL x i=b:=⟨_,rfl⟩;rw[hb]at mg;simp[hb,Hf,bF,aC,ax,bZ,bT,bP,b_];refine ai hso (by simp) ?_;simp;refine ak [0,1,2,3,4,5,6,7,8,9,10,11,12,13,14,15,16] PR (by simp) (by simp) (by simp[ay,bF,aC,ax,bZ,bT,bP,b_]) (by simp[ay]) ?_;simp[Lf,jQ,jD,bF,aC,ax,bZ,bT,bP,b_];have hb3:b.length<3000:=by omega
   have hsb:cw.body=[]:=rfl;subst mg;refine aN (fun a:Nat×Nat×Sm=>a.1<=vn.length/\a.2.1<=b.length/\wF 462 1000 246 s0 cw (b.take a.2.1) a.2.2) (fun a=>[(2,.p (cy vn)),(7,.obj 19 0),(8,.p (.int b.length)),(9,.p (cy b)),(11,.obj 7 0),(13,.p (.int a.2.1)),(14,.p (.int a.1))]) (fun a=>⟨(19,Hf 0 6 462 (.full [.agg false [.nil]]))::gU 0 8 a.2.2,eR 8,20⟩) (fun a=>vn.length-a.1) (0,0,Lf s0) (by simp;exact h0)
    _ (Tl 9 18 b.length 1 (some b.length) _ (ah b) rfl (by simp[lk];rfl) rfl (by omega) (by simp[ah]) (by rw[mU,fQ];exact List.take_of_length_le (by simp[ah])) (by simp[ah]) (fun y h=>cg _ y h) (fun y h=>fR _ y h)) ?_ ?_
   ·exact aE [(7,19),(8,7),(9,8),(10,9),(11,10),(12,11),(13,12),(14,13),(15,14),(16,15),(17,16),(18,20),(19,17)] (by simp[Lf,gU,jQ,jD,Hf,bF,aC,ax,bZ,bT,bP,b_,hsb])
   rintro⟨i,a,w⟩ ⟨q1,q2,q3⟩;simp only at q1 q2 q3;by_cases ci:i<vn.length
   ·have w1:IntKind.i64.wrap ((i:Int)+1)=((i+1:Nat):Int):=by rw[af (by omega) (by omega)];rfl
    have hc8:=vn[i].toNat_lt;obtain⟨c,hc⟩:∃c:Nat,vn[i].toNat=c:=⟨_,rfl⟩;rw[hc]at hc8;have w2:IntKind.i64.wrap (c:Int)=(c:Int):=af (by omega) (by omega);have w3:IntKind.i64.wrap ((a:Int)+(c:Int))=((a+c:Nat):Int):=by rw[af (by omega) (by omega)];rfl
    obtain⟨e,he⟩:∃e:Nat,(if(a:Int)+(c:Int)<(b.length:Int)then(a:Int)+(c:Int)else(b.length:Int))=(e:Int):=⟨min (a+c) b.length,by split<;>omega⟩;have hae:a<=e/\e<=b.length:=by
     constructor
     ·have h:(a:Int)<=(e:Int):=by rw[<-he];split<;>omega
      omega
     ·have h:(e:Int)<=(b.length:Int):=by rw[<-he];split<;>omega
      omega
    have hX:List.drop a (List.take e (ah b))=ah ((b.take e).drop a):=by simp[ah]
    have hXa:b.take a++(b.take e).drop a=b.take e:=by
     have h1:=List.take_append_drop a (b.take e);rw[List.take_take,Nat.min_eq_left hae.1]at h1;exact h1
    have Dm:(b.take a).length=a/\((b.take e).drop a).length=e-a:=by simp;omega
    have lg:=AJ q3 hs (by omega) ((b.take e).drop a) (by rw[sN,Dm.1,Dm.2];omega) (by rw[Dm.1,Dm.2];omega);obtain⟨_,q4,_⟩:=q3.write hs ((b.take e).drop a) (by rw[sN,Dm.1,Dm.2];omega) (by rw[Dm.1,Dm.2];omega);rw[hXa]at q4;have w4:IntKind.i64.wrap (e:Int)=(e:Int):=af (by omega) (by omega);generalize(w.write ((b.take e).drop a)).1=w' at lg q4;simp[ci,w2,w3,hc,cM,he,hX];refine⟨fun y h=>(cg _ y h).symm,hae.1,hae.2,?_⟩;refine ak [0,1,2,3,4,5,6,7,8,9,10,11,12,13,14,15,16,17,18] lg (by simp) (by simp) (by simp[ay,gU,jQ,jD,bF,aC,ax,bZ,bT,bP,b_]) (by simp[ay]) ?_;simp[w1,gU,jQ,jD,bF,aC,ax,bZ,bT,bP,b_];exact⟨i+1,e,w',⟨by omega,hae.2,q4⟩,by omega,aE [(8,20),(9,21),(10,22),(11,23),(12,24),(13,25),(14,26),(15,27),(16,28),(17,29),(18,30)] (by simp[Hf])⟩
   ·have hX:List.drop a (ah b)=ah (b.drop a):=by simp[ah]
    have Dm:(b.take a).length=a/\(b.drop a).length=b.length-a:=by simp;omega
    have lg:=AJ q3 hs (by omega) (b.drop a) (by rw[sN,Dm.1,Dm.2];omega) (by rw[Dm.1,Dm.2];omega);obtain⟨_,q4,_⟩:=q3.write hs (b.drop a) (by rw[sN,Dm.1,Dm.2];omega) (by rw[Dm.1,Dm.2];omega);rw[List.take_append_drop]at q4;generalize(w.write (b.drop a)).1=w' at lg q4;rw[<-aoo]at q4;have BR:bt b+2<462-246:=by unfold bt;omega
    obtain⟨w1,s2,hdn⟩:=FY hN (by omega) hD (b:=b) (by omega) BR q4;have SU:=LP (by omega) hdn;have hok:=hdn.ok;obtain⟨s4,rH⟩:∃s4:St,s4={s2 with ord:=s2.ord+1}:=⟨_,rfl⟩;rw[<-rH]at SU;have ajh:ic 1200 s4:=by rw[rH];exact{hok with ord:=by simp only;rw[hdn.ag1];omega}
    have aji:eU 462 246 b (eC 0 0) kg s4.D:=by rw[rH];exact hdn.ag0
    have ajj:s4.ix=[nT b]:=by rw[rH];exact hdn.ix
    have ajk:s4.jn=5:=by rw[rH];exact hdn.jn
    have ajl:s4.pn=30:=by rw[rH];exact hdn.pn
    clear hdn hok rH q4 q3 hop PR h0 hs hD sN;simp[ci,hX];refine⟨fun y h=>(cg _ y h).symm,by omega,?_⟩;refine ak [0,1,2,3,4,5,6,7,8,9,10,11,12,13,14,15,16,17,18] lg (by simp) (by simp) (by simp[ay,gU,jQ,jD,bF,aC,ax,bZ,bT,bP,b_]) (by simp[ay]) ?_;simp[gU,jQ,jD,bF,aC,ax,bZ,bT,bP,b_];refine ak [0,1,2,3,4,5,6,7,20,21,22,23,24,25,26,27,28,29,30] SU (by simp) (by simp) (by simp[ay,gU,jQ,jD,bF,aC,ax,bZ,bT,bP,b_]) (by simp[ay]) ?_;simp[gU,jQ,jD,bF,aC,ax,bZ,bT,bP,b_];refine aN (fun a:Nat×St=>a.1<=2/\ic 1200 a.2/\a.2.ix=[nT b]/\a.2.jn=5/\a.2.pn=30/\(eU 462 246 b (eC 0 0) kg a.2.D\/eU 462 246 b (eC 1 1) iW a.2.D)) (fun a=>[(7,.obj 17 0),(8,.p (.int b.length)),(9,.p (cy b)),(18,.p (.int a.1))]) (fun a=>⟨(17,Hf 0 6 462 (.full [.agg false [.nil]]))::bF 0 7 a.2,eR 7,18⟩) (fun a=>2-a.1) (0,s4) ⟨by omega,ajh,ajj,ajk,ajl,.inl aji⟩ _ (AS.le_refl _ _) ?_ ?_
    ·exact aE [(7,31),(8,32),(9,33),(10,34),(11,35),(12,36),(13,37),(14,38),(15,39),(16,40),(17,19)] (by simp[Hf,bF,aC,ax,bZ,bT,bP,b_])
    clear SU lg ajh aji ajj ajk ajl;rintro⟨i,s⟩ ⟨q1,q2,q3,q4,q5,q6⟩;simp only at q1 q2 q3 q4 q5 q6;by_cases ci:i<2
    ·have w1:IntKind.i64.wrap ((i:Int)+1)=((i+1:Nat):Int):=by rw[af (by omega) (by omega)];rfl
     obtain⟨hd,all,MD,hca⟩:∃hd all,eU 462 246 b hd all s.D/\((hd=eC 0 0/\all=kg)\/(hd=eC 1 1/\all=iW)):=by
      rcases q6 with h|h
      ·exact⟨_,_,h,.inl ⟨rfl,rfl⟩⟩
      ·exact⟨_,_,h,.inr ⟨rfl,rfl⟩⟩
     obtain⟨E1,g1,g2,g3⟩:=afE hN MD q2 (by omega) BR q3 q4 q5;obtain⟨E2,g4,g5,g6⟩:=VU hN (s:=s.dev E1) g1 g2 (by omega) BR q3 q4 q5;have g7:eU 462 246 b (eC 0 0) kg E2\/eU 462 246 b (eC 1 1) iW E2:=by
      rcases hca with⟨rfl,rfl⟩|⟨rfl,rfl⟩
      ·exact .inl g4
      ·exact .inr g4
     obtain⟨k1,s5,k2,k3,k4,k5,k6,k7⟩:=Pd (t:=1200) hN (by omega) (by omega) BR g7;have jV:((s.dev E1).dev E2).D=E2:=rfl;rw[<-jV]at k1 k7;generalize(s.dev E1).dev E2=s7 at g6 k1 k7;generalize s.dev E1=s6 at g3 g6;have ci2:(i:Int)<2:=by omega
     simp[ci2,Hf,bF,aC,ax,bZ,bT,bP,b_];refine bD hso ?_;simp;refine⟨by simp[cw],?_⟩;refine bD hso ?_;simp;refine⟨by simp[cw],?_⟩;have V7:cw.uri++10::cw.var=fD:=rfl;rw[V7];have hsz:(bC b).size=(b.length:Int):=rfl;refine⟨⟨?_,?_⟩,?_⟩
     ·refine ak [0,1,2,3,4,5,6,7,8,9,10,11,12,13,14,15,16] g3 (by simp) (by simp) (by simp[ay,bF,aC,ax,bZ,bT,bP,b_]) (by simp[ay]) ?_;simp[bF,aC,ax,bZ,bT,bP,b_];refine⟨?_,?_⟩
      all_goals
       refine ak [0,1,2,3,4,5,6,18,19,20,21,22,23,24,25,26,27] g6 (by simp) (by simp) (by simp[ay,bF,aC,ax,bZ,bT,bP,b_]) (by simp[ay]) ?_;simp[hsz,bF,aC,ax,bZ,bT,bP,b_];refine ak [0,1,2,29] k1 (by simp) (by simp) (by simp[ay,ax]) (by simp[ay]) ?_;simp[ax];refine ak [0,1,2,39] k7 (by simp) (by simp) (by simp[ay,ax]) (by simp[ay]) ?_;simp[w1,BQ,VS,aC,ax,bZ,bP,b_];exact⟨i+1,s5,⟨by omega,k6,k2,k3,k4,.inr k5⟩,by omega,aE [(3,50),(4,51),(5,52),(6,53),(7,40),(8,41),(9,42),(10,43),(11,44),(12,45),(13,46),(14,47),(15,48),(16,49)] (by simp)⟩
     ·refine ak [0,1,2,3,4,5,6,7,8,9,10,11,12,13,14,15,16] g3 (by simp) (by simp) (by simp[ay,bF,aC,ax,bZ,bT,bP,b_]) (by simp[ay]) ?_;simp[bF,aC,ax,bZ,bT,bP,b_];refine⟨?_,?_⟩
      all_goals
       refine ak [0,1,2,3,4,5,6,19,20,21,22,23,24,25,26,27,28] g6 (by simp) (by simp) (by simp[ay,bF,aC,ax,bZ,bT,bP,b_]) (by simp[ay]) ?_;simp[hsz,bF,aC,ax,bZ,bT,bP,b_];refine ak [0,1,2,29] k1 (by simp) (by simp) (by simp[ay,ax]) (by simp[ay]) ?_;simp[ax];refine ak [0,1,2,39] k7 (by simp) (by simp) (by simp[ay,ax]) (by simp[ay]) ?_;simp[w1,BQ,VS,aC,ax,bZ,bP,b_];exact⟨i+1,s5,⟨by omega,k6,k2,k3,k4,.inr k5⟩,by omega,aE [(3,50),(4,51),(5,52),(6,53),(7,40),(8,41),(9,42),(10,43),(11,44),(12,45),(13,46),(14,47),(15,48),(16,49)] (by simp)⟩
     ·refine ak [0,1,2,3,4,5,6,7,8,9,10,11,12,13,14,15,16] g3 (by simp) (by simp) (by simp[ay,bF,aC,ax,bZ,bT,bP,b_]) (by simp[ay]) ?_;simp[bF,aC,ax,bZ,bT,bP,b_];refine⟨?_,?_⟩
      all_goals
       refine ak [0,1,2,3,4,5,6,19,20,21,22,23,24,25,26,27,28] g6 (by simp) (by simp) (by simp[ay,bF,aC,ax,bZ,bT,bP,b_]) (by simp[ay]) ?_;simp[hsz,bF,aC,ax,bZ,bT,bP,b_];refine ak [0,1,2,29] k1 (by simp) (by simp) (by simp[ay,ax]) (by simp[ay]) ?_;simp[ax];refine ak [0,1,2,39] k7 (by simp) (by simp) (by simp[ay,ax]) (by simp[ay]) ?_;simp[w1,BQ,VS,aC,ax,bZ,bP,b_];exact⟨i+1,s5,⟨by omega,k6,k2,k3,k4,.inr k5⟩,by omega,aE [(3,50),(4,51),(5,52),(6,53),(7,40),(8,41),(9,42),(10,43),(11,44),(12,45),(13,46),(14,47),(15,48),(16,49)] (by simp)⟩
    ·obtain rfl:i=2:=by omega
     simp[-aD,Tryz.results3];exact⟨[],by simp⟩
end Go.Av
namespace Go.Av
open Go.RowKit Go.ChangeShapes Go.WideShapes Go.ChangeAt
section
variable{P:Program}
def Va(P:Program)(t:TypeId)(S:PC->Prop):Prop:=∀(H:Type) (enc:TypeId×Value->H) (W:World) (fuel:Nat) (cs:List Value) (r:DataW H×List MemPlace),DataW.trod enc P W 0 (fun _=>true) true fuel t cs=some r->∃u x,u.cells.toList=cs/\gB (lK W) u x/\S x/\cF x=true/\(∀c∈cs,c.oneCell'=true)
abbrev RdC(P:Program)(t:TypeId)(S:PC->Prop):Prop:=Va P t S
theorem Va.c{t:TypeId}{S:PC->Prop}(h:Va P t S):RdC P t S:=h
theorem Va.mono{t:TypeId}{S S':PC->Prop}(h:Va P t S)(hS:∀x,S x->S' x):Va P t S':=fun H enc W fuel cs r hr=>by
 obtain⟨u,x,h1,h2,h3,h4⟩:=h H enc W fuel cs r hr;exact⟨u,x,h1,h2,hS x h3,h4⟩
theorem RdC.mono{t:TypeId}{S S':PC->Prop}(h:RdC P t S)(hS:∀x,S x->S' x):RdC P t S':=Va.mono h hS
theorem EZ{t:TypeId}{k:IntKind}(ht:P.underlying t=some (.int k)):Va P t (fun x=>∃n,x= .sc (.int k n)/\(Lit.int k n).wf=true):=fun H enc W fuel cs r hr=>by
 obtain⟨n,rfl,_,hw⟩:=DataW.trod_int ht hr;exact⟨.int k n,.sc (.int k n),rfl,.sc _ rfl,⟨n,rfl,hw⟩,rfl,by simp[Value.oneCell']⟩
theorem NR{w:World}{base:Nat}{a:Addr}{n:Nat}{cs:List Value}(h:w.cells? base a n=some cs):cs.length=n/\∀i,i<n->w.cell? (a.add i)=cs[i]?:=by
 unfold World.cells? at h;split at h
 ·exact⟨by simpa using mapM_some_length h,fun i hi=>mapM_some_get h i i (by simp[hi])⟩
 ·cases h
theorem qI{a:Addr}(h:a.spot=none):a=⟨a.block,a.off,none⟩:=by cases a;simp_all
theorem add_plain{a:Addr}(h:a.spot=none)(i:Nat):a.add i=⟨a.block,a.off+i,none⟩:=by
 unfold Addr.add;split
 ·rename_i e;subst e;rw[qI h];rfl
 ·rw[qI h]
theorem E_{w:World}{a:Addr}{v:Value}(h:w.cell? a=some v):a.spot=none:=by
 unfold World.cell? at h;split at h
 ·split at h
  ·cases h
  ·rename_i hn;cases hs:a.spot with
   |none=>rfl
   |some x=>rw[hs]at hn;simp at hn
 ·cases h
theorem Dl{e:TypeId}{S:PC->Prop}(he:Va P e S)(hz:0<P.cellsOf e){H:Type}{enc:TypeId×Value->H}{W:World}{m:Nat}{a:Addr}(ha:a.spot=none):∀(n:Nat),(∀i,i<n->∃y,(W.cells? 0 (a.add (i*P.cellsOf e)) (P.cellsOf e)).bind (DataW.trod enc P W 0 (fun _=>true) true m e)=some y)->∃us xs,us.length=n/\cP (lK W) us xs/\(∀u∈us,u.cells.size=P.cellsOf e)/\(∀v∈cellsOf us,v.oneCell'=true)/\At (lK W) a.block a.off (cellsOf us)/\(cellsOf us).length=n*P.cellsOf e/\(∀x∈xs,S x)
 |0,_=>⟨[],[],rfl,.nil,by simp,by simp[cellsOf],fun j v h=>by simp[cellsOf]at h,by simp[cellsOf],by simp⟩
 |n+1,h=>by
  obtain⟨us,xs,h1,h2,h3,h4,h5,h6,h7⟩:=Dl he hz ha n fun i hi=>h i (by omega);obtain⟨y,hy⟩:=h n (by omega);cases hc:W.cells? 0 (a.add (n*P.cellsOf e)) (P.cellsOf e)with
  |none=>rw[hc]at hy;cases hy
  |some cs=>
   rw[hc]at hy;obtain⟨u,x,k1,k2,k3,_,k4⟩:=he H enc W m cs y hy;obtain⟨c1,c2⟩:=NR hc;have hsz:u.cells.size=P.cellsOf e:=by rw[<-c1,<-k1];simp
   have hcell:cellsOf (us++[u])=cellsOf us++cs:=by simp[cellsOf,k1]
   refine⟨us++[u],xs++[x],by simp[h1],h2.append (.cons k2 .nil),?_,?_,?_,?_,?_⟩
   ·intro v hv;rcases List.mem_append.1 hv with hv|hv
    ·exact h3 v hv
    ·simp at hv;subst hv;exact hsz
   ·rw[hcell];intro v hv;rcases List.mem_append.1 hv with hv|hv
    ·exact h4 v hv
    ·exact k4 v hv
   ·rw[hcell];intro j v hj;rw[List.getElem?_append]at hj;split at hj
    ·exact h5 j v hj
    ·rename_i hlt;have hj':j-(cellsOf us).length<P.cellsOf e:=by
      rw[<-c1];exact(List.getElem?_eq_some_iff.1 hj).1
     have:=c2 _ hj';rw[hj,add_plain ha,add_plain (a:=⟨a.block,a.off+n*P.cellsOf e,none⟩) rfl]at this;show W.cell? ⟨a.block,a.off+j,none⟩=some v;rw[<-this];have e:a.off+j=a.off+n*P.cellsOf e+(j-(cellsOf us).length):=by rw[h6]at hlt⊢;omega
     rw[e]
   ·rw[hcell,List.length_append,h6,c1,Nat.add_mul];omega
   ·intro z hz;rcases List.mem_append.1 hz with hz|hz
    ·exact h7 z hz
    ·simp at hz;subst hz;exact k3
theorem uZ{w:World}{base:Nat}{a:Addr}{n k:Nat}{cs:List Value}(hn:0<n)(hk:k=0)(h:w.cells? base (a.add k) n=some cs):a.spot=none:=by
 subst hk;obtain⟨h1,h2⟩:=NR h;have h3:=h2 0 hn;have e:(a.add 0).add 0=a:=by simp[Addr.add]
 rw[e]at h3;cases cs with
 |nil=>simp at h1;omega
 |cons v vs=>exact E_ (v:=v) (by simpa using h3)
theorem Nw{t e:TypeId}{S:PC->Prop}(ht:P.underlying t=some (.slice e))(hz:0<P.cellsOf e)(he:Va P e S):RdC P t (fun x=>∃xs,x= .sl xs/\xs.length<=maxLen/\∀y∈xs,S y):=fun H enc W fuel cs r hr=>by
 rcases DataW.trod_slice ht hr with⟨rfl,_⟩|⟨a,len,cap,elems,rest,n,rfl,rfl,_,_,hl,hc,hlen,hel,hsp,_⟩
 ·exact⟨.slice none 0 0,.sl [],rfl,.dg,⟨[],rfl,by simp,by simp⟩,rfl,by simp[Value.oneCell']⟩
 ·by_cases h0:cap=0
  ·subst h0;obtain rfl:len=0:=by omega
   exact⟨.slice (some a) 0 0,.sl [],rfl,.p_ a,⟨[],rfl,by simp,by simp⟩,rfl,by simp[Value.oneCell']⟩
  have ha:a.spot=none:=by
   rcases Nat.eq_zero_or_pos len with hz0|hp
   ·obtain⟨FJ,Hq⟩:=hsp rfl;have:=Hq 0 (by omega);rw[List.getElem?_eq_getElem (by omega)]at this;cases G2:W.cells? 0 (a.add ((len+0)*P.cellsOf e)) (P.cellsOf e)with
    |none=>rw[G2]at this;cases this
    |some cs=>exact uZ hz (by subst hz0;simp) G2
   ·have:=hel 0 hp;rw[List.getElem?_eq_getElem (by omega)]at this;cases G2:W.cells? 0 (a.add (0*P.cellsOf e)) (P.cellsOf e)with
    |none=>rw[G2]at this;cases this
    |some cs=>exact uZ hz (by simp) G2
  obtain⟨us,xs,h1,h2,h3,h4,h5,_,h7⟩:=Dl (H:=H) (enc:=enc) (W:=W) (m:=n) he hz ha len fun i hi=>⟨elems[i]'(by omega),by rw[hel i hi];simp⟩
  refine⟨.slice (some a) len cap,.sl xs,rfl,?_,⟨xs,rfl,by rw[<-h2.length,h1];omega,h7⟩,rfl,by simp[Value.oneCell']⟩;rw[qI ha];exact .sl h1 hl hc hz h3 h4 h5 h2
def RdV(P:Program)(t:TypeId)(S:PC->Prop):Prop:=∀(H:Type) (enc:TypeId×Value->H) (W:World) (base:Nat) (v:Value) (d:DataW H) (p:List MemPlace),Value.okWide P W .any base t v->DataW.Trod enc P W 0 (fun _=>true) true t v d p->∃x,gB (lK W) v x/\S x
theorem EY{t:TypeId}{S:PC->Prop}(ht:∀fs,P.underlying t≠some (.struct fs))(ht':∀n e,P.underlying t≠some (.array n e))(h:RdC P t S)(hS:∀x,S x->∀b xs,x≠ .agg b xs):RdV P t S:=fun H enc W base v d p hv hd=>by
 have hv':Cell.okWide P W .any base t v:=by
  unfold Value.okWide at hv;split at hv
  ·exact absurd ‹_› (ht _)
  ·exact absurd ‹_› (ht' _ _)
  ·exact hv
 obtain⟨fuel,hf⟩:=hd;have hag:v.cells=#[v]:=by
  cases v<;>try rfl
  exfalso;unfold Cell.okWide at hv';split at hv'<;>first|(simp_all;done)|skip
  unfold Cell.ok at hv';split at hv'<;>simp_all
 rw[hag]at hf;obtain⟨u,x,h1,h2,h3,_,_⟩:=h H enc W fuel _ _ hf;refine⟨x,?_,h3⟩;have:u=v:=by
  cases u<;>first|(simpa[Value.cells]using h1)|skip
  cases h2 with
  |agg _ _=>exact absurd rfl (hS _ h3 _ _)
  |sc _ hh=>cases hh
 rw[<-this];exact h2
theorem rds{H:Type}{enc:TypeId×Value->H}{W:World}{base:Nat}:∀{ts:List TypeId} {Ss:List (PC->Prop)} {vs:List Value} {ds:List (DataW H)} {p:List MemPlace},ie (fun t S=>RdV P t S) ts Ss->(∀(j:Nat) t v,ts[j]?=some t->vs[j]?=some v->Value.okWide P W .any base t v)->DataW.TrodAll enc P W 0 (fun _=>true) true ts vs ds p->∃xs,cP (lK W) vs xs/\ie (fun S x=>S x) Ss xs
 |[],[],vs,ds,p,_,_,h=>by obtain⟨rfl,rfl,rfl⟩:=trodAll_nil h;exact⟨[],.nil,trivial⟩
 |t::ts,S::Ss,vs,ds,p,hR,hv,h=>by
  obtain⟨v,vs',d,ds',p1,q,rfl,rfl,rfl,h1,h2⟩:=trodAll_cons h;obtain⟨x,k1,k2⟩:=hR.1 H enc W base v d p1 (hv 0 t v rfl rfl) h1;obtain⟨xs,k3,k4⟩:=rds hR.2 (fun j t v ht hj=>hv (j+1) t v (by simpa using ht) (by simpa using hj)) h2;exact⟨x::xs,.cons k1 k3,k2,k4⟩
 |[],_::_,_,_,_,h,_,_=>h.elim
 |_::_,[],_,_,_,h,_,_=>h.elim
theorem p0{H:Type}{enc:TypeId×Value->H}(hl:laidOutB P=true){W W':World}(hb:Below W.heap.size W W'){sp:Nat->Bool}:∀{ts:List TypeId} {vs:List Value} {ds:List (DataW H)} {p:List MemPlace},(ts.all fun t=>P.readableRec t&&decide (t<P.types.size))=true->DataW.TrodAll enc P W 0 (fun _=>true) true ts vs ds p->(∀x∈p,x.block<W.heap.size)->(∀x∈p,sp x.block=true)->DataW.TrodAll enc P W' 0 sp true ts vs ds p
 |[],vs,ds,p,_,h,_,_=>by obtain⟨rfl,rfl,rfl⟩:=trodAll_nil h;rfl
 |t::ts,vs,ds,p,hr,h,hlt,hsp=>by
  obtain⟨v,vs',d,ds',p1,q,rfl,rfl,rfl,h1,h2⟩:=trodAll_cons h;simp only[List.all_cons,Bool.and_eq_true,decide_eq_true_eq]at hr;exact trodAll_cons_mk (WideElems.Trod_stays hl hr.1.1 hr.1.2 h1 (fun x hx=>hb.same (hlt x (by simp[hx]))) (fun x hx=>hsp x (by simp[hx]))) (p0 hl hb (by simpa using hr.2) h2 (fun x hx=>hlt x (by simp[hx])) (fun x hx=>hsp x (by simp[hx])))
theorem Zy{S:PC->Prop}{xs:List PC}(h:ie (fun(S:PC->Prop) x=>S x) [S] xs):∃x,xs=[x]/\S x:=by
 cases xs with
 |nil=>exact h.elim
 |cons x xs=>cases xs with
  |nil=>exact⟨x,rfl,h.1⟩
  |cons y xs=>exact h.2.elim
theorem NS{S:PC->Prop}{Ss:List (PC->Prop)}{xs:List PC}(h:ie (fun(S:PC->Prop) x=>S x) (S::Ss) xs):∃x ys,xs=x::ys/\S x/\ie (fun(S:PC->Prop) x=>S x) Ss ys:=by
 cases xs with
 |nil=>exact h.elim
 |cons x xs=>exact⟨x,xs,rfl,h.1,h.2⟩
theorem Zz{S T:PC->Prop}{xs:List PC}(h:ie (fun(S:PC->Prop) x=>S x) [S,T] xs):∃x y,xs=[x,y]/\S x/\T y:=by
 obtain⟨x,ys,rfl,h1,h2⟩:=NS h;obtain⟨y,rfl,h3⟩:=Zy h2;exact⟨x,y,rfl,h1,h3⟩
theorem Wd{S T U:PC->Prop}{xs:List PC}(h:ie (fun(S:PC->Prop) x=>S x) [S,T,U] xs):∃x y z,xs=[x,y,z]/\S x/\T y/\U z:=by
 obtain⟨x,ys,rfl,h1,h2⟩:=NS h;obtain⟨y,z,rfl,h3,h4⟩:=Zz h2;exact⟨x,y,z,rfl,h1,h3,h4⟩
theorem As{f:FuncId}{fn:Func}{s:ChangeSpec}{Ss:List (PC->Prop)}{tr:TypeId}{apart fresh handsOn again:Bool}(hl:laidOutB P=true)(hr:(fn.params.toList.all fun t=>P.readableRec t&&decide (t<P.types.size))=true)(hres:fn.resultTypes=#[tr])(htr:P.underlying tr=some .bool)(hvars:s.vars=[])(hR:ie (fun t S=>RdV P t S) fn.params.toList Ss)(hspec:∀(H:Type) (ds:List (DataW H)),ds.length=fn.params.size->s.fn H ds={results:=[.lit (.bool true)],args:=ds})(hp:∀xs,ie (fun S x=>S x) Ss xs->aB P f xs (.bool true))(H:Type)(enc:TypeId×Value->H)(W:World)(base:Nat)(args:Array Value)(ds gs:List (DataW H))(before:List MemPlace)(hval:∀(j:Nat) t v,fn.params[j]?=some t->args[j]?=some v->Value.okWide P W .any base t v)(hW:DataW.Whole enc P fn.params.toList s.vars apart W args.toList ds gs before)(hg:V3 (lK W)):Calls P f args W fun e W'=>∃v,e= .returned v/\s.post enc P fn apart fresh handsOn again W args v W':=by
 have hW':=hW;obtain⟨p,q,hA,hV,rfl,hfz,hnd⟩:=hW;rw[hvars]at hV;obtain⟨rfl,rfl⟩:=trodVars_none hV;have hlt:∀x∈p,x.block<W.heap.size:=fun x hx=>hW'.lt x (by simp[hx]);obtain⟨xs,k1,k2⟩:=rds hR (fun j t v ht hj=>hval j t v (by simpa using ht) (by simpa using hj)) hA;have hlen:ds.length=fn.params.size:=by
  have:∀{ts:List TypeId} {vs:List Value} {ds:List (DataW H)} {p:List MemPlace},DataW.TrodAll enc P W 0 (fun _=>true) true ts vs ds p->ds.length=ts.length:=by
   intro ts
   induction ts with
   |nil=>intro vs ds p h;obtain⟨rfl,rfl,rfl⟩:=trodAll_nil h;rfl
   |cons t ts ih=>intro vs ds p h;obtain⟨v,vs',d,ds',p1,q,rfl,rfl,rfl,h1,h2⟩:=trodAll_cons h;simp[ih h2]
  simpa using this hA
 refine((hp xs k2).2 (lK W) W args.toList ⟨fun _ _ _ h=>h,hg⟩ k1).mono fun e W'=>?_;rintro⟨v,N,rfl,hv,_,_,_,hb⟩;obtain rfl:v= .bool true:=by cases hv;rfl
 refine⟨_,rfl,?_⟩;have hsp:=hspec H (ds++[]) (by simpa using hlen);have hold:∀x∈p++[],(fun b=>decide (b<W.heap.size)) x.block=true:=fun x hx=>by simpa using hlt x (by simpa using hx)
 have Vb:∀(b:Nat) (sp:Nat->Bool) (hd:Bool),DataW.TrodAll enc P W' b sp hd fn.resultTypes.toList ((Value.bool true).resultList fn.resultTypes.size) (s.fn H (ds++[])).results []:=fun b sp hd=>by
  rw[hsp,hres];exact trodAll_cons_mk (shut_bool htr true) trodAll_mk0
 have NT:∀sp:Nat->Bool,(∀x∈p++[],sp x.block=true)->DataW.TrodAll enc P W' 0 sp true fn.params.toList args.toList (s.fn H (ds++[])).args p:=fun sp h=>by
  rw[hsp];simpa using p0 hl hb hr hA hlt fun x hx=>h x (by simp[hx])
 have X1:∀sp:Nat->Bool,DataW.TrodVars enc P W' sp s.vars (s.fn H (ds++[])).vars []:=fun sp=>by rw[hsp,hvars];rfl
 refine⟨ds,[],p++[],[],p,[],hW',Vb _ _ _,NT _ hold,X1 _,World.keptBut_mono (fun x hx=>⟨hx,Or.inr (by simpa using hx)⟩) (hb.frame (·∈p++[])),fun _=>?_⟩;refine⟨ok_one (by rw[hres]) rfl (okWide_bool_mk htr true),_,_,([]++p)++[],⟨[]++p,[],trodAll_append (NT _ (fun _ _=>rfl)) (Vb _ _ _),X1 _,rfl,?_,?_⟩,?_⟩
 ·intro b off hx;have hx':MemPlace.cell b off∈p:=by simpa using hx
  rw[hb.frozen (p:=⟨b,off,none⟩) (hlt _ hx')];exact hfz b off (by simpa using hx')
 ·intro ha;simpa using hnd ha
 ·intro x hx _;simpa using hx
end
end Go.Av
namespace Go.Av
open Go.Proofs Go.aW Go.ChangeShapes Go.WideShapes Go.ChangeAt Go.RowKit
theorem Y9{xs:List PC}(h:∀y∈xs,∃n,y= .sc (.int .u8 n)/\(Lit.int .u8 n).wf=true):∃b:List UInt8,xs=ah b:=by
 induction xs with
 |nil=>exact⟨[],rfl⟩
 |cons x xs ih=>
  obtain⟨b,rfl⟩:=ih fun y hy=>h y (by simp[hy]);obtain⟨n,rfl,hw⟩:=h x (by simp);refine⟨UInt8.ofNat n.toNat::b,?_⟩;have hn:0<=n/\n<256:=by
   have hmin:IntKind.u8.min=0:=rfl;have gG:IntKind.u8.max=255:=rfl;simp only[Lit.wf,Bool.and_eq_true,decide_eq_true_eq,hmin,gG]at hw;omega
  simp[ah];omega
def Wc(x:PC):Prop:=∃b:List UInt8,x=cy b/\b.length<=9223372036854775807
def Wb(x:PC):Prop:=∃n:Int,x= .int n/\-9223372036854775808<=n/\n<=9223372036854775807
def u8S(x:PC):Prop:=∃c:UInt8,x= .sc (.int .u8 (c.toNat:Int))
theorem agT:laidOutB Tryz.prog=true:=by kernel_rfl
theorem SL:Tryz.prog.cellsOf 5=1:=by kernel_rfl
theorem rd3:RdV Tryz.prog 3 Wb:=EY (by rw[Tryz.underlying3];simp) (by rw[Tryz.underlying3];simp) ((EZ Tryz.underlying3).mono fun x ⟨n,h,hw⟩=>by
 have hmin:IntKind.i64.min=-9223372036854775808:=rfl;have gG:IntKind.i64.max=9223372036854775807:=rfl;simp only[Lit.wf,Bool.and_eq_true,decide_eq_true_eq,hmin,gG]at hw;exact⟨n,h,by omega,by omega⟩) (by rintro x ⟨n,rfl,_⟩ b xs h;cases h)
theorem rd5:RdV Tryz.prog 5 u8S:=EY (by rw[Tryz.underlying5];simp) (by rw[Tryz.underlying5];simp) ((EZ Tryz.underlying5).mono fun x ⟨n,h,hw⟩=>by
 have hmin:IntKind.u8.min=0:=rfl;have gG:IntKind.u8.max=255:=rfl;simp only[Lit.wf,Bool.and_eq_true,decide_eq_true_eq,hmin,gG]at hw;refine⟨UInt8.ofNat n.toNat,?_⟩;rw[h,UInt8.toNat_ofNat'];congr 2;omega) (by rintro x ⟨n,rfl⟩ b xs h;cases h)
theorem amN:RdV Tryz.prog 22 Wc:=EY (by rw[Tryz.underlying22];simp) (by rw[Tryz.underlying22];simp) ((Nw Tryz.underlying22 (by rw[SL];omega) (EZ Tryz.underlying5)).mono fun x ⟨xs,h,hl,hv⟩=>by
 obtain⟨vs,rfl⟩:=Y9 hv;refine⟨vs,h,?_⟩;have:(ah vs).length=vs.length:=by simp[ah]
 unfold maxLen at hl;omega) (by rintro x ⟨s,rfl,_⟩ b xs h;cases h)
theorem agU{x y z:PC}(hx:Wb x)(hy:u8S y)(hz:Wc z):aB Tryz.prog 3 [x,y,z] (.bool true):=by
 obtain⟨n,rfl,h1,h2⟩:=hx;obtain⟨c,rfl⟩:=hy;obtain⟨b,rfl,h3⟩:=hz;exact an8 n ⟨h1,h2⟩ c b h3
theorem B7{W:World}{l:List (String×DataW Unit)}(h:laidMet Tryz.prog l W)(hm:("icehouse/crc.half",Go.Lib.tabData .u32 (kn.map fun n:Nat=>(n:Int)))∈l):V3 (lK W):=by
 obtain⟨g,t,cs,fuel,p,hg,ht,an9,hd⟩:=Go.Lib.laidMet.reads h hm;have hg0:Tryz.prog.globalNamed "icehouse/crc.half"=some 0:=by kernel_rfl
 obtain rfl:=Option.some.inj (hg0.symm.trans hg);have ht0:(Tryz.prog.globals[0]?).map (·.type)=some 241:=by kernel_rfl
 obtain rfl:=Option.some.inj (ht0.symm.trans ht);have hu:Tryz.prog.underlying 241=some (.array 16 46):=by kernel_rfl
 have he:Tryz.prog.underlying 46=some (.int .u32):=by kernel_rfl
 have hcs:=Go.Lib.cells_of_tab hu he (by kernel_rfl) (by kernel_rfl) hd;intro j n hj;have hlen:j<kn.length:=(List.getElem?_eq_some_iff.1 hj).1;have hc:cs[j]?=some (.int .u32 (n:Int)):=by
  have:=congrArg (fun l=>l[j]?) hcs;simp only[List.getElem?_map,hj,Option.map_some,Array.getElem?_toList]at this;exact this
 have:=World.var?_cell hg0 an9 j;unfold lK;rw[this];exact hc
end Go.Av
