/- TiersAgain, part 11: what functions compute, and its plain law; no condition. -/
import Derived.Test.YtgkdpbambfgahaaGreatDoorWaj
import Derived.RangeFuncBox
import Derived.RangeFuncLeaves
import Derived.RangeFuncNested
import Derived.RangeFuncBound
import Derived.RangeFuncCalls
import Derived.Shelf.Abstract
import Derived.Shelf.RegionOpen
import Derived.RegionIn
import Derived.WalkKit
import Derived.OwnWalkIn
import Derived.TacticsInMore
import Derived.LoopNIn
import Derived.LoopIn
set_option linter.all false
set_option maxRecDepth 100000
set_option maxHeartbeats 64000000
namespace Go.Av
open Go.Proofs Go.Proofs.Tryz
def kB(ks:List (aF))(j:Nat):Bool:=decide (1<=(ks.getD j []).length)&&decide ((ks.getD j []).length<=100)&&(j==0||Op.bytesLess (ks.getD (j-1) []) (ks.getD j []))
def vB(v:Int):Bool:=decide (0<=v)&&decide (v<1099511627776)
def jy(l:Bool)(ks:List (aF))(vs:List Int):Bool:=decide (ks.length<=4)&&r9 l ks vs&&(l||decide (0<ks.length))&&((List.range ks.length).all (kB ks))&&vs.all vB
def N'{l:Bool}{ks:List (aF)}{vs:List Int}{k:Nat}(hk:k<vs.length)(h:vB vs[k]=false):jy l ks vs=false:=by
 have:vs.all vB=false:=by rw[Fg];exact⟨vs[k],H,by simp[h]⟩
 simp[jy,this]
def chn:List (aF)->Prop
 |[]=>True
 |[_]=>True
 |a::b::l=>Op.bytesLess a b=true/\chn (b::l)
theorem V5:∀{l:List (aF)},(∀i (h:i+1<l.length),Op.bytesLess l[i] l[i+1]=true)->chn l
 |[],_=>trivial
 |[_],_=>trivial
 |a::b::l,h=>⟨h 0 H,V5 λi hi=>h (i+1) (U hi)⟩
theorem Bl(p:aF->Bool):∀(ks:List (aF)),∀x∈ks.take (below p ks),p x=true
 |[],x,h=>by simp at h
 |a::ks,x,h=>by
  unfold below at h;simp only[uN]at h;split at h
  .rename_i ha;simp only[cF,jH,fF]at h;rcases h with rfl|h
   .exact ha
   .exact Bl p ks x h
  .simp at h
theorem Bj(p:aF->Bool):∀(ks:List (aF)) (h:below p ks<ks.length),p ks[below p ks]=false
 |[],h=>by simp at h
 |a::ks,h=>by
  by_cases ha:p a=true
  .have e:below p (a::ks)=below p ks+1:=by simp[below,ha]
   have h':below p ks<ks.length:=by rw[e]at h;simpa using h
   have:=Bj p ks h';simp only[e,List.getElem_cons_succ];exact this
  .have e:below p (a::ks)=0:=by simp[below,ha]
   simp only[e,yF];simpa using ha
def yW{l:Bool}{ks:List (aF)}{vs:List Int}(h:jy l ks vs=true):chn ks/\ks.length<=4/\r9 l ks vs=true/\(∀s∈ks,s.length<=100):=by
 simp only[jy,bG,eZ,gX,si]at h;obtain⟨⟨⟨⟨h1,h2⟩,_⟩,h4⟩,_⟩:=h;refine⟨V5 λi hi=>?_,h1,h2,λs hs=>?_⟩
 .have:=h4 (i+1) hi;simp only[kB,bG,vb]at this;have:=this.2;have e1:i<ks.length:=O;simpa[hi,e1]using this
 .obtain⟨i,hi,rfl⟩:=xW hs;have:=h4 i hi;simp[kB,hi]at this;exact this.1.2
def xk{bx:List (Nat×Ob)}{a n:Nat}{c:Option Nat}{e:TypeId}{L:List PC}(ha:lk a bx=some ⟨e,1,(L.flatMap fM).map .p⟩)(hn:n=L.length)(hw:∀x∈L,x.width=1)(ht:∀x∈L,cE x=true):dA bx 4 (.view a 0 n 1 c) (.sl L):=by
 subst hn;have hl:(L.flatMap fM).length=L.length:=by have:=lR (s:=1) hw;omega
 refine⟨_,ha,O,rfl,by simp[hl],?_,hw,ht⟩;simp only[sQ,jx,o4,vT];exact gv (by simp[hl])
def zq(L:List (List PC))(hw:∀l∈L,∀x∈l,x.width=1)(ht:∀l∈L,∀x∈l,cE x=true)(hb:(L.map List.length).sum<=1000000000000)(oK:L.length<=1000000000000):cq 374 [.sl (L.map .sl)] (.sl L.flatten):=bF (xs:=[_]) (PZ 0 L hw ht hb oK) (xk (e:=9) H (by simp[je]) (λx h=>by obtain⟨l,h1,h2⟩:=mQ.1 h;exact hw l h1 x h2) (λx h=>by obtain⟨l,h1,h2⟩:=mQ.1 h;exact ht l h1 x h2))
def QG(L:List (List PC))(hw:∀l∈L,∀x∈l,x.width=1)(ht:∀l∈L,∀x∈l,cE x=true)(hb:(L.map List.length).sum<=1000000000000)(oK:L.length<=1000000000000):cq 375 [.sl (L.map .sl)] (.sl L.flatten):=bF (xs:=[_]) (P_ 0 L hw ht hb oK) (xk (e:=3) H (by simp[je]) (λx h=>by obtain⟨l,h1,h2⟩:=mQ.1 h;exact hw l h1 x h2) (λx h=>by obtain⟨l,h1,h2⟩:=mQ.1 h;exact ht l h1 x h2))
def aaX(l:Bool)(ks:List (aF))(vs:List Int)(key:aF)(l':Bool)(ks':List (aF))(vs':List Int)(hk:ks.length<=1000000000)(hv:vs.length<=1000000000)(hk':ks'.length<=1000000000)(hv':vs'.length<=1000000000):cq 339 [dU l ks vs,.str key,dU l' ks' vs'] (dU l (ks++(if l then[]else[key])++ks') (vs++vs')):=by
 have c1:=zq [ks.map PC.str,[.str key]] H H (by simp;omega) H;have c3:=QG [vs.map PC.int,vs'.map PC.int] H H (by simp;omega) H;refine dK [_] [] [(4,[(14,.w [])])] [] func339 rfl ?_;cases l
 .have c2:=zq [ks.map PC.str++[.str key],ks'.map PC.str] (by simp;rintro x (⟨a,_,rfl⟩|rfl)<;>rfl) (by simp;rintro x (⟨a,_,rfl⟩|rfl)<;>rfl) (by simp;omega) H;simp;refine cm c1 ?_;simp;refine aZ c2 ?_;simp;refine aZ c3 ?_;simp[results339]
 .have c2:=zq [ks.map PC.str,ks'.map PC.str] H H (by simp;omega) H;simp;refine aZ c2 ?_;simp;refine aZ c3 ?_;simp[results339]
def RE(s:aF):Bool:=decide (1<=s.length)&&decide (s.length<=100)
def XY(s:aF):cq 383 [.str s] (.bool (RE s)):=by
 refine ay [_] func383 rfl ?_;cases s with
 |nil=>simp[results383,RE]
 |cons x s=>
  have e:(x::s !=[])=true:=rfl;by_cases h:(s.length:Int)+1<=100
  .have h':s.length+1<=100:=O;simp[e,h,h',results383,RE]
  .have h':¬s.length+1<=100:=O;simp[e,h,h',results383,RE]
def XZ(s:aF):cq 382 [.str s] (.bool (!RE s)):=by
 refine ay [_] func382 rfl ?_;simp;refine cm (XY s) ?_;simp[results382]
def X0(v:Int):cq 386 [.int v] (.bool (!vB v)):=by
 refine ay [_] func386 rfl ?_;by_cases h:v<0
 .have:vB v=false:=by simp[vB];omega
  simp[h,this,results386]
 .by_cases h2:1099511627775<v
  .have:vB v=false:=by simp[vB];omega
   simp[h,h2,this,results386]
  .have:vB v=true:=by simp[vB];omega
   simp[h,h2,this,results386]
def Xu(ks:List (aF))(j:Nat):Bool:=j==0||Op.bytesLess (ks.getD (j-1) []) (ks.getD j [])
def X1(ks:List (aF))(hk:ks.length<=9223372036854775807):cq 384 [.sl (ks.map PC.str)] (.bool ((List.range ks.length).all (Xu ks))):=by
 refine ay [_] func384 rfl ?_;simp;refine bI (λk:Nat=>(k<=ks.length\/k=0)/\∀j,j<k+1->j<ks.length->Xu ks j=true) (λk=>[(0,.p (.sl (ks.map PC.str))),(3,.p (.int (k+1)))]) (λk=>ks.length-k) 0 ⟨.inr rfl,?_⟩ (aB H) ?_
 .intro j hj _;obtain rfl:j=0:=O;rfl
 rintro k ⟨j1,j2⟩;by_cases c1:k+1<ks.length
 .have jR:(k:Int)+1<(ks.length:Int):=O;have hm:k<ks.length:=O;have w1:IntKind.i64.wrap (k:Int)=(k:Int):=aG;have p2:(0:Int)<=(k:Int)+1:=O;have t1:((k:Int)+1).toNat=k+1:=O;simp[c1,jR,w1,hm,p2,t1];by_cases c2:Op.bytesLess ks[k] ks[k+1]=true
  .simp[c2];refine⟨k+1,⟨O,?_⟩,O,aB ?_⟩
   .intro j hj hl;by_cases hj':j<k+1
    .exact j2 j hj' hl
    .obtain rfl:j=k+1:=O;simp[Xu,c1,hm,c2]
   .simp[aG (n:=(k:Int)+1+1)]
  .have r:(List.range ks.length).all (Xu ks)=false:=by
    rw[Fg];exact⟨k+1,U c1,by simp[Xu,c1,hm,c2]⟩
   simp[c2,r,results384]
 .have jR:¬(k:Int)+1<(ks.length:Int):=O;have r:(List.range ks.length).all (Xu ks)=true:=by
   rw[gX];intro j hj;simp at hj;exact j2 j O hj
  simp[jR,r,results384]
def Sq(q:Int->Bool)(vs:List Int):Int:=if(vs.takeWhile (λv=>!q v)).length<vs.length then((vs.takeWhile (λv=>!q v)).length:Nat)else-1
def Sr(q:aF->Bool)(ks:List (aF)):decide (0<=Ks q ks)=ks.any q:=by
 unfold Ks;by_cases h:below (λs=>!q s) ks<ks.length
 .have:=Bj _ _ h;have e:ks.any q=true:=by rw[Kt];exact⟨_,bB h,U this⟩
  simp[h,e]
 .have hb:=Bk (λs=>!q s) ks;have e:ks.any q=false:=by
   rw[uM];intro x hx;have:=Bl (λs=>!q s) ks x (by rw[gv O];exact hx);simpa using this
  simp[h,e]
def Ku{g:FuncId}{caps:List PC}(q:aF->Bool)(ks:List (aF))(hk:ks.length<=9223372036854775807)(h:∀s∈ks,cq g (.str s::caps) (.bool (q s))):cq 371 [.sl (ks.map PC.str),.fn (.func g) caps] (.bool (ks.any q)):=by
 refine ay [_] func371 rfl ?_;simp;refine cm (Mu q ks hk h) ?_;simp[Sr,results371]
def Mv{p:Int->Bool}{vs:List Int}{k:Nat}(h:∀x∈vs.take k,p x=true)(hk:k<=vs.length)(he:(hk:k<vs.length)->p vs[k]=false):(vs.takeWhile p).length=k:=by
 induction vs generalizing k with
 |nil=>simp at hk;simp[hk]
 |cons a ks ih=>
  cases k with
  |zero=>have:=he H;simp at this;simp[this]
  |succ k=>
   have ha:=h a H;have:=ih (k:=k) (λx hx=>h x (by simp[hx])) (U hk) (λhk'=>by have:=he (by simp;omega);simpa using this);simp[ha,this]
def X3{g:FuncId}{caps:List PC}(q:Int->Bool)(vs:List Int)(hk:vs.length<=9223372036854775807)(h:∀s∈vs,cq g (.int s::caps) (.bool (q s))):cq 399 [.sl (vs.map PC.int),.fn (.func g) caps] (.int (Sq q vs)):=by
 refine ay [_] func399 rfl ?_;simp;refine bI (λk:Nat=>k<=vs.length/\∀x∈vs.take k,(!q x)=true) (λk=>[(0,.p (.sl (vs.map PC.int))),(1,.p (.fn (.func g) caps)),(7,.p (.int vs.length)),(8,.p (.int k))]) (λk=>vs.length-k) 0 H (aB H) ?_;rintro k ⟨h1,h2⟩;by_cases c1:k<vs.length
 .simp[c1];refine cm (h vs[k] H) ?_;by_cases c2:q vs[k]=true
  .have e:=Mv (p:=λv=>!q v) h2 h1 (λ_=>by simpa using c2);simp[c2,Sq,e,c1,results399]
  .simp[c2];refine⟨k+1,⟨O,?_⟩,O,aB ?_⟩
   .rw[kG c1];simp only[lD,gK];rintro x (hx|rfl);(have:=h2 x hx;simpa using this);simpa using c2
   .simp[aG (n:=(k:Int)+1)]
 .have e:=Mv (p:=λv=>!q v) h2 h1 (λh=>absurd h c1);simp[e,c1,Sq,results399]
def Sv(q:Int->Bool)(vs:List Int):decide (0<=Sq q vs)=vs.any q:=by
 unfold Sq
 induction vs with
 |nil=>rfl
 |cons a l ih=>
  cases h:q a with
  |true=>simp[h]
  |false=>
   simp only[uN,h,Bool.not_false,cr,cF,Nat.add_lt_add_iff_right,Fh,Bool.false_or];rw[<-ih];split<;>simp<;>omega
def Kv{g:FuncId}{caps:List PC}(q:Int->Bool)(vs:List Int)(hk:vs.length<=9223372036854775807)(h:∀s∈vs,cq g (.int s::caps) (.bool (q s))):cq 385 [.sl (vs.map PC.int),.fn (.func g) caps] (.bool (vs.any q)):=by
 refine ay [_] func385 rfl ?_;simp;refine cm (X3 q vs hk h) ?_;simp[Sv,results385]
def OV(l:Bool)(ks:List (aF))(vs:List Int):jy l ks vs=(!(ks.any λs=>!RE s)&&(List.range ks.length).all (Xu ks)&&!(vs.any λv=>!vB v)&&decide (ks.length<=4)&&r9 l ks vs&&(l||decide (0<ks.length))):=by
 have e1:(List.range ks.length).all (kB ks)=(!(ks.any λs=>!RE s)&&(List.range ks.length).all (Xu ks)):=by
  rw[uO];simp only[gX,si,bG,sj,uM,Bool.not_eq_true,Bool.not_eq_false'];constructor
  .intro h;refine⟨λs hs=>?_,λj hj=>?_⟩
   .obtain⟨i,hi,rfl⟩:=xW hs;have:=h i hi;simp only[kB,bG]at this;simpa[RE,hi]using this.1
   .have:=h j hj;simp only[kB,bG]at this;exact this.2
  .rintro⟨h1,h2⟩ j hj;have a:=h1 ks[j] H;have b:=h2 j hj;simp only[kB,bG];refine⟨?_,b⟩;simpa[RE,hj]using a
 have e2:vs.all vB=!(vs.any λv=>!vB v):=by
  rw[uO];simp
 unfold jy;rw[e1,e2];cases(ks.any λs=>!RE s)<;>cases(List.range ks.length).all (Xu ks)<;>cases(vs.any λv=>!vB v)<;>cases decide (ks.length<=4)<;>cases r9 l ks vs<;>cases(l||decide (0<ks.length))<;>rfl
def vU(l:Bool)(ks:List (aF))(vs:List Int)(hk:ks.length<=9223372036854775807)(hv:vs.length<=9223372036854775807):cq 360 [dU l ks vs] (.bool (jy l ks vs)):=by
 rw[OV];have c1:=Ku (g:=382) (caps:=[]) (λs=>!RE s) ks hk λs _=>XZ s;have c2:=X1 ks hk;have c3:=Kv (g:=386) (caps:=[]) (λv=>!vB v) vs hv λs _=>X0 s;refine ay [_] func360 rfl ?_;simp;refine cm c1 ?_;cases(ks.any λs=>!RE s)
 .simp;refine cm c2 ?_;simp;refine cm c3 ?_;cases(List.range ks.length).all (Xu ks)<;>cases(vs.any λv=>!vB v)<;>try (simp[results360];done)
  by_cases h4:(ks.length:Int)<=4
  .have h4':ks.length<=4:=O;simp[h4,h4'];refine cm (lJ l ks vs O) ?_;cases r9 l ks vs
   .simp[results360]
   .cases l
    .by_cases h0:0<ks.length
     .simp[h0,results360]
     .simp[h0,results360]
    .simp[results360]
  .have h4':¬ks.length<=4:=O;simp[h4,h4',results360]
 .simp;refine cm c3 ?_;cases(vs.any λv=>!vB v)
  .simp[results360]
  .simp[results360]
@[simp]def ag9{v:Value}:bA (.sc v)=[.p (.sc v)]:=(rfl)
def cR(v:Int)(i:Nat):UInt8:=UInt8.ofNat (v.toNat/2^(8*i))
def tv(v:Int):aF:=[cR v 4,cR v 3,cR v 2,cR v 1,cR v 0]
def iw(ks:List (aF)):aF:=ks.flatMap λs=>UInt8.ofNat s.length::s
def jP(vs:List Int):aF:=vs.flatMap tv
def oJ(l:Bool)(n:Nat):aF:=[if l then 1 else 2,UInt8.ofNat n]
def nh(l:Bool)(ks:List (aF))(vs:List Int):aF:=oJ l ks.length++iw ks++jP vs
def ZY(m:Nat):IntKind.u8.wrap (m:Int)=((UInt8.ofNat m).toNat:Int):=by
 simp[IntKind.wrap,IntKind.signed,IntKind.bits]
def D5(m n i:Nat)(hn:n=8*i)(hi:i<=4):IntKind.u8.wrap ((m:Int).fdiv (2^min n IntKind.i64.bits))=((cR (m:Int) i).toNat:Int):=by
 have h2:min n IntKind.i64.bits=n:=by simp[IntKind.bits];omega
 rw[h2,mP _ (by exact yC (yD O))];have h3:(m:Int)/2^n=((m/2^n:Nat):Int):=H;rw[h3,ZY,cR,qS,hn]
def rJ{ks:List (aF)}{k:Nat}(h:k<ks.length):iw (ks.take (k+1))=iw (ks.take k)++UInt8.ofNat ks[k].length::ks[k]:=by
 rw[kG h];simp only[iw,BR,cU,List.flatMap_nil,gL]
def Dn{vs:List Int}{k:Nat}(h:k<vs.length):jP (vs.take (k+1))=jP (vs.take k)++tv vs[k]:=by
 rw[kG h];simp only[jP,BR,cU,List.flatMap_nil,gL]
def zD{vs:List Int}{n:Nat}(hn:vs.length<=n):(jP vs).length<=5*n:=by
 induction vs generalizing n with
 |nil=>simp[jP]
 |cons a ks ih=>
  have:=ih (n:=n-1) (by simp at hn;omega);simp[jP,tv]at this hn⊢;omega
def zE{ks:List (aF)}{n:Nat}(h:∀s∈ks,s.length<=100)(hn:ks.length<=n):(iw ks).length<=101*n:=by
 induction ks generalizing n with
 |nil=>simp[iw]
 |cons a ks ih=>
  have:=ih (n:=n-1) (λs hs=>h s (by simp[hs])) (by simp at hn;omega);have ha:=h a H;simp[iw]at this hn⊢;omega
def dj(b:aF):(af b).length=b.length:=by simp[af]
def On{B S:aF}{N:Nat}{c:UInt8}(hN:N=B.length):List.take (N+1) (List.take N ((af B).map AV.p)++[AV.p (.sc (.int .u8 (c.toNat:Int)))])++(af S).map AV.p=(af (B++c::S)).map AV.p:=by
 have h1:List.take N ((af B).map AV.p)=(af B).map AV.p:=gv (by simp[dj];omega);rw[h1,gv (by simp[dj];omega)];simp[af]
def row_one{B:aF}{N:Nat}{c:UInt8}(hN:N=B.length):List.take N ((af B).map AV.p)++[AV.p (.sc (.int .u8 (c.toNat:Int)))]=(af (B++[c])).map AV.p:=by
 have h1:List.take N ((af B).map AV.p)=(af B).map AV.p:=gv (by simp[dj];omega);rw[h1];simp[af]
@[simp]def aiY{l:Bool}{n:Nat}:(oJ l n).length=2:=rfl
def pN(b:aF):List.take b.length (List.map AV.p (af b))=List.map AV.p (List.flatMap fM (af b))/\(∀(y:PC),y∈af b->y.width=1)/\∀(y:PC),y∈af b->cE y=true:=by
 refine⟨?_,λy h=>?_,λy h=>?_⟩
 .rw[gv (by simp[dj])];congr 1
  induction b with
  |nil=>rfl
  |cons a b ih=>simp only[af,dB,cU,aan]at ih⊢;rw[<-ih];rfl
 .simp only[af,bE]at h;obtain⟨z,_,rfl⟩:=h;rfl
 .simp only[af,bE]at h;obtain⟨z,_,rfl⟩:=h;rfl
def ag_(l:Bool)(ks:List (aF))(vs:List Int)(hr:jy l ks vs=true)(hk:ks.length<=9223372036854775807)(hv:vs.length<=9223372036854775807):cq 432 [dU l ks vs] (.tp [.sl (af (nh l ks vs)),.int 0]):=by
 obtain⟨hc,k4,hf,Ra⟩:=yW hr;refine bF (xs:=[_]) (r:= .agg true [.view 0 0 (nh l ks vs).length 1 none,.p (.int 0)]) (a_:=⟨[(0,⟨5,1,(af (nh l ks vs)).map .p⟩)],[],1⟩) ?_ ?_
 .refine aq [_,_] [17] [] [] func432 rfl ?_;simp;refine cm (vU l ks vs hk hv) ?_;simp[hr];cases l
  .simp;refine aS (λk:Nat=>k<=ks.length) (λk=>[(1,.p (.ref (dU false ks vs))),(4,.view 0 0 (oJ false ks.length++iw (ks.take k)).length 1 none),(24,.p (.sl (ks.map PC.str))),(25,.p (.int ks.length)),(26,.p (.int k))]) (λk=>⟨[(0,⟨5,1,(af (oJ false ks.length++iw (ks.take k))).map .p⟩)],[],1⟩) (λk=>ks.length-k) 0 H _ (AS.le_refl _ _) (aB (by simp[oJ,iw,af,ZY])) ?_;intro k hk;have hP:=zE (n:=ks.length) (λs hs=>Ra s (oa hs)) (by simp;omega:(ks.take k).length<=ks.length);by_cases c1:k<ks.length
   .have hl:=Ra ks[k] H;have key:=On (B:=oJ false ks.length++iw (ks.take k)) (S:=ks[k]) (N:=(oJ false ks.length).length+(iw (ks.take k)).length) (c:=UInt8.ofNat ks[k].length) H;rw[cW,<-rJ c1,<-ZY]at key;simp[c1]at key⊢
    repeat' refine And.intro ?_ ?_
    all_goals first|omega|skip
    refine⟨k+1,O,O,aE [(0,2)] ?_⟩;have hlen:(iw (ks.take (k+1))).length=(iw (ks.take k)).length+1+ks[k].length:=by rw[rJ c1];simp;omega
    simp[key,hlen,aG (n:=(k:Int)+1)];omega
   .have e:k=ks.length:=O;subst e;have hP:(iw ks).length<=404:=by simp only[eH]at hP;omega
    simp;have hf':vs.length<=5:=by
     have:vs.length=ks.length+1:=by simpa[r9]using hf
     omega
    obtain⟨B0,hB0⟩:=mH (oJ false ks.length++iw ks);have lB0:B0.length=2+(iw ks).length:=by rw[hB0];simp
    rw[<-hB0,<-lB0];refine aS (λk:Nat=>k<=vs.length) (λk=>[(4,.view 0 0 (B0++jP (vs.take k)).length 1 none),(40,.p (.sl (vs.map PC.int))),(41,.p (.int vs.length)),(42,.p (.int k))]) (λk=>⟨[(0,⟨5,1,(af (B0++jP (vs.take k))).map .p⟩)],[],1⟩) (λk=>vs.length-k) 0 H _ (AS.le_refl _ _) (aB (by simp[jP])) ?_;intro k hk;by_cases c1:k<vs.length
    .simp[c1];obtain⟨B1,D7⟩:=mH (B0++jP (vs.take k));have lB1:B1.length=B0.length+(jP (vs.take k)).length:=by rw[D7];simp
     have lP:=zD (n:=5) (vs:=vs.take k) (by simp;omega);rw[<-D7,<-lB1];obtain⟨v,O'⟩:=mH (vs[k]);rw[<-O'];have hv0:0<=v:=by
      have:=N' (l:=false) (ks:=ks) (vs:=vs) c1;rw[hr]at this;have h2:vB vs[k]=true:=by cases h:vB vs[k]with
       |true=>rfl
       |false=>exact absurd (this h) H
      simp[vB]at h2;omega
     refine aS (λj:Nat=>j<=5) (λj=>[(4,.view 0 0 (B1++(tv v).take j).length 1 none),(8,.p (.int v)),(9,.p (.int (4-j))),(40,.p (.sl (vs.map PC.int))),(41,.p (.int vs.length)),(42,.p (.int k))]) (λj=>⟨[(0,⟨5,1,(af (B1++(tv v).take j)).map .p⟩)],[],1⟩) (λj=>5-j) 0 H _ (AS.le_refl _ _) (aB H) ?_;intro j hj;have JG:j=0\/j=1\/j=2\/j=3\/j=4\/j=5:=O;obtain⟨m,hm⟩:∃m:Nat,v=m:=⟨v.toNat,O⟩;rcases JG with rfl|rfl|rfl|rfl|rfl|rfl
     .have w:=D5 m 32 4 rfl O;have key:=row_one (B:=B1) (N:=B1.length) (c:=cR v 4) H;rw[<-hm]at w
      try simp at key
      simp[tv,bQ];refine⟨O,O,1,O,O,aE [(0,1)] ?_⟩;simp[tv,key,w,bQ]
     .have w:=D5 m 24 3 rfl O;have key:=row_one (B:=(B1++[cR v 4])) (N:=B1.length+1) (c:=cR v 3) H;rw[<-hm]at w
      try simp at key
      simp[tv,bQ];refine⟨O,O,2,O,O,aE [(0,1)] ?_⟩;simp[tv,key,w,bQ]
     .have w:=D5 m 16 2 rfl O;have key:=row_one (B:=(B1++[cR v 4,cR v 3])) (N:=B1.length+2) (c:=cR v 2) H;rw[<-hm]at w
      try simp at key
      simp[tv,bQ];refine⟨O,O,3,O,O,aE [(0,1)] ?_⟩;simp[tv,key,w,bQ]
     .have w:=D5 m 8 1 rfl O;have key:=row_one (B:=(B1++[cR v 4,cR v 3,cR v 2])) (N:=B1.length+3) (c:=cR v 1) H;rw[<-hm]at w
      try simp at key
      simp[tv,bQ];refine⟨O,O,4,O,O,aE [(0,1)] ?_⟩;simp[tv,key,w,bQ]
     .have w:=D5 m 0 0 rfl O;have key:=row_one (B:=(B1++[cR v 4,cR v 3,cR v 2,cR v 1])) (N:=B1.length+4) (c:=cR v 0) H;rw[<-hm]at w
      try simp at key
      simp[tv,bQ];refine⟨O,O,5,O,O,aE [(0,1)] ?_⟩;have w':IntKind.u8.wrap v=((cR v 0).toNat:Int):=U w;simp[tv,key,w',bQ]
     .have E:B0++jP (vs.take (k+1))=B1++tv v:=by rw[Dn c1,D7,O',cW]
      have l5:(tv v).length=5:=rfl;have lE:B0.length+(jP (vs.take (k+1))).length=B1.length+5:=by rw[<-mo,E];simp[l5]
      have t5:List.take 5 (tv v)=tv v:=rfl;simp;refine⟨k+1,O,O,aB ?_⟩;simp[E,l5,lE,t5,aG (n:=(k:Int)+1)]
    .have e:k=vs.length:=O;subst e;simp[results432];have E:nh false ks vs=B0++jP vs:=by rw[hB0];rfl
     exact⟨[],by simp[E]⟩
  .simp;refine aS (λk:Nat=>k<=ks.length) (λk=>[(1,.p (.ref (dU true ks vs))),(4,.view 0 0 (oJ true ks.length++iw (ks.take k)).length 1 none),(24,.p (.sl (ks.map PC.str))),(25,.p (.int ks.length)),(26,.p (.int k))]) (λk=>⟨[(0,⟨5,1,(af (oJ true ks.length++iw (ks.take k))).map .p⟩)],[],1⟩) (λk=>ks.length-k) 0 H _ (AS.le_refl _ _) (aB (by simp[oJ,iw,af,ZY])) ?_;intro k hk;have hP:=zE (n:=ks.length) (λs hs=>Ra s (oa hs)) (by simp;omega:(ks.take k).length<=ks.length);by_cases c1:k<ks.length
   .have hl:=Ra ks[k] H;have key:=On (B:=oJ true ks.length++iw (ks.take k)) (S:=ks[k]) (N:=(oJ true ks.length).length+(iw (ks.take k)).length) (c:=UInt8.ofNat ks[k].length) H;rw[cW,<-rJ c1,<-ZY]at key;simp[c1]at key⊢
    repeat' refine And.intro ?_ ?_
    all_goals first|omega|skip
    refine⟨k+1,O,O,aE [(0,2)] ?_⟩;have hlen:(iw (ks.take (k+1))).length=(iw (ks.take k)).length+1+ks[k].length:=by rw[rJ c1];simp;omega
    simp[key,hlen,aG (n:=(k:Int)+1)];omega
   .have e:k=ks.length:=O;subst e;have hP:(iw ks).length<=404:=by simp only[eH]at hP;omega
    simp;have hf':vs.length<=5:=by
     have:vs.length=ks.length:=by simpa[r9]using hf
     omega
    obtain⟨B0,hB0⟩:=mH (oJ true ks.length++iw ks);have lB0:B0.length=2+(iw ks).length:=by rw[hB0];simp
    rw[<-hB0,<-lB0];refine aS (λk:Nat=>k<=vs.length) (λk=>[(4,.view 0 0 (B0++jP (vs.take k)).length 1 none),(40,.p (.sl (vs.map PC.int))),(41,.p (.int vs.length)),(42,.p (.int k))]) (λk=>⟨[(0,⟨5,1,(af (B0++jP (vs.take k))).map .p⟩)],[],1⟩) (λk=>vs.length-k) 0 H _ (AS.le_refl _ _) (aB (by simp[jP])) ?_;intro k hk;by_cases c1:k<vs.length
    .simp[c1];obtain⟨B1,D7⟩:=mH (B0++jP (vs.take k));have lB1:B1.length=B0.length+(jP (vs.take k)).length:=by rw[D7];simp
     have lP:=zD (n:=5) (vs:=vs.take k) (by simp;omega);rw[<-D7,<-lB1];obtain⟨v,O'⟩:=mH (vs[k]);rw[<-O'];have hv0:0<=v:=by
      have:=N' (l:=true) (ks:=ks) (vs:=vs) c1;rw[hr]at this;have h2:vB vs[k]=true:=by cases h:vB vs[k]with
       |true=>rfl
       |false=>exact absurd (this h) H
      simp[vB]at h2;omega
     refine aS (λj:Nat=>j<=5) (λj=>[(4,.view 0 0 (B1++(tv v).take j).length 1 none),(8,.p (.int v)),(9,.p (.int (4-j))),(40,.p (.sl (vs.map PC.int))),(41,.p (.int vs.length)),(42,.p (.int k))]) (λj=>⟨[(0,⟨5,1,(af (B1++(tv v).take j)).map .p⟩)],[],1⟩) (λj=>5-j) 0 H _ (AS.le_refl _ _) (aB H) ?_;intro j hj;have JG:j=0\/j=1\/j=2\/j=3\/j=4\/j=5:=O;obtain⟨m,hm⟩:∃m:Nat,v=m:=⟨v.toNat,O⟩;rcases JG with rfl|rfl|rfl|rfl|rfl|rfl
     .have w:=D5 m 32 4 rfl O;have key:=row_one (B:=B1) (N:=B1.length) (c:=cR v 4) H;rw[<-hm]at w
      try simp at key
      simp[tv,bQ];refine⟨O,O,1,O,O,aE [(0,1)] ?_⟩;simp[tv,key,w,bQ]
     .have w:=D5 m 24 3 rfl O;have key:=row_one (B:=(B1++[cR v 4])) (N:=B1.length+1) (c:=cR v 3) H;rw[<-hm]at w
      try simp at key
      simp[tv,bQ];refine⟨O,O,2,O,O,aE [(0,1)] ?_⟩;simp[tv,key,w,bQ]
     .have w:=D5 m 16 2 rfl O;have key:=row_one (B:=(B1++[cR v 4,cR v 3])) (N:=B1.length+2) (c:=cR v 2) H;rw[<-hm]at w
      try simp at key
      simp[tv,bQ];refine⟨O,O,3,O,O,aE [(0,1)] ?_⟩;simp[tv,key,w,bQ]
     .have w:=D5 m 8 1 rfl O;have key:=row_one (B:=(B1++[cR v 4,cR v 3,cR v 2])) (N:=B1.length+3) (c:=cR v 1) H;rw[<-hm]at w
      try simp at key
      simp[tv,bQ];refine⟨O,O,4,O,O,aE [(0,1)] ?_⟩;simp[tv,key,w,bQ]
     .have w:=D5 m 0 0 rfl O;have key:=row_one (B:=(B1++[cR v 4,cR v 3,cR v 2,cR v 1])) (N:=B1.length+4) (c:=cR v 0) H;rw[<-hm]at w
      try simp at key
      simp[tv,bQ];refine⟨O,O,5,O,O,aE [(0,1)] ?_⟩;have w':IntKind.u8.wrap v=((cR v 0).toNat:Int):=U w;simp[tv,key,w',bQ]
     .have E:B0++jP (vs.take (k+1))=B1++tv v:=by rw[Dn c1,D7,O',cW]
      have l5:(tv v).length=5:=rfl;have lE:B0.length+(jP (vs.take (k+1))).length=B1.length+5:=by rw[<-mo,E];simp[l5]
      have t5:List.take 5 (tv v)=tv v:=rfl;simp;refine⟨k+1,O,O,aB ?_⟩;simp[E,l5,lE,t5,aG (n:=(k:Int)+1)]
    .have e:k=vs.length:=O;subst e;simp[results432];have E:nh true ks vs=B0++jP vs:=by rw[hB0];rfl
     exact⟨[],by simp[E]⟩
 .simp[dA,j_];exact pN _
abbrev rS(b:aF)(short:Bool):Ob:=⟨511,2,[.p (.sl (af b)),.p (.bool short)]⟩
def Sl(nx id:Nat)(hid:id<nx)(b:aF)(n:Nat)(hn:n<=b.length)(hb:b.length<=9223372036854775807):bN 436 [.obj id 0,.p (.int n)] ⟨[(id,rS b false)],[],nx⟩ (.p (.sl (af (b.take n)))) ⟨[(id,rS (b.drop n) false)],[],nx⟩:=by
 have e1:¬b.length<n:=O;refine aC [_] func436 rfl ?_;simp[dj,e1,hn,results436];refine⟨λy hy=>((pN b).2.1 y hy).symm,⟨[],by simp[hid,af]⟩,by simp[af]⟩
def Mr(nx id:Nat)(hid:id<nx)(b:aF)(short:Bool)(n:Nat)(h:short=true\/b.length<n)(hb:b.length<=9223372036854775807)(hn:n<=1000):bN 436 [.obj id 0,.p (.int n)] ⟨[(id,rS b short)],[],nx⟩ (.p (.sl (af (List.replicate n 0)))) ⟨[(id,rS b true)],[],nx+2⟩:=by
 have hne:¬id=nx:=O;have fE:¬nx=id:=O;have hlt:id<nx+1:=O;have hm:n<=maxLen:=by unfold maxLen;omega
 have hz:af (List.replicate n 0)=List.replicate n (.sc (.int .u8 0)):=by simp[af]
 have key:bN 436 [.obj id 0,.p (.int n)] ⟨[(id,rS b short)],[],nx⟩ (.view nx 0 n 1 none) ⟨[(nx,⟨5,1,(af (List.replicate n 0)).map .p⟩),(id,rS b true)],[],nx+1⟩:=by
  refine aC [_] func436 rfl ?_;cases short
  .have h1:b.length<n:=U h;simp[dj,h1,hne,fE,results436];refine⟨O,hm,[],by simp[hne,fE,hlt,hz]⟩
  .simp[dj,hne,fE,results436];refine⟨O,hm,[],by simp[hne,fE,hlt,hz]⟩
 have:=nO key (ob:=⟨5,1,(af (List.replicate n 0)).map .p⟩) (ys:=af (List.replicate n 0)) H rfl O (by simp[dj]) (by rw[o4,vT];have:=(pN (List.replicate n 0)).1;simpa using this) (by simp[dj]) (pN _).2.1 (pN _).2.2;simpa[Tb.cV,del,hne,fE]using this
def ad3(V x:Nat)(hV:V<281474976710656)(hx:x<256):bits .or .i64 ((V:Int)*256) (x:Int)=((V*256+x:Nat):Int):=by
 have e:(V:Int)*256=((V*256:Nat):Int):=H;rw[e];unfold bits;simp only[Fb,BitVec.toNat_or,Fc];have b:IntKind.i64.bits=64:=rfl;rw[b,uL O,uL O];have h:=Nat.shiftLeft_add_eq_or_of_lt (i:=8) (b:=x) O V;rw[Nat.shiftLeft_eq]at h;have h2:V*256|||x=V*256+x:=h.symm;rw[h2];exact aG
def Ms(V x:Nat)(hV:V<281474976710656)(hx:x<256):bits .or .i64 (IntKind.i64.wrap ((V:Int)*2^min 8 IntKind.i64.bits)) (IntKind.i64.wrap (x:Int))=((V*256+x:Nat):Int):=by
 have p:(2:Int)^min 8 IntKind.i64.bits=256:=rfl;rw[p,aG (n:=(V:Int)*256),aG (n:=(x:Int))];exact ad3 V x hV hx
def m7(b:aF):Nat:=b.foldl (λv x=>v*256+x.toNat) 0
def mG(b:aF)(x:UInt8):m7 (b++[x])=m7 b*256+x.toNat:=by simp[m7]
def Fe:∀(n:Nat) (b:aF),b.length=n->m7 b<256^n:=by
 intro n
 induction n with
 |zero=>intro b h;have:b=[]:=o5 h;subst this;simp[m7]
 |succ n ih=>
  intro b h;have hne:b≠[]:=by intro e;subst e;simp at h
  obtain⟨a,x,rfl⟩:∃a x,b=a++[x]:=⟨b.dropLast,b.getLast hne,(List.dropLast_concat_getLast hne).symm⟩;rw[mG];have:=ih a (by simp at h;exact h);have hx:x.toNat<256:=x.toNat_lt;rw[Nat.pow_succ];omega
def Sn(nx id:Nat)(hid:id<nx)(b:aF)(n:Nat)(hn:n<=b.length)(hb:b.length<=9223372036854775807)(h5:n<=5):bN 435 [.obj id 0,.p (.int n)] ⟨[(id,rS b false)],[],nx⟩ (.p (.int (m7 (b.take n)))) ⟨[(id,rS (b.drop n) false)],[],nx⟩:=by
 refine aC [_] func435 rfl ?_;simp;refine oM (Sl nx id hid b n hn hb) rfl ?_;obtain⟨t,ht⟩:=mH (b.take n);have lt:t.length=n:=by rw[ht];simp;omega
 rw[<-ht];simp[dj,lt];refine aS (λk:Nat=>k<=n) (λk=>[(10,.p (.sl (af t))),(11,.p (.int n)),(12,.p (.int k)),(5,.p (.int (m7 (t.take k))))]) (λ_=>⟨[(id,rS (b.drop n) false)],[],nx⟩) (λk=>n-k) 0 H _ (AS.le_refl _ _) (aB (by simp[hid,m7])) ?_;intro k hk;by_cases c1:k<n
 .have jR:k<t.length:=O;have hg:(af t)[k]?=some (.sc (.int .u8 (t[k].toNat:Int))):=by simp[af,jR]
  have hV:m7 (t.take k)<281474976710656:=by
   have h1:=Fe k (t.take k) (by simp;omega);have h2:256^k<=256^5:=Nat.pow_le_pow_right O O;have h3:(256:Nat)^5=1099511627776:=rfl;omega
  have q:=Ms (m7 (t.take k)) t[k].toNat hV t[k].toNat_lt;have q2:m7 (t.take (k+1))=m7 (t.take k)*256+t[k].toNat:=by rw[kG jR,mG]
  simp[c1,hg];refine⟨k+1,O,O,aB ?_⟩;simp[hid,q,q2,aG (n:=(k:Int)+1)]
 .have e:k=n:=O;subst e;have e2:t.take k=t:=gv O;simp[e2,results435];exact⟨[],by simp[hid]⟩
def OU(nx id:Nat)(hid:id<nx)(b:aF)(short:Bool)(n:Nat)(h:short=true\/b.length<n)(hb:b.length<=9223372036854775807)(h5:n<=5):bN 435 [.obj id 0,.p (.int n)] ⟨[(id,rS b short)],[],nx⟩ (.p (.int 0)) ⟨[(id,rS b true)],[],nx+2⟩:=by
 have hlt:id<nx+2:=O;refine aC [_] func435 rfl ?_;simp;refine oM (Mr nx id hid b short n h hb O) rfl ?_;obtain⟨t,ht⟩:∃t:aF,t=List.replicate n 0:=⟨_,rfl⟩;have lt:t.length=n:=by rw[ht];simp
 rw[<-ht];simp[dj,lt];refine aS (λk:Nat=>k<=n) (λk=>[(10,.p (.sl (af t))),(11,.p (.int n)),(12,.p (.int k)),(5,.p (.int 0))]) (λ_=>⟨[(id,rS b true)],[],nx+2⟩) (λk=>n-k) 0 H _ (AS.le_refl _ _) (aB (by simp[hlt])) ?_;intro k hk;by_cases c1:k<n
 .have jR:k<t.length:=O;have hz:t[k]=0:=by subst ht;simp
  have hg:(af t)[k]?=some (.sc (.int .u8 0)):=by simp[af,jR,hz]
  have q:bits .or .i64 (IntKind.i64.wrap 0) (IntKind.i64.wrap 0)=0:=by decide
  simp[c1,hg];refine⟨k+1,O,O,aB ?_⟩;simp[hlt,q,aG (n:=(k:Int)+1)]
 .simp[c1,results435];exact⟨[],by simp[hlt]⟩
def XT(l:Bool)(ks:List (aF))(vs:List Int)(hr:jy l ks vs=false)(hk:ks.length<=9223372036854775807)(hv:vs.length<=9223372036854775807):cq 432 [dU l ks vs] (.tp [.nil,.int 10]):=by
 refine ay [_,_] func432 rfl ?_;simp;refine cm (vU l ks vs hk hv) ?_;simp[hr,results432]
def WQ{P:Program}{f:FuncId}{xs:List AV}{tb:Tb}{r:AV}{a_:Tb}(m:Nat)(h:dm P f xs tb r a_)(hm:a_.nx<=m):dm P f xs tb r ⟨a_.bx,a_.rw,m⟩:=se h λ_ _ _ g _ _ hw hv=>⟨g,G.le_refl g,hw.sub (λ_ _ e=>e) (λ_ _ e=>e) hm,hv⟩
abbrev Ag:=aF×Bool
def Mb(s:Ag)(n:Nat):aF×Ag:=if s.2=true\/s.1.length<n then(List.replicate n 0,(s.1,true))else(s.1.take n,(s.1.drop n,false))
def jt(s:Ag)(n:Nat):Nat×Ag:=(m7 (Mb s n).1,(Mb s n).2)
def Q7(n:Nat):m7 (List.replicate n 0)=0:=by
 induction n with
 |zero=>rfl
 |succ n ih=>rw[TL,mG,ih];rfl
def alP(nx id:Nat)(hid:id<nx)(s:Ag)(n:Nat)(hb:s.1.length<=9223372036854775807)(hn:n<=1000):bN 436 [.obj id 0,.p (.int n)] ⟨[(id,rS s.1 s.2)],[],nx⟩ (.p (.sl (af (Mb s n).1))) ⟨[(id,rS (Mb s n).2.1 (Mb s n).2.2)],[],nx+2⟩:=by
 obtain⟨b,t⟩:=s;by_cases h:t=true\/b.length<n
 .have:=Mr nx id hid b t n h hb hn;simpa[Mb,h]using this
 .obtain⟨h1,h2⟩:=not_or.1 h;have ht:t=false:=U h1;subst ht;have:=WQ (nx+2) (Sl nx id hid b n O hb) H;simpa[Mb,h2]using this
def A5(nx id:Nat)(hid:id<nx)(s:Ag)(n:Nat)(hb:s.1.length<=9223372036854775807)(hn:n<=5):bN 435 [.obj id 0,.p (.int n)] ⟨[(id,rS s.1 s.2)],[],nx⟩ (.p (.int (jt s n).1)) ⟨[(id,rS (jt s n).2.1 (jt s n).2.2)],[],nx+2⟩:=by
 obtain⟨b,t⟩:=s;by_cases h:t=true\/b.length<n
 .have:=OU nx id hid b t n h hb hn;simpa[jt,Mb,h,Q7]using this
 .obtain⟨h1,h2⟩:=not_or.1 h;have ht:t=false:=U h1;subst ht;have:=WQ (nx+2) (Sn nx id hid b n O hb hn) H;simpa[jt,Mb,h2]using this
def G8{α:Type}(f:α->α):Nat->α->α
 |0,x=>x
 |n+1,x=>f (G8 f n x)
def Ah(x:List (aF)×Ag):List (aF)×Ag:=(x.1++[(Mb (jt x.2 1).2 (jt x.2 1).1).1],(Mb (jt x.2 1).2 (jt x.2 1).1).2)
def oZ(x:List Int×Ag):List Int×Ag:=(x.1++[((jt x.2 5).1:Int)],(jt x.2 5).2)
def abd(s:Ag)(n:Nat):(Mb s n).1.length=n:=by
 unfold Mb;split
 .simp
 .rename_i h;simp at h;simp;omega
def JC(s:Ag)(n:Nat):(Mb s n).2.1.length<=s.1.length:=by
 unfold Mb;split<;>simp
def tu(s:Ag)(n:Nat):(jt s n).2.1.length<=s.1.length:=JC s n
def Mc(s:Ag)(n:Nat):(jt s n).1<256^n:=Fe n _ (abd s n)
def Md(x:List (aF)×Ag):(Ah x).2.1.length<=x.2.1.length:=cT (JC _ _) (tu _ _)
def Me(x:List Int×Ag):(oZ x).2.1.length<=x.2.1.length:=tu _ _
def Q8(n:Nat)(x:List (aF)×Ag):(G8 Ah n x).2.1.length<=x.2.1.length:=by
 induction n with
 |zero=>exact aX _
 |succ n ih=>exact cT (Md _) ih
def Q9(n:Nat)(x:List Int×Ag):(G8 oZ n x).2.1.length<=x.2.1.length:=by
 induction n with
 |zero=>exact aX _
 |succ n ih=>exact cT (Me _) ih
def JD(n:Nat)(x:List (aF)×Ag):(G8 Ah n x).1.length=x.1.length+n:=by
 induction n with
 |zero=>rfl
 |succ n ih=>simp[G8,Ah,ih];omega
def WR(n:Nat)(x:List Int×Ag):(G8 oZ n x).1.length=x.1.length+n:=by
 induction n with
 |zero=>rfl
 |succ n ih=>simp[G8,oZ,ih];omega
def x8(k:Nat)(s:Ag):List (aF)×Ag:=G8 Ah k ([],s)
def RF(kind k:Nat)(s:Ag):List Int×Ag:=G8 oZ (k+if kind=1 then 0 else 1) ([],s)
def Bv(kind:Nat)(ks:List (aF))(vs:List Int)(r:Ag):Bool:=!r.2&&r.1.isEmpty&&(kind==1||kind==2)&&jy (kind==1) ks vs
def upP(kind k:Nat)(s:Ag):PC:=let K:=x8 k s;let V:=RF kind k K.2;if Bv kind K.1 V.1 V.2 then .tp [dU (kind==1) K.1 V.1,.int 0]else .tp [dU false [] [],.int 10]
def SE(b:aF)(hb:b.length<=9223372036854775807):cq 431 [.sl (af b)] (upP (jt (b,false) 1).1 (jt (jt (b,false) 1).2 1).1 (jt (jt (b,false) 1).2 1).2):=by
 have r1:=tu (b,false) 1;have l1:=Mc (b,false) 1;have c1:=A5 2 1 O (b,false) 1 hb O;generalize jt (b,false) 1=x1 at*;obtain⟨kind,s1⟩:=x1;have r2:=tu s1 1;have l2:=Mc s1 1;have RN:s1.1.length<=9223372036854775807:=cT r1 hb;have c2:=A5 4 1 O s1 1 RN O;simp only at*;generalize jt s1 1=x2 at*;obtain⟨k,s2⟩:=x2;have oK:s2.1.length<=9223372036854775807:=cT r2 RN;simp only at*;have e:upP kind k s2=CT [if Bv kind (x8 k s2).1 (RF kind k (x8 k s2).2).1 (RF kind k (x8 k s2).2).2 then dU (kind==1) (x8 k s2).1 (RF kind k (x8 k s2).2).1 else dU false [] [],.int (if Bv kind (x8 k s2).1 (RF kind k (x8 k s2).2).1 (RF kind k (x8 k s2).2).2 then 0 else 10)]:=by
  simp only[upP,CT];split<;>rfl
 refine kU (ys:=[_,_]) [10] [(6,[(1,.r 1),(4,.w [1]),(5,.w [1]),(8,.f [1]),(10,.s 1 [])]),(10,[(1,.r 1),(3,.w [1]),(5,.f [1]),(7,.s 1 [])])] [(1,6)] mixed func431 rfl bp bp (by simp[ntmps431]) e ?_;have kbe:((kind:Int)==1)=(kind==1):=by rw[uO];simp;omega
 generalize hK:x8 k s2=K;generalize hV:RF kind k K.2=V;simp;refine oM c1 rfl ?_;simp;refine oM c2 rfl ?_;simp;refine aS (λi:Nat=>i<=k) (λi=>[(2,.obj 0 0),(4,.obj 1 0),(5,.p (.int kind)),(6,.p (.int k)),(7,.obj 6 0),(18,.p (.int k)),(19,.p (.int i))]) (λi=>⟨[(6,⟨341,3,[.p (.bool (kind==1)),.own 7 ((x8 i s2).1.map PC.str),.own 8 []]⟩),(1,rS (x8 i s2).2.1 (x8 i s2).2.2),(0,⟨341,3,[.p (.bool false),.p .nil,.p .nil]⟩)],[(7,9,1),(8,3,1)],9⟩) (λi=>k-i) 0 H _ ((j9 6 1 9 1 ⟨341,3,[.p (.bool (kind==1)),.p .nil,.p .nil]⟩ [] ?_ ?_).trans (j9 6 2 3 1 ⟨341,3,[.p (.bool (kind==1)),.own 7 [],.p .nil]⟩ [] ?_ ?_)) (aB ?_) ?_
 .simp[kbe]
 .simp
 .simp[kbe]
 .simp
 .simp[kbe,x8,G8]
 .intro i hi;have q1:=Q8 i ([],s2);by_cases c:i<k
  .have hs:x8 (i+1) s2=Ah (x8 i s2):=rfl;have hl:=JD i ([],s2);have e:G8 Ah i ([],s2)=x8 i s2:=rfl;rw[e]at q1 hl;generalize x8 i s2=X at*;obtain⟨ks,s⟩:=X;simp only[fQ,pq]at q1 hl;have q2:=tu s 1;have q3:=Mc s 1;have hb3:s.1.length<=9223372036854775807:=cT q1 oK;have d1:=A5 9 1 O s 1 hb3 O;have d2:=alP 11 1 O (jt s 1).2 (jt s 1).1 (cT q2 hb3) O;simp[c];refine oM d1 rfl ?_;simp;refine oM d2 rfl ?_;simp;refine⟨O,O,i+1,O,O,aE [(7,13)] ?_⟩;simp[hs,Ah,aG (n:=(i:Int)+1)]
  .have e0:i=k:=O;subst e0;have q1:K.2.1.length<=s2.1.length:=by rw[<-hK];exact q1
   have hl:K.1.length=i:=by have:=JD i ([],s2);rw[<-hK];simpa[x8]using this
   obtain⟨ks,s3⟩:=K;simp only at hV q1 hl;have hb3:s3.1.length<=9223372036854775807:=cT q1 oK;have be:∀vs:List Int,cq 320 [.agg false [.bool (kind==1),.sl (ks.map PC.str),.sl (vs.map PC.int)]] (.int (if kind==1 then 0 else 1)):=λvs=>me _ _ _;have ebh:IntKind.i64.wrap ((i:Int)+(if kind==1 then 0 else 1:Int))=((i+if kind=1 then 0 else 1:Nat):Int):=by
    by_cases c:kind=1
    .simp[c,aG (n:=(i:Int))]
    .simp[c];exact aG
   simp[hK];refine cm (be []) ?_;simp;rw[show((if kind=1 then(0:Int)else 1))=(if kind==1 then 0 else 1:Int) by simp,ebh];obtain⟨m,hm⟩:=mH (i+if kind=1 then 0 else 1);have hm2:m<=300:=by rw[hm];split<;>omega
   rw[<-hm];have hVm:V=G8 oZ m ([],s3):=by rw[<-hV,hm];rfl
   refine aS (λj:Nat=>j<=m) (λj=>[(2,.obj 0 0),(4,.obj 1 0),(5,.p (.int kind)),(7,.obj 6 0),(35,.p (.int m)),(36,.p (.int j))]) (λj=>⟨[(6,⟨341,3,[.p (.bool (kind==1)),.own 7 (ks.map PC.str),.own 8 ((G8 oZ j ([],s3)).1.map PC.int)]⟩),(1,rS (G8 oZ j ([],s3)).2.1 (G8 oZ j ([],s3)).2.2),(0,⟨341,3,[.p (.bool false),.p .nil,.p .nil]⟩)],[(7,9,1),(8,3,1)],9⟩) (λj=>m-j) 0 H _ (AS.le_refl _ _) (aB ?_) ?_
   .simp[G8]
   .intro j hj;have w1:=Q9 j ([],s3);have w2:=WR j ([],s3);by_cases c:j<m
    .have hs:G8 oZ (j+1) ([],s3)=oZ (G8 oZ j ([],s3)):=rfl;generalize G8 oZ j ([],s3)=X at*;obtain⟨vs,s⟩:=X;simp only[fQ,pq]at w1 w2;have d1:=A5 9 1 O s 5 (cT w1 hb3) O;simp[c];refine oM d1 rfl ?_;simp;refine⟨O,O,j+1,O,O,aE [(8,11)] ?_⟩;simp[hs,oZ,aG (n:=(j:Int)+1)]
    .have e0:j=m:=O;subst e0;rw[<-hVm]at w1 w2⊢;obtain⟨vs,r,sh⟩:=V;simp only[fQ,pq]at w1 w2;cases sh
     .cases r with
      |cons x r=>simp[Bv,results431,dj]
      |nil=>
       by_cases k1:kind=1
       .subst k1;simp[Bv,dj];refine cm (vU true ks vs O O) ?_;cases hr:jy true ks vs<;>simp[results431]
       .by_cases k2:kind=2
        .subst k2;simp[Bv,dj];refine cm (vU false ks vs O O) ?_;cases hr:jy false ks vs<;>simp[results431]
        .have k1':((kind:Int) !=1)=true:=by simp;omega
         have k2':((kind:Int) !=2)=true:=by simp;omega
         simp[Bv,results431,dj,k1,k2,k1',k2']
     .simp[Bv,results431]
end Go.Av
namespace Go.Av
open Go.Proofs
end Go.Av
namespace Go.Av
open Go.Proofs Go.Proofs.Tryz Go.aL
def Nb(nx k:Nat)(hb:k<=4000000000000):bN 143 [.p .nil,.p (.int k)] ⟨[],[],nx⟩ (.view nx 0 0 1 none) ⟨[(nx,⟨5,1,[]⟩)],[],nx+1⟩:=by
 have w1:IntKind.i64.wrap (k:Int)=k:=aG;by_cases h0:k=0
 .subst h0;refine eT (r:= .p .nil) (a_:=⟨[],[],nx⟩) (el:=5) (s:=1) ?_ trivial;refine aq [_] [22] [] [] func143 rfl ?_;have z:IntKind.i64.wrap 0=0:=aG;simp[results143,z];exact⟨[],H⟩
 .have e0:0<k:=O;have z:IntKind.i64.wrap 0=0:=aG;refine aq [_] [22] [] [] func143 rfl ?_;simp[results143,w1,z,e0];exact⟨O,O,[],H⟩
def IK(nx:Nat)(L:List (List PC))(hw:∀l∈L,∀x∈l,x.width=1)(ht:∀l∈L,∀x∈l,cE x=true)(hb:(L.map List.length).sum<=1000000000000)(oK:L.length<=1000000000000):bN 57 [.p (.sl (L.map .sl))] ⟨[],[],nx⟩ (.view nx 0 (L.map List.length).sum 1 none) ⟨[(nx,⟨5,1,(L.flatten.flatMap fM).map .p⟩)],[],nx+1⟩:=by
 refine aC [_] func57 rfl ?_;simp;refine bI (λk:Nat=>k<=L.length) (λk=>[(0,.p (.sl (L.map .sl))),(2,.p .nil),(9,.p (.sl (L.map .sl))),(10,.p (.int L.length)),(3,.p (.int ((L.map List.length).take k).sum)),(11,.p (.int k))]) (λk=>L.length-k) 0 H (aB H) ?_;intro k hk;by_cases c1:k<L.length
 .have e1:decide ((k:Int)<L.length)=true:=by simp;omega
  have hs:((L.map List.length).take (k+1)).sum=((L.map List.length).take k).sum+L[k].length:=by
   rw[dS (U c1)];simp
  have DS:=eD (L.map List.length) (k+1);have w1:IntKind.i64.wrap ((((L.map List.length).take k).sum:Int)+(L[k].length:Int))=(((L.map List.length).take (k+1)).sum:Int):=by rw[hs];push_cast;exact aG
  have w2:=ju k;have e2:decide ((((L.map List.length).take (k+1)).sum:Int)<0)=false:=H;simp[c1,w1,w2];refine⟨k+1,O,O,aB ?_⟩;simp
 .have e1:decide ((k:Int)<L.length)=false:=by simp;omega
  have hk':(L.map List.length).take k=L.map List.length:=gv (by simp;omega);simp[c1,hk'];refine aN (Nb nx (L.map List.length).sum O) H trivial trivial rfl ?_;simp;refine aS (λk:Nat=>k<=L.length) (λk=>[(0,.p (.sl (L.map .sl))),(2,.p .nil),(25,.p (.sl (L.map .sl))),(26,.p (.int L.length)),(6,.view nx 0 ((L.map List.length).take k).sum 1 none),(27,.p (.int k))]) (λk=>⟨[(nx,⟨5,1,((L.take k).flatten.flatMap fM).map .p⟩)],[],nx+1⟩) (λk=>L.length-k) 0 H _ (AS.le_refl _ _) (aB H) ?_;clear hk c1 e1 hk' k;intro k hk;by_cases c1:k<L.length
  .have e1:decide ((k:Int)<L.length)=true:=by simp;omega
   have hs:((L.map List.length).take (k+1)).sum=((L.map List.length).take k).sum+L[k].length:=by
    rw[dS (U c1)];simp
   have DS:=eD (L.map List.length) (k+1);have w2:=ju k;have hwk:=hw L[k] H;have lF:=ht L[k] H;have hfl:(L.take (k+1)).flatten=(L.take k).flatten++L[k]:=by rw[dS c1];simp only[vg,jz,qW,gL]
   have hlen:(((L.take k).flatten.flatMap fM).map AV.p).length=((L.map List.length).take k).sum:=by
    have Y_:∀x∈(L.take k).flatten,x.width=1:=λx hx=>by
     obtain⟨l,hl,hx⟩:=mQ.1 hx;exact hw l (oa hl) x hx
    have:=lR Y_;simp only[pe,this,je,fG,o4]
   have An:List.take ((L.map List.length).take k).sum (((L.take k).flatten.flatMap fM).map AV.p)=((L.take k).flatten.flatMap fM).map AV.p:=gv O;simp[c1,w2];refine⟨by simpa using qI hlen.symm,hwk,lF,O,O,k+1,O,O,aE [(nx,nx+1)] ?_⟩;rw[hfl,hs,An];simp
  .have e1:decide ((k:Int)<L.length)=false:=by simp;omega
   have T8:k=L.length:=O;subst T8;have hk':(L.map List.length).take L.length=L.map List.length:=gv H;simp[results57,hk'];exact⟨[],H⟩
def Qh(L:List (List PC))(hw:∀l∈L,∀x∈l,x.width=1)(ht:∀l∈L,∀x∈l,cE x=true)(hb:(L.map List.length).sum<=1000000000000)(oK:L.length<=1000000000000):cq 57 [.sl (L.map .sl)] (.sl L.flatten):=bF (xs:=[_]) (IK 0 L hw ht hb oK) (xk (e:=5) H (by simp[je]) (λx h=>by obtain⟨l,h1,h2⟩:=mQ.1 h;exact hw l h1 x h2) (λx h=>by obtain⟨l,h1,h2⟩:=mQ.1 h;exact ht l h1 x h2))
def EA(L:List (aF))(hb:L.flatten.length<=1000000000000)(oK:L.length<=1000000000000):cq 57 [.sl (L.map cK)] (cK L.flatten):=by
 have h:=Qh (L.map af) (λl hl x hx=>by obtain⟨b,_,rfl⟩:=bE.1 hl;exact cJ b x hx) (λl hl x hx=>by obtain⟨b,_,rfl⟩:=bE.1 hl;exact j8 b x hx) (by
  have e:((L.map af).map List.length).sum=L.flatten.length:=by
   rw[je,jF];congr 1;refine yG λb _=>by simp[af]
  omega) (U oK)
 have e:(L.map af).flatten=af L.flatten:=by simp[af,F4];rfl
 rw[e,jF]at h;exact h
end Go.Av
namespace Go.aL
def Pr(a:Nat):Nat:=(a/16)^^^Go.Av.nK.getD (a%16) 0
def Ia(c:Nat)(x:UInt8):Nat:=Pr (Pr (c^^^x.toNat))
def m9(c:Nat)(b:List UInt8):Nat:=b.foldl Ia c
def m8(s:Nat)(b:List UInt8):Nat:=m9 (s^^^4294967295) b^^^4294967295
end Go.aL
namespace Go.Av
open Go.Proofs Go.Proofs.Tryz Go.aL
def vl{n:Nat}(h:n<4294967296):IntKind.u32.wrap (n:Int)=(n:Int):=by
 have e1:IntKind.u32.bits=32:=rfl;have e2:IntKind.u32.signed=false:=rfl;unfold IntKind.wrap;simp only[e1,e2,gy,dZ,dc];omega
def zQ{a b:Nat}(ha:a<4294967296)(hb:b<4294967296):bits .xor .u32 (a:Int) (b:Int)=((a^^^b:Nat):Int):=by
 unfold bits;simp only[Fb,BitVec.toNat_xor,Fc];have e:IntKind.u32.bits=32:=rfl;rw[e,uL O,uL O];exact vl (sP (n:=32) O O)
def akm{a:Nat}(ha:a<4294967296):bits .and .u32 (a:Int) 15=((a%16:Nat):Int):=by
 have h15:(15:Int)=((15:Nat):Int):=rfl;rw[h15];unfold bits;simp only[Fb,BitVec.toNat_and,Fc];have e:IntKind.u32.bits=32:=rfl;rw[e,uL O,uL O,vl (Nat.lt_of_le_of_lt Nat.and_le_left ha)];have:=Nat.and_two_pow_sub_one_eq_mod a 4;rw[show(15:Nat)=2^4-1 by rfl,this]
def akn(a:Nat):(a:Int).fdiv (2^min 4 IntKind.u32.bits)=((a/16:Nat):Int):=by
 have e:min 4 IntKind.u32.bits=4:=rfl;rw[e];show Int.fdiv (a:Int) 16=_;rw[mP _ O];omega
def M4(i:Nat):nK.getD i 0<4294967296:=by
 by_cases h:i<16
 .have:∀i,i<16->nK.getD i 0<4294967296:=by decide
  exact this i h
 .rw[u6,sN (by simp[nK];omega)];simp
def Gb{a:Nat}(h:a<4294967296):Pr a<4294967296:=sP (n:=32) O (M4 _)
def Y4{c:Nat}(h:c<4294967296)(x:UInt8):Ia c x<4294967296:=Gb (Gb (sP (n:=32) O (by have:=x.toNat_lt;omega)))
def wU{c:Nat}(h:c<4294967296)(b:aF):m9 c b<4294967296:=by
 induction b generalizing c with
 |nil=>exact h
 |cons x b ih=>exact ih (Y4 h x)
def AO{c:Nat}(h:c<4294967296)(b:aF):m8 c b<4294967296:=sP (n:=32) (wU (sP (n:=32) O O) b) O
theorem HN(c:Nat)(a b:aF):m9 c (a++b)=m9 (m9 c a) b:=qX
def Ek(c:Nat)(a:aF)(x:UInt8):m9 c (a++[x])=Ia (m9 c a) x:=by rw[HN];rfl
def Ib(a:Nat)(ha:a<4294967296):∃i q:Nat,i<16/\bits .and .u32 (a:Int) 15=(i:Int)/\(a:Int).fdiv (2^min 4 IntKind.u32.bits)=(q:Int)/\bits .xor .u32 (q:Int) ((nK[i]?.getD 0:Nat):Int)=((Pr a:Nat):Int):=⟨a%16,a/16,Nat.mod_lt _ O,akm ha,akn a,by
 have:=M4 (a%16);rw[u6]at this;rw[zQ O this];rfl⟩
def eX(l:aF)(j:Nat)(h:j<(af l).length):(af l)[j]=sS (l[j]'(by simpa[af]using h)):=by simp[af]
abbrev kR(n:Nat):PC:= .sc (.int .u32 n)
@[simp]def ahP:kZ prog 241=some (16,1,false):=bp
def K8(s:Nat)(hs:s<4294967296)(L:List (aF))(hL:L.length<=1000000000000)(hb:∀b∈L,b.length<=1000000000000):cq 58 [kR s,.sl (L.map cK)] (kR (m8 s L.flatten)):=by
 have h0:s^^^4294967295<4294967296:=sP (n:=32) O O;have x0:=zQ (a:=s) (b:=4294967295) hs O;have x1:bits .xor .u32 4294967295 (s:Int)=((s^^^4294967295:Nat):Int):=by rw[Nat.xor_comm];exact zQ (a:=4294967295) O hs
 refine ay [_] func58 rfl ?_;have mx:IntKind.u32.max=4294967295:=rfl;have sg:IntKind.u32.signed=false:=rfl;simp[mx,sg,x1];refine bI (λk:Nat=>k<=L.length) (λk=>[(12,.p (.sl (L.map cK))),(13,.p (.int L.length)),(14,.p (.int k)),(5,.p (kR (m9 (s^^^4294967295) (L.take k).flatten)))]) (λk=>L.length-k) 0 H (aB (by simp[m9])) ?_;intro k hk;by_cases ck:k<L.length
 .simp[ck];refine bI (λj:Nat=>j<=L[k].length) (λj=>[(12,.p (.sl (L.map cK))),(13,.p (.int L.length)),(14,.p (.int k)),(18,.p (cK L[k])),(19,.p (.int L[k].length)),(20,.p (.int j)),(5,.p (kR (m9 (s^^^4294967295) ((L.take k).flatten++L[k].take j))))]) (λj=>L[k].length-j) 0 H (aB H) ?_;intro j hj;have hbk:=hb _ (bB ck);by_cases cj:j<L[k].length
  .have w1:=ju j;have hC:m9 (s^^^4294967295) ((L.take k).flatten++L[k].take j)<4294967296:=wU h0 _;have hts:m9 (s^^^4294967295) ((L.take k).flatten++L[k].take (j+1))=Ia (m9 (s^^^4294967295) ((L.take k).flatten++L[k].take j)) L[k][j]:=by
    rw[kG cj,<-cW,Ek]
   generalize m9 (s^^^4294967295) ((L.take k).flatten++L[k].take j)=C at*;have wx:IntKind.u32.wrap (L[k][j].toNat:Int)=(L[k][j].toNat:Int):=vl (by have:=L[k][j].toNat_lt;omega);have hX:C^^^L[k][j].toNat<4294967296:=sP (n:=32) O (by have:=L[k][j].toNat_lt;omega);have xa:=zQ hC (b:=L[k][j].toNat) (by have:=L[k][j].toNat_lt;omega);obtain⟨i1,q1,l1,a1,s1,y1⟩:=Ib _ hX;obtain⟨i2,q2,l2,a2,s2,y2⟩:=Ib _ (Gb hX);simp[cj,w1,eX,wx,xa,a1,s1,y1,a2,s2,y2];exact⟨O,O,j+1,O,O,aB (by simp[hts,Ia])⟩
  .obtain rfl:j=L[k].length:=O;have w1:=ju k;have hfl:(L.take (k+1)).flatten=(L.take k).flatten++L[k]:=by rw[kG ck];simp only[vg,jz,qW,gL]
   simp[w1];exact⟨k+1,O,O,aB (by simp[hfl])⟩
 .obtain rfl:k=L.length:=O;have hC:m9 (s^^^4294967295) L.flatten<4294967296:=wU h0 _;have x2:bits .xor .u32 4294967295 (m9 (s^^^4294967295) L.flatten:Int)=((m8 s L.flatten:Nat):Int):=by
   have:=zQ (a:=4294967295) O hC;rw[Nat.xor_comm 4294967295 (m9 _ _)]at this;exact this
  simp[mx,sg,x2,results58]
end Go.Av
namespace Go.aL
def xw(b:List UInt8):Nat:=m8 0 b
def four(n:Nat):List UInt8:=[UInt8.ofNat n,UInt8.ofNat (n/256),UInt8.ofNat (n/65536),UInt8.ofNat (n/16777216)]
def frame(b:List UInt8):List UInt8:=b++four (xw b)
def fN(b:List UInt8):List UInt8×Int:=if b.length<4 then([],11)else if b.drop (b.length-4)=four (xw (b.take (b.length-4)))then(b.take (b.length-4),0)else([],33)
def Jc(n:Nat):(four n).length=4:=rfl
theorem gY(b:List UInt8):(frame b).length=b.length+4:=by simp[frame,four]
def uP(b:List UInt8):fN (frame b)=(b,0):=by
 unfold fN;rw[if_neg (by rw[gY];omega)];have e:(frame b).length-4=b.length:=by rw[gY];omega
 rw[e];have h1:(frame b).take b.length=b:=by simp[frame]
 have h2:(frame b).drop b.length=four (xw b):=by simp[frame]
 rw[h1,h2,if_pos rfl]
def Z0{b x:List UInt8}(h:fN b=(x,0)):b=frame x:=by
 unfold fN at h;split at h
 .cases h
 .split at h
  .rename_i h1 h2;injection h with h3 _;rw[<-h3];unfold frame;rw[<-h2,List.take_append_drop]
  .cases h
end Go.aL
namespace Go.Av
open Go.Proofs Go.Proofs.Tryz Go.aL
def VA(L:List (aF))(hL:L.length<=1000000000000)(hb:∀b∈L,b.length<=1000000000000):cq 69 [.sl (L.map cK)] (kR (xw L.flatten)):=by
 refine ay [_] func69 rfl ?_;simp;refine cm (K8 0 O L hL hb) ?_;simp[results69,xw]
def N_(n:Nat)(h:n<4294967296):cq 251 [kR n] (cK (four n)):=by
 have w8:∀m:Nat,IntKind.u8.wrap (m:Int)=((UInt8.ofNat m).toNat:Int):=ZY;have s8:(n:Int).fdiv (2^min 8 IntKind.u32.bits)=((n/256:Nat):Int):=by
  show Int.fdiv (n:Int) 256=_;rw[mP _ O];omega
 have s16:(n:Int).fdiv (2^min 16 IntKind.u32.bits)=((n/65536:Nat):Int):=by
  show Int.fdiv (n:Int) 65536=_;rw[mP _ O];omega
 have s24:(n:Int).fdiv (2^min 24 IntKind.u32.bits)=((n/16777216:Nat):Int):=by
  show Int.fdiv (n:Int) 16777216=_;rw[mP _ O];omega
 refine ay [_] func251 rfl ?_;have e:af (four n)=[sS (UInt8.ofNat n),sS (UInt8.ofNat (n/256)),sS (UInt8.ofNat (n/65536)),sS (UInt8.ofNat (n/16777216))]:=rfl;show aw _ _ _ _ (ur _ _ (ED [PC.sl (af (four n))]));rw[e];obtain⟨a,ha,s8⟩:∃a:Nat,n/256=a/\(n:Int).fdiv (2^min 8 IntKind.u32.bits)=(a:Int):=⟨_,rfl,s8⟩;obtain⟨b,hb,s16⟩:∃a:Nat,n/65536=a/\(n:Int).fdiv (2^min 16 IntKind.u32.bits)=(a:Int):=⟨_,rfl,s16⟩;obtain⟨c,hc,s24⟩:∃a:Nat,n/16777216=a/\(n:Int).fdiv (2^min 24 IntKind.u32.bits)=(a:Int):=⟨_,rfl,s24⟩;rw[ha,hb,hc];have v0:=w8 n;have v8:=w8 a;have v16:=w8 b;have v24:=w8 c;simp[s8,s16,s24,v0,v8,v16,v24,results251]
def Jp(L:List (aF)):((L.map af).map List.length).sum=L.flatten.length:=by
 rw[je,jF];congr 1;refine yG λb _=>by simp[af]
def alJ(L:List (aF)):(L.map af).flatten=af L.flatten:=by simp[af,F4];rfl
@[reducible]def gE(b:aF):Ob:=⟨5,1,(af b).map .p⟩
def agZ(nx:Nat)(L:List (aF))(hb:L.flatten.length<=1000000000000)(oK:L.length<=1000000000000):bN 57 [.p (.sl (L.map cK))] ⟨[],[],nx⟩ (.view nx 0 L.flatten.length 1 none) ⟨[(nx,gE L.flatten)],[],nx+1⟩:=by
 have h:=IK nx (L.map af) (λl hl x hx=>by obtain⟨b,_,rfl⟩:=bE.1 hl;exact cJ b x hx) (λl hl x hx=>by obtain⟨b,_,rfl⟩:=bE.1 hl;exact j8 b x hx) (by rw[Jp];exact hb) (U oK);rw[Jp,alJ,j7,jF]at h;exact h
def Ch(bx:List (Nat×Ob))(k id:Nat)(b:aF)(h:lk id bx=some (gE b))(n:Nat)(hn:n=b.length):dA bx (k+1) (.view id 0 n 1 none) (cK b):=by
 subst hn;refine⟨_,h,O,by simp[af],by simp[af],?_,?_,?_⟩
 .rw[wX,j7];simp only[jx,o4];exact gv (by simp[af])
 .exact cJ b
 .exact j8 b
def Cg(L:List (aF))(hL:L.flatten.length<=1000000000)(hL2:L.length<=1000000000):cq 178 [.sl (L.map cK)] (cK (frame L.flatten)):=by
 have hb:∀b∈L,b.length<=1000000000000:=λb hb=>by
  have:b.length<=L.flatten.length:=(List.sublist_flatten_of_mem hb).length_le;omega
 have hs:xw L.flatten<4294967296:=AO O _;refine bF (xs:=[_]) (r:= .view 1 0 (frame L.flatten).length 1 none) (a_:=⟨[(1,gE (frame L.flatten))],[],2⟩) ?_ (Ch _ 3 1 _ (by simp[lk]) _ rfl);refine aC [_] func178 rfl ?_;simp;refine aN (agZ 0 L O O) H trivial trivial rfl ?_;simp;refine cm (VA L O hb) ?_;simp;refine cm (N_ _ hs) ?_;simp[results178];have f4:=Jc (xw L.flatten);have hfl:(L.map List.length).sum=L.flatten.length:=je.symm;have ft:List.take L.flatten.length (List.map AV.p (af L.flatten))=List.map AV.p (af L.flatten):=gv (by rw[pe];unfold af;rw[pe];exact aX _);refine⟨cJ _,j8 _,O,O,[],?_⟩;rw[hfl,ft,j7,gY,f4];simp[frame,af]
def VQ(a b:List (UInt8))(ha:a.length<=1000000000000)(hb:b.length<=1000000000000):cq 250 [.sl (a.map sS),.sl (b.map sS)] (.bool (decide (a=b))):=by
 refine ay [.bool _] func250 rfl ?_;by_cases c0:a.length=b.length
 .have n0:((a.length:Int) !=(b.length:Int))=false:=by simp[c0]
  simp[n0];refine bI (λk:Nat=>k<=a.length/\a.take k=b.take k) (λk=>[(0,.p (.sl (a.map sS))),(1,.p (.sl (b.map sS))),(12,.p (.int a.length)),(13,.p (.int k))]) (λk=>a.length-k) 0 H (aB H) ?_;rintro k ⟨h1,h2⟩;by_cases c1:k<a.length
  .have c2:k<b.length:=O;have w1:=ju k;by_cases c3:a[k]=b[k]
   .have n3:((a[k].toNat:Int) !=(b[k].toNat:Int))=false:=by simp[c3]
    simp[c1,c2,w1,n3];refine⟨k+1,⟨O,?_⟩,O,aB H⟩;rw[kG c1,kG c2,h2,c3]
   .have hne:a≠b:=λh=>c3 (by subst h;rfl);have n4:¬a[k].toNat=b[k].toNat:=λh=>c3 (yt.1 h);have n3:((a[k].toNat:Int) !=(b[k].toNat:Int))=true:=by simp[bne];omega
    simp[c1,c2,n3,hne,results250]
  .have he:a=b:=by
    have e:k=a.length:=O;subst e;rw[eH]at h2;rw[h2,c0,eH]
   subst he;simp[c1,results250]
 .have n0:((a.length:Int) !=(b.length:Int))=true:=by simp[bne];omega
  have hne:a≠b:=λh=>c0 (by rw[h]);simp[n0,hne,results250]
def Gy(b:aF)(hb:b.length<=1000000000):cq 158 [cK b] (.tp [cK (fN b).1,.int (fN b).2]):=by
 have w1:IntKind.i64.wrap ((b.length:Int)-4)=(b.length:Int)-4:=aG;refine ay [_,_] func158 rfl ?_;by_cases c1:b.length<4
 .have e:fN b=([],11):=by unfold fN;rw[ai c1]
  have c2:(b.length:Int)-4<0:=O;rw[e];simp[w1,c2,results158,af]
 .have c2:¬(b.length:Int)-4<0:=O;obtain⟨n,hn⟩:∃n,b.length=n+4:=⟨b.length-4,O⟩;have e4:b.length-4=n:=O;have e5:(b.length:Int)-4=(n:Int):=O;rw[e5]at w1 c2;have hS:=VA [b.take n] H (by simp;omega);have hs:xw [b.take n].flatten<4294967296:=AO O _;have hF:=N_ _ hs;have hE:=VQ (b.drop n) (four (xw [b.take n].flatten)) (by simp;omega) (by rw[Jc];omega);have hC:=kM (b.take n) (by simp;omega);have ef:[b.take n].flatten=b.take n:=H;rw[ef]at hS hs hF hE;unfold fN;rw[ah c1,e4];have tk:List.take n (af b)=af (b.take n):=by simp[af]
  have dk:List.drop n (af b)=af (b.drop n):=by simp[af]
  have bw:∀y∈af b,1=y.width:=λy h=>(cJ b y h).symm;simp[e5,w1,c2,tk,dk];refine⟨bw,O,bw,O,aZ hS ?_⟩;simp;refine aZ hF ?_;simp;refine aZ hE ?_;by_cases c3:b.drop n=four (xw (b.take n))
  .simp[c3,tk];refine⟨bw,O,fY hC H ?_⟩;simp[results158]
  .simp[c3,results158,af]
end Go.Av
namespace Go.aL
def secs:Nat->List UInt8->List dY
 |0,_=>[]
 |k+1,b=>if b=[]then[]else(b.take 64++List.replicate (64-b.length) 0)::secs k (b.drop 64)
def b9(b:List UInt8):List dY:=secs b.length b
def kH(kind:Int)(b:List UInt8):List UInt8×Int:=if kind<1\/255<kind then([],2)else if 505<b.length then([],12)else(frame (UInt8.ofNat kind.toNat::UInt8.ofNat (b.length/256)::UInt8.ofNat b.length::(b++List.replicate (505-b.length) 0)),0)
def oe(b:List UInt8):Nat×List UInt8×Int:=if(fN b).2≠0\/b.length≠512 then(0,[],33)else
 let x:=(fN b).1
 let k:=(x.getD 0 0).toNat
 let n:=(x.getD 1 0).toNat*256+(x.getD 2 0).toNat
 if k=0\/505<n\/((x.drop (3+n)).any λc=>!(c==0))=true then(0,[],33)
 else(k,(x.drop 3).take n,0)
end Go.aL
namespace Go.Av
open Go.Proofs Go.Proofs.Tryz Go.aL
def GF(L:List (aF))(hb:L.flatten.length<=1000000000000)(oK:L.length<=1000000000000):cq 68 [.sl (L.map cK)] (cK L.flatten):=by
 refine ay [_] func68 rfl ?_;simp;refine cm (EA L hb oK) ?_;simp[results68]
def akI(c:UInt8):cq 439 [sS c] (.bool (!(c==0))):=by
 refine ay [_] func439 rfl ?_;have e:(!(c==0))=((c.toNat:Int) !=0):=by
  by_cases h:c=0
  .subst h;rfl
  .have h1:(c==0)=false:=U h;have h2:¬c.toNat=0:=λh3=>h (yt.1 h3);have h3:((c.toNat:Int)==0)=false:=by simp;omega
   simp[bne,h1,h3]
 rw[e];simp[results439]
def ZX(kind:Int)(hk:-9223372036854775808<=kind/\kind<=9223372036854775807)(L:List (aF))(hL:L.flatten.length<=1000000000)(hL2:L.length<=1000000000):cq 437 [.int kind,.sl (L.map cK)] (.tp [cK (kH kind L.flatten).1,.int (kH kind L.flatten).2]):=by
 have hJ:=GF L O O;refine dK [_,_] [36] [] [] func437 rfl ?_;generalize L.flatten=b at*;simp;refine cm hJ ?_;unfold kH;by_cases c1:kind<1
 .rw[ai (.inl c1)];simp[c1,results437,af]
 .by_cases c2:255<kind
  .rw[ai (.inr c2)];simp[c1,c2,results437,af]
  .rw[ah O];obtain⟨K,rfl⟩:∃K:Nat,kind=K:=⟨kind.toNat,O⟩;by_cases c3:505<b.length
   .have mg:(505:Int)<b.length:=O;rw[ai c3];simp[c1,c2,mg,results437,af]
   .have mg:¬(505:Int)<b.length:=O;rw[ah c3];have wk:=ZY K;have wl:=ZY b.length;have wh:=ZY (b.length/256);obtain⟨h,hh,sh⟩:∃a:Nat,b.length/256=a/\(b.length:Int).fdiv (2^min 8 IntKind.i64.bits)=(a:Int):=⟨_,rfl,by
     show Int.fdiv (b.length:Int) 256=_;rw[mP _ O];omega⟩
    obtain⟨z,hz⟩:∃z:Nat,505-b.length=z:=⟨_,rfl⟩;have wz:IntKind.i64.wrap (505-(b.length:Int))=(z:Int):=by rw[aG];omega
    rw[hh]at wh⊢;rw[hz];have bz:af (List.replicate z 0)=List.replicate z (PC.sc (.int .u8 0)):=by simp[af]
    have hF:=Cg [[UInt8.ofNat K,UInt8.ofNat h,UInt8.ofNat b.length],b,List.replicate z 0] (by simp;omega) H;have ef:[[UInt8.ofNat K,UInt8.ofNat h,UInt8.ofNat b.length],b,List.replicate z 0].flatten=UInt8.ofNat K::UInt8.ofNat h::UInt8.ofNat b.length::(b++List.replicate z 0):=H;rw[ef]at hF;have be:af [UInt8.ofNat K,UInt8.ofNat h,UInt8.ofNat b.length]=[sS (UInt8.ofNat K),sS (UInt8.ofNat h),sS (UInt8.ofNat b.length)]:=rfl;simp[c1,c2,mg,wk,wl,wh,sh,wz];refine⟨O,by unfold maxLen;omega,fY hF (by simp[bz,be]) ?_⟩;simp[results437]
def Qm(b:aF)(hb:b.length<=1000000000):cq 434 [cK b] (.tp [.int (oe b).1,cK (oe b).2.1,.int (oe b).2.2]):=by
 have hO:=Gy b hb;refine ay [_,_,_] func434 rfl ?_;by_cases c1:(fN b).2=0
 .by_cases c2:b.length=512
  .unfold oe;rw[ah (by simp[c1,c2])];obtain⟨x,hx⟩:∃x,fN b=(x,0):=⟨(fN b).1,by rw[<-c1]⟩;have Kg:=Z0 hx;have hxl:x.length=508:=by have:=gY x;rw[<-Kg]at this;omega
   rw[hx]at hO⊢;obtain⟨x0,x1,x2,r,rfl⟩:∃x0 x1 x2 r,x=x0::x1::x2::r:=by
    match x,hxl with
    |x0::x1::x2::r,_=>exact⟨x0,x1,x2,r,rfl⟩
   have hrl:r.length=505:=U hxl;have bc:∀(a:UInt8) (l:aF),af (a::l)=sS a::af l:=λ_ _=>rfl;have n2:((b.length:Int) !=512)=false:=by simp[c2]
   have ho:=Ms x1.toNat x2.toNat (by have:=x1.toNat_lt;omega) (by have:=x2.toNat_lt;omega);have w0:IntKind.i64.wrap (x0.toNat:Int)=(x0.toNat:Int):=bQ O (by have:=x0.toNat_lt;omega);have w1:IntKind.i64.wrap (x1.toNat:Int)=(x1.toNat:Int):=bQ O (by have:=x1.toNat_lt;omega);obtain⟨N,hN⟩:∃N:Nat,x1.toNat*256+x2.toNat=N:=⟨_,rfl⟩;simp only[u6,Kx,Ky,rf,hN];rw[hN]at ho;simp;refine cm hO ?_;by_cases c3:x0.toNat=0
   .have mg:((x0.toNat:Int)==0)=true:=by simp[c3]
    rw[ai (.inl c3)];have wz:IntKind.i64.wrap 0=0:=aG;simp[n2,ho,w1,c3,wz,results434,af]
   .have mg:((x0.toNat:Int)==0)=false:=by simp;omega
    by_cases c4:505<N
    .have uy:(505:Int)<N:=O;rw[ai (.inr (.inl c4))];simp[n2,ho,w0,w1,mg,uy,results434,af]
    .have uy:¬(505:Int)<N:=O;have w3:IntKind.i64.wrap (3+(N:Int))=((3+N:Nat):Int):=by rw[aG];rfl
     have dk:List.drop N (af r)=af (r.drop N):=by simp[af]
     have tk:List.take N (af r)=af (r.take N):=by simp[af]
     have hA:=aff 439 [] (λc=>!(c==0)) (r.drop N) (by simp;omega) (λx _=>akI x);have hC:=kM (r.take N) (by simp;omega);have bw:∀y∈af r,1=y.width:=λy h=>(cJ r y h).symm;have d3:List.drop (3+N) (x0::x1::x2::r)=r.drop N:=by rw[show 3+N=N+1+1+1 by omega];rfl
     have e3:((3:Int)+N).toNat=N+1+1+1:=O;have b3:(3:Int)+N<=r.length+1+1+1:=O;have b4:(0:Int)<=3+N:=O;rw[d3];simp[n2,bc,ho,w0,w1,w3,c3,mg,c4,uy,e3,dk];refine⟨bw,O,O,fY hA (by simp[af]) ?_⟩;by_cases c5:((r.drop N).any λc=>!(c==0))=true
     .have c6:∃x,x∈r.drop N/\¬x=0:=U c5;rw[c5];simp[c6,results434,af]
     .have c6:¬∃x,x∈r.drop N/\¬x=0:=U c5;have BP:((r.drop N).any λc=>!(c==0))=false:=U c5;rw[BP];simp[c6,e3,tk,w3,bc];refine⟨bw,O,O,fY hC H ?_⟩;simp[results434]
  .have eY:((b.length:Int) !=512)=true:=by simp[bne];omega
   have hU:oe b=(0,[],33):=by unfold oe;rw[ai (.inr c2)]
   obtain⟨x,hx⟩:∃x,fN b=(x,0):=⟨(fN b).1,by rw[<-c1]⟩;rw[hx]at hO;rw[hU];simp;refine cm hO ?_;simp[eY,results434,af]
 .have jR:((fN b).2 !=0)=true:=U c1;have hU:oe b=(0,[],33):=by unfold oe;rw[ai (.inl c1)]
  rw[hU];simp;refine cm hO ?_;simp[jR,results434,af]
end Go.Av
namespace Go.Proofs
open Go.RowKit Go.Shelf
attribute [local go_sem] Oper.semAt_some
def Tryz.piece(b off len k:Nat):Value:= .slice (some ⟨b,off+64*k,none⟩) (Nat.min 64 (len-64*k)) (Nat.min 64 (len-64*k))
def Tryz.IQ(n:Nat)(hn:1<=n)(l Bs os Bn on b off len cap:Nat)(hlen:len<=1000000000)(hcap:len<=cap)(J Jx:List Nat->World->Prop)(Kp:World->World->Prop)(hK:∀A B,Kp A B->(∀v,A.cell? ⟨Bs,os,none⟩=some v->B.cell? ⟨Bs,os,none⟩=some v)/\∀v,A.cell? ⟨Bn,on,none⟩=some v->B.cell? ⟨Bn,on,none⟩=some v)(hY:∀pre k W,J pre W->pre.length<(len+63)/64->YieldAt Fence.wide (n-1) Tryz.prog l #[Tryz.piece b off len k] W λe W'=>
 (e= .returned (.bool true)/\J (pre++[k]) W'/\Kp W W')\/(e= .returned (.bool false)/\Jx (pre++[k]) W'))(W:World)(hJA:AbidesFrom W.heap.size J)(ZU:W.cell? ⟨Bs,os,none⟩=some (.slice (some ⟨b,off,none⟩) len cap))(hBn:W.cell? ⟨Bn,on,none⟩=some (.int .i64 64))(h0:J [] W):CallsIn Fence.wide n Tryz.prog 304 #[.func (.yield l) #[] #[],.pointer (some ⟨Bs,os,none⟩),.pointer (some ⟨Bn,on,none⟩)] W λe W'=>(∃v,e= .returned v)/\((∃ys,ys=List.range ((len+63)/64)/\J ys W')\/(∃pre,Jx pre W')):=by
 refine callsIn_of_wp Tryz.func304 rfl trivial ?_ rfl;simp only[Tryz.ntmps304,List.size_toArray,List.length_cons,List.length_nil,Nat.reduceAdd,Nat.reduceSub,Array.replicate_succ,Array.replicate_zero,List.push_toArray,List.append_toArray,List.nil_append,List.cons_append]
 gi_wp2
 gi_loopw [4] (λi wr=>∃k:Nat,k<=(len+63)/64/\i= .int .i64 ((64*k:Nat):Int)/\J (List.range k) wr/\wr.cell? ⟨Bs,os,none⟩=some (.slice (some ⟨b,off,none⟩) len cap)/\wr.cell? ⟨Bn,on,none⟩=some (.int .i64 64)) (λi _=>len-(intOf i).toNat)
 case atStart=>exact⟨0,Nat.zero_le _,rfl,h0,ZU,hBn⟩
 case round=>
  obtain⟨k,hk,rfl,hJs,hs',hn'⟩:=hrel;by_cases hlt:64*k<len
  .have hm:Tryz.prog.follows .mixedOrders=true:=bp;have e1:(64*(k:Int)).toNat=64*k:=O;have e3:64*k<=len:=O;have e4:¬cap=64*k:=O;have e5:64*k<=cap:=O;have e6:(0:Int)<=64*(k:Int):=O;have e7:64*(k:Int)<=(len:Int):=O
   gi_wp2
   gi_big_quiet_th_o (fail)
   have hg:wr.grownBy (wr.drewN nq) none:=⟨rfl,rfl,rfl,Nat.le_refl _,λ_ _ _=>rfl⟩;have hJ2:=hJA _ _ _ none hJs hg (λr e=>by cases e);have hif:(if((len-64*k:Nat):Int)<64 then((len-64*k:Nat):Int)else 64)=((Nat.min 64 (len-64*k):Nat):Int):=by
    show _=((min 64 (len-64*k):Nat):Int);omega
   simp only[hif];obtain⟨fn,tmps,assign,body,hy,hR⟩:=hY _ k _ hJ2 (by simp;omega);have RT:Nat.min 64 (len-64*k)<=64:=Nat.min_le_left _ _;have hm2:Nat.min 64 (len-64*k)<=len-64*k:=Nat.min_le_right _ _;simp only[Tryz.piece]at hy;generalize Nat.min 64 (len-64*k)=m at RT hm2 hy hif;have zH:(wr.drewN nq).cell? ⟨Bs,os,none⟩=some (.slice (some ⟨b,off,none⟩) len cap):=hs';have hn2:(wr.drewN nq).cell? ⟨Bn,on,none⟩=some (.int .i64 64):=hn';generalize wr.drewN nq=wq at hJ2 hy hR zH hn2
   gi_wp2
   refine hR.mono ?_;rintro e W3 (⟨rfl,hJ3,hk3⟩|⟨rfl,apP⟩)
   .have hs3:=(hK _ _ hk3).1 _ zH;have hn3:=(hK _ _ hk3).2 _ hn2;have ee:(64*(k:Int)+64)=((64*(k+1):Nat):Int):=O
    gi_wp2
    go_roundw
    case rel=>exact⟨k+1,O,H,by rw[List.range_succ];exact hJ3,hs3,hn3⟩
    case measure=>simp[intOf];omega
   .gi_wp2
    refine bodyPost_ret (results_none rfl _ _ _) rfl ?_;exact⟨⟨_,rfl⟩,.inr ⟨_,apP⟩⟩
  .gi_wp2
   go_end0
   obtain rfl:k=(len+63)/64:=O;exact⟨⟨_,rfl⟩,.inl ⟨_,rfl,hJs⟩⟩
def Tryz.GA(n:Nat)(l Bs os Bn on c:Nat)(sa:Option Addr)(J:List Nat->World->Prop)(W:World)(ZU:W.cell? ⟨Bs,os,none⟩=some (.slice sa 0 c))(h0:J [] W):CallsIn Fence.wide n Tryz.prog 304 #[.func (.yield l) #[] #[],.pointer (some ⟨Bs,os,none⟩),.pointer (some ⟨Bn,on,none⟩)] W λe W'=>(∃v,e= .returned v)/\J [] W':=by
 refine callsIn_of_wp Tryz.func304 rfl trivial ?_ rfl;simp only[Tryz.ntmps304,List.size_toArray,List.length_cons,List.length_nil,Nat.reduceAdd,Nat.reduceSub,Array.replicate_succ,Array.replicate_zero,List.push_toArray,List.append_toArray,List.nil_append,List.cons_append]
 gi_wp2
 gi_loopw [4] (λi wr=>i= .int .i64 0/\J [] wr/\wr.cell? ⟨Bs,os,none⟩=some (.slice sa 0 c)) (λ_ _=>0)
 case atStart=>exact⟨rfl,h0,ZU⟩
 case round=>
  obtain⟨rfl,hJs,hs'⟩:=hrel
  gi_wp2
  go_end0
  exact⟨⟨_,rfl⟩,hJs⟩
end Go.Proofs
namespace Go.Av
open Go.RowKit
section
variable{P:Program}{tb:Tb}{kt:AV->Tb->Prop}
@[simp]def aiT{l xs:List AV}{gf:FuncId}:Ac P l tb kt (.mB (.func gf) xs)=td P gf (l++xs) tb kt:=(rfl)
@[simp]def aiU{l xs:List AV}{gf:FuncId}:Ac P l tb kt (.pK (.func gf) xs)=td P gf (xs++l) tb kt:=(rfl)
@[simp]def apz{f:Fn}{xs:List AV}:(AV.mB f xs).nm= .mB f xs:=(rfl)
@[simp]def apA{f:Fn}{xs:List AV}:(AV.pK f xs).nm= .pK f xs:=(rfl)
@[simp]def agQ{f:Fn}{xs:List AV}:(AV.mB f xs).dW=some [.mB f xs]:=(rfl)
@[simp]def agR{f:Fn}{xs:List AV}:(AV.pK f xs).dW=some [.pK f xs]:=(rfl)
@[congr]def aa2{gf:FuncId}{l l':List AV}(h:l=l'):td P gf l tb kt=td P gf l' tb kt:=by rw[h]
def Wk{gf:FuncId}{ys l:List AV}{ts ts':Tb}{r:AV}(h:dm P gf ys ts r ts')(hl:toAll l ys)(hb:aA tb.bx ts.bx)(hr:aA tb.rw ts.rw)(hn:ts.nx=tb.nx)(hk:kt r (tb.merge ts ts')):td P gf l tb kt:=⟨ys,ts,r,ts',hl,h,hb,hr,hn,hk⟩
def bK{gf:FuncId}{ys l:List AV}{ts ts':Tb}{r:AV}(rn:List Nat)(h:dm P gf ys ts r ts')(hs:rn.length=ts.nx/\ts.nx<=ts'.nx/\rn.Nodup/\∀j∈rn,j<tb.nx)(hl:toAll l (AV.cp.eu (fh rn tb.nx) ys))(hb:aA tb.bx (fD (fh rn tb.nx) ts.bx))(hr:aA tb.rw (jj (fh rn tb.nx) ts.rw))(hk:kt (r.cp (fh rn tb.nx)) (tb.merge (ts.cp (fh rn tb.nx)) (ts'.cp (fh rn tb.nx)))):td P gf l tb kt:=Wk (xg h rn tb.nx hs.1 hs.2.1 hs.2.2.1 hs.2.2.2) hl hb hr (by show fh rn tb.nx ts.nx=tb.nx;grind [pF]) hk
end
end Go.Av
