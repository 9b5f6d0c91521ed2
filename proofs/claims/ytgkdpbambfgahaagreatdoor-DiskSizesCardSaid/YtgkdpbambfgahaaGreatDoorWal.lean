/- DiskSizes, part 12: what the functions compute, and the plain law of that; no condition. -/
import Derived.Test.YtgkdpbambfgahaaGreatDoorWak
set_option linter.all false
set_option maxRecDepth 100000
set_option maxHeartbeats 64000000
namespace Go.Av
open Go.Proofs
theorem SA:dV Tryz.prog 326:=⟨Tryz.f326,Tryz.func326,by kernel_rfl,by kernel_rfl⟩
theorem EP(nx id:Nat)(hid:id<nx)(cs:List PC)(n i j:Nat)(vs:List PC)(hn:cs.length=n*1)(hij:i<j)(hj:j<=n)(hw:∀x∈vs,x.width=1)(ht:∀x∈vs,cF x=true)(hb:n<=1000000000000)(uy:vs.length<=1000000000000):aI Tryz.prog 326 [.view id 0 n 1 none,.p (.int i),.p (.int j),.p (.sl vs)] ⟨[(id,⟨3,1,cs.map .p⟩)],[],nx⟩ (.view nx 0 (i+vs.length+(n-j)) 1 none) ⟨[(nx,⟨3,1,(cs.take (i*1)++vs.flatMap gu++cs.drop (j*1)).map .p⟩)],[],nx+1⟩:=by
 have hne:¬id=nx:=by omega
 have mc:¬nx=id:=by omega
 have gR:(cs.map AV.p).length=n:=by simp;omega
 have hvl:(vs.flatMap gu).length=vs.length:=by have:=mm hw;omega
 have Ab:((vs.flatMap gu).map AV.p).length=vs.length:=by simpa using hvl
 have m3:List.take vs.length vs=vs:=List.take_length;refine jm (pre:=[]) (post:=[_,_,_]) SA (fun c h1 h2 h3=>?_) (fun h0=>by omega);have lg:∀k:Int,0<=k->k<=4000000000000->IntKind.i64.wrap k=k:=fun k h1 h2=>af (by omega) (by omega);refine QgQ (rs:=[_]) [] [(13,[(9,.w [])]),(18,[(9,.w [])]),(22,[(9,.w [])])] [] Tryz.func326 rfl (by simp[Tryz.ntmps326]) ?_;have e0:((i:Int)==(j:Int))=false:=by rw[beq_eq_false_iff_ne];omega
 generalize hA:cs.map AV.p=A at*;have hVl:∀m,AV.e_.eE m ((vs.flatMap gu).map AV.p)=true:=fun m=>XR;have hVr:∀ρ,AV.cH.dA ρ ((vs.flatMap gu).map AV.p)=(vs.flatMap gu).map AV.p:=fun ρ=>XQ;generalize hV:(vs.flatMap gu).map AV.p=V at*;by_cases c1:j=n
 ·subst c1;have Dw:List.drop j A=[]:=List.drop_of_length_le (by omega);by_cases c2:i+vs.length<j
  ·have e2:decide ((i:Int)+(vs.length:Int)<(j:Int))=true:=by simp;omega
   have t1:((i:Int)+(vs.length:Int)).toNat=i+vs.length:=by omega
   simp[e0,e2,t1,Tryz.results326,hne,hV]
   repeat' refine And.intro ?_ ?_
   all_goals first|omega|assumption|skip
   refine .inl ?_
   repeat' refine And.intro ?_ ?_
   all_goals first|omega|assumption|(simp;omega)|skip
   refine⟨[(nx,id)],?_⟩;have l1:(List.take i A++V).length=i+vs.length:=by simp;omega
   have e4:∀R,List.take (i+vs.length) (List.take i A++(V++R))=List.take i A++V:=fun R=>by rw[<-List.append_assoc];exact List.take_left' l1
   simp[hA,hVl,hVr,Dw,e4]
  ·have e2:decide ((i:Int)+(vs.length:Int)<(j:Int))=false:=by simp;omega
   simp[e0,e2,Tryz.results326,hV]
   repeat' refine And.intro ?_ ?_
   all_goals first|omega|assumption|skip
   rcases Nat.lt_or_ge c (i+vs.length)with h|h
   ·exact .inr ⟨h,by omega,by omega,[],by simp[hA,hVl,hVr,Dw]⟩
   ·exact .inl ⟨h,[(nx,id)],by simp[hA,hVl,hVr,Dw]⟩
 ·have e1:((j:Int)==(n:Int))=false:=by rw[beq_eq_false_iff_ne];omega
  have w1:IntKind.i64.wrap ((i:Int)+(vs.length:Int))=(i:Int)+(vs.length:Int):=lg _ (by omega) (by omega);have w2:IntKind.i64.wrap ((i:Int)+(vs.length:Int)+((n-j:Nat):Int))=(i:Int)+(vs.length:Int)+((n-j:Nat):Int):=lg _ (by omega) (by omega);have w3:IntKind.i64.wrap ((i:Int)+(vs.length:Int)+((n-j:Nat):Int)-(i:Int))=(i:Int)+(vs.length:Int)+((n-j:Nat):Int)-(i:Int):=lg _ (by omega) (by omega);have t1:((i:Int)+(vs.length:Int)).toNat=i+vs.length:=by omega
  have t2:((i:Int)+(vs.length:Int)+((n-j:Nat):Int)).toNat=i+vs.length+(n-j):=by omega
  have t3:((i:Int)+(vs.length:Int)+((n-j:Nat):Int)-(i:Int)).toNat=vs.length+(n-j):=by omega
  rcases Nat.lt_or_ge c (i+vs.length+(n-j))with h|h
  ·have e2:decide ((c:Int)<(i:Int)+(vs.length:Int)+((n-j:Nat):Int))=true:=by simp;omega
   have m1:vs.length.min (vs.length+(n-j))=vs.length:=Nat.min_eq_left (by omega);have m2:(n-j).min (i+(vs.length+(n-j))-(i+vs.length))=n-j:=Nat.min_eq_left (by omega);simp[e0,e1,e2,w1,w2,w3,t1,t3,Tryz.results326,hne,mc,m1,m2,m3,hV]
   repeat' refine And.intro ?_ ?_
   all_goals first|omega|assumption|skip
   refine⟨[],?_⟩;have key:=IC (Q:=List.take i A) (V:=V) (S:=List.take (n-j) (List.drop j A)) (R:=List.replicate (vs.length+(n-j)) (AV.p (.sc (.int .i64 0)))) (i:=i) (m:=vs.length) (k:=n-j) (by simp;omega) Ab (by simp;omega) (by simp);have e4:List.take (n-j) (List.drop j A)=List.drop j A:=List.take_of_length_le (by simp;omega);rw[e4]at key;simp[hA,hVl,hVr,e4,key];omega
  ·have e2:decide ((c:Int)<(i:Int)+(vs.length:Int)+((n-j:Nat):Int))=false:=by simp;omega
   by_cases c2:i+vs.length<=j
   ·have e3:decide ((i:Int)+(vs.length:Int)<=(j:Int))=true:=by simp;omega
    have m1:vs.length.min (i+vs.length+(n-j)-i)=vs.length:=Nat.min_eq_left (by omega);have m2:(n-j).min (i+vs.length+(n-j)-(i+vs.length))=n-j:=Nat.min_eq_left (by omega);have p1:bB i A=A:=eN (by omega);have p2:bB (i+vs.length) (List.take i A++(V++List.drop (i+vs.length) A))=List.take i A++(V++List.drop (i+vs.length) A):=eN (by simp;omega);have key:=fun R=>ER (A:=A) (V:=V) gR Ab hj c2 rfl R;simp[e0,e1,e2,e3,w1,w2,t1,t2,Tryz.results326,m1,m3,hV,p1,p2]
    repeat' refine And.intro ?_ ?_
    all_goals first|omega|assumption|skip
    refine⟨[(nx,id)],?_⟩;simp[hA,hVl,hVr,key]
   ·have e3:decide ((i:Int)+(vs.length:Int)<=(j:Int))=false:=by simp;omega
    have m1:vs.length.min (i+vs.length+(n-j)-i)=vs.length:=Nat.min_eq_left (by omega);have m2:(n-j).min (i+vs.length+(n-j)-(i+vs.length))=n-j:=Nat.min_eq_left (by omega);simp[e0,e1,e2,e3,w1,w2,t1,t2]
    repeat' refine And.intro ?_ ?_
    all_goals first|omega|assumption|skip
    refine qW FK (.inl rfl) (ob:=⟨3,1,A⟩) (by simp) rfl (by omega) (by simp) (by simp[qX]) ?_;have key:=ID (A:=A) (V:=V) (i:=i) (j:=j) gR Ab (by omega) hj (by omega) rfl;simp[w1,t1,Tryz.results326,m1,m3,hV]
    repeat' refine And.intro ?_ ?_
    all_goals first|omega|assumption|(rw[eH];omega)|skip
    refine⟨[(nx,id)],?_⟩;simp[hA,hVl,hVr,key]
theorem GN{a b:Nat}:((a:Int)==(b:Int))=(a==b):=by rw[Bool.eq_iff_iff];simp;omega
theorem jd(l:Bool)(ks:List (List UInt8))(vs:List Int):aB Tryz.prog 320 [dh l ks vs] (.int (if l then 0 else 1)):=by
 refine QpQ (ys:=[_]) [] [] [] Tryz.func320 rfl (by simp[Tryz.ntmps320]) ?_;cases l<;>simp[Tryz.results320]
def nO(l:Bool)(ks:List (List UInt8))(vs:List Int):Bool:=vs.length==ks.length+(if l then 0 else 1)
theorem iT(l:Bool)(ks:List (List UInt8))(vs:List Int)(hk:ks.length<=1000000000000):aB Tryz.prog 319 [dh l ks vs] (.bool (nO l ks vs)):=by
 refine QpQ (ys:=[_]) [] [] [] Tryz.func319 rfl (by simp[Tryz.ntmps319]) ?_;simp;refine bD (jd l ks vs) ?_;cases l
 ·have w:IntKind.i64.wrap ((ks.length:Int)+1)=((ks.length+1:Nat):Int):=af (by omega) (by omega);simp[Tryz.results319,w,nO,<-GN]
 ·have w:IntKind.i64.wrap (ks.length:Int)=(ks.length:Int):=af (by omega) (by omega);simp[Tryz.results319,w,nO,<-GN]
theorem ajd(ks:List (List UInt8)):∀x∈ks.map PC.str,x.width=1:=by simp
theorem aje(ks:List (List UInt8)):∀x∈ks.map PC.str,cF x=true:=by simp
theorem ajf(vs:List Int):∀x∈vs.map PC.int,x.width=1:=by simp
theorem ajg(vs:List Int):∀x∈vs.map PC.int,cF x=true:=by simp
@[simp]theorem NV(ks:List (List UInt8)):(ks.map PC.str).flatMap gu=ks.map PC.str:=by induction ks<;>simp_all
@[simp]theorem NW(vs:List Int):(vs.map PC.int).flatMap gu=vs.map PC.int:=by induction vs<;>simp_all
theorem oS(nx:Nat)(l:Bool)(ks:List (List UInt8))(vs:List Int)(hk:ks.length<=1000000000000)(hv:vs.length<=1000000000000):aI Tryz.prog 318 [.p (dh l ks vs)] ⟨[],[],nx⟩ (.agg false [.p (.bool l),.view nx 0 ks.length 1 none,.view (nx+1) 0 vs.length 1 none]) ⟨[(nx,⟨9,1,(ks.map PC.str).map .p⟩),(nx+1,⟨3,1,(vs.map PC.int).map .p⟩)],[],nx+2⟩:=by
 have c1:=fun n=>Ga n (ks.map PC.str) (ajd ks) (aje ks) (by simpa using hk);have c2:=fun n=>Cc n (vs.map PC.int) (ajf vs) (ajg vs) (by simpa using hv);simp only[List.length_map,NV,NW]at c1 c2;refine QgQ (rs:=[_]) [1] [(1,[(1,.r 1),(2,.f [1]),(4,.r 1),(5,.f [1]),(7,.s 1 []),(9,.s 1 [])])] [(1,nx)] Tryz.func318 rfl (by simp[Tryz.ntmps318]) ?_;simp;refine pM (c1 _) (by simp) trivial trivial rfl (by simp) ?_;simp;refine pM (c2 _) (by simp) trivial trivial rfl (by simp) ?_;simp[Tryz.results318];exact⟨[(nx,nx+2),(nx+1,nx+3)],by simp;intro a b h;omega⟩
theorem Y6(ks:List (List UInt8)):List.take ks.length (ks.map (AV.p∘PC.str))=ks.map (AV.p∘PC.str):=List.take_of_length_le (by simp)
theorem Ub(vs:List Int):List.take vs.length (vs.map (AV.p∘PC.int))=vs.map (AV.p∘PC.int):=List.take_of_length_le (by simp)
theorem mL{bx:List (Nat×Ob)}{l:Bool}{a b n m:Nat}{c d:Option Nat}{K:List (List UInt8)}{V:List Int}(ha:lk a bx=some ⟨9,1,(K.map PC.str).map .p⟩)(hb:lk b bx=some ⟨3,1,(V.map PC.int).map .p⟩)(hn:n=K.length)(hm:m=V.length):cQ bx 4 (.agg false [.p (.bool l),.view a 0 n 1 c,.view b 0 m 1 d]) (dh l K V):=by
 subst hn;subst hm;simp[cQ,ie,ha,hb,Y6,Ub]
theorem IL(l:Bool)(ks:List (List UInt8))(vs:List Int)(hk:ks.length<=1000000000000)(hv:vs.length<=1000000000000):aB Tryz.prog 318 [dh l ks vs] (dh l ks vs):=bN (xs:=[_]) (oS 0 l ks vs hk hv) (mL (by simp) (by simp) rfl rfl)
def aiQ(l:Bool)(ks:List (List UInt8))(vs:List Int)(i:Nat)(key:List UInt8)(us:List Int):PC:=dh l (ks.take i++[key]++ks.drop i) (vs.take i++us++vs.drop (if l then i else i+1))
theorem IQ(l:Bool)(ks:List (List UInt8))(vs:List Int)(i:Nat)(key:List UInt8)(us:List Int)(hf:nO l ks vs=true)(hi:i<=ks.length)(hk:ks.length<=1000000000)(hv:vs.length<=1000000000)(hu:us.length<=1000000000):aB Tryz.prog 242 [dh l ks vs,.int i,.str key,.sl (us.map PC.int)] (aiQ l ks vs i key us):=by
 have hc:=fun n=>oS n l ks vs (by omega) (by omega);have e1:¬ks.length<i:=by omega
 have hlen:vs.length=ks.length+(if l then 0 else 1):=by simpa[nO]using hf
 have w1:IntKind.i64.wrap ((i:Int)+1)=((i+1:Nat):Int):=by rw[af (by omega) (by omega)];rfl
 cases l
 ·simp at hlen;refine bN (xs:=[_,_,_,_]) (r:= .agg false [.p (.bool false),.view 0 0 (ks.length+1) 1 none,.view 1 0 (i+us.length+(vs.length-(i+1))) 1 none]) (aO:=⟨[(0,⟨9,1,((ks.take i++[key]++ks.drop i).map PC.str).map .p⟩),(1,⟨3,1,((vs.take i++us++vs.drop (i+1)).map PC.int).map .p⟩)],[],2⟩) ?_ (mL rfl rfl (by simp;omega) (by simp;omega));refine QgQ (rs:=[_]) [4] [] [] Tryz.func242 rfl (by simp[Tryz.ntmps242]) ?_;simp;refine az (hc _) (by simp) trivial trivial rfl ?_;simp;refine bE (iT false ks vs (by omega)) (by simp[cQ,ie,Y6,Ub]) rfl ?_;simp[hf,e1];refine az (yW _ 2 (by omega) (ks.map PC.str) ks.length i [.str key] (by simp) hi (by simp) (by simp) (by omega) (by simp)) (by simp) (by simp[ay]) trivial rfl ?_;simp;refine az (EP _ 3 (by omega) (vs.map PC.int) vs.length i (i+1) (us.map PC.int) (by simp) (by omega) (by omega) (by simp) (by simp) (by omega) (by simp;omega)) (by simp[w1]) (by simp[ay]) trivial rfl ?_;simp[Tryz.results242];exact⟨[(0,4),(1,5)],by simp⟩
 ·simp at hlen;refine bN (xs:=[_,_,_,_]) (r:= .agg false [.p (.bool true),.view 0 0 (ks.length+1) 1 none,.view 1 0 (vs.length+us.length) 1 none]) (aO:=⟨[(0,⟨9,1,((ks.take i++[key]++ks.drop i).map PC.str).map .p⟩),(1,⟨3,1,((vs.take i++us++vs.drop i).map PC.int).map .p⟩)],[],2⟩) ?_ (mL rfl rfl (by simp;omega) (by simp;omega));refine QgQ (rs:=[_]) [4] [] [] Tryz.func242 rfl (by simp[Tryz.ntmps242]) ?_;simp;refine az (hc _) (by simp) trivial trivial rfl ?_;simp;refine bE (iT true ks vs (by omega)) (by simp[cQ,ie,Y6,Ub]) rfl ?_;simp[hf,e1];refine az (yW _ 2 (by omega) (ks.map PC.str) ks.length i [.str key] (by simp) hi (by simp) (by simp) (by omega) (by simp)) (by simp) (by simp[ay]) trivial rfl ?_;simp;refine az (Hs _ 3 (by omega) (vs.map PC.int) vs.length i (us.map PC.int) (by simp) (by omega) (by simp) (by simp) (by omega) (by simp;omega)) (by simp) (by simp[ay]) trivial rfl ?_;simp[Tryz.results242];exact⟨[(0,4),(1,5)],by simp⟩
theorem EW(l:Bool)(ks:List (List UInt8))(vs:List Int)(at_:Int)(key:List UInt8)(us:List Int)(hf:nO l ks vs=false\/at_<0\/(ks.length:Int)<at_)(hk:ks.length<=1000000000)(hv:vs.length<=1000000000):aB Tryz.prog 242 [dh l ks vs,.int at_,.str key,.sl (us.map PC.int)] (dh l ks vs):=by
 have hc:=fun n=>oS n l ks vs (by omega) (by omega);refine bN (xs:=[_,_,_,_]) (r:= .agg false [.p (.bool l),.view 0 0 ks.length 1 none,.view 1 0 vs.length 1 none]) (aO:=⟨[(0,⟨9,1,(ks.map PC.str).map .p⟩),(1,⟨3,1,(vs.map PC.int).map .p⟩)],[],2⟩) ?_ (mL rfl rfl rfl rfl);refine QgQ (rs:=[_]) [4] [] [] Tryz.func242 rfl (by simp[Tryz.ntmps242]) ?_;simp;refine az (hc _) (by simp) trivial trivial rfl ?_;simp;refine bE (iT l ks vs (by omega)) (by simp[cQ,ie,Y6,Ub]) rfl ?_;by_cases f0:nO l ks vs=false
 ·simp[f0,Tryz.results242];exact⟨[(0,2),(1,3)],by simp⟩
 ·have f0':nO l ks vs=true:=by simpa using f0
  by_cases f1:at_<0
  ·simp[f0',f1,Tryz.results242];exact⟨[(0,2),(1,3)],by simp⟩
  ·have f2:(ks.length:Int)<at_:=by
    rcases hf with h|h|h
    ·exact absurd h f0
    ·exact absurd h f1
    ·exact h
   simp[f0',f1,f2,Tryz.results242];exact⟨[(0,2),(1,3)],by simp⟩
def DE(q:List UInt8->Bool)(ks:List (List UInt8)):Int:=if below (fun s=>!q s) ks<ks.length then(below (fun s=>!q s) ks:Nat)else-1
theorem Fo{g:FuncId}{caps:List PC}(q:List UInt8->Bool)(ks:List (List UInt8))(hk:ks.length<=9223372036854775807)(h:∀s∈ks,aB Tryz.prog g (.str s::caps) (.bool (q s))):aB Tryz.prog 362 [.sl (ks.map PC.str),.fn (.func g) caps] (.int (DE q ks)):=by
 refine QpQ (ys:=[_]) [] [] [] Tryz.func362 rfl (by simp[Tryz.ntmps362]) ?_;simp;refine bW (fun k:Nat=>k<=ks.length/\∀x∈ks.take k,(!q x)=true) (fun k=>[(0,.p (.sl (ks.map PC.str))),(1,.p (.fn (.func g) caps)),(7,.p (.int ks.length)),(8,.p (.int k))]) (fun k=>ks.length-k) 0 (by simp) (aA (by simp)) ?_;rintro k ⟨h1,h2⟩;by_cases c1:k<ks.length
 ·simp[c1];refine ai (h ks[k] (by simp)) (by simp) ?_;by_cases c2:q ks[k]=true
  ·have e:=BW h2 h1 (fun _=>by simpa using c2);simp[c2,DE,e,c1,Tryz.results362]
  ·simp[c2];refine⟨k+1,⟨by omega,?_⟩,by omega,aA ?_⟩
   ·rw[List.take_succ_eq_append_getElem c1];simp only[List.mem_append,List.mem_singleton];rintro x (hx|rfl);(have:=h2 x hx;simpa using this);simpa using c2
   ·simp[af (n:=(k:Int)+1) (by omega) (by omega)]
 ·have e:=BW h2 h1 (fun h=>absurd h c1);simp[e,c1,DE,Tryz.results362]
theorem BX:∀(a b:List UInt8),Op.bytesLess b a=(!Op.bytesLess a b&&!a==b)
 |[],[]=>rfl
 |[],_::_=>rfl
 |_::_,[]=>rfl
 |x::a,y::b=>by
  have ih:=BX a b;rcases Nat.lt_trichotomy x.toNat y.toNat with h|h|h
  ·have h1:x<y:=h;have h2:¬y<x:=fun k=>by have:y.toNat<x.toNat:=k;omega
   have h3:(y==x)=false:=by simp;intro e;subst e;omega
   simp[Op.bytesLess,h1,h2,h3]
  ·have h1:x=y:=UInt8.toNat_inj.mp h;subst h1;have h2:¬x<x:=fun k=>by have:x.toNat<x.toNat:=k;omega
   simp[Op.bytesLess,h2,ih]
  ·have h1:y<x:=h;have h2:¬x<y:=fun k=>by have:x.toNat<y.toNat:=k;omega
   have h3:(x==y)=false:=by simp;intro e;subst e;omega
   have h4:x≠y:=by intro e;subst e;omega
   simp[Op.bytesLess,h1,h2,h3]
theorem VZ(s key:List UInt8):aB Tryz.prog 317 [.str s,.ref (.str key)] (.bool (Op.bytesLess s key)):=by
 refine QpQ (ys:=[_]) [] [] [] Tryz.func317 rfl (by simp[Tryz.ntmps317]) ?_;simp[Tryz.results317]
theorem Pm(s key:List UInt8):aB Tryz.prog 361 [.str s,.ref (.str key)] (.bool (!Op.bytesLess key s)):=by
 refine QpQ (ys:=[_]) [] [] [] Tryz.func361 rfl (by simp[Tryz.ntmps361]) ?_;simp[Tryz.results361,BX s key]
theorem Pn{g:FuncId}{caps:List PC}{s:List UInt8}{b:Bool}(h:aB Tryz.prog g (.str s::caps) (.bool b)):aB Tryz.prog 363 [.str s,.ref (.fn (.func g) caps)] (.bool (!b)):=by
 refine QpQ (ys:=[_]) [] [] [] Tryz.func363 rfl (by simp[Tryz.ntmps363]) ?_;simp;refine ai h (by simp) ?_;simp[Tryz.results363]
theorem FL{g:FuncId}{caps:List PC}(p:List UInt8->Bool)(l:Bool)(ks:List (List UInt8))(vs:List Int)(hk:ks.length<=9223372036854775807)(h:∀s∈ks,aB Tryz.prog g (.str s::caps) (.bool (p s))):aB Tryz.prog 316 [dh l ks vs,.fn (.func g) caps] (.int (below p ks)):=by
 refine QpQ (ys:=[_]) [] [] [] Tryz.func316 rfl (by simp[Tryz.ntmps316]) ?_;simp;refine ai (Fo (fun s=>!p s) ks hk fun s hs=>Pn (h s hs)) (by simp) ?_;have hb:=vS p ks;by_cases c:below p ks<ks.length
 ·simp[DE,c,Tryz.results316]
 ·have e:below p ks=ks.length:=by omega
  simp[DE,e,Tryz.results316]
abbrev afI(ks:List (List UInt8))(key:List UInt8):PC:= .tp [.int (below (fun s=>Op.bytesLess s key) ks),.bool (ks[below (fun s=>Op.bytesLess s key) ks]?==some key)]
theorem V0(l:Bool)(ks:List (List UInt8))(vs:List Int)(key:List UInt8)(hk:ks.length<=9223372036854775807):aB Tryz.prog 239 [dh l ks vs,.str key] (afI ks key):=by
 refine QpQ (ys:=[_,_]) [] [] [] Tryz.func239 rfl (by simp[Tryz.ntmps239]) ?_;simp;refine ai (FL (fun s=>Op.bytesLess s key) l ks vs hk fun s _=>VZ s key) (by simp) ?_;have hb:=vS (fun s=>Op.bytesLess s key) ks;by_cases c:below (fun s=>Op.bytesLess s key) ks<ks.length
 ·simp[c,Tryz.results239]
 ·have e:below (fun s=>Op.bytesLess s key) ks=ks.length:=by omega
  simp[e,Tryz.results239]
theorem Po(l:Bool)(ks:List (List UInt8))(vs:List Int)(key:List UInt8)(hk:ks.length<=9223372036854775807):aB Tryz.prog 315 [dh l ks vs,.str key] (.int (below (fun s=>!Op.bytesLess key s) ks)):=by
 refine QpQ (ys:=[_]) [] [] [] Tryz.func315 rfl (by simp[Tryz.ntmps315]) ?_;simp;refine ai (FL (fun s=>!Op.bytesLess key s) l ks vs hk fun s _=>Pm s key) (by simp) ?_;simp[Tryz.results315]
def tG(l:Bool)(ks:List (List UInt8))(vs:List Int):PC:=if nO l ks vs&&decide (2<=ks.length)then
 .tp [dh l (ks.take (ks.length/2)) (vs.take (ks.length/2+if l then 0 else 1)),.str (ks.getD (ks.length/2) []),dh l (ks.drop (ks.length/2+if l then 0 else 1)) (vs.drop (ks.length/2+if l then 0 else 1))]else .tp [dh l ks vs,.str [],dh l [] []]
theorem PX(l:Bool)(ks:List (List UInt8))(vs:List Int)(hk:ks.length<=1000000000)(hv:vs.length<=1000000000):aB Tryz.prog 323 [dh l ks vs] (tG l ks vs):=by
 have hc:=fun l ks vs a b=>IL l ks vs a b;by_cases f0:nO l ks vs=true
 ·by_cases f1:2<=ks.length
  ·have hlen:vs.length=ks.length+(if l then 0 else 1):=by simpa[nO]using f0
   have e1:¬(ks.length:Int)<2:=by omega
   obtain⟨h,hh⟩:∃h,h=ks.length/2:=⟨_,rfl⟩;have b1:h<ks.length:=by omega
   have b2:(h:Int)<=ks.length:=by omega
   have b3:h<=ks.length:=by omega
   have w0:IntKind.i64.wrap ((ks.length:Int)/2)=(h:Int):=by
    rw[af (by omega) (by omega)];omega
   simp only[tG,f0,f1,decide_true,Bool.and_true,if_true,<-hh];refine QpQ (ys:=[_,_,_]) [] [(2,[(5,.s 1 []),(7,.s 2 [])]),(4,[(15,.w []),(16,.w [])]),(5,[(18,.w []),(19,.w [])]),(6,[(0,.r 3),(6,.r 4),(7,.s 1 [3,4]),(9,.s 2 [3,4])])] [(1,0),(2,1),(3,2),(4,3)] Tryz.func323 rfl (by simp[Tryz.ntmps323]) ?_;simp;refine ai (iT l ks vs (by omega)) (by simp) ?_;cases l
   ·simp at hlen;have w1:IntKind.i64.wrap ((h:Int)+1)=((h+1:Nat):Int):=by rw[af (by omega) (by omega)];rfl
    have b4:(h:Int)+1<=vs.length:=by omega
    have b5:h+1<=vs.length:=by omega
    have b6:h+1<=ks.length:=by omega
    have b7:(h:Int)+1<=ks.length:=by omega
    have b8:(0:Int)<=(h:Int)+1:=by omega
    simp[f0,e1,w0,b3];have c1:=hc false (ks.take h) (vs.take (h+1)) (by simp;omega) (by simp;omega);have c2:=hc false (ks.drop (h+1)) (vs.drop (h+1)) (by simp;omega) (by simp;omega);simp only[dh,List.map_take]at c1;simp only[dh,List.map_drop]at c2;refine bD (jd false ks vs) ?_;simp[w1,b5,↓b8];refine bD c1 ?_;simp;refine bD (jd false ks vs) ?_;simp[w1,b6,↓b8];refine bD (jd false ks vs) ?_;simp[w1,b5,↓b8];refine bD c2 ?_;simp[b1,Tryz.results323]
   ·simp at hlen;have w1:IntKind.i64.wrap (h:Int)=(h:Int):=af (by omega) (by omega);have b4:(h:Int)<=vs.length:=by omega
    have b5:h<=vs.length:=by omega
    have b6:h<=ks.length:=by omega
    have b7:(h:Int)<=ks.length:=by omega
    simp[f0,e1,w0,b3];have c1:=hc true (ks.take h) (vs.take (h)) (by simp;omega) (by simp;omega);have c2:=hc true (ks.drop (h)) (vs.drop (h)) (by simp;omega) (by simp;omega);simp only[dh,List.map_take]at c1;simp only[dh,List.map_drop]at c2;refine bD (jd true ks vs) ?_;simp[w1,b5];refine bD c1 ?_;simp;refine bD (jd true ks vs) ?_;simp[w1,b6];refine bD (jd true ks vs) ?_;simp[w1,b5];refine bD c2 ?_;simp[b1,Tryz.results323]
  ·have e1:(ks.length:Int)<2:=by omega
   simp only[tG,f0,f1,decide_false,Bool.and_false];have c:=hc l ks vs (by omega) (by omega);refine QpQ (ys:=[_,_,_]) [] [(2,[(5,.s 1 []),(7,.s 2 [])]),(4,[(15,.w []),(16,.w [])]),(5,[(18,.w []),(19,.w [])]),(6,[(0,.r 3),(6,.r 4),(7,.s 1 [3,4]),(9,.s 2 [3,4])])] [(1,0),(2,1),(3,2),(4,3)] Tryz.func323 rfl (by simp[Tryz.ntmps323]) ?_;simp;refine ai (iT l ks vs (by omega)) (by simp) ?_;simp[f0,e1];refine bD c ?_;simp[Tryz.results323]
   trace_state
 ·have e1:True:=trivial;have f0:nO l ks vs=false:=by simpa using f0
  simp only[tG,f0,Bool.false_and];have c:=hc l ks vs (by omega) (by omega);refine QpQ (ys:=[_,_,_]) [] [(2,[(5,.s 1 []),(7,.s 2 [])]),(4,[(15,.w []),(16,.w [])]),(5,[(18,.w []),(19,.w [])]),(6,[(0,.r 3),(6,.r 4),(7,.s 1 [3,4]),(9,.s 2 [3,4])])] [(1,0),(2,1),(3,2),(4,3)] Tryz.func323 rfl (by simp[Tryz.ntmps323]) ?_;simp;refine ai (iT l ks vs (by omega)) (by simp) ?_;simp[f0];refine bD c ?_;simp[Tryz.results323]
  trace_state
theorem IM(l:Bool)(ks:List (List UInt8))(vs:List Int)(i:Nat)(hf:nO l ks vs=true)(hi:i<ks.length)(hk:ks.length<=1000000000)(hv:vs.length<=1000000000):aB Tryz.prog 240 [dh l ks vs,.int i] (dh l (ks.take i++ks.drop (i+1)) (vs.take (i+(if l then 0 else 1))++vs.drop (i+(if l then 0 else 1)+1))):=by
 have hc:=fun n=>oS n l ks vs (by omega) (by omega);have e1:¬ks.length<=i:=by omega
 have hlen:vs.length=ks.length+(if l then 0 else 1):=by simpa[nO]using hf
 obtain⟨b,hb⟩:∃b:Nat,b=if l then 0 else 1:=⟨_,rfl⟩
 have uy:b<=1:=by rw[hb];split<;>omega
 have hbi:(if l=true then(0:Int)else 1)=(b:Int):=by rw[hb];split<;>rfl
 rw[<-hb]at hlen⊢;have w1:IntKind.i64.wrap ((i:Int)+1)=((i+1:Nat):Int):=by rw[af (by omega) (by omega)];rfl
 have w2:IntKind.i64.wrap ((i:Int)+(b:Int))=((i+b:Nat):Int):=by rw[af (by omega) (by omega)];rfl
 have w3:IntKind.i64.wrap (((i+b:Nat):Int)+1)=((i+b+1:Nat):Int):=by rw[af (by omega) (by omega)];rfl
 refine bN (xs:=[_,_]) (r:= .agg false [.p (.bool l),.view 0 0 (ks.length-1) 1 none,.view 1 0 (vs.length-1) 1 none]) (aO:=⟨[(0,⟨9,1,((ks.take i++ks.drop (i+1)).map PC.str).map .p⟩),(1,⟨3,1,((vs.take (i+b)++vs.drop (i+b+1)).map PC.int).map .p⟩)],[],2⟩) ?_ (mL rfl rfl (by simp;omega) (by simp;omega));refine QgQ (rs:=[_]) [2] [(5,[(1,.r 1),(5,.f [1]),(7,.r 1),(11,.f [1]),(13,.s 1 []),(15,.s 1 [])])] [(1,0)] Tryz.func240 rfl (by simp[Tryz.ntmps240]) ?_;simp;refine az (hc _) (by simp) trivial trivial rfl ?_;simp;refine bE (iT l ks vs (by omega)) (by simp[cQ,ie,Y6,Ub]) rfl ?_;simp[hf,e1];refine bE (jd l ks vs) (by simp[cQ,ie,Y6,Ub]) rfl ?_;simp[hbi,w2];refine pM (H7 _ 2 (by omega) (ks.map PC.str) ks.length i (i+1) (by simp) (by omega) (by omega) (by omega)) (by simp[w1]) (by simp[ay]) trivial rfl (by simp) ?_;simp;refine pM (H8 _ 3 (by omega) (vs.map PC.int) vs.length (i+b) (i+b+1) (by simp) (by omega) (by omega) (by omega)) (by simp;exact w3.symm) (by simp[ay]) trivial rfl (by simp) ?_;simp[Tryz.results240];exact⟨[(0,4),(1,5)],by simp⟩
theorem EV(l:Bool)(ks:List (List UInt8))(vs:List Int)(at_:Int)(hf:nO l ks vs=false\/at_<0\/(ks.length:Int)<=at_)(hk:ks.length<=1000000000)(hv:vs.length<=1000000000):aB Tryz.prog 240 [dh l ks vs,.int at_] (dh l ks vs):=by
 have hc:=fun n=>oS n l ks vs (by omega) (by omega);refine bN (xs:=[_,_]) (r:= .agg false [.p (.bool l),.view 0 0 ks.length 1 none,.view 1 0 vs.length 1 none]) (aO:=⟨[(0,⟨9,1,(ks.map PC.str).map .p⟩),(1,⟨3,1,(vs.map PC.int).map .p⟩)],[],2⟩) ?_ (mL rfl rfl rfl rfl);refine QgQ (rs:=[_]) [2] [(5,[(1,.r 1),(5,.f [1]),(7,.r 1),(11,.f [1]),(13,.s 1 []),(15,.s 1 [])])] [(1,0)] Tryz.func240 rfl (by simp[Tryz.ntmps240]) ?_;simp;refine az (hc _) (by simp) trivial trivial rfl ?_;simp;refine bE (iT l ks vs (by omega)) (by simp[cQ,ie,Y6,Ub]) rfl ?_;by_cases f0:nO l ks vs=false
 ·simp[f0,Tryz.results240];exact⟨[(0,2),(1,3)],by simp⟩
 ·have f0':nO l ks vs=true:=by simpa using f0
  by_cases f1:at_<0
  ·simp[f0',f1,Tryz.results240];exact⟨[(0,2),(1,3)],by simp⟩
  ·have f2:(ks.length:Int)<=at_:=by
    rcases hf with h|h|h
    ·exact absurd h f0
    ·exact absurd h f1
    ·exact h
   simp[f0',f1,f2,Tryz.results240];exact⟨[(0,2),(1,3)],by simp⟩
def rU(l:Bool)(ks:List (List UInt8))(vs:List Int)(a:Int):Bool:=nO l ks vs&&decide (0<=a)&&decide (a<=ks.length)
def F5(l:Bool)(ks:List (List UInt8))(vs:List Int)(a:Int)(key:List UInt8):List (List UInt8):=if rU l ks vs a then ks.take a.toNat++[key]++ks.drop a.toNat else ks
def F6(l:Bool)(ks:List (List UInt8))(vs:List Int)(a:Int)(us:List Int):List Int:=if rU l ks vs a then vs.take a.toNat++us++vs.drop (if l then a.toNat else a.toNat+1)else vs
def rV(l:Bool)(ks:List (List UInt8))(vs:List Int)(a:Int):Bool:=nO l ks vs&&decide (0<=a)&&decide (a<ks.length)
def F7(l:Bool)(ks:List (List UInt8))(vs:List Int)(a:Int):List (List UInt8):=if rV l ks vs a then ks.take a.toNat++ks.drop (a.toNat+1)else ks
def F8(l:Bool)(ks:List (List UInt8))(vs:List Int)(a:Int):List Int:=if rV l ks vs a then vs.take (a.toNat+(if l then 0 else 1))++vs.drop (a.toNat+(if l then 0 else 1)+1)else vs
theorem Nq{l:Bool}{ks:List (List UInt8)}{vs:List Int}{a:Int}(h:rU l ks vs a=false):nO l ks vs=false\/a<0\/(ks.length:Int)<a:=by
 simp only[rU,Bool.and_eq_false_iff,decide_eq_false_iff_not]at h;rcases h with(h|h)|h
 ·exact .inl h
 ·exact .inr (.inl (by omega))
 ·exact .inr (.inr (by omega))
theorem Ns{l:Bool}{ks:List (List UInt8)}{vs:List Int}{a:Int}(h:rV l ks vs a=false):nO l ks vs=false\/a<0\/(ks.length:Int)<=a:=by
 simp only[rV,Bool.and_eq_false_iff,decide_eq_false_iff_not]at h;rcases h with(h|h)|h
 ·exact .inl h
 ·exact .inr (.inl (by omega))
 ·exact .inr (.inr (by omega))
theorem IN{l:Bool}{ks:List (List UInt8)}{vs:List Int}{a:Int}(h:rU l ks vs a=true):nO l ks vs=true/\∃i:Nat,a=i/\i<=ks.length:=by
 simp only[rU,Bool.and_eq_true,decide_eq_true_eq]at h;exact⟨h.1.1,a.toNat,by omega,by omega⟩
theorem IP{l:Bool}{ks:List (List UInt8)}{vs:List Int}{a:Int}(h:rV l ks vs a=true):nO l ks vs=true/\∃i:Nat,a=i/\i<ks.length:=by
 simp only[rV,Bool.and_eq_true,decide_eq_true_eq]at h;exact⟨h.1.1,a.toNat,by omega,by omega⟩
theorem Ly(l:Bool)(ks:List (List UInt8))(vs:List Int)(a:Int)(key:List UInt8)(us:List Int)(hk:ks.length<=1000000000)(hv:vs.length<=1000000000)(hu:us.length<=1000000000):aB Tryz.prog 242 [dh l ks vs,.int a,.str key,.sl (us.map PC.int)] (dh l (F5 l ks vs a key) (F6 l ks vs a us)):=by
 cases h:rU l ks vs a with
 |false=>simpa[F5,F6,h]using EW l ks vs a key us (Nq h) hk hv
 |true=>obtain⟨hf,i,rfl,hi⟩:=IN h;simpa[F5,F6,h,aiQ]using IQ l ks vs i key us hf hi hk hv hu
theorem Lz(l:Bool)(ks:List (List UInt8))(vs:List Int)(a:Int)(hk:ks.length<=1000000000)(hv:vs.length<=1000000000):aB Tryz.prog 240 [dh l ks vs,.int a] (dh l (F7 l ks vs a) (F8 l ks vs a)):=by
 cases h:rV l ks vs a with
 |false=>simpa[F7,F8,h]using EV l ks vs a (Ns h) hk hv
 |true=>obtain⟨hf,i,rfl,hi⟩:=IP h;simpa[F7,F8,h]using IM l ks vs i hf hi hk hv
def kB(ks:List (List UInt8))(j:Nat):Bool:=decide (1<=(ks.getD j []).length)&&decide ((ks.getD j []).length<=100)&&(j==0||Op.bytesLess (ks.getD (j-1) []) (ks.getD j []))
def vB(v:Int):Bool:=decide (0<=v)&&decide (v<1099511627776)
def fc(l:Bool)(ks:List (List UInt8))(vs:List Int):Bool:=decide (ks.length<=4)&&nO l ks vs&&(l||decide (0<ks.length))&&((List.range ks.length).all (kB ks))&&vs.all vB
theorem Gs{l:Bool}{ks:List (List UInt8)}{vs:List Int}{k:Nat}(hk:k<vs.length)(h:vB vs[k]=false):fc l ks vs=false:=by
 have:vs.all vB=false:=by rw[List.all_eq_false];exact⟨vs[k],by simp,by simp[h]⟩
 simp[fc,this]
theorem pL:∀a:List UInt8,Op.bytesLess a a=false
 |[]=>rfl
 |x::a=>by
  have h2:¬x<x:=fun k=>by have:x.toNat<x.toNat:=k;omega
  simp[Op.bytesLess,h2,pL a]
theorem sB:∀{a b c:List UInt8},Op.bytesLess a b=true->Op.bytesLess b c=true->Op.bytesLess a c=true
 |_,[],_,h,_=>by simp[Op.bytesLess]at h
 |_,_::_,[],_,h=>by simp[Op.bytesLess]at h
 |[],_::_,_::_,_,_=>rfl
 |x::a,y::b,z::c,h,k=>by
  simp only[Op.bytesLess,Bool.or_eq_true,decide_eq_true_eq,Bool.and_eq_true,beq_iff_eq]at h k⊢;have lt_iff:∀p q:UInt8,p<q↔p.toNat<q.toNat:=fun p q=>Iff.rfl;simp only[lt_iff]at h k⊢;rcases h with h|⟨h,h'⟩
  ·rcases k with k|⟨k,k'⟩
   ·exact .inl (by omega)
   ·subst k;exact .inl h
  ·subst h;rcases k with k|⟨k,k'⟩
   ·exact .inl k
   ·subst k;exact .inr ⟨rfl,sB h' k'⟩
def chn:List (List UInt8)->Prop
 |[]=>True
 |[_]=>True
 |a::b::l=>Op.bytesLess a b=true/\chn (b::l)
theorem M1:∀{l:List (List UInt8)},(∀i (h:i+1<l.length),Op.bytesLess l[i] l[i+1]=true)->chn l
 |[],_=>trivial
 |[_],_=>trivial
 |a::b::l,h=>⟨h 0 (by simp),M1 fun i hi=>h (i+1) (by simpa using hi)⟩
theorem vT(p:List UInt8->Bool):∀(ks:List (List UInt8)),∀x∈ks.take (below p ks),p x=true
 |[],x,h=>by simp at h
 |a::ks,x,h=>by
  unfold below at h;simp only[List.takeWhile_cons]at h;split at h
  ·rename_i ha;simp only[List.length_cons,List.take_succ_cons,List.mem_cons]at h;rcases h with rfl|h
   ·exact ha
   ·exact vT p ks x h
  ·simp at h
theorem vR(p:List UInt8->Bool):∀(ks:List (List UInt8)) (h:below p ks<ks.length),p ks[below p ks]=false
 |[],h=>by simp at h
 |a::ks,h=>by
  by_cases ha:p a=true
  ·have e:below p (a::ks)=below p ks+1:=by simp[below,ha]
   have h':below p ks<ks.length:=by rw[e]at h;simpa using h
   have:=vR p ks h';simp only[e,List.getElem_cons_succ];exact this
  ·have e:below p (a::ks)=0:=by simp[below,ha]
   simp only[e,List.getElem_cons_zero];simpa using ha
theorem pq{l:Bool}{ks:List (List UInt8)}{vs:List Int}(h:fc l ks vs=true):chn ks/\ks.length<=4/\nO l ks vs=true/\(∀s∈ks,s.length<=100):=by
 simp only[fc,Bool.and_eq_true,decide_eq_true_eq,List.all_eq_true,List.mem_range]at h;obtain⟨⟨⟨⟨h1,h2⟩,_⟩,h4⟩,_⟩:=h;refine⟨M1 fun i hi=>?_,h1,h2,fun s hs=>?_⟩
 ·have:=h4 (i+1) hi;simp only[kB,Bool.and_eq_true,Bool.or_eq_true]at this;have:=this.2;have e1:i<ks.length:=by omega
  simpa[hi,e1]using this
 ·obtain⟨i,hi,rfl⟩:=List.getElem_of_mem hs;have:=h4 i hi;simp[kB,hi]at this;exact this.1.2
theorem Cp{bx:List (Nat×Ob)}{a n:Nat}{c:Option Nat}{e:TypeId}{L:List PC}(ha:lk a bx=some ⟨e,1,(L.flatMap gu).map .p⟩)(hn:n=L.length)(hw:∀x∈L,x.width=1)(ht:∀x∈L,cF x=true):cQ bx 4 (.view a 0 n 1 c) (.sl L):=by
 subst hn;have hl:(L.flatMap gu).length=L.length:=by have:=mm (s:=1) hw;omega
 refine⟨_,ha,by omega,rfl,by simp[hl],?_,hw,ht⟩;simp only[List.drop_zero,Nat.mul_one,qR];exact List.take_of_length_le (by simp[hl])
def Jh(s:List UInt8):Bool:=decide (1<=s.length)&&decide (s.length<=100)
theorem OG(s:List UInt8):aB Tryz.prog 383 [.str s] (.bool (Jh s)):=by
 refine QpQ (ys:=[_]) [] [] [] Tryz.func383 rfl (by simp[Tryz.ntmps383]) ?_;cases s with
 |nil=>simp[Tryz.results383,Jh]
 |cons x s=>
  have e:(x::s !=[])=true:=rfl;by_cases h:(s.length:Int)+1<=100
  ·have h':s.length+1<=100:=by omega
   simp[e,h,h',Tryz.results383,Jh]
  ·have h':¬s.length+1<=100:=by omega
   simp[e,h,h',Tryz.results383,Jh]
theorem OH(s:List UInt8):aB Tryz.prog 382 [.str s] (.bool (!Jh s)):=by
 refine QpQ (ys:=[_]) [] [] [] Tryz.func382 rfl (by simp[Tryz.ntmps382]) ?_;simp;refine ai (OG s) (by simp) ?_;simp[Tryz.results382]
theorem OI(v:Int):aB Tryz.prog 386 [.int v] (.bool (!vB v)):=by
 refine QpQ (ys:=[_]) [] [] [] Tryz.func386 rfl (by simp[Tryz.ntmps386]) ?_;by_cases h:v<0
 ·have:vB v=false:=by simp[vB];omega
  simp[h,this,Tryz.results386]
 ·by_cases h2:1099511627775<v
  ·have:vB v=false:=by simp[vB];omega
   simp[h,h2,this,Tryz.results386]
  ·have:vB v=true:=by simp[vB];omega
   simp[h,h2,this,Tryz.results386]
def N'(ks:List (List UInt8))(j:Nat):Bool:=j==0||Op.bytesLess (ks.getD (j-1) []) (ks.getD j [])
theorem OJ(ks:List (List UInt8))(hk:ks.length<=9223372036854775807):aB Tryz.prog 384 [.sl (ks.map PC.str)] (.bool ((List.range ks.length).all (N' ks))):=by
 refine QpQ (ys:=[_]) [] [] [] Tryz.func384 rfl (by simp[Tryz.ntmps384]) ?_;simp;refine bW (fun k:Nat=>(k<=ks.length\/k=0)/\∀j,j<k+1->j<ks.length->N' ks j=true) (fun k=>[(0,.p (.sl (ks.map PC.str))),(3,.p (.int (k+1)))]) (fun k=>ks.length-k) 0 ⟨.inr rfl,?_⟩ (aA (by simp)) ?_
 ·intro j hj _;obtain rfl:j=0:=by omega
  rfl
 rintro k ⟨j1,j2⟩;by_cases c1:k+1<ks.length
 ·have jH:(k:Int)+1<(ks.length:Int):=by omega
  have hm:k<ks.length:=by omega
  have w1:IntKind.i64.wrap (k:Int)=(k:Int):=af (by omega) (by omega);have p2:(0:Int)<=(k:Int)+1:=by omega
  have t1:((k:Int)+1).toNat=k+1:=by omega
  simp[c1,jH,w1,hm,p2,t1];by_cases c2:Op.bytesLess ks[k] ks[k+1]=true
  ·simp[c2];refine⟨k+1,⟨by omega,?_⟩,by omega,aA ?_⟩
   ·intro j hj hl;by_cases hj':j<k+1
    ·exact j2 j hj' hl
    ·obtain rfl:j=k+1:=by omega
     simp[N',c1,hm,c2]
   ·simp[af (n:=(k:Int)+1+1) (by omega) (by omega)]
  ·have r:(List.range ks.length).all (N' ks)=false:=by
    rw[List.all_eq_false];exact⟨k+1,by simpa using c1,by simp[N',c1,hm,c2]⟩
   simp[c2,r,Tryz.results384]
 ·have jH:¬(k:Int)+1<(ks.length:Int):=by omega
  have r:(List.range ks.length).all (N' ks)=true:=by
   rw[List.all_eq_true];intro j hj;simp at hj;exact j2 j (by omega) hj
  simp[jH,r,Tryz.results384]
def JP(q:Int->Bool)(vs:List Int):Int:=if(vs.takeWhile (fun v=>!q v)).length<vs.length then((vs.takeWhile (fun v=>!q v)).length:Nat)else-1
theorem JQ(q:List UInt8->Bool)(ks:List (List UInt8)):decide (0<=DE q ks)=ks.any q:=by
 unfold DE;by_cases h:below (fun s=>!q s) ks<ks.length
 ·have:=vR _ _ h;have e:ks.any q=true:=by rw[List.any_eq_true];exact⟨_,List.getElem_mem h,by simpa using this⟩
  simp[h,e]
 ·have hb:=vS (fun s=>!q s) ks;have e:ks.any q=false:=by
   rw[List.any_eq_false];intro x hx;have:=vT (fun s=>!q s) ks x (by rw[List.take_of_length_le (by omega)];exact hx);simpa using this
  simp[h,e]
theorem vU{g:FuncId}{caps:List PC}(q:List UInt8->Bool)(ks:List (List UInt8))(hk:ks.length<=9223372036854775807)(h:∀s∈ks,aB Tryz.prog g (.str s::caps) (.bool (q s))):aB Tryz.prog 371 [.sl (ks.map PC.str),.fn (.func g) caps] (.bool (ks.any q)):=by
 refine QpQ (ys:=[_]) [] [] [] Tryz.func371 rfl (by simp[Tryz.ntmps371]) ?_;simp;refine ai (Fo q ks hk h) (by simp) ?_;simp[JQ,Tryz.results371]
theorem Fp{p:Int->Bool}{vs:List Int}{k:Nat}(h:∀x∈vs.take k,p x=true)(hk:k<=vs.length)(he:(hk:k<vs.length)->p vs[k]=false):(vs.takeWhile p).length=k:=by
 induction vs generalizing k with
 |nil=>simp at hk;simp[hk]
 |cons a ks ih=>
  cases k with
  |zero=>have:=he (by simp);simp at this;simp[this]
  |succ k=>
   have ha:=h a (by simp);have:=ih (k:=k) (fun x hx=>h x (by simp[hx])) (by simpa using hk) (fun hk'=>by have:=he (by simp;omega);simpa using this);simp[ha,this]
theorem OL{g:FuncId}{caps:List PC}(q:Int->Bool)(vs:List Int)(hk:vs.length<=9223372036854775807)(h:∀s∈vs,aB Tryz.prog g (.int s::caps) (.bool (q s))):aB Tryz.prog 399 [.sl (vs.map PC.int),.fn (.func g) caps] (.int (JP q vs)):=by
 refine QpQ (ys:=[_]) [] [] [] Tryz.func399 rfl (by simp[Tryz.ntmps399]) ?_;simp;refine bW (fun k:Nat=>k<=vs.length/\∀x∈vs.take k,(!q x)=true) (fun k=>[(0,.p (.sl (vs.map PC.int))),(1,.p (.fn (.func g) caps)),(7,.p (.int vs.length)),(8,.p (.int k))]) (fun k=>vs.length-k) 0 (by simp) (aA (by simp)) ?_;rintro k ⟨h1,h2⟩;by_cases c1:k<vs.length
 ·simp[c1];refine ai (h vs[k] (by simp)) (by simp) ?_;by_cases c2:q vs[k]=true
  ·have e:=Fp (p:=fun v=>!q v) h2 h1 (fun _=>by simpa using c2);simp[c2,JP,e,c1,Tryz.results399]
  ·simp[c2];refine⟨k+1,⟨by omega,?_⟩,by omega,aA ?_⟩
   ·rw[List.take_succ_eq_append_getElem c1];simp only[List.mem_append,List.mem_singleton];rintro x (hx|rfl);(have:=h2 x hx;simpa using this);simpa using c2
   ·simp[af (n:=(k:Int)+1) (by omega) (by omega)]
 ·have e:=Fp (p:=fun v=>!q v) h2 h1 (fun h=>absurd h c1);simp[e,c1,JP,Tryz.results399]
theorem JR(q:Int->Bool)(vs:List Int):decide (0<=JP q vs)=vs.any q:=by
 unfold JP
 induction vs with
 |nil=>rfl
 |cons a l ih=>
  cases h:q a with
  |true=>simp[h]
  |false=>
   simp only[List.takeWhile_cons,h,Bool.not_false,if_true,List.length_cons,Nat.add_lt_add_iff_right,List.any_cons,Bool.false_or];rw[<-ih];split<;>simp<;>omega
theorem DF{g:FuncId}{caps:List PC}(q:Int->Bool)(vs:List Int)(hk:vs.length<=9223372036854775807)(h:∀s∈vs,aB Tryz.prog g (.int s::caps) (.bool (q s))):aB Tryz.prog 385 [.sl (vs.map PC.int),.fn (.func g) caps] (.bool (vs.any q)):=by
 refine QpQ (ys:=[_]) [] [] [] Tryz.func385 rfl (by simp[Tryz.ntmps385]) ?_;simp;refine ai (OL q vs hk h) (by simp) ?_;simp[JR,Tryz.results385]
theorem GZ(l:Bool)(ks:List (List UInt8))(vs:List Int):fc l ks vs=(!(ks.any fun s=>!Jh s)&&(List.range ks.length).all (N' ks)&&!(vs.any fun v=>!vB v)&&decide (ks.length<=4)&&nO l ks vs&&(l||decide (0<ks.length))):=by
 have e1:(List.range ks.length).all (kB ks)=(!(ks.any fun s=>!Jh s)&&(List.range ks.length).all (N' ks)):=by
  rw[Bool.eq_iff_iff];simp only[List.all_eq_true,List.mem_range,Bool.and_eq_true,Bool.not_eq_true',List.any_eq_false];constructor
  ·intro h;refine⟨fun s hs=>?_,fun j hj=>?_⟩
   ·obtain⟨i,hi,rfl⟩:=List.getElem_of_mem hs;have:=h i hi;simp only[kB,Bool.and_eq_true]at this;simpa[Jh,hi]using this.1
   ·have:=h j hj;simp only[kB,Bool.and_eq_true]at this;exact this.2
  ·rintro⟨h1,h2⟩ j hj;have a:=h1 ks[j] (by simp);have b:=h2 j hj;simp only[kB,Bool.and_eq_true];refine⟨?_,b⟩;simpa[Jh,hj]using a
 have e2:vs.all vB=!(vs.any fun v=>!vB v):=by
  rw[Bool.eq_iff_iff];simp
 unfold fc;rw[e1,e2];cases(ks.any fun s=>!Jh s)<;>cases(List.range ks.length).all (N' ks)<;>cases(vs.any fun v=>!vB v)<;>cases decide (ks.length<=4)<;>cases nO l ks vs<;>cases(l||decide (0<ks.length))<;>rfl
theorem qS(l:Bool)(ks:List (List UInt8))(vs:List Int)(hk:ks.length<=9223372036854775807)(hv:vs.length<=9223372036854775807):aB Tryz.prog 360 [dh l ks vs] (.bool (fc l ks vs)):=by
 rw[GZ];have c1:=vU (g:=382) (caps:=[]) (fun s=>!Jh s) ks hk fun s _=>OH s;have c2:=OJ ks hk;have c3:=DF (g:=386) (caps:=[]) (fun v=>!vB v) vs hv fun s _=>OI s;refine QpQ (ys:=[_]) [] [] [] Tryz.func360 rfl (by simp[Tryz.ntmps360]) ?_;simp;refine ai c1 (by simp) ?_;cases(ks.any fun s=>!Jh s)
 ·simp;refine ai c2 (by simp) ?_;simp;refine ai c3 (by simp) ?_;cases(List.range ks.length).all (N' ks)<;>cases(vs.any fun v=>!vB v)<;>try (simp[Tryz.results360];done)
  by_cases h4:(ks.length:Int)<=4
  ·have Vx:ks.length<=4:=by omega
   simp[h4,Vx];refine ai (iT l ks vs (by omega)) (by simp) ?_;cases nO l ks vs
   ·simp[Tryz.results360]
   ·cases l
    ·by_cases h0:0<ks.length
     ·simp[h0,Tryz.results360]
     ·simp[h0,Tryz.results360]
    ·simp[Tryz.results360]
  ·have Vx:¬ks.length<=4:=by omega
   simp[h4,Vx,Tryz.results360]
 ·simp;refine ai c3 (by simp) ?_;cases(vs.any fun v=>!vB v)
  ·simp[Tryz.results360]
  ·simp[Tryz.results360]
@[simp]theorem Zc{v:Value}:aV (.sc v)=[.p (.sc v)]:=(rfl)
def cz(v:Int)(i:Nat):UInt8:=UInt8.ofNat (v.toNat/2^(8*i))
def pY(v:Int):List UInt8:=[cz v 4,cz v 3,cz v 2,cz v 1,cz v 0]
def dI(ks:List (List UInt8)):List UInt8:=ks.flatMap fun s=>UInt8.ofNat s.length::s
def dM(vs:List Int):List UInt8:=vs.flatMap pY
def kC(l:Bool)(n:Nat):List UInt8:=[if l then 1 else 2,UInt8.ofNat n]
def h_(l:Bool)(ks:List (List UInt8))(vs:List Int):List UInt8:=kC l ks.length++dI ks++dM vs
theorem Q5(m:Nat):IntKind.u8.wrap (m:Int)=((UInt8.ofNat m).toNat:Int):=by
 simp[IntKind.wrap,IntKind.signed,IntKind.bits]
theorem yN(m n i:Nat)(hn:n=8*i)(hi:i<=4):IntKind.u8.wrap ((m:Int).fdiv (2^min n IntKind.i64.bits))=((cz (m:Int) i).toNat:Int):=by
 have h2:min n IntKind.i64.bits=n:=by simp[IntKind.bits];omega
 rw[h2,Int.fdiv_eq_ediv_of_nonneg _ (by exact Int.le_of_lt (Int.pow_pos (by omega)))];have h3:(m:Int)/2^n=((m/2^n:Nat):Int):=by simp
 rw[h3,Q5,cz,Int.toNat_natCast,hn]
theorem nt{ks:List (List UInt8)}{k:Nat}(h:k<ks.length):dI (ks.take (k+1))=dI (ks.take k)++UInt8.ofNat ks[k].length::ks[k]:=by
 rw[List.take_succ_eq_append_getElem h];simp only[dI,List.flatMap_append,List.flatMap_cons,List.flatMap_nil,List.append_nil]
theorem yj{vs:List Int}{k:Nat}(h:k<vs.length):dM (vs.take (k+1))=dM (vs.take k)++pY vs[k]:=by
 rw[List.take_succ_eq_append_getElem h];simp only[dM,List.flatMap_append,List.flatMap_cons,List.flatMap_nil,List.append_nil]
theorem uo{vs:List Int}{n:Nat}(hn:vs.length<=n):(dM vs).length<=5*n:=by
 induction vs generalizing n with
 |nil=>simp[dM]
 |cons a ks ih=>
  have:=ih (n:=n-1) (by simp at hn;omega);simp[dM,pY]at this hn⊢;omega
theorem uq{ks:List (List UInt8)}{n:Nat}(h:∀s∈ks,s.length<=100)(hn:ks.length<=n):(dI ks).length<=101*n:=by
 induction ks generalizing n with
 |nil=>simp[dI]
 |cons a ks ih=>
  have:=ih (n:=n-1) (fun s hs=>h s (by simp[hs])) (by simp at hn;omega);have ha:=h a (by simp);simp[dI]at this hn⊢;omega
theorem Gz{B S:List UInt8}{N:Nat}{c:UInt8}(hN:N=B.length):List.take (N+1) (List.take N ((ah B).map AV.p)++[AV.p (.sc (.int .u8 (c.toNat:Int)))])++(ah S).map AV.p=(ah (B++c::S)).map AV.p:=by
 have h1:List.take N ((ah B).map AV.p)=(ah B).map AV.p:=List.take_of_length_le (by simp;omega);rw[h1,List.take_of_length_le (by simp;omega)];simp[ah]
theorem row_one{B:List UInt8}{N:Nat}{c:UInt8}(hN:N=B.length):List.take N ((ah B).map AV.p)++[AV.p (.sc (.int .u8 (c.toNat:Int)))]=(ah (B++[c])).map AV.p:=by
 have h1:List.take N ((ah B).map AV.p)=(ah B).map AV.p:=List.take_of_length_le (by simp;omega);rw[h1];simp[ah]
@[simp]theorem adL{l:Bool}{n:Nat}:(kC l n).length=2:=rfl
theorem mb(b:List UInt8):List.take b.length (List.map AV.p (ah b))=List.map AV.p (List.flatMap gu (ah b))/\(∀(y:PC),y∈ah b->y.width=1)/\∀(y:PC),y∈ah b->cF y=true:=by
 refine⟨?_,fun y h=>?_,fun y h=>?_⟩
 ·rw[List.take_of_length_le (by simp)];congr 1
  induction b with
  |nil=>rfl
  |cons a b ih=>simp only[ah,List.map_cons,List.flatMap_cons,RJ]at ih⊢;rw[<-ih];rfl
 ·simp only[ah,List.mem_map]at h;obtain⟨z,_,rfl⟩:=h;rfl
 ·simp only[ah,List.mem_map]at h;obtain⟨z,_,rfl⟩:=h;rfl
theorem Zd(l:Bool)(ks:List (List UInt8))(vs:List Int)(hr:fc l ks vs=true)(hk:ks.length<=9223372036854775807)(hv:vs.length<=9223372036854775807):aB Tryz.prog 432 [dh l ks vs] (.tp [.sl (ah (h_ l ks vs)),.int 0]):=by
 obtain⟨hc,k4,hf,C9⟩:=pq hr;refine bN (xs:=[_]) (r:= .agg true [.view 0 0 (h_ l ks vs).length 1 none,.p (.int 0)]) (aO:=⟨[(0,⟨5,1,(ah (h_ l ks vs)).map .p⟩)],[],1⟩) ?_ ?_
 ·refine QgQ (rs:=[_,_]) [17] [] [] Tryz.func432 rfl (by simp[Tryz.ntmps432]) ?_;simp;refine ai (qS l ks vs hk hv) (by simp) ?_;simp[hr];cases l
  ·simp;refine aN (fun k:Nat=>k<=ks.length) (fun k=>[(1,.p (.ref (dh false ks vs))),(4,.view 0 0 (kC false ks.length++dI (ks.take k)).length 1 none),(24,.p (.sl (ks.map PC.str))),(25,.p (.int ks.length)),(26,.p (.int k))]) (fun k=>⟨[(0,⟨5,1,(ah (kC false ks.length++dI (ks.take k))).map .p⟩)],[],1⟩) (fun k=>ks.length-k) 0 (by simp) _ (AS.le_refl _ _) (aA (by simp[kC,dI,ah,Q5])) ?_;intro k hk;have hP:=uq (n:=ks.length) (fun s hs=>C9 s (List.mem_of_mem_take hs)) (by simp;omega:(ks.take k).length<=ks.length);by_cases c1:k<ks.length
   ·have hl:=C9 ks[k] (by simp);have key:=Gz (B:=kC false ks.length++dI (ks.take k)) (S:=ks[k]) (N:=(kC false ks.length).length+(dI (ks.take k)).length) (c:=UInt8.ofNat ks[k].length) (by simp);rw[List.append_assoc,<-nt c1,<-Q5]at key;simp[c1]at key⊢
    repeat' refine And.intro ?_ ?_
    all_goals first|omega|skip
    refine⟨k+1,by omega,by omega,aE [(0,2)] ?_⟩;have hlen:(dI (ks.take (k+1))).length=(dI (ks.take k)).length+1+ks[k].length:=by rw[nt c1];simp;omega
    simp[key,hlen,af (n:=(k:Int)+1) (by omega) (by omega)];omega
   ·have e:k=ks.length:=by omega
    subst e;have hP:(dI ks).length<=404:=by simp only[List.take_length]at hP;omega
    simp;have hf':vs.length<=5:=by
     have:vs.length=ks.length+1:=by simpa[nO]using hf
     omega
    obtain⟨B0,Ze⟩:∃B0,B0=kC false ks.length++dI ks:=⟨_,rfl⟩;have lB0:B0.length=2+(dI ks).length:=by rw[Ze];simp
    rw[<-Ze,<-lB0];refine aN (fun k:Nat=>k<=vs.length) (fun k=>[(4,.view 0 0 (B0++dM (vs.take k)).length 1 none),(40,.p (.sl (vs.map PC.int))),(41,.p (.int vs.length)),(42,.p (.int k))]) (fun k=>⟨[(0,⟨5,1,(ah (B0++dM (vs.take k))).map .p⟩)],[],1⟩) (fun k=>vs.length-k) 0 (by simp) _ (AS.le_refl _ _) (aA (by simp[dM])) ?_;intro k hk;by_cases c1:k<vs.length
    ·simp[c1];obtain⟨B1,OB⟩:∃B1,B1=B0++dM (vs.take k):=⟨_,rfl⟩;have lB1:B1.length=B0.length+(dM (vs.take k)).length:=by rw[OB];simp
     have lP:=uo (n:=5) (vs:=vs.take k) (by simp;omega);rw[<-OB,<-lB1];obtain⟨v,OW⟩:∃v,v=vs[k]:=⟨_,rfl⟩;rw[<-OW];have X1:0<=v:=by
      have:=Gs (l:=false) (ks:=ks) (vs:=vs) c1;rw[hr]at this;have h2:vB vs[k]=true:=by cases h:vB vs[k]with
       |true=>rfl
       |false=>exact absurd (this h) (by simp)
      simp[vB]at h2;omega
     refine aN (fun j:Nat=>j<=5) (fun j=>[(4,.view 0 0 (B1++(pY v).take j).length 1 none),(8,.p (.int v)),(9,.p (.int (4-j))),(40,.p (.sl (vs.map PC.int))),(41,.p (.int vs.length)),(42,.p (.int k))]) (fun j=>⟨[(0,⟨5,1,(ah (B1++(pY v).take j)).map .p⟩)],[],1⟩) (fun j=>5-j) 0 (by simp) _ (AS.le_refl _ _) (aA (by simp)) ?_;intro j hj;have C_:j=0\/j=1\/j=2\/j=3\/j=4\/j=5:=by omega
     obtain⟨m,hm⟩:∃m:Nat,v=m:=⟨v.toNat,by omega⟩;rcases C_ with rfl|rfl|rfl|rfl|rfl|rfl
     ·have w:=yN m 32 4 rfl (by omega);have key:=row_one (B:=B1) (N:=B1.length) (c:=cz v 4) (by simp);rw[<-hm]at w
      try simp at key
      simp[pY,af];refine⟨by omega,by omega,1,by omega,by omega,aE [(0,1)] ?_⟩;simp[key,w]
     ·have w:=yN m 24 3 rfl (by omega);have key:=row_one (B:=(B1++[cz v 4])) (N:=B1.length+1) (c:=cz v 3) (by simp);rw[<-hm]at w
      try simp at key
      simp[pY,af];refine⟨by omega,by omega,2,by omega,by omega,aE [(0,1)] ?_⟩;simp[key,w]
     ·have w:=yN m 16 2 rfl (by omega);have key:=row_one (B:=(B1++[cz v 4,cz v 3])) (N:=B1.length+2) (c:=cz v 2) (by simp);rw[<-hm]at w
      try simp at key
      simp[pY,af];refine⟨by omega,by omega,3,by omega,by omega,aE [(0,1)] ?_⟩;simp[key,w]
     ·have w:=yN m 8 1 rfl (by omega);have key:=row_one (B:=(B1++[cz v 4,cz v 3,cz v 2])) (N:=B1.length+3) (c:=cz v 1) (by simp);rw[<-hm]at w
      try simp at key
      simp[pY,af];refine⟨by omega,by omega,4,by omega,by omega,aE [(0,1)] ?_⟩;simp[key,w]
     ·have w:=yN m 0 0 rfl (by omega);have key:=row_one (B:=(B1++[cz v 4,cz v 3,cz v 2,cz v 1])) (N:=B1.length+4) (c:=cz v 0) (by simp);rw[<-hm]at w
      try simp at key
      simp[pY,af];refine⟨by omega,by omega,5,by omega,by omega,aE [(0,1)] ?_⟩;have w':IntKind.u8.wrap v=((cz v 0).toNat:Int):=by simpa using w
      simp[key,w']
     ·have E:B0++dM (vs.take (k+1))=B1++pY v:=by rw[yj c1,OB,OW,List.append_assoc]
      have l5:(pY v).length=5:=rfl;have lE:B0.length+(dM (vs.take (k+1))).length=B1.length+5:=by rw[<-List.length_append,E];simp[l5]
      have t5:List.take 5 (pY v)=pY v:=rfl;simp;refine⟨k+1,by omega,by omega,aA ?_⟩;simp[E,l5,lE,t5,af (n:=(k:Int)+1) (by omega) (by omega)]
    ·have e:k=vs.length:=by omega
     subst e;simp[Tryz.results432];have E:h_ false ks vs=B0++dM vs:=by rw[Ze];rfl
     exact⟨[],by simp[E]⟩
  ·simp;refine aN (fun k:Nat=>k<=ks.length) (fun k=>[(1,.p (.ref (dh true ks vs))),(4,.view 0 0 (kC true ks.length++dI (ks.take k)).length 1 none),(24,.p (.sl (ks.map PC.str))),(25,.p (.int ks.length)),(26,.p (.int k))]) (fun k=>⟨[(0,⟨5,1,(ah (kC true ks.length++dI (ks.take k))).map .p⟩)],[],1⟩) (fun k=>ks.length-k) 0 (by simp) _ (AS.le_refl _ _) (aA (by simp[kC,dI,ah,Q5])) ?_;intro k hk;have hP:=uq (n:=ks.length) (fun s hs=>C9 s (List.mem_of_mem_take hs)) (by simp;omega:(ks.take k).length<=ks.length);by_cases c1:k<ks.length
   ·have hl:=C9 ks[k] (by simp);have key:=Gz (B:=kC true ks.length++dI (ks.take k)) (S:=ks[k]) (N:=(kC true ks.length).length+(dI (ks.take k)).length) (c:=UInt8.ofNat ks[k].length) (by simp);rw[List.append_assoc,<-nt c1,<-Q5]at key;simp[c1]at key⊢
    repeat' refine And.intro ?_ ?_
    all_goals first|omega|skip
    refine⟨k+1,by omega,by omega,aE [(0,2)] ?_⟩;have hlen:(dI (ks.take (k+1))).length=(dI (ks.take k)).length+1+ks[k].length:=by rw[nt c1];simp;omega
    simp[key,hlen,af (n:=(k:Int)+1) (by omega) (by omega)];omega
   ·have e:k=ks.length:=by omega
    subst e;have hP:(dI ks).length<=404:=by simp only[List.take_length]at hP;omega
    simp;have hf':vs.length<=5:=by
     have:vs.length=ks.length:=by simpa[nO]using hf
     omega
    obtain⟨B0,Ze⟩:∃B0,B0=kC true ks.length++dI ks:=⟨_,rfl⟩;have lB0:B0.length=2+(dI ks).length:=by rw[Ze];simp
    rw[<-Ze,<-lB0];refine aN (fun k:Nat=>k<=vs.length) (fun k=>[(4,.view 0 0 (B0++dM (vs.take k)).length 1 none),(40,.p (.sl (vs.map PC.int))),(41,.p (.int vs.length)),(42,.p (.int k))]) (fun k=>⟨[(0,⟨5,1,(ah (B0++dM (vs.take k))).map .p⟩)],[],1⟩) (fun k=>vs.length-k) 0 (by simp) _ (AS.le_refl _ _) (aA (by simp[dM])) ?_;intro k hk;by_cases c1:k<vs.length
    ·simp[c1];obtain⟨B1,OB⟩:∃B1,B1=B0++dM (vs.take k):=⟨_,rfl⟩;have lB1:B1.length=B0.length+(dM (vs.take k)).length:=by rw[OB];simp
     have lP:=uo (n:=5) (vs:=vs.take k) (by simp;omega);rw[<-OB,<-lB1];obtain⟨v,OW⟩:∃v,v=vs[k]:=⟨_,rfl⟩;rw[<-OW];have X1:0<=v:=by
      have:=Gs (l:=true) (ks:=ks) (vs:=vs) c1;rw[hr]at this;have h2:vB vs[k]=true:=by cases h:vB vs[k]with
       |true=>rfl
       |false=>exact absurd (this h) (by simp)
      simp[vB]at h2;omega
     refine aN (fun j:Nat=>j<=5) (fun j=>[(4,.view 0 0 (B1++(pY v).take j).length 1 none),(8,.p (.int v)),(9,.p (.int (4-j))),(40,.p (.sl (vs.map PC.int))),(41,.p (.int vs.length)),(42,.p (.int k))]) (fun j=>⟨[(0,⟨5,1,(ah (B1++(pY v).take j)).map .p⟩)],[],1⟩) (fun j=>5-j) 0 (by simp) _ (AS.le_refl _ _) (aA (by simp)) ?_;intro j hj;have C_:j=0\/j=1\/j=2\/j=3\/j=4\/j=5:=by omega
     obtain⟨m,hm⟩:∃m:Nat,v=m:=⟨v.toNat,by omega⟩;rcases C_ with rfl|rfl|rfl|rfl|rfl|rfl
     ·have w:=yN m 32 4 rfl (by omega);have key:=row_one (B:=B1) (N:=B1.length) (c:=cz v 4) (by simp);rw[<-hm]at w
      try simp at key
      simp[pY,af];refine⟨by omega,by omega,1,by omega,by omega,aE [(0,1)] ?_⟩;simp[key,w]
     ·have w:=yN m 24 3 rfl (by omega);have key:=row_one (B:=(B1++[cz v 4])) (N:=B1.length+1) (c:=cz v 3) (by simp);rw[<-hm]at w
      try simp at key
      simp[pY,af];refine⟨by omega,by omega,2,by omega,by omega,aE [(0,1)] ?_⟩;simp[key,w]
     ·have w:=yN m 16 2 rfl (by omega);have key:=row_one (B:=(B1++[cz v 4,cz v 3])) (N:=B1.length+2) (c:=cz v 2) (by simp);rw[<-hm]at w
      try simp at key
      simp[pY,af];refine⟨by omega,by omega,3,by omega,by omega,aE [(0,1)] ?_⟩;simp[key,w]
     ·have w:=yN m 8 1 rfl (by omega);have key:=row_one (B:=(B1++[cz v 4,cz v 3,cz v 2])) (N:=B1.length+3) (c:=cz v 1) (by simp);rw[<-hm]at w
      try simp at key
      simp[pY,af];refine⟨by omega,by omega,4,by omega,by omega,aE [(0,1)] ?_⟩;simp[key,w]
     ·have w:=yN m 0 0 rfl (by omega);have key:=row_one (B:=(B1++[cz v 4,cz v 3,cz v 2,cz v 1])) (N:=B1.length+4) (c:=cz v 0) (by simp);rw[<-hm]at w
      try simp at key
      simp[pY,af];refine⟨by omega,by omega,5,by omega,by omega,aE [(0,1)] ?_⟩;have w':IntKind.u8.wrap v=((cz v 0).toNat:Int):=by simpa using w
      simp[key,w']
     ·have E:B0++dM (vs.take (k+1))=B1++pY v:=by rw[yj c1,OB,OW,List.append_assoc]
      have l5:(pY v).length=5:=rfl;have lE:B0.length+(dM (vs.take (k+1))).length=B1.length+5:=by rw[<-List.length_append,E];simp[l5]
      have t5:List.take 5 (pY v)=pY v:=rfl;simp;refine⟨k+1,by omega,by omega,aA ?_⟩;simp[E,l5,lE,t5,af (n:=(k:Int)+1) (by omega) (by omega)]
    ·have e:k=vs.length:=by omega
     subst e;simp[Tryz.results432];have E:h_ true ks vs=B0++dM vs:=by rw[Ze];rfl
     exact⟨[],by simp[E]⟩
 ·simp[cQ,ie];exact mb _
abbrev nN(b:List UInt8)(short:Bool):Ob:=⟨511,2,[.p (.sl (ah b)),.p (.bool short)]⟩
theorem JJ(nx id:Nat)(hid:id<nx)(b:List UInt8)(n:Nat)(hn:n<=b.length)(hb:b.length<=9223372036854775807):aI Tryz.prog 436 [.obj id 0,.p (.int n)] ⟨[(id,nN b false)],[],nx⟩ (.p (.sl (ah (b.take n)))) ⟨[(id,nN (b.drop n) false)],[],nx⟩:=by
 have e1:¬b.length<n:=by omega
 refine QgQ (rs:=[_]) [] [] [] Tryz.func436 rfl (by simp[Tryz.ntmps436]) ?_;simp[e1,hn,Tryz.results436];refine⟨fun y hy=>((mb b).2.1 y hy).symm,⟨[],by simp[hid,ah]⟩,by simp[ah]⟩
theorem Ff(nx id:Nat)(hid:id<nx)(b:List UInt8)(short:Bool)(n:Nat)(h:short=true\/b.length<n)(hb:b.length<=9223372036854775807)(hn:n<=1000):aI Tryz.prog 436 [.obj id 0,.p (.int n)] ⟨[(id,nN b short)],[],nx⟩ (.p (.sl (ah (List.replicate n 0)))) ⟨[(id,nN b true)],[],nx+2⟩:=by
 have hne:¬id=nx:=by omega
 have mc:¬nx=id:=by omega
 have hlt:id<nx+1:=by omega
 have hm:n<=maxLen:=by unfold maxLen;omega
 have hz:ah (List.replicate n 0)=List.replicate n (.sc (.int .u8 0)):=by simp[ah]
 have key:aI Tryz.prog 436 [.obj id 0,.p (.int n)] ⟨[(id,nN b short)],[],nx⟩ (.view nx 0 n 1 none) ⟨[(nx,⟨5,1,(ah (List.replicate n 0)).map .p⟩),(id,nN b true)],[],nx+1⟩:=by
  refine QgQ (rs:=[_]) [] [] [] Tryz.func436 rfl (by simp[Tryz.ntmps436]) ?_;cases short
  ·have h1:b.length<n:=by simpa using h
   simp[h1,mc,Tryz.results436];refine⟨by omega,hm,[],by simp[hne,mc,hlt,hz]⟩
  ·simp[mc,Tryz.results436];refine⟨by omega,hm,[],by simp[hne,mc,hlt,hz]⟩
 have:=qQ key (ob:=⟨5,1,(ah (List.replicate n 0)).map .p⟩) (ys:=ah (List.replicate n 0)) (by simp) rfl (by omega) (by simp) (by rw[Nat.mul_one,qR];have:=(mb (List.replicate n 0)).1;simpa using this) (by simp) (mb _).2.1 (mb _).2.2;simpa[Tb.cE,del,hne,mc]using this
theorem Vp(V x:Nat)(hV:V<281474976710656)(hx:x<256):bits .or .i64 ((V:Int)*256) (x:Int)=((V*256+x:Nat):Int):=by
 have e:(V:Int)*256=((V*256:Nat):Int):=by simp
 rw[e];unfold bits;simp only[BitVec.ofInt_natCast,BitVec.toNat_or,BitVec.toNat_ofNat];have b:IntKind.i64.bits=64:=rfl;rw[b,Nat.mod_eq_of_lt (by omega),Nat.mod_eq_of_lt (by omega)];have h:=Nat.shiftLeft_add_eq_or_of_lt (i:=8) (b:=x) (by omega) V;rw[Nat.shiftLeft_eq]at h;have h2:V*256|||x=V*256+x:=h.symm;rw[h2];exact af (by omega) (by omega)
theorem Fg(V x:Nat)(hV:V<281474976710656)(hx:x<256):bits .or .i64 (IntKind.i64.wrap ((V:Int)*2^min 8 IntKind.i64.bits)) (IntKind.i64.wrap (x:Int))=((V*256+x:Nat):Int):=by
 have p:(2:Int)^min 8 IntKind.i64.bits=256:=rfl;rw[p,af (n:=(V:Int)*256) (by omega) (by omega),af (n:=(x:Int)) (by omega) (by omega)];exact Vp V x hV hx
def iL(b:List UInt8):Nat:=b.foldl (fun v x=>v*256+x.toNat) 0
theorem jj(b:List UInt8)(x:UInt8):iL (b++[x])=iL b*256+x.toNat:=by simp[iL]
theorem zY:∀(n:Nat) (b:List UInt8),b.length=n->iL b<256^n:=by
 intro n
 induction n with
 |zero=>intro b h;have:b=[]:=List.eq_nil_of_length_eq_zero h;subst this;simp[iL]
 |succ n ih=>
  intro b h;have hne:b≠[]:=by intro e;subst e;simp at h
  obtain⟨a,x,rfl⟩:∃a x,b=a++[x]:=⟨b.dropLast,b.getLast hne,(List.dropLast_concat_getLast hne).symm⟩;rw[jj];have:=ih a (by simp at h;exact h);have hx:x.toNat<256:=x.toNat_lt;rw[Nat.pow_succ];omega
theorem JK(nx id:Nat)(hid:id<nx)(b:List UInt8)(n:Nat)(hn:n<=b.length)(hb:b.length<=9223372036854775807)(h5:n<=5):aI Tryz.prog 435 [.obj id 0,.p (.int n)] ⟨[(id,nN b false)],[],nx⟩ (.p (.int (iL (b.take n)))) ⟨[(id,nN (b.drop n) false)],[],nx⟩:=by
 refine QgQ (rs:=[_]) [] [] [] Tryz.func435 rfl (by simp[Tryz.ntmps435]) ?_;simp;refine az (JJ nx id hid b n hn hb) (by simp) (by simp[ay]) trivial rfl ?_;obtain⟨t,ht⟩:∃t,t=b.take n:=⟨_,rfl⟩;have lt:t.length=n:=by rw[ht];simp;omega
 rw[<-ht];simp[lt];refine aN (fun k:Nat=>k<=n) (fun k=>[(10,.p (.sl (ah t))),(11,.p (.int n)),(12,.p (.int k)),(5,.p (.int (iL (t.take k))))]) (fun _=>⟨[(id,nN (b.drop n) false)],[],nx⟩) (fun k=>n-k) 0 (by simp) _ (AS.le_refl _ _) (aA (by simp[hid,iL])) ?_;intro k hk;by_cases c1:k<n
 ·have jH:k<t.length:=by omega
  have hg:(ah t)[k]?=some (.sc (.int .u8 (t[k].toNat:Int))):=by simp[ah,jH]
  have hV:iL (t.take k)<281474976710656:=by
   have h1:=zY k (t.take k) (by simp;omega);have h2:256^k<=256^5:=Nat.pow_le_pow_right (by omega) (by omega);have h3:(256:Nat)^5=1099511627776:=rfl;omega
  have q:=Fg (iL (t.take k)) t[k].toNat hV t[k].toNat_lt;have q2:iL (t.take (k+1))=iL (t.take k)*256+t[k].toNat:=by rw[List.take_succ_eq_append_getElem jH,jj]
  simp[c1,hg];refine⟨k+1,by omega,by omega,aA ?_⟩;simp[hid,q,q2,af (n:=(k:Int)+1) (by omega) (by omega)]
 ·have e:k=n:=by omega
  subst e;have e2:t.take k=t:=List.take_of_length_le (by omega);simp[e2,Tryz.results435];exact⟨[],by simp[hid]⟩
theorem GY(nx id:Nat)(hid:id<nx)(b:List UInt8)(short:Bool)(n:Nat)(h:short=true\/b.length<n)(hb:b.length<=9223372036854775807)(h5:n<=5):aI Tryz.prog 435 [.obj id 0,.p (.int n)] ⟨[(id,nN b short)],[],nx⟩ (.p (.int 0)) ⟨[(id,nN b true)],[],nx+2⟩:=by
 have hlt:id<nx+2:=by omega
 refine QgQ (rs:=[_]) [] [] [] Tryz.func435 rfl (by simp[Tryz.ntmps435]) ?_;simp;refine az (Ff nx id hid b short n h hb (by omega)) (by simp) (by simp[ay]) trivial rfl ?_;obtain⟨t,ht⟩:∃t:List UInt8,t=List.replicate n 0:=⟨_,rfl⟩;have lt:t.length=n:=by rw[ht];simp
 rw[<-ht];simp[lt];refine aN (fun k:Nat=>k<=n) (fun k=>[(10,.p (.sl (ah t))),(11,.p (.int n)),(12,.p (.int k)),(5,.p (.int 0))]) (fun _=>⟨[(id,nN b true)],[],nx+2⟩) (fun k=>n-k) 0 (by simp) _ (AS.le_refl _ _) (aA (by simp[hlt])) ?_;intro k hk;by_cases c1:k<n
 ·have jH:k<t.length:=by omega
  have hz:t[k]=0:=by subst ht;simp
  have hg:(ah t)[k]?=some (.sc (.int .u8 0)):=by simp[ah,jH,hz]
  have q:bits .or .i64 (IntKind.i64.wrap 0) (IntKind.i64.wrap 0)=0:=by decide
  simp[c1,hg];refine⟨k+1,by omega,by omega,aA ?_⟩;simp[hlt,q,af (n:=(k:Int)+1) (by omega) (by omega)]
 ·simp[c1,Tryz.results435];exact⟨[],by simp[hlt]⟩
theorem OD(l:Bool)(ks:List (List UInt8))(vs:List Int)(hr:fc l ks vs=false)(hk:ks.length<=9223372036854775807)(hv:vs.length<=9223372036854775807):aB Tryz.prog 432 [dh l ks vs] (.tp [.nil,.int 10]):=by
 refine QpQ (ys:=[_,_]) [] [] [] Tryz.func432 rfl (by simp[Tryz.ntmps432]) ?_;simp;refine ai (qS l ks vs hk hv) (by simp) ?_;simp[hr,Tryz.results432]
end Go.Av
