/- DiskShapes, part 12: what functions compute, and its plain law; no condition. -/
import Derived.Test.YtgkdpbambfgahaaGreatDoorWak
set_option linter.all false
set_option maxRecDepth 100000
set_option maxHeartbeats 64000000
namespace Go.Av
open Go.Proofs Go.Proofs.Tryz
theorem I6{a b:Nat}:((a:Int)==(b:Int))=(a==b):=by rw[Bool.eq_iff_iff];simp;omega
theorem j9(l:Bool)(ks:List (List UInt8))(vs:List Int):aq prog 320 [dn l ks vs] (.int (if l then 0 else 1)):=by
 refine ai (ys:=[_]) [] [] [] func320 rfl ?_;cases l<;>simp[results320]
def pN(l:Bool)(ks:List (List UInt8))(vs:List Int):Bool:=vs.length==ks.length+(if l then 0 else 1)
theorem jT(l:Bool)(ks:List (List UInt8))(vs:List Int)(hk:ks.length<=1000000000000):aq prog 319 [dn l ks vs] (.bool (pN l ks vs)):=by
 refine ai (ys:=[_]) [] [] [] func319 rfl ?_;simp;refine bJ (j9 l ks vs) ?_;cases l
 ·have w:IntKind.i64.wrap ((ks.length:Int)+1)=((ks.length+1:Nat):Int):=aD;simp[results319,w,pN,<-I6]
 ·have w:IntKind.i64.wrap (ks.length:Int)=(ks.length:Int):=aD;simp[results319,w,pN,<-I6]
theorem afK(ks:List (List UInt8)):∀x∈ks.map PC.str,x.width=1:=by simp
theorem afL(ks:List (List UInt8)):∀x∈ks.map PC.str,cw x=true:=by simp
theorem afM(vs:List Int):∀x∈vs.map PC.int,x.width=1:=by simp
theorem afN(vs:List Int):∀x∈vs.map PC.int,cw x=true:=by simp
@[simp]theorem Qb(ks:List (List UInt8)):(ks.map PC.str).flatMap ga=ks.map PC.str:=by induction ks<;>simp_all
@[simp]theorem Qc(vs:List Int):(vs.map PC.int).flatMap ga=vs.map PC.int:=by induction vs<;>simp_all
theorem qI(nx:Nat)(l:Bool)(ks:List (List UInt8))(vs:List Int)(hk:ks.length<=1000000000000)(hv:vs.length<=1000000000000):aE prog 318 [.p (dn l ks vs)] ⟨[],[],nx⟩ (.agg false [.p (.bool l),.view nx 0 ks.length 1 none,.view (nx+1) 0 vs.length 1 none]) ⟨[(nx,⟨9,1,(ks.map PC.str).map .p⟩),(nx+1,⟨3,1,(vs.map PC.int).map .p⟩)],[],nx+2⟩:=by
 have c1:=fun n=>Ih n (ks.map PC.str) (afK ks) (afL ks) (by simpa using hk);have c2:=fun n=>DX n (vs.map PC.int) (afM vs) (afN vs) (by simpa using hv);simp only[List.length_map,Qb,Qc]at c1 c2;refine ah (rs:=[_]) [1] [(1,[(1,.r 1),(2,.f [1]),(4,.r 1),(5,.f [1]),(7,.s 1 []),(9,.s 1 [])])] [(1,nx)] func318 rfl ?_;simp;refine rG (c1 _) (by simp) trivial trivial rfl (by simp) ?_;simp;refine rG (c2 _) (by simp) trivial trivial rfl (by simp) ?_;simp[results318];exact⟨[(nx,nx+2),(nx+1,nx+3)],by simp;intro a b h;omega⟩
theorem Zl(ks:List (List UInt8)):List.take ks.length (ks.map (AV.p∘PC.str))=ks.map (AV.p∘PC.str):=fY (by simp)
theorem UN(vs:List Int):List.take vs.length (vs.map (AV.p∘PC.int))=vs.map (AV.p∘PC.int):=fY (by simp)
theorem oH{bx:List (Nat×Ob)}{l:Bool}{a b n m:Nat}{c d:Option Nat}{K:List (List UInt8)}{V:List Int}(ha:lk a bx=some ⟨9,1,(K.map PC.str).map .p⟩)(hb:lk b bx=some ⟨3,1,(V.map PC.int).map .p⟩)(hn:n=K.length)(hm:m=V.length):cQ bx 4 (.agg false [.p (.bool l),.view a 0 n 1 c,.view b 0 m 1 d]) (dn l K V):=by
 subst hn;subst hm;simp[cQ,gY,ha,hb,Zl,UN]
theorem KW(l:Bool)(ks:List (List UInt8))(vs:List Int)(hk:ks.length<=1000000000000)(hv:vs.length<=1000000000000):aq prog 318 [dn l ks vs] (dn l ks vs):=bI (xs:=[_]) (qI 0 l ks vs hk hv) (oH (by simp) (by simp) rfl rfl)
def afs(l:Bool)(ks:List (List UInt8))(vs:List Int)(i:Nat)(key:List UInt8)(us:List Int):PC:=dn l (ks.take i++[key]++ks.drop i) (vs.take i++us++vs.drop (if l then i else i+1))
theorem K0(l:Bool)(ks:List (List UInt8))(vs:List Int)(i:Nat)(key:List UInt8)(us:List Int)(hf:pN l ks vs=true)(hi:i<=ks.length)(hk:ks.length<=1000000000)(hv:vs.length<=1000000000)(hu:us.length<=1000000000):aq prog 242 [dn l ks vs,.int i,.str key,.sl (us.map PC.int)] (afs l ks vs i key us):=by
 have hc:=fun n=>qI n l ks vs (by omega) (by omega);have e1:¬ks.length<i:=by omega
 have hlen:vs.length=ks.length+(if l then 0 else 1):=by simpa[pN]using hf
 have w1:=jq i;cases l
 ·simp at hlen;refine bI (xs:=[_,_,_,_]) (r:= .agg false [.p (.bool false),.view 0 0 (ks.length+1) 1 none,.view 1 0 (i+us.length+(vs.length-(i+1))) 1 none]) (aM:=⟨[(0,⟨9,1,((ks.take i++[key]++ks.drop i).map PC.str).map .p⟩),(1,⟨3,1,((vs.take i++us++vs.drop (i+1)).map PC.int).map .p⟩)],[],2⟩) ?_ (oH rfl rfl (by simp;omega) (by simp;omega));refine ah (rs:=[_]) [4] [] [] func242 rfl ?_;simp;refine aA (hc _) (by simp) trivial trivial rfl ?_;simp;refine bD (jT false ks vs (by omega)) (by simp[cQ,gY,Zl,UN]) rfl ?_;simp[hf,e1];refine mC (AH _ 2 (by omega) (ks.map PC.str) ks.length i [.str key] (by simp) hi (by simp) (by simp) (by omega) (by simp)) rfl ?_;simp;refine aA (GZ _ 3 (by omega) (vs.map PC.int) vs.length i (i+1) (us.map PC.int) (by simp) (by omega) (by omega) (by simp) (by simp) (by omega) (by simp;omega)) (by simp[w1]) (by simp[ay]) trivial rfl ?_;simp[results242];exact⟨[(0,4),(1,5)],by simp⟩
 ·simp at hlen;refine bI (xs:=[_,_,_,_]) (r:= .agg false [.p (.bool true),.view 0 0 (ks.length+1) 1 none,.view 1 0 (vs.length+us.length) 1 none]) (aM:=⟨[(0,⟨9,1,((ks.take i++[key]++ks.drop i).map PC.str).map .p⟩),(1,⟨3,1,((vs.take i++us++vs.drop i).map PC.int).map .p⟩)],[],2⟩) ?_ (oH rfl rfl (by simp;omega) (by simp;omega));refine ah (rs:=[_]) [4] [] [] func242 rfl ?_;simp;refine aA (hc _) (by simp) trivial trivial rfl ?_;simp;refine bD (jT true ks vs (by omega)) (by simp[cQ,gY,Zl,UN]) rfl ?_;simp[hf,e1];refine mC (AH _ 2 (by omega) (ks.map PC.str) ks.length i [.str key] (by simp) hi (by simp) (by simp) (by omega) (by simp)) rfl ?_;simp;refine mC (JA _ 3 (by omega) (vs.map PC.int) vs.length i (us.map PC.int) (by simp) (by omega) (by simp) (by simp) (by omega) (by simp;omega)) rfl ?_;simp[results242];exact⟨[(0,4),(1,5)],by simp⟩
theorem G4(l:Bool)(ks:List (List UInt8))(vs:List Int)(at_:Int)(key:List UInt8)(us:List Int)(hf:pN l ks vs=false\/at_<0\/(ks.length:Int)<at_)(hk:ks.length<=1000000000)(hv:vs.length<=1000000000):aq prog 242 [dn l ks vs,.int at_,.str key,.sl (us.map PC.int)] (dn l ks vs):=by
 have hc:=fun n=>qI n l ks vs (by omega) (by omega);refine bI (xs:=[_,_,_,_]) (r:= .agg false [.p (.bool l),.view 0 0 ks.length 1 none,.view 1 0 vs.length 1 none]) (aM:=⟨[(0,⟨9,1,(ks.map PC.str).map .p⟩),(1,⟨3,1,(vs.map PC.int).map .p⟩)],[],2⟩) ?_ (oH rfl rfl rfl rfl);refine ah (rs:=[_]) [4] [] [] func242 rfl ?_;simp;refine aA (hc _) (by simp) trivial trivial rfl ?_;simp;refine bD (jT l ks vs (by omega)) (by simp[cQ,gY,Zl,UN]) rfl ?_;by_cases f0:pN l ks vs=false
 ·simp[f0,results242];exact⟨[(0,2),(1,3)],by simp⟩
 ·have f0':pN l ks vs=true:=by simpa using f0
  by_cases f1:at_<0
  ·simp[f0',f1,results242];exact⟨[(0,2),(1,3)],by simp⟩
  ·have f2:(ks.length:Int)<at_:=by
    rcases hf with h|h|h
    ·exact absurd h f0
    ·exact absurd h f1
    ·exact h
   simp[f0',f1,f2,results242];exact⟨[(0,2),(1,3)],by simp⟩
def FJ(q:List UInt8->Bool)(ks:List (List UInt8)):Int:=if below (fun s=>!q s) ks<ks.length then(below (fun s=>!q s) ks:Nat)else-1
theorem Hu{g:FuncId}{caps:List PC}(q:List UInt8->Bool)(ks:List (List UInt8))(hk:ks.length<=9223372036854775807)(h:∀s∈ks,aq prog g (.str s::caps) (.bool (q s))):aq prog 362 [.sl (ks.map PC.str),.fn (.func g) caps] (.int (FJ q ks)):=by
 refine ai (ys:=[_]) [] [] [] func362 rfl ?_;simp;refine bg (fun k:Nat=>k<=ks.length/\∀x∈ks.take k,(!q x)=true) (fun k=>[(0,.p (.sl (ks.map PC.str))),(1,.p (.fn (.func g) caps)),(7,.p (.int ks.length)),(8,.p (.int k))]) (fun k=>ks.length-k) 0 (by simp) (ak (by simp)) ?_;rintro k ⟨h1,h2⟩;by_cases c1:k<ks.length
 ·simp[c1];refine bS (h ks[k] (by simp)) ?_;by_cases c2:q ks[k]=true
  ·have e:=DI h2 h1 (fun _=>by simpa using c2);simp[c2,FJ,e,c1,results362]
  ·simp[c2];refine⟨k+1,⟨by omega,?_⟩,by omega,ak ?_⟩
   ·rw[iA c1];simp only[iR,List.mem_singleton];rintro x (hx|rfl);(have:=h2 x hx;simpa using this);simpa using c2
   ·simp[aD (n:=(k:Int)+1)]
 ·have e:=DI h2 h1 (fun h=>absurd h c1);simp[e,c1,FJ,results362]
theorem DJ:∀(a b:List UInt8),Op.bytesLess b a=(!Op.bytesLess a b&&!a==b)
 |[],[]=>rfl
 |[],_::_=>rfl
 |_::_,[]=>rfl
 |x::a,y::b=>by
  have ih:=DJ a b;rcases Nat.lt_trichotomy x.toNat y.toNat with h|h|h
  ·have h1:x<y:=h;have h2:¬y<x:=fun k=>by have:y.toNat<x.toNat:=k;omega
   have h3:(y==x)=false:=by simp;intro e;subst e;omega
   simp[Op.bytesLess,h1,h2,h3]
  ·have h1:x=y:=UInt8.toNat_inj.mp h;subst h1;have h2:¬x<x:=fun k=>by have:x.toNat<x.toNat:=k;omega
   simp[Op.bytesLess,h2,ih]
  ·have h1:y<x:=h;have h2:¬x<y:=fun k=>by have:x.toNat<y.toNat:=k;omega
   have h3:(x==y)=false:=by simp;intro e;subst e;omega
   have h4:x≠y:=by intro e;subst e;omega
   simp[Op.bytesLess,h1,h2,h3,h4]
theorem Ww(s key:List UInt8):aq prog 317 [.str s,.ref (.str key)] (.bool (Op.bytesLess s key)):=by
 refine ai (ys:=[_]) [] [] [] func317 rfl ?_;simp[results317]
theorem Rw(s key:List UInt8):aq prog 361 [.str s,.ref (.str key)] (.bool (!Op.bytesLess key s)):=by
 refine ai (ys:=[_]) [] [] [] func361 rfl ?_;simp[results361,DJ s key]
theorem Rx{g:FuncId}{caps:List PC}{s:List UInt8}{b:Bool}(h:aq prog g (.str s::caps) (.bool b)):aq prog 363 [.str s,.ref (.fn (.func g) caps)] (.bool (!b)):=by
 refine ai (ys:=[_]) [] [] [] func363 rfl ?_;simp;refine bS h ?_;simp[results363]
theorem HM{g:FuncId}{caps:List PC}(p:List UInt8->Bool)(l:Bool)(ks:List (List UInt8))(vs:List Int)(hk:ks.length<=9223372036854775807)(h:∀s∈ks,aq prog g (.str s::caps) (.bool (p s))):aq prog 316 [dn l ks vs,.fn (.func g) caps] (.int (below p ks)):=by
 refine ai (ys:=[_]) [] [] [] func316 rfl ?_;simp;refine bS (Hu (fun s=>!p s) ks hk fun s hs=>Rx (h s hs)) ?_;have hb:=xV p ks;by_cases c:below p ks<ks.length
 ·simp[FJ,c,results316]
 ·have e:below p ks=ks.length:=by omega
  simp[FJ,e,results316]
abbrev ac9(ks:List (List UInt8))(key:List UInt8):PC:= .tp [.int (below (fun s=>Op.bytesLess s key) ks),.bool (ks[below (fun s=>Op.bytesLess s key) ks]?==some key)]
theorem Wx(l:Bool)(ks:List (List UInt8))(vs:List Int)(key:List UInt8)(hk:ks.length<=9223372036854775807):aq prog 239 [dn l ks vs,.str key] (ac9 ks key):=by
 refine ai (ys:=[_,_]) [] [] [] func239 rfl ?_;simp;refine bS (HM (fun s=>Op.bytesLess s key) l ks vs hk fun s _=>Ww s key) ?_;have hb:=xV (fun s=>Op.bytesLess s key) ks;by_cases c:below (fun s=>Op.bytesLess s key) ks<ks.length
 ·simp[c,results239]
 ·have e:below (fun s=>Op.bytesLess s key) ks=ks.length:=by omega
  simp[e,results239]
theorem Ry(l:Bool)(ks:List (List UInt8))(vs:List Int)(key:List UInt8)(hk:ks.length<=9223372036854775807):aq prog 315 [dn l ks vs,.str key] (.int (below (fun s=>!Op.bytesLess key s) ks)):=by
 refine ai (ys:=[_]) [] [] [] func315 rfl ?_;simp;refine bS (HM (fun s=>!Op.bytesLess key s) l ks vs hk fun s _=>Rw s key) ?_;simp[results315]
def vj(l:Bool)(ks:List (List UInt8))(vs:List Int):PC:=if pN l ks vs&&decide (2<=ks.length)then
 .tp [dn l (ks.take (ks.length/2)) (vs.take (ks.length/2+if l then 0 else 1)),.str (ks.getD (ks.length/2) []),dn l (ks.drop (ks.length/2+if l then 0 else 1)) (vs.drop (ks.length/2+if l then 0 else 1))]else .tp [dn l ks vs,.str [],dn l [] []]
theorem Si(l:Bool)(ks:List (List UInt8))(vs:List Int)(hk:ks.length<=1000000000)(hv:vs.length<=1000000000):aq prog 323 [dn l ks vs] (vj l ks vs):=by
 have hc:=fun l ks vs a b=>KW l ks vs a b;by_cases f0:pN l ks vs=true
 ·by_cases f1:2<=ks.length
  ·have hlen:vs.length=ks.length+(if l then 0 else 1):=by simpa[pN]using f0
   have e1:¬(ks.length:Int)<2:=by omega
   obtain⟨h,hh⟩:∃h,h=ks.length/2:=⟨_,rfl⟩;have b1:h<ks.length:=by omega
   have b2:(h:Int)<=ks.length:=by omega
   have b3:h<=ks.length:=by omega
   have w0:IntKind.i64.wrap ((ks.length:Int)/2)=(h:Int):=by
    rw[aD];omega
   simp only[vj,f0,f1,decide_true,Bool.and_true,if_true,<-hh];refine ai (ys:=[_,_,_]) [] [(2,[(5,.s 1 []),(7,.s 2 [])]),(4,[(15,.w []),(16,.w [])]),(5,[(18,.w []),(19,.w [])]),(6,[(0,.r 3),(6,.r 4),(7,.s 1 [3,4]),(9,.s 2 [3,4])])] [(1,0),(2,1),(3,2),(4,3)] func323 rfl ?_;simp;refine bS (jT l ks vs (by omega)) ?_;cases l
   ·simp at hlen;have w1:=jq h;have b4:(h:Int)+1<=vs.length:=by omega
    have b5:h+1<=vs.length:=by omega
    have b6:h+1<=ks.length:=by omega
    have b7:(h:Int)+1<=ks.length:=by omega
    have b8:(0:Int)<=(h:Int)+1:=by omega
    simp[f0,e1,w0,b2,b3];have c1:=hc false (ks.take h) (vs.take (h+1)) (by simp;omega) (by simp;omega);have c2:=hc false (ks.drop (h+1)) (vs.drop (h+1)) (by simp;omega) (by simp;omega);simp only[dn,List.map_take,List.map_drop]at c1;simp only[dn,List.map_take,List.map_drop]at c2;refine bJ (j9 false ks vs) ?_;simp[w1,b4,b5,b6,↓b7,↓b8];refine bJ c1 ?_;simp;refine bJ (j9 false ks vs) ?_;simp[w1,b4,b5,b6,↓b7,↓b8];refine bJ (j9 false ks vs) ?_;simp[w1,b4,b5,b6,↓b7,↓b8];refine bJ c2 ?_;simp[b1,results323]
   ·simp at hlen;have w1:IntKind.i64.wrap (h:Int)=(h:Int):=aD;have b4:(h:Int)<=vs.length:=by omega
    have b5:h<=vs.length:=by omega
    have b6:h<=ks.length:=by omega
    have b7:(h:Int)<=ks.length:=by omega
    simp[f0,e1,w0,b2,b3];have c1:=hc true (ks.take h) (vs.take (h)) (by simp;omega) (by simp;omega);have c2:=hc true (ks.drop (h)) (vs.drop (h)) (by simp;omega) (by simp;omega);simp only[dn,List.map_take,List.map_drop]at c1;simp only[dn,List.map_take,List.map_drop]at c2;refine bJ (j9 true ks vs) ?_;simp[w1,b4,b5,b6,↓b7];refine bJ c1 ?_;simp;refine bJ (j9 true ks vs) ?_;simp[w1,b4,b5,b6,↓b7];refine bJ (j9 true ks vs) ?_;simp[w1,b4,b5,b6,↓b7];refine bJ c2 ?_;simp[b1,results323]
  ·have e1:(ks.length:Int)<2:=by omega
   simp only[vj,f0,f1,decide_false,Bool.and_false];have c:=hc l ks vs (by omega) (by omega);refine ai (ys:=[_,_,_]) [] [(2,[(5,.s 1 []),(7,.s 2 [])]),(4,[(15,.w []),(16,.w [])]),(5,[(18,.w []),(19,.w [])]),(6,[(0,.r 3),(6,.r 4),(7,.s 1 [3,4]),(9,.s 2 [3,4])])] [(1,0),(2,1),(3,2),(4,3)] func323 rfl ?_;simp;refine bS (jT l ks vs (by omega)) ?_;simp[f0,e1];refine bJ c ?_;simp[results323]
   trace_state
 ·have e1:True:=trivial;have f0:pN l ks vs=false:=by simpa using f0
  simp only[vj,f0,Bool.false_and];have c:=hc l ks vs (by omega) (by omega);refine ai (ys:=[_,_,_]) [] [(2,[(5,.s 1 []),(7,.s 2 [])]),(4,[(15,.w []),(16,.w [])]),(5,[(18,.w []),(19,.w [])]),(6,[(0,.r 3),(6,.r 4),(7,.s 1 [3,4]),(9,.s 2 [3,4])])] [(1,0),(2,1),(3,2),(4,3)] func323 rfl ?_;simp;refine bS (jT l ks vs (by omega)) ?_;simp[f0,e1];refine bJ c ?_;simp[results323]
  trace_state
theorem KX(l:Bool)(ks:List (List UInt8))(vs:List Int)(i:Nat)(hf:pN l ks vs=true)(hi:i<ks.length)(hk:ks.length<=1000000000)(hv:vs.length<=1000000000):aq prog 240 [dn l ks vs,.int i] (dn l (ks.take i++ks.drop (i+1)) (vs.take (i+(if l then 0 else 1))++vs.drop (i+(if l then 0 else 1)+1))):=by
 have hc:=fun n=>qI n l ks vs (by omega) (by omega);have e1:¬ks.length<=i:=by omega
 have hlen:vs.length=ks.length+(if l then 0 else 1):=by simpa[pN]using hf
 obtain⟨b,hb⟩:∃b:Nat,b=if l then 0 else 1:=⟨_,rfl⟩
 have vV:b<=1:=by rw[hb];split<;>omega
 have hbi:(if l=true then(0:Int)else 1)=(b:Int):=by rw[hb];split<;>rfl
 rw[<-hb]at hlen⊢;have w1:=jq i;have w2:IntKind.i64.wrap ((i:Int)+(b:Int))=((i+b:Nat):Int):=by rw[aD];rfl
 have w3:IntKind.i64.wrap (((i+b:Nat):Int)+1)=((i+b+1:Nat):Int):=by rw[aD];rfl
 refine bI (xs:=[_,_]) (r:= .agg false [.p (.bool l),.view 0 0 (ks.length-1) 1 none,.view 1 0 (vs.length-1) 1 none]) (aM:=⟨[(0,⟨9,1,((ks.take i++ks.drop (i+1)).map PC.str).map .p⟩),(1,⟨3,1,((vs.take (i+b)++vs.drop (i+b+1)).map PC.int).map .p⟩)],[],2⟩) ?_ (oH rfl rfl (by simp;omega) (by simp;omega));refine ah (rs:=[_]) [2] [(5,[(1,.r 1),(5,.f [1]),(7,.r 1),(11,.f [1]),(13,.s 1 []),(15,.s 1 [])])] [(1,0)] func240 rfl ?_;simp;refine aA (hc _) (by simp) trivial trivial rfl ?_;simp;refine bD (jT l ks vs (by omega)) (by simp[cQ,gY,Zl,UN]) rfl ?_;simp[hf,e1];refine bD (j9 l ks vs) (by simp[cQ,gY,Zl,UN]) rfl ?_;simp[hbi,w2];refine rG (Ke _ 2 (by omega) (ks.map PC.str) ks.length i (i+1) (by simp) (by omega) (by omega) (by omega)) (by simp[w1]) (by simp[ay]) trivial rfl (by simp) ?_;simp;refine rG (Kf _ 3 (by omega) (vs.map PC.int) vs.length (i+b) (i+b+1) (by simp) (by omega) (by omega) (by omega)) (by simp;exact w3.symm) (by simp[ay]) trivial rfl (by simp) ?_;simp[results240];exact⟨[(0,4),(1,5)],by simp⟩
theorem G3(l:Bool)(ks:List (List UInt8))(vs:List Int)(at_:Int)(hf:pN l ks vs=false\/at_<0\/(ks.length:Int)<=at_)(hk:ks.length<=1000000000)(hv:vs.length<=1000000000):aq prog 240 [dn l ks vs,.int at_] (dn l ks vs):=by
 have hc:=fun n=>qI n l ks vs (by omega) (by omega);refine bI (xs:=[_,_]) (r:= .agg false [.p (.bool l),.view 0 0 ks.length 1 none,.view 1 0 vs.length 1 none]) (aM:=⟨[(0,⟨9,1,(ks.map PC.str).map .p⟩),(1,⟨3,1,(vs.map PC.int).map .p⟩)],[],2⟩) ?_ (oH rfl rfl rfl rfl);refine ah (rs:=[_]) [2] [(5,[(1,.r 1),(5,.f [1]),(7,.r 1),(11,.f [1]),(13,.s 1 []),(15,.s 1 [])])] [(1,0)] func240 rfl ?_;simp;refine aA (hc _) (by simp) trivial trivial rfl ?_;simp;refine bD (jT l ks vs (by omega)) (by simp[cQ,gY,Zl,UN]) rfl ?_;by_cases f0:pN l ks vs=false
 ·simp[f0,results240];exact⟨[(0,2),(1,3)],by simp⟩
 ·have f0':pN l ks vs=true:=by simpa using f0
  by_cases f1:at_<0
  ·simp[f0',f1,results240];exact⟨[(0,2),(1,3)],by simp⟩
  ·have f2:(ks.length:Int)<=at_:=by
    rcases hf with h|h|h
    ·exact absurd h f0
    ·exact absurd h f1
    ·exact h
   simp[f0',f1,f2,results240];exact⟨[(0,2),(1,3)],by simp⟩
def tW(l:Bool)(ks:List (List UInt8))(vs:List Int)(a:Int):Bool:=pN l ks vs&&decide (0<=a)&&decide (a<=ks.length)
def H9(l:Bool)(ks:List (List UInt8))(vs:List Int)(a:Int)(key:List UInt8):List (List UInt8):=if tW l ks vs a then ks.take a.toNat++[key]++ks.drop a.toNat else ks
def H_(l:Bool)(ks:List (List UInt8))(vs:List Int)(a:Int)(us:List Int):List Int:=if tW l ks vs a then vs.take a.toNat++us++vs.drop (if l then a.toNat else a.toNat+1)else vs
def tX(l:Bool)(ks:List (List UInt8))(vs:List Int)(a:Int):Bool:=pN l ks vs&&decide (0<=a)&&decide (a<ks.length)
def Ia(l:Bool)(ks:List (List UInt8))(vs:List Int)(a:Int):List (List UInt8):=if tX l ks vs a then ks.take a.toNat++ks.drop (a.toNat+1)else ks
def Ib(l:Bool)(ks:List (List UInt8))(vs:List Int)(a:Int):List Int:=if tX l ks vs a then vs.take (a.toNat+(if l then 0 else 1))++vs.drop (a.toNat+(if l then 0 else 1)+1)else vs
theorem PK{l:Bool}{ks:List (List UInt8)}{vs:List Int}{a:Int}(h:tW l ks vs a=false):pN l ks vs=false\/a<0\/(ks.length:Int)<a:=by
 simp only[tW,Bool.and_eq_false_iff,decide_eq_false_iff_not]at h;rcases h with(h|h)|h
 ·exact .inl h
 ·exact .inr (.inl (by omega))
 ·exact .inr (.inr (by omega))
theorem PL{l:Bool}{ks:List (List UInt8)}{vs:List Int}{a:Int}(h:tX l ks vs a=false):pN l ks vs=false\/a<0\/(ks.length:Int)<=a:=by
 simp only[tX,Bool.and_eq_false_iff,decide_eq_false_iff_not]at h;rcases h with(h|h)|h
 ·exact .inl h
 ·exact .inr (.inl (by omega))
 ·exact .inr (.inr (by omega))
theorem KY{l:Bool}{ks:List (List UInt8)}{vs:List Int}{a:Int}(h:tW l ks vs a=true):pN l ks vs=true/\∃i:Nat,a=i/\i<=ks.length:=by
 simp only[tW,Bool.and_eq_true,decide_eq_true_eq]at h;exact⟨h.1.1,a.toNat,by omega,by omega⟩
theorem KZ{l:Bool}{ks:List (List UInt8)}{vs:List Int}{a:Int}(h:tX l ks vs a=true):pN l ks vs=true/\∃i:Nat,a=i/\i<ks.length:=by
 simp only[tX,Bool.and_eq_true,decide_eq_true_eq]at h;exact⟨h.1.1,a.toNat,by omega,by omega⟩
theorem NM(l:Bool)(ks:List (List UInt8))(vs:List Int)(a:Int)(key:List UInt8)(us:List Int)(hk:ks.length<=1000000000)(hv:vs.length<=1000000000)(hu:us.length<=1000000000):aq prog 242 [dn l ks vs,.int a,.str key,.sl (us.map PC.int)] (dn l (H9 l ks vs a key) (H_ l ks vs a us)):=by
 cases h:tW l ks vs a with
 |false=>simpa[H9,H_,h]using G4 l ks vs a key us (PK h) hk hv
 |true=>obtain⟨hf,i,rfl,hi⟩:=KY h;simpa[H9,H_,h,afs]using K0 l ks vs i key us hf hi hk hv hu
theorem NP(l:Bool)(ks:List (List UInt8))(vs:List Int)(a:Int)(hk:ks.length<=1000000000)(hv:vs.length<=1000000000):aq prog 240 [dn l ks vs,.int a] (dn l (Ia l ks vs a) (Ib l ks vs a)):=by
 cases h:tX l ks vs a with
 |false=>simpa[Ia,Ib,h]using G3 l ks vs a (PL h) hk hv
 |true=>obtain⟨hf,i,rfl,hi⟩:=KZ h;simpa[Ia,Ib,h]using KX l ks vs i hf hi hk hv
end Go.Av
namespace Go.Av
open Go.Proofs
def kB(ks:List (List UInt8))(j:Nat):Bool:=decide (1<=(ks.getD j []).length)&&decide ((ks.getD j []).length<=100)&&(j==0||Op.bytesLess (ks.getD (j-1) []) (ks.getD j []))
def vB(v:Int):Bool:=decide (0<=v)&&decide (v<1099511627776)
def fE(l:Bool)(ks:List (List UInt8))(vs:List Int):Bool:=decide (ks.length<=4)&&pN l ks vs&&(l||decide (0<ks.length))&&((List.range ks.length).all (kB ks))&&vs.all vB
theorem IA{l:Bool}{ks:List (List UInt8)}{vs:List Int}{k:Nat}(hk:k<vs.length)(h:vB vs[k]=false):fE l ks vs=false:=by
 have:vs.all vB=false:=by rw[List.all_eq_false];exact⟨vs[k],by simp,by simp[h]⟩
 simp[fE,this]
theorem rF:∀a:List UInt8,Op.bytesLess a a=false
 |[]=>rfl
 |x::a=>by
  have h2:¬x<x:=fun k=>by have:x.toNat<x.toNat:=k;omega
  simp[Op.bytesLess,h2,rF a]
theorem uA:∀{a b c:List UInt8},Op.bytesLess a b=true->Op.bytesLess b c=true->Op.bytesLess a c=true
 |_,[],_,h,_=>by simp[Op.bytesLess]at h
 |_,_::_,[],_,h=>by simp[Op.bytesLess]at h
 |[],_::_,_::_,_,_=>rfl
 |x::a,y::b,z::c,h,k=>by
  simp only[Op.bytesLess,Bool.or_eq_true,decide_eq_true_eq,Bool.and_eq_true,beq_iff_eq]at h k⊢;have lt_iff:∀p q:UInt8,p<q↔p.toNat<q.toNat:=fun p q=>Iff.rfl;simp only[lt_iff]at h k⊢;rcases h with h|⟨h,h'⟩
  ·rcases k with k|⟨k,k'⟩
   ·exact .inl (by omega)
   ·subst k;exact .inl h
  ·subst h;rcases k with k|⟨k,k'⟩
   ·exact .inl k
   ·subst k;exact .inr ⟨rfl,uA h' k'⟩
def chn:List (List UInt8)->Prop
 |[]=>True
 |[_]=>True
 |a::b::l=>Op.bytesLess a b=true/\chn (b::l)
theorem Pn:∀{l:List (List UInt8)},(∀i (h:i+1<l.length),Op.bytesLess l[i] l[i+1]=true)->chn l
 |[],_=>trivial
 |[_],_=>trivial
 |a::b::l,h=>⟨h 0 (by simp),Pn fun i hi=>h (i+1) (by simpa using hi)⟩
theorem xW(p:List UInt8->Bool):∀(ks:List (List UInt8)),∀x∈ks.take (below p ks),p x=true
 |[],x,h=>by simp at h
 |a::ks,x,h=>by
  unfold below at h;simp only[List.takeWhile_cons]at h;split at h
  ·rename_i ha;simp only[List.length_cons,List.take_succ_cons,List.mem_cons]at h;rcases h with rfl|h
   ·exact ha
   ·exact xW p ks x h
  ·simp at h
theorem xU(p:List UInt8->Bool):∀(ks:List (List UInt8)) (h:below p ks<ks.length),p ks[below p ks]=false
 |[],h=>by simp at h
 |a::ks,h=>by
  by_cases ha:p a=true
  ·have e:below p (a::ks)=below p ks+1:=by simp[below,ha]
   have h':below p ks<ks.length:=by rw[e]at h;simpa using h
   have:=xU p ks h';simp only[e,List.getElem_cons_succ];exact this
  ·have e:below p (a::ks)=0:=by simp[below,ha]
   simp only[e,List.getElem_cons_zero];simpa using ha
theorem ri{l:Bool}{ks:List (List UInt8)}{vs:List Int}(h:fE l ks vs=true):chn ks/\ks.length<=4/\pN l ks vs=true/\(∀s∈ks,s.length<=100):=by
 simp only[fE,Bool.and_eq_true,decide_eq_true_eq,List.all_eq_true,List.mem_range]at h;obtain⟨⟨⟨⟨h1,h2⟩,_⟩,h4⟩,_⟩:=h;refine⟨Pn fun i hi=>?_,h1,h2,fun s hs=>?_⟩
 ·have:=h4 (i+1) hi;simp only[kB,Bool.and_eq_true,Bool.or_eq_true]at this;have:=this.2;have e1:i<ks.length:=by omega
  simpa[hi,e1]using this
 ·obtain⟨i,hi,rfl⟩:=List.getElem_of_mem hs;have:=h4 i hi;simp[kB,hi]at this;exact this.1.2
theorem Ed{bx:List (Nat×Ob)}{a n:Nat}{c:Option Nat}{e:TypeId}{L:List PC}(ha:lk a bx=some ⟨e,1,(L.flatMap ga).map .p⟩)(hn:n=L.length)(hw:∀x∈L,x.width=1)(ht:∀x∈L,cw x=true):cQ bx 4 (.view a 0 n 1 c) (.sl L):=by
 subst hn;have hl:(L.flatMap ga).length=L.length:=by have:=oe (s:=1) hw;omega
 refine⟨_,ha,by omega,rfl,by simp[hl],?_,hw,ht⟩;simp only[Nat.zero_mul,List.drop_zero,Nat.mul_one,sZ];exact fY (by simp[hl])
end Go.Av
namespace Go.Av
open Go.Proofs Go.Proofs.Tryz
def Lu(s:List UInt8):Bool:=decide (1<=s.length)&&decide (s.length<=100)
theorem QM(s:List UInt8):aq prog 383 [.str s] (.bool (Lu s)):=by
 refine ai (ys:=[_]) [] [] [] func383 rfl ?_;cases s with
 |nil=>simp[results383,Lu]
 |cons x s=>
  have e:(x::s !=[])=true:=rfl;by_cases h:(s.length:Int)+1<=100
  ·have h':s.length+1<=100:=by omega
   simp[e,h,h',results383,Lu]
  ·have h':¬s.length+1<=100:=by omega
   simp[e,h,h',results383,Lu]
theorem QN(s:List UInt8):aq prog 382 [.str s] (.bool (!Lu s)):=by
 refine ai (ys:=[_]) [] [] [] func382 rfl ?_;simp;refine bS (QM s) ?_;simp[results382]
theorem QO(v:Int):aq prog 386 [.int v] (.bool (!vB v)):=by
 refine ai (ys:=[_]) [] [] [] func386 rfl ?_;by_cases h:v<0
 ·have:vB v=false:=by simp[vB];omega
  simp[h,this,results386]
 ·by_cases h2:1099511627775<v
  ·have:vB v=false:=by simp[vB];omega
   simp[h,h2,this,results386]
  ·have:vB v=true:=by simp[vB];omega
   simp[h,h2,this,results386]
def Qq(ks:List (List UInt8))(j:Nat):Bool:=j==0||Op.bytesLess (ks.getD (j-1) []) (ks.getD j [])
theorem QS(ks:List (List UInt8))(hk:ks.length<=9223372036854775807):aq prog 384 [.sl (ks.map PC.str)] (.bool ((List.range ks.length).all (Qq ks))):=by
 refine ai (ys:=[_]) [] [] [] func384 rfl ?_;simp;refine bg (fun k:Nat=>(k<=ks.length\/k=0)/\∀j,j<k+1->j<ks.length->Qq ks j=true) (fun k=>[(0,.p (.sl (ks.map PC.str))),(3,.p (.int (k+1)))]) (fun k=>ks.length-k) 0 ⟨.inr rfl,?_⟩ (ak (by simp)) ?_
 ·intro j hj _;obtain rfl:j=0:=by omega
  rfl
 rintro k ⟨j1,j2⟩;by_cases c1:k+1<ks.length
 ·have iP:(k:Int)+1<(ks.length:Int):=by omega
  have hm:k<ks.length:=by omega
  have w1:IntKind.i64.wrap (k:Int)=(k:Int):=aD;have p2:(0:Int)<=(k:Int)+1:=by omega
  have t1:((k:Int)+1).toNat=k+1:=by omega
  simp[c1,iP,w1,hm,p2,t1];by_cases c2:Op.bytesLess ks[k] ks[k+1]=true
  ·simp[c2];refine⟨k+1,⟨by omega,?_⟩,by omega,ak ?_⟩
   ·intro j hj hl;by_cases hj':j<k+1
    ·exact j2 j hj' hl
    ·obtain rfl:j=k+1:=by omega
     simp[Qq,c1,hm,c2]
   ·simp[aD (n:=(k:Int)+1+1)]
  ·have r:(List.range ks.length).all (Qq ks)=false:=by
    rw[List.all_eq_false];exact⟨k+1,by simpa using c1,by simp[Qq,c1,hm,c2]⟩
   simp[c2,r,results384]
 ·have iP:¬(k:Int)+1<(ks.length:Int):=by omega
  have r:(List.range ks.length).all (Qq ks)=true:=by
   rw[List.all_eq_true];intro j hj;simp at hj;exact j2 j (by omega) hj
  simp[iP,r,results384]
def L4(q:Int->Bool)(vs:List Int):Int:=if(vs.takeWhile (fun v=>!q v)).length<vs.length then((vs.takeWhile (fun v=>!q v)).length:Nat)else-1
theorem L5(q:List UInt8->Bool)(ks:List (List UInt8)):decide (0<=FJ q ks)=ks.any q:=by
 unfold FJ;by_cases h:below (fun s=>!q s) ks<ks.length
 ·have:=xU _ _ h;have e:ks.any q=true:=by rw[List.any_eq_true];exact⟨_,List.getElem_mem h,by simpa using this⟩
  simp[h,e]
 ·have hb:=xV (fun s=>!q s) ks;have e:ks.any q=false:=by
   rw[List.any_eq_false];intro x hx;have:=xW (fun s=>!q s) ks x (by rw[fY (by omega)];exact hx);simpa using this
  simp[h,e]
theorem xX{g:FuncId}{caps:List PC}(q:List UInt8->Bool)(ks:List (List UInt8))(hk:ks.length<=9223372036854775807)(h:∀s∈ks,aq prog g (.str s::caps) (.bool (q s))):aq prog 371 [.sl (ks.map PC.str),.fn (.func g) caps] (.bool (ks.any q)):=by
 refine ai (ys:=[_]) [] [] [] func371 rfl ?_;simp;refine bS (Hu q ks hk h) ?_;simp[L5,results371]
theorem Hv{p:Int->Bool}{vs:List Int}{k:Nat}(h:∀x∈vs.take k,p x=true)(hk:k<=vs.length)(he:(hk:k<vs.length)->p vs[k]=false):(vs.takeWhile p).length=k:=by
 induction vs generalizing k with
 |nil=>simp at hk;simp[hk]
 |cons a ks ih=>
  cases k with
  |zero=>have:=he (by simp);simp at this;simp[this]
  |succ k=>
   have ha:=h a (by simp);have:=ih (k:=k) (fun x hx=>h x (by simp[hx])) (by simpa using hk) (fun hk'=>by have:=he (by simp;omega);simpa using this);simp[ha,this]
theorem QT{g:FuncId}{caps:List PC}(q:Int->Bool)(vs:List Int)(hk:vs.length<=9223372036854775807)(h:∀s∈vs,aq prog g (.int s::caps) (.bool (q s))):aq prog 399 [.sl (vs.map PC.int),.fn (.func g) caps] (.int (L4 q vs)):=by
 refine ai (ys:=[_]) [] [] [] func399 rfl ?_;simp;refine bg (fun k:Nat=>k<=vs.length/\∀x∈vs.take k,(!q x)=true) (fun k=>[(0,.p (.sl (vs.map PC.int))),(1,.p (.fn (.func g) caps)),(7,.p (.int vs.length)),(8,.p (.int k))]) (fun k=>vs.length-k) 0 (by simp) (ak (by simp)) ?_;rintro k ⟨h1,h2⟩;by_cases c1:k<vs.length
 ·simp[c1];refine bS (h vs[k] (by simp)) ?_;by_cases c2:q vs[k]=true
  ·have e:=Hv (p:=fun v=>!q v) h2 h1 (fun _=>by simpa using c2);simp[c2,L4,e,c1,results399]
  ·simp[c2];refine⟨k+1,⟨by omega,?_⟩,by omega,ak ?_⟩
   ·rw[iA c1];simp only[iR,List.mem_singleton];rintro x (hx|rfl);(have:=h2 x hx;simpa using this);simpa using c2
   ·simp[aD (n:=(k:Int)+1)]
 ·have e:=Hv (p:=fun v=>!q v) h2 h1 (fun h=>absurd h c1);simp[e,c1,L4,results399]
theorem L6(q:Int->Bool)(vs:List Int):decide (0<=L4 q vs)=vs.any q:=by
 unfold L4
 induction vs with
 |nil=>rfl
 |cons a l ih=>
  cases h:q a with
  |true=>simp[h]
  |false=>
   simp only[List.takeWhile_cons,h,Bool.not_false,if_true,List.length_cons,Nat.add_lt_add_iff_right,List.any_cons,Bool.false_or];rw[<-ih];split<;>simp<;>omega
theorem FK{g:FuncId}{caps:List PC}(q:Int->Bool)(vs:List Int)(hk:vs.length<=9223372036854775807)(h:∀s∈vs,aq prog g (.int s::caps) (.bool (q s))):aq prog 385 [.sl (vs.map PC.int),.fn (.func g) caps] (.bool (vs.any q)):=by
 refine ai (ys:=[_]) [] [] [] func385 rfl ?_;simp;refine bS (QT q vs hk h) ?_;simp[L6,results385]
theorem Jc(l:Bool)(ks:List (List UInt8))(vs:List Int):fE l ks vs=(!(ks.any fun s=>!Lu s)&&(List.range ks.length).all (Qq ks)&&!(vs.any fun v=>!vB v)&&decide (ks.length<=4)&&pN l ks vs&&(l||decide (0<ks.length))):=by
 have e1:(List.range ks.length).all (kB ks)=(!(ks.any fun s=>!Lu s)&&(List.range ks.length).all (Qq ks)):=by
  rw[Bool.eq_iff_iff];simp only[List.all_eq_true,List.mem_range,Bool.and_eq_true,Bool.not_eq_true',List.any_eq_false,Bool.not_eq_true,Bool.not_eq_false'];constructor
  ·intro h;refine⟨fun s hs=>?_,fun j hj=>?_⟩
   ·obtain⟨i,hi,rfl⟩:=List.getElem_of_mem hs;have:=h i hi;simp only[kB,Bool.and_eq_true]at this;simpa[Lu,hi]using this.1
   ·have:=h j hj;simp only[kB,Bool.and_eq_true]at this;exact this.2
  ·rintro⟨h1,h2⟩ j hj;have a:=h1 ks[j] (by simp);have b:=h2 j hj;simp only[kB,Bool.and_eq_true];refine⟨?_,b⟩;simpa[Lu,hj]using a
 have e2:vs.all vB=!(vs.any fun v=>!vB v):=by
  rw[Bool.eq_iff_iff];simp
 unfold fE;rw[e1,e2];cases(ks.any fun s=>!Lu s)<;>cases(List.range ks.length).all (Qq ks)<;>cases(vs.any fun v=>!vB v)<;>cases decide (ks.length<=4)<;>cases pN l ks vs<;>cases(l||decide (0<ks.length))<;>rfl
theorem s5(l:Bool)(ks:List (List UInt8))(vs:List Int)(hk:ks.length<=9223372036854775807)(hv:vs.length<=9223372036854775807):aq prog 360 [dn l ks vs] (.bool (fE l ks vs)):=by
 rw[Jc];have c1:=xX (g:=382) (caps:=[]) (fun s=>!Lu s) ks hk fun s _=>QN s;have c2:=QS ks hk;have c3:=FK (g:=386) (caps:=[]) (fun v=>!vB v) vs hv fun s _=>QO s;refine ai (ys:=[_]) [] [] [] func360 rfl ?_;simp;refine bS c1 ?_;cases(ks.any fun s=>!Lu s)
 ·simp;refine bS c2 ?_;simp;refine bS c3 ?_;cases(List.range ks.length).all (Qq ks)<;>cases(vs.any fun v=>!vB v)<;>try (simp[results360];done)
  by_cases h4:(ks.length:Int)<=4
  ·have Un:ks.length<=4:=by omega
   simp[h4,Un];refine bS (jT l ks vs (by omega)) ?_;cases pN l ks vs
   ·simp[results360]
   ·cases l
    ·by_cases h0:0<ks.length
     ·simp[h0,results360]
     ·simp[h0,results360]
    ·simp[results360]
  ·have Un:¬ks.length<=4:=by omega
   simp[h4,Un,results360]
 ·simp;refine bS c3 ?_;cases(vs.any fun v=>!vB v)
  ·simp[results360]
  ·simp[results360]
@[simp]theorem Zs{v:Value}:aU (.sc v)=[.p (.sc v)]:=(rfl)
def cp(v:Int)(i:Nat):UInt8:=UInt8.ofNat (v.toNat/2^(8*i))
def nY(v:Int):List UInt8:=[cp v 4,cp v 3,cp v 2,cp v 1,cp v 0]
def dK(ks:List (List UInt8)):List UInt8:=ks.flatMap fun s=>UInt8.ofNat s.length::s
def dS(vs:List Int):List UInt8:=vs.flatMap nY
def mq(l:Bool)(n:Nat):List UInt8:=[if l then 1 else 2,UInt8.ofNat n]
def iO(l:Bool)(ks:List (List UInt8))(vs:List Int):List UInt8:=mq l ks.length++dK ks++dS vs
theorem SR(m:Nat):IntKind.u8.wrap (m:Int)=((UInt8.ofNat m).toNat:Int):=by
 simp[IntKind.wrap,IntKind.signed,IntKind.bits]
theorem Ar(m n i:Nat)(hn:n=8*i)(hi:i<=4):IntKind.u8.wrap ((m:Int).fdiv (2^min n IntKind.i64.bits))=((cp (m:Int) i).toNat:Int):=by
 have h2:min n IntKind.i64.bits=n:=by simp[IntKind.bits];omega
 rw[h2,Int.fdiv_eq_ediv_of_nonneg _ (by exact Int.le_of_lt (Int.pow_pos (by omega)))];have h3:(m:Int)/2^n=((m/2^n:Nat):Int):=by simp
 rw[h3,SR,cp,Int.toNat_natCast,hn]
theorem pq{ks:List (List UInt8)}{k:Nat}(h:k<ks.length):dK (ks.take (k+1))=dK (ks.take k)++UInt8.ofNat ks[k].length::ks[k]:=by
 rw[iA h];simp only[dK,List.flatMap_append,List.flatMap_cons,List.flatMap_nil,List.append_nil]
theorem zQ{vs:List Int}{k:Nat}(h:k<vs.length):dS (vs.take (k+1))=dS (vs.take k)++nY vs[k]:=by
 rw[iA h];simp only[dS,List.flatMap_append,List.flatMap_cons,List.flatMap_nil,List.append_nil]
theorem vO{vs:List Int}{n:Nat}(hn:vs.length<=n):(dS vs).length<=5*n:=by
 induction vs generalizing n with
 |nil=>simp[dS]
 |cons a ks ih=>
  have:=ih (n:=n-1) (by simp at hn;omega);simp[dS,nY]at this hn⊢;omega
theorem vP{ks:List (List UInt8)}{n:Nat}(h:∀s∈ks,s.length<=100)(hn:ks.length<=n):(dK ks).length<=101*n:=by
 induction ks generalizing n with
 |nil=>simp[dK]
 |cons a ks ih=>
  have:=ih (n:=n-1) (fun s hs=>h s (by simp[hs])) (by simp at hn;omega);have ha:=h a (by simp);simp[dK]at this hn⊢;omega
theorem cN(b:List UInt8):(af b).length=b.length:=by simp[af]
theorem IJ{B S:List UInt8}{N:Nat}{c:UInt8}(hN:N=B.length):List.take (N+1) (List.take N ((af B).map AV.p)++[AV.p (.sc (.int .u8 (c.toNat:Int)))])++(af S).map AV.p=(af (B++c::S)).map AV.p:=by
 have h1:List.take N ((af B).map AV.p)=(af B).map AV.p:=fY (by simp[cN];omega);rw[h1,fY (by simp[cN];omega)];simp[af]
theorem row_one{B:List UInt8}{N:Nat}{c:UInt8}(hN:N=B.length):List.take N ((af B).map AV.p)++[AV.p (.sc (.int .u8 (c.toNat:Int)))]=(af (B++[c])).map AV.p:=by
 have h1:List.take N ((af B).map AV.p)=(af B).map AV.p:=fY (by simp[cN];omega);rw[h1];simp[af]
@[simp]theorem abM{l:Bool}{n:Nat}:(mq l n).length=2:=rfl
theorem n_(b:List UInt8):List.take b.length (List.map AV.p (af b))=List.map AV.p (List.flatMap ga (af b))/\(∀(y:PC),y∈af b->y.width=1)/\∀(y:PC),y∈af b->cw y=true:=by
 refine⟨?_,fun y h=>?_,fun y h=>?_⟩
 ·rw[fY (by simp[cN])];congr 1
  induction b with
  |nil=>rfl
  |cons a b ih=>simp only[af,List.map_cons,List.flatMap_cons,S8]at ih⊢;rw[<-ih];rfl
 ·simp only[af,List.mem_map]at h;obtain⟨z,_,rfl⟩:=h;rfl
 ·simp only[af,List.mem_map]at h;obtain⟨z,_,rfl⟩:=h;rfl
theorem Zt(l:Bool)(ks:List (List UInt8))(vs:List Int)(hr:fE l ks vs=true)(hk:ks.length<=9223372036854775807)(hv:vs.length<=9223372036854775807):aq prog 432 [dn l ks vs] (.tp [.sl (af (iO l ks vs)),.int 0]):=by
 obtain⟨hc,k4,hf,E8⟩:=ri hr;refine bI (xs:=[_]) (r:= .agg true [.view 0 0 (iO l ks vs).length 1 none,.p (.int 0)]) (aM:=⟨[(0,⟨5,1,(af (iO l ks vs)).map .p⟩)],[],1⟩) ?_ ?_
 ·refine ah (rs:=[_,_]) [17] [] [] func432 rfl ?_;simp;refine bS (s5 l ks vs hk hv) ?_;simp[hr];cases l
  ·simp;refine aL (fun k:Nat=>k<=ks.length) (fun k=>[(1,.p (.ref (dn false ks vs))),(4,.view 0 0 (mq false ks.length++dK (ks.take k)).length 1 none),(24,.p (.sl (ks.map PC.str))),(25,.p (.int ks.length)),(26,.p (.int k))]) (fun k=>⟨[(0,⟨5,1,(af (mq false ks.length++dK (ks.take k))).map .p⟩)],[],1⟩) (fun k=>ks.length-k) 0 (by simp) _ (AS.le_refl _ _) (ak (by simp[mq,dK,af,SR])) ?_;intro k hk;have hP:=vP (n:=ks.length) (fun s hs=>E8 s (jH hs)) (by simp;omega:(ks.take k).length<=ks.length);by_cases c1:k<ks.length
   ·have hl:=E8 ks[k] (by simp);have key:=IJ (B:=mq false ks.length++dK (ks.take k)) (S:=ks[k]) (N:=(mq false ks.length).length+(dK (ks.take k)).length) (c:=UInt8.ofNat ks[k].length) (by simp);rw[List.append_assoc,<-pq c1,<-SR]at key;simp[c1]at key⊢
    repeat' refine And.intro ?_ ?_
    all_goals first|omega|skip
    refine⟨k+1,by omega,by omega,aB [(0,2)] ?_⟩;have hlen:(dK (ks.take (k+1))).length=(dK (ks.take k)).length+1+ks[k].length:=by rw[pq c1];simp;omega
    simp[key,hlen,aD (n:=(k:Int)+1)];omega
   ·have e:k=ks.length:=by omega
    subst e;have hP:(dK ks).length<=404:=by simp only[List.take_length]at hP;omega
    simp;have hf':vs.length<=5:=by
     have:vs.length=ks.length+1:=by simpa[pN]using hf
     omega
    obtain⟨B0,Zu⟩:∃B0,B0=mq false ks.length++dK ks:=⟨_,rfl⟩;have lB0:B0.length=2+(dK ks).length:=by rw[Zu];simp
    rw[<-Zu,<-lB0];refine aL (fun k:Nat=>k<=vs.length) (fun k=>[(4,.view 0 0 (B0++dS (vs.take k)).length 1 none),(40,.p (.sl (vs.map PC.int))),(41,.p (.int vs.length)),(42,.p (.int k))]) (fun k=>⟨[(0,⟨5,1,(af (B0++dS (vs.take k))).map .p⟩)],[],1⟩) (fun k=>vs.length-k) 0 (by simp) _ (AS.le_refl _ _) (ak (by simp[dS])) ?_;intro k hk;by_cases c1:k<vs.length
    ·simp[c1];obtain⟨B1,QJ⟩:∃B1,B1=B0++dS (vs.take k):=⟨_,rfl⟩;have lB1:B1.length=B0.length+(dS (vs.take k)).length:=by rw[QJ];simp
     have lP:=vO (n:=5) (vs:=vs.take k) (by simp;omega);rw[<-QJ,<-lB1];obtain⟨v,Q9⟩:∃v,v=vs[k]:=⟨_,rfl⟩;rw[<-Q9];have hv0:0<=v:=by
      have:=IA (l:=false) (ks:=ks) (vs:=vs) c1;rw[hr]at this;have h2:vB vs[k]=true:=by cases h:vB vs[k]with
       |true=>rfl
       |false=>exact absurd (this h) (by simp)
      simp[vB]at h2;omega
     refine aL (fun j:Nat=>j<=5) (fun j=>[(4,.view 0 0 (B1++(nY v).take j).length 1 none),(8,.p (.int v)),(9,.p (.int (4-j))),(40,.p (.sl (vs.map PC.int))),(41,.p (.int vs.length)),(42,.p (.int k))]) (fun j=>⟨[(0,⟨5,1,(af (B1++(nY v).take j)).map .p⟩)],[],1⟩) (fun j=>5-j) 0 (by simp) _ (AS.le_refl _ _) (ak (by simp)) ?_;intro j hj;have E9:j=0\/j=1\/j=2\/j=3\/j=4\/j=5:=by omega
     obtain⟨m,hm⟩:∃m:Nat,v=m:=⟨v.toNat,by omega⟩;rcases E9 with rfl|rfl|rfl|rfl|rfl|rfl
     ·have w:=Ar m 32 4 rfl (by omega);have key:=row_one (B:=B1) (N:=B1.length) (c:=cp v 4) (by simp);rw[<-hm]at w
      try simp at key
      simp[nY,bf];refine⟨by omega,by omega,1,by omega,by omega,aB [(0,1)] ?_⟩;simp[nY,key,w,bf]
     ·have w:=Ar m 24 3 rfl (by omega);have key:=row_one (B:=(B1++[cp v 4])) (N:=B1.length+1) (c:=cp v 3) (by simp);rw[<-hm]at w
      try simp at key
      simp[nY,bf];refine⟨by omega,by omega,2,by omega,by omega,aB [(0,1)] ?_⟩;simp[nY,key,w,bf]
     ·have w:=Ar m 16 2 rfl (by omega);have key:=row_one (B:=(B1++[cp v 4,cp v 3])) (N:=B1.length+2) (c:=cp v 2) (by simp);rw[<-hm]at w
      try simp at key
      simp[nY,bf];refine⟨by omega,by omega,3,by omega,by omega,aB [(0,1)] ?_⟩;simp[nY,key,w,bf]
     ·have w:=Ar m 8 1 rfl (by omega);have key:=row_one (B:=(B1++[cp v 4,cp v 3,cp v 2])) (N:=B1.length+3) (c:=cp v 1) (by simp);rw[<-hm]at w
      try simp at key
      simp[nY,bf];refine⟨by omega,by omega,4,by omega,by omega,aB [(0,1)] ?_⟩;simp[nY,key,w,bf]
     ·have w:=Ar m 0 0 rfl (by omega);have key:=row_one (B:=(B1++[cp v 4,cp v 3,cp v 2,cp v 1])) (N:=B1.length+4) (c:=cp v 0) (by simp);rw[<-hm]at w
      try simp at key
      simp[nY,bf];refine⟨by omega,by omega,5,by omega,by omega,aB [(0,1)] ?_⟩;have w':IntKind.u8.wrap v=((cp v 0).toNat:Int):=by simpa using w
      simp[nY,key,w',bf]
     ·have E:B0++dS (vs.take (k+1))=B1++nY v:=by rw[zQ c1,QJ,Q9,List.append_assoc]
      have l5:(nY v).length=5:=rfl;have lE:B0.length+(dS (vs.take (k+1))).length=B1.length+5:=by rw[<-dU,E];simp[l5]
      have t5:List.take 5 (nY v)=nY v:=rfl;simp;refine⟨k+1,by omega,by omega,ak ?_⟩;simp[E,l5,lE,t5,aD (n:=(k:Int)+1)]
    ·have e:k=vs.length:=by omega
     subst e;simp[results432];have E:iO false ks vs=B0++dS vs:=by rw[Zu];rfl
     exact⟨[],by simp[E]⟩
  ·simp;refine aL (fun k:Nat=>k<=ks.length) (fun k=>[(1,.p (.ref (dn true ks vs))),(4,.view 0 0 (mq true ks.length++dK (ks.take k)).length 1 none),(24,.p (.sl (ks.map PC.str))),(25,.p (.int ks.length)),(26,.p (.int k))]) (fun k=>⟨[(0,⟨5,1,(af (mq true ks.length++dK (ks.take k))).map .p⟩)],[],1⟩) (fun k=>ks.length-k) 0 (by simp) _ (AS.le_refl _ _) (ak (by simp[mq,dK,af,SR])) ?_;intro k hk;have hP:=vP (n:=ks.length) (fun s hs=>E8 s (jH hs)) (by simp;omega:(ks.take k).length<=ks.length);by_cases c1:k<ks.length
   ·have hl:=E8 ks[k] (by simp);have key:=IJ (B:=mq true ks.length++dK (ks.take k)) (S:=ks[k]) (N:=(mq true ks.length).length+(dK (ks.take k)).length) (c:=UInt8.ofNat ks[k].length) (by simp);rw[List.append_assoc,<-pq c1,<-SR]at key;simp[c1]at key⊢
    repeat' refine And.intro ?_ ?_
    all_goals first|omega|skip
    refine⟨k+1,by omega,by omega,aB [(0,2)] ?_⟩;have hlen:(dK (ks.take (k+1))).length=(dK (ks.take k)).length+1+ks[k].length:=by rw[pq c1];simp;omega
    simp[key,hlen,aD (n:=(k:Int)+1)];omega
   ·have e:k=ks.length:=by omega
    subst e;have hP:(dK ks).length<=404:=by simp only[List.take_length]at hP;omega
    simp;have hf':vs.length<=5:=by
     have:vs.length=ks.length:=by simpa[pN]using hf
     omega
    obtain⟨B0,Zu⟩:∃B0,B0=mq true ks.length++dK ks:=⟨_,rfl⟩;have lB0:B0.length=2+(dK ks).length:=by rw[Zu];simp
    rw[<-Zu,<-lB0];refine aL (fun k:Nat=>k<=vs.length) (fun k=>[(4,.view 0 0 (B0++dS (vs.take k)).length 1 none),(40,.p (.sl (vs.map PC.int))),(41,.p (.int vs.length)),(42,.p (.int k))]) (fun k=>⟨[(0,⟨5,1,(af (B0++dS (vs.take k))).map .p⟩)],[],1⟩) (fun k=>vs.length-k) 0 (by simp) _ (AS.le_refl _ _) (ak (by simp[dS])) ?_;intro k hk;by_cases c1:k<vs.length
    ·simp[c1];obtain⟨B1,QJ⟩:∃B1,B1=B0++dS (vs.take k):=⟨_,rfl⟩;have lB1:B1.length=B0.length+(dS (vs.take k)).length:=by rw[QJ];simp
     have lP:=vO (n:=5) (vs:=vs.take k) (by simp;omega);rw[<-QJ,<-lB1];obtain⟨v,Q9⟩:∃v,v=vs[k]:=⟨_,rfl⟩;rw[<-Q9];have hv0:0<=v:=by
      have:=IA (l:=true) (ks:=ks) (vs:=vs) c1;rw[hr]at this;have h2:vB vs[k]=true:=by cases h:vB vs[k]with
       |true=>rfl
       |false=>exact absurd (this h) (by simp)
      simp[vB]at h2;omega
     refine aL (fun j:Nat=>j<=5) (fun j=>[(4,.view 0 0 (B1++(nY v).take j).length 1 none),(8,.p (.int v)),(9,.p (.int (4-j))),(40,.p (.sl (vs.map PC.int))),(41,.p (.int vs.length)),(42,.p (.int k))]) (fun j=>⟨[(0,⟨5,1,(af (B1++(nY v).take j)).map .p⟩)],[],1⟩) (fun j=>5-j) 0 (by simp) _ (AS.le_refl _ _) (ak (by simp)) ?_;intro j hj;have E9:j=0\/j=1\/j=2\/j=3\/j=4\/j=5:=by omega
     obtain⟨m,hm⟩:∃m:Nat,v=m:=⟨v.toNat,by omega⟩;rcases E9 with rfl|rfl|rfl|rfl|rfl|rfl
     ·have w:=Ar m 32 4 rfl (by omega);have key:=row_one (B:=B1) (N:=B1.length) (c:=cp v 4) (by simp);rw[<-hm]at w
      try simp at key
      simp[nY,bf];refine⟨by omega,by omega,1,by omega,by omega,aB [(0,1)] ?_⟩;simp[nY,key,w,bf]
     ·have w:=Ar m 24 3 rfl (by omega);have key:=row_one (B:=(B1++[cp v 4])) (N:=B1.length+1) (c:=cp v 3) (by simp);rw[<-hm]at w
      try simp at key
      simp[nY,bf];refine⟨by omega,by omega,2,by omega,by omega,aB [(0,1)] ?_⟩;simp[nY,key,w,bf]
     ·have w:=Ar m 16 2 rfl (by omega);have key:=row_one (B:=(B1++[cp v 4,cp v 3])) (N:=B1.length+2) (c:=cp v 2) (by simp);rw[<-hm]at w
      try simp at key
      simp[nY,bf];refine⟨by omega,by omega,3,by omega,by omega,aB [(0,1)] ?_⟩;simp[nY,key,w,bf]
     ·have w:=Ar m 8 1 rfl (by omega);have key:=row_one (B:=(B1++[cp v 4,cp v 3,cp v 2])) (N:=B1.length+3) (c:=cp v 1) (by simp);rw[<-hm]at w
      try simp at key
      simp[nY,bf];refine⟨by omega,by omega,4,by omega,by omega,aB [(0,1)] ?_⟩;simp[nY,key,w,bf]
     ·have w:=Ar m 0 0 rfl (by omega);have key:=row_one (B:=(B1++[cp v 4,cp v 3,cp v 2,cp v 1])) (N:=B1.length+4) (c:=cp v 0) (by simp);rw[<-hm]at w
      try simp at key
      simp[nY,bf];refine⟨by omega,by omega,5,by omega,by omega,aB [(0,1)] ?_⟩;have w':IntKind.u8.wrap v=((cp v 0).toNat:Int):=by simpa using w
      simp[nY,key,w',bf]
     ·have E:B0++dS (vs.take (k+1))=B1++nY v:=by rw[zQ c1,QJ,Q9,List.append_assoc]
      have l5:(nY v).length=5:=rfl;have lE:B0.length+(dS (vs.take (k+1))).length=B1.length+5:=by rw[<-dU,E];simp[l5]
      have t5:List.take 5 (nY v)=nY v:=rfl;simp;refine⟨k+1,by omega,by omega,ak ?_⟩;simp[E,l5,lE,t5,aD (n:=(k:Int)+1)]
    ·have e:k=vs.length:=by omega
     subst e;simp[results432];have E:iO true ks vs=B0++dS vs:=by rw[Zu];rfl
     exact⟨[],by simp[E]⟩
 ·simp[cQ,gY];exact n_ _
abbrev pM(b:List UInt8)(short:Bool):Ob:=⟨511,2,[.p (.sl (af b)),.p (.bool short)]⟩
theorem LX(nx id:Nat)(hid:id<nx)(b:List UInt8)(n:Nat)(hn:n<=b.length)(hb:b.length<=9223372036854775807):aE prog 436 [.obj id 0,.p (.int n)] ⟨[(id,pM b false)],[],nx⟩ (.p (.sl (af (b.take n)))) ⟨[(id,pM (b.drop n) false)],[],nx⟩:=by
 have e1:¬b.length<n:=by omega
 refine ah (rs:=[_]) [] [] [] func436 rfl ?_;simp[cN,e1,hn,results436];refine⟨fun y hy=>((n_ b).2.1 y hy).symm,⟨[],by simp[hid,af]⟩,by simp[af]⟩
theorem Hr(nx id:Nat)(hid:id<nx)(b:List UInt8)(short:Bool)(n:Nat)(h:short=true\/b.length<n)(hb:b.length<=9223372036854775807)(hn:n<=1000):aE prog 436 [.obj id 0,.p (.int n)] ⟨[(id,pM b short)],[],nx⟩ (.p (.sl (af (List.replicate n 0)))) ⟨[(id,pM b true)],[],nx+2⟩:=by
 have hne:¬id=nx:=by omega
 have eX:¬nx=id:=by omega
 have hlt:id<nx+1:=by omega
 have hm:n<=maxLen:=by unfold maxLen;omega
 have hz:af (List.replicate n 0)=List.replicate n (.sc (.int .u8 0)):=by simp[af]
 have key:aE prog 436 [.obj id 0,.p (.int n)] ⟨[(id,pM b short)],[],nx⟩ (.view nx 0 n 1 none) ⟨[(nx,⟨5,1,(af (List.replicate n 0)).map .p⟩),(id,pM b true)],[],nx+1⟩:=by
  refine ah (rs:=[_]) [] [] [] func436 rfl ?_;cases short
  ·have h1:b.length<n:=by simpa using h
   simp[cN,h1,hne,eX,results436];refine⟨by omega,hm,[],by simp[hne,eX,hlt,hz]⟩
  ·simp[cN,hne,eX,results436];refine⟨by omega,hm,[],by simp[hne,eX,hlt,hz]⟩
 have:=sY key (ob:=⟨5,1,(af (List.replicate n 0)).map .p⟩) (ys:=af (List.replicate n 0)) (by simp) rfl (by omega) (by simp[cN]) (by rw[Nat.mul_one,sZ];have:=(n_ (List.replicate n 0)).1;simpa using this) (by simp[cN]) (n_ _).2.1 (n_ _).2.2;simpa[Tb.cD,del,hne,eX]using this
theorem V0(V x:Nat)(hV:V<281474976710656)(hx:x<256):bits .or .i64 ((V:Int)*256) (x:Int)=((V*256+x:Nat):Int):=by
 have e:(V:Int)*256=((V*256:Nat):Int):=by simp
 rw[e];unfold bits;simp only[BitVec.ofInt_natCast,BitVec.toNat_or,BitVec.toNat_ofNat];have b:IntKind.i64.bits=64:=rfl;rw[b,Nat.mod_eq_of_lt (by omega),Nat.mod_eq_of_lt (by omega)];have h:=Nat.shiftLeft_add_eq_or_of_lt (i:=8) (b:=x) (by omega) V;rw[Nat.shiftLeft_eq]at h;have h2:V*256|||x=V*256+x:=h.symm;rw[h2];exact aD
theorem Hs(V x:Nat)(hV:V<281474976710656)(hx:x<256):bits .or .i64 (IntKind.i64.wrap ((V:Int)*2^min 8 IntKind.i64.bits)) (IntKind.i64.wrap (x:Int))=((V*256+x:Nat):Int):=by
 have p:(2:Int)^min 8 IntKind.i64.bits=256:=rfl;rw[p,aD (n:=(V:Int)*256),aD (n:=(x:Int))];exact V0 V x hV hx
def jA(b:List UInt8):Nat:=b.foldl (fun v x=>v*256+x.toNat) 0
theorem kE(b:List UInt8)(x:UInt8):jA (b++[x])=jA b*256+x.toNat:=by simp[jA]
theorem BN:∀(n:Nat) (b:List UInt8),b.length=n->jA b<256^n:=by
 intro n
 induction n with
 |zero=>intro b h;have:b=[]:=mB h;subst this;simp[jA]
 |succ n ih=>
  intro b h;have hne:b≠[]:=by intro e;subst e;simp at h
  obtain⟨a,x,rfl⟩:∃a x,b=a++[x]:=⟨b.dropLast,b.getLast hne,(List.dropLast_concat_getLast hne).symm⟩;rw[kE];have:=ih a (by simp at h;exact h);have hx:x.toNat<256:=x.toNat_lt;rw[Nat.pow_succ];omega
theorem LY(nx id:Nat)(hid:id<nx)(b:List UInt8)(n:Nat)(hn:n<=b.length)(hb:b.length<=9223372036854775807)(h5:n<=5):aE prog 435 [.obj id 0,.p (.int n)] ⟨[(id,pM b false)],[],nx⟩ (.p (.int (jA (b.take n)))) ⟨[(id,pM (b.drop n) false)],[],nx⟩:=by
 refine ah (rs:=[_]) [] [] [] func435 rfl ?_;simp;refine mC (LX nx id hid b n hn hb) rfl ?_;obtain⟨t,ht⟩:∃t,t=b.take n:=⟨_,rfl⟩;have lt:t.length=n:=by rw[ht];simp;omega
 rw[<-ht];simp[cN,lt];refine aL (fun k:Nat=>k<=n) (fun k=>[(10,.p (.sl (af t))),(11,.p (.int n)),(12,.p (.int k)),(5,.p (.int (jA (t.take k))))]) (fun _=>⟨[(id,pM (b.drop n) false)],[],nx⟩) (fun k=>n-k) 0 (by simp) _ (AS.le_refl _ _) (ak (by simp[hid,jA])) ?_;intro k hk;by_cases c1:k<n
 ·have iP:k<t.length:=by omega
  have hg:(af t)[k]?=some (.sc (.int .u8 (t[k].toNat:Int))):=by simp[af,iP]
  have hV:jA (t.take k)<281474976710656:=by
   have h1:=BN k (t.take k) (by simp;omega);have h2:256^k<=256^5:=Nat.pow_le_pow_right (by omega) (by omega);have h3:(256:Nat)^5=1099511627776:=rfl;omega
  have q:=Hs (jA (t.take k)) t[k].toNat hV t[k].toNat_lt;have q2:jA (t.take (k+1))=jA (t.take k)*256+t[k].toNat:=by rw[iA iP,kE]
  simp[c1,hg];refine⟨k+1,by omega,by omega,ak ?_⟩;simp[hid,q,q2,aD (n:=(k:Int)+1)]
 ·have e:k=n:=by omega
  subst e;have e2:t.take k=t:=fY (by omega);simp[e2,results435];exact⟨[],by simp[hid]⟩
theorem Jb(nx id:Nat)(hid:id<nx)(b:List UInt8)(short:Bool)(n:Nat)(h:short=true\/b.length<n)(hb:b.length<=9223372036854775807)(h5:n<=5):aE prog 435 [.obj id 0,.p (.int n)] ⟨[(id,pM b short)],[],nx⟩ (.p (.int 0)) ⟨[(id,pM b true)],[],nx+2⟩:=by
 have hlt:id<nx+2:=by omega
 refine ah (rs:=[_]) [] [] [] func435 rfl ?_;simp;refine mC (Hr nx id hid b short n h hb (by omega)) rfl ?_;obtain⟨t,ht⟩:∃t:List UInt8,t=List.replicate n 0:=⟨_,rfl⟩;have lt:t.length=n:=by rw[ht];simp
 rw[<-ht];simp[cN,lt];refine aL (fun k:Nat=>k<=n) (fun k=>[(10,.p (.sl (af t))),(11,.p (.int n)),(12,.p (.int k)),(5,.p (.int 0))]) (fun _=>⟨[(id,pM b true)],[],nx+2⟩) (fun k=>n-k) 0 (by simp) _ (AS.le_refl _ _) (ak (by simp[hlt])) ?_;intro k hk;by_cases c1:k<n
 ·have iP:k<t.length:=by omega
  have hz:t[k]=0:=by subst ht;simp
  have hg:(af t)[k]?=some (.sc (.int .u8 0)):=by simp[af,iP,hz]
  have q:bits .or .i64 (IntKind.i64.wrap 0) (IntKind.i64.wrap 0)=0:=by decide
  simp[c1,hg];refine⟨k+1,by omega,by omega,ak ?_⟩;simp[hlt,q,aD (n:=(k:Int)+1)]
 ·simp[c1,results435];exact⟨[],by simp[hlt]⟩
theorem QL(l:Bool)(ks:List (List UInt8))(vs:List Int)(hr:fE l ks vs=false)(hk:ks.length<=9223372036854775807)(hv:vs.length<=9223372036854775807):aq prog 432 [dn l ks vs] (.tp [.nil,.int 10]):=by
 refine ai (ys:=[_,_]) [] [] [] func432 rfl ?_;simp;refine bS (s5 l ks vs hk hv) ?_;simp[hr,results432]
theorem PY{P:Program}{f:FuncId}{xs:List AV}{tb:Tb}{r:AV}{aM:Tb}(m:Nat)(h:aE P f xs tb r aM)(hm:aM.nx<=m):aE P f xs tb r ⟨aM.bx,aM.rw,m⟩:=qa h fun _ _ _ g _ _ hw hv=>⟨g,G.le_refl g,hw.sub (fun _ _ e=>e) (fun _ _ e=>e) hm,hv⟩
abbrev wV:=List UInt8×Bool
def Dc(s:wV)(n:Nat):List UInt8×wV:=if s.2=true\/s.1.length<n then(List.replicate n 0,(s.1,true))else(s.1.take n,(s.1.drop n,false))
def gP(s:wV)(n:Nat):Nat×wV:=(jA (Dc s n).1,(Dc s n).2)
theorem K6(n:Nat):jA (List.replicate n 0)=0:=by
 induction n with
 |zero=>rfl
 |succ n ih=>rw[List.replicate_succ',kE,ih];rfl
theorem afz(nx id:Nat)(hid:id<nx)(s:wV)(n:Nat)(hb:s.1.length<=9223372036854775807)(hn:n<=1000):aE prog 436 [.obj id 0,.p (.int n)] ⟨[(id,pM s.1 s.2)],[],nx⟩ (.p (.sl (af (Dc s n).1))) ⟨[(id,pM (Dc s n).2.1 (Dc s n).2.2)],[],nx+2⟩:=by
 obtain⟨b,t⟩:=s;by_cases h:t=true\/b.length<n
 ·have:=Hr nx id hid b t n h hb hn;simpa[Dc,h]using this
 ·obtain⟨h1,h2⟩:=not_or.1 h;have ht:t=false:=by simpa using h1
  subst ht;have:=PY (nx+2) (LX nx id hid b n (by omega) hb) (by simp);simpa[Dc,h2]using this
theorem xN(nx id:Nat)(hid:id<nx)(s:wV)(n:Nat)(hb:s.1.length<=9223372036854775807)(hn:n<=5):aE prog 435 [.obj id 0,.p (.int n)] ⟨[(id,pM s.1 s.2)],[],nx⟩ (.p (.int (gP s n).1)) ⟨[(id,pM (gP s n).2.1 (gP s n).2.2)],[],nx+2⟩:=by
 obtain⟨b,t⟩:=s;by_cases h:t=true\/b.length<n
 ·have:=Jb nx id hid b t n h hb hn;simpa[gP,Dc,h,K6]using this
 ·obtain⟨h1,h2⟩:=not_or.1 h;have ht:t=false:=by simpa using h1
  subst ht;have:=PY (nx+2) (LY nx id hid b n (by omega) hb hn) (by simp);simpa[gP,Dc,h2]using this
def xo{α:Type}(f:α->α):Nat->α->α
 |0,x=>x
 |n+1,x=>f (xo f n x)
def qA(x:List (List UInt8)×wV):List (List UInt8)×wV:=(x.1++[(Dc (gP x.2 1).2 (gP x.2 1).1).1],(Dc (gP x.2 1).2 (gP x.2 1).1).2)
def mh(x:List Int×wV):List Int×wV:=(x.1++[((gP x.2 5).1:Int)],(gP x.2 5).2)
theorem T9(s:wV)(n:Nat):(Dc s n).1.length=n:=by
 unfold Dc;split
 ·simp
 ·rename_i h;simp at h;simp;omega
theorem E6(s:wV)(n:Nat):(Dc s n).2.1.length<=s.1.length:=by
 unfold Dc;split<;>simp
theorem qL(s:wV)(n:Nat):(gP s n).2.1.length<=s.1.length:=E6 s n
theorem G7(s:wV)(n:Nat):(gP s n).1<256^n:=BN n _ (T9 s n)
theorem G8(x:List (List UInt8)×wV):(qA x).2.1.length<=x.2.1.length:=Nat.le_trans (E6 _ _) (qL _ _)
theorem G9(x:List Int×wV):(mh x).2.1.length<=x.2.1.length:=qL _ _
theorem K7(n:Nat)(x:List (List UInt8)×wV):(xo qA n x).2.1.length<=x.2.1.length:=by
 induction n with
 |zero=>exact Nat.le_refl _
 |succ n ih=>exact Nat.le_trans (G8 _) ih
theorem K8(n:Nat)(x:List Int×wV):(xo mh n x).2.1.length<=x.2.1.length:=by
 induction n with
 |zero=>exact Nat.le_refl _
 |succ n ih=>exact Nat.le_trans (G9 _) ih
theorem E7(n:Nat)(x:List (List UInt8)×wV):(xo qA n x).1.length=x.1.length+n:=by
 induction n with
 |zero=>rfl
 |succ n ih=>simp[xo,qA,ih];omega
theorem PZ(n:Nat)(x:List Int×wV):(xo mh n x).1.length=x.1.length+n:=by
 induction n with
 |zero=>rfl
 |succ n ih=>simp[xo,mh,ih];omega
def s9(k:Nat)(s:wV):List (List UInt8)×wV:=xo qA k ([],s)
def Hx(kind k:Nat)(s:wV):List Int×wV:=xo mh (k+if kind=1 then 0 else 1) ([],s)
def xd(kind:Nat)(ks:List (List UInt8))(vs:List Int)(r:wV):Bool:=!r.2&&r.1.isEmpty&&(kind==1||kind==2)&&fE (kind==1) ks vs
def upP(kind k:Nat)(s:wV):PC:=let K:=s9 k s;let V:=Hx kind k K.2;if xd kind K.1 V.1 V.2 then .tp [dn (kind==1) K.1 V.1,.int 0]else .tp [dn false [] [],.int 10]
theorem Mf(b:List UInt8)(hb:b.length<=9223372036854775807):aq prog 431 [.sl (af b)] (upP (gP (b,false) 1).1 (gP (gP (b,false) 1).2 1).1 (gP (gP (b,false) 1).2 1).2):=by
 have r1:=qL (b,false) 1;have l1:=G7 (b,false) 1;have c1:=xN 2 1 (by omega) (b,false) 1 hb (by omega);generalize gP (b,false) 1=x1 at*;obtain⟨kind,s1⟩:=x1;have r2:=qL s1 1;have l2:=G7 s1 1;have hb1:s1.1.length<=9223372036854775807:=Nat.le_trans r1 hb;have c2:=xN 4 1 (by omega) s1 1 hb1 (by omega);simp only at*;generalize gP s1 1=x2 at*;obtain⟨k,s2⟩:=x2;have vV:s2.1.length<=9223372036854775807:=Nat.le_trans r2 hb1;simp only at*;have e:upP kind k s2=Bd [if xd kind (s9 k s2).1 (Hx kind k (s9 k s2).2).1 (Hx kind k (s9 k s2).2).2 then dn (kind==1) (s9 k s2).1 (Hx kind k (s9 k s2).2).1 else dn false [] [],.int (if xd kind (s9 k s2).1 (Hx kind k (s9 k s2).2).1 (Hx kind k (s9 k s2).2).2 then 0 else 10)]:=by
  simp only[upP,Bd];split<;>rfl
 refine zm (ys:=[_,_]) [10] [(6,[(1,.r 1),(4,.w [1]),(5,.w [1]),(8,.f [1]),(10,.s 1 [])]),(10,[(1,.r 1),(3,.w [1]),(5,.f [1]),(7,.s 1 [])])] [(1,6)] mixed func431 rfl (by kernel_rfl) (by kernel_rfl) (by simp[ntmps431]) e ?_;have kbe:((kind:Int)==1)=(kind==1):=by rw[Bool.eq_iff_iff];simp;omega
 generalize hK:s9 k s2=K;generalize hV:Hx kind k K.2=V;simp;refine mC c1 rfl ?_;simp;refine mC c2 rfl ?_;simp;refine aL (fun i:Nat=>i<=k) (fun i=>[(2,.obj 0 0),(4,.obj 1 0),(5,.p (.int kind)),(6,.p (.int k)),(7,.obj 6 0),(18,.p (.int k)),(19,.p (.int i))]) (fun i=>⟨[(6,⟨341,3,[.p (.bool (kind==1)),.own 7 ((s9 i s2).1.map PC.str),.own 8 []]⟩),(1,pM (s9 i s2).2.1 (s9 i s2).2.2),(0,⟨341,3,[.p (.bool false),.p .nil,.p .nil]⟩)],[(7,9,1),(8,3,1)],9⟩) (fun i=>k-i) 0 (by simp) _ ((ja 6 1 9 1 ⟨341,3,[.p (.bool (kind==1)),.p .nil,.p .nil]⟩ [] ?_ ?_).trans (ja 6 2 3 1 ⟨341,3,[.p (.bool (kind==1)),.own 7 [],.p .nil]⟩ [] ?_ ?_)) (ak ?_) ?_
 ·simp[kbe]
 ·simp
 ·simp[kbe]
 ·simp
 ·simp[kbe,s9,xo]
 ·intro i hi;have q1:=K7 i ([],s2);by_cases c:i<k
  ·have hs:s9 (i+1) s2=qA (s9 i s2):=rfl;have hl:=E7 i ([],s2);have e:xo qA i ([],s2)=s9 i s2:=rfl;rw[e]at q1 hl;generalize s9 i s2=X at*;obtain⟨ks,s⟩:=X;simp only[List.length_nil,Nat.zero_add]at q1 hl;have q2:=qL s 1;have q3:=G7 s 1;have hb3:s.1.length<=9223372036854775807:=Nat.le_trans q1 vV;have d1:=xN 9 1 (by omega) s 1 hb3 (by omega);have d2:=afz 11 1 (by omega) (gP s 1).2 (gP s 1).1 (Nat.le_trans q2 hb3) (by omega);simp[c];refine mC d1 rfl ?_;simp;refine mC d2 rfl ?_;simp;refine⟨by omega,by omega,i+1,by omega,by omega,aB [(7,13)] ?_⟩;simp[hs,qA,aD (n:=(i:Int)+1)]
  ·have e0:i=k:=by omega
   subst e0;have q1:K.2.1.length<=s2.1.length:=by rw[<-hK];exact q1
   have hl:K.1.length=i:=by have:=E7 i ([],s2);rw[<-hK];simpa[s9]using this
   obtain⟨ks,s3⟩:=K;simp only at hV q1 hl;have hb3:s3.1.length<=9223372036854775807:=Nat.le_trans q1 vV;have be:∀vs:List Int,aq prog 320 [.agg false [.bool (kind==1),.sl (ks.map PC.str),.sl (vs.map PC.int)]] (.int (if kind==1 then 0 else 1)):=fun vs=>j9 _ _ _;have ebh:IntKind.i64.wrap ((i:Int)+(if kind==1 then 0 else 1:Int))=((i+if kind=1 then 0 else 1:Nat):Int):=by
    by_cases c:kind=1
    ·simp[c,aD (n:=(i:Int))]
    ·simp[c];exact aD
   simp[hK];refine bS (be []) ?_;simp;rw[show((if kind=1 then(0:Int)else 1))=(if kind==1 then 0 else 1:Int) by simp,ebh];obtain⟨m,hm⟩:∃m,m=i+if kind=1 then 0 else 1:=⟨_,rfl⟩
   have hm2:m<=300:=by rw[hm];split<;>omega
   rw[<-hm];have hVm:V=xo mh m ([],s3):=by rw[<-hV,hm];rfl
   refine aL (fun j:Nat=>j<=m) (fun j=>[(2,.obj 0 0),(4,.obj 1 0),(5,.p (.int kind)),(7,.obj 6 0),(35,.p (.int m)),(36,.p (.int j))]) (fun j=>⟨[(6,⟨341,3,[.p (.bool (kind==1)),.own 7 (ks.map PC.str),.own 8 ((xo mh j ([],s3)).1.map PC.int)]⟩),(1,pM (xo mh j ([],s3)).2.1 (xo mh j ([],s3)).2.2),(0,⟨341,3,[.p (.bool false),.p .nil,.p .nil]⟩)],[(7,9,1),(8,3,1)],9⟩) (fun j=>m-j) 0 (by simp) _ (AS.le_refl _ _) (ak ?_) ?_
   ·simp[xo]
   ·intro j hj;have w1:=K8 j ([],s3);have w2:=PZ j ([],s3);by_cases c:j<m
    ·have hs:xo mh (j+1) ([],s3)=mh (xo mh j ([],s3)):=rfl;generalize xo mh j ([],s3)=X at*;obtain⟨vs,s⟩:=X;simp only[List.length_nil,Nat.zero_add]at w1 w2;have d1:=xN 9 1 (by omega) s 5 (Nat.le_trans w1 hb3) (by omega);simp[c];refine mC d1 rfl ?_;simp;refine⟨by omega,by omega,j+1,by omega,by omega,aB [(8,11)] ?_⟩;simp[hs,mh,aD (n:=(j:Int)+1)]
    ·have e0:j=m:=by omega
     subst e0;rw[<-hVm]at w1 w2⊢;obtain⟨vs,r,sh⟩:=V;simp only[List.length_nil,Nat.zero_add]at w1 w2;cases sh
     ·cases r with
      |cons x r=>simp[xd,results431,cN]
      |nil=>
       by_cases k1:kind=1
       ·subst k1;simp[xd,cN];refine bS (s5 true ks vs (by omega) (by omega)) ?_;cases hr:fE true ks vs<;>simp[results431]
       ·by_cases k2:kind=2
        ·subst k2;simp[xd,cN];refine bS (s5 false ks vs (by omega) (by omega)) ?_;cases hr:fE false ks vs<;>simp[results431]
        ·have k1':((kind:Int) !=1)=true:=by simp;omega
         have k2':((kind:Int) !=2)=true:=by simp;omega
         simp[xd,results431,cN,k1,k2,k1',k2']
     ·simp[xd,results431]
end Go.Av
namespace Go.Av
open Go.Proofs
theorem GB{l:Bool}{ks:List (List UInt8)}{vs:List Int}(h:fE l ks vs=true):∀v∈vs,vB v=true:=by
 simp only[fE,Bool.and_eq_true,List.all_eq_true]at h;exact h.2
theorem zg(y:UInt8)(t:List UInt8):gP (y::t,false) 1=(y.toNat,(t,false)):=by
 simp[gP,Dc,jA]
theorem GD(ks:List (List UInt8))(y:UInt8)(t:List UInt8)(h:y.toNat<=t.length):qA (ks,(y::t,false))=(ks++[t.take y.toNat],(t.drop y.toNat,false)):=by
 have:¬t.length<y.toNat:=by omega
 simp[qA,zg,Dc,this]
theorem SX(vs:List Int)(r:List UInt8)(n:Nat)(h:5*n<=r.length):xo mh n (vs,(r,false))=(vs++(List.range n).map (fun i=>((jA ((r.drop (5*i)).take 5):Nat):Int)),(r.drop (5*n),false)):=by
 induction n with
 |zero=>simp[xo]
 |succ n ih=>
  have h5:¬(r.drop (5*n)).length<5:=by simp;omega
  rw[xo,ih (by omega),List.range_succ];simp only[mh,gP,Dc,h5,Bool.false_eq_true,or_self,if_false];simp[Nat.mul_add]
theorem Ku{ks:List (List UInt8)}{R:List UInt8}(h:∀s∈ks,s.length<=100):∀i,i<=ks.length->xo qA i ([],(dK ks++R,false))=(ks.take i,(dK (ks.drop i)++R,false)):=by
 intro i
 induction i with
 |zero=>intro _;simp[xo]
 |succ i ih=>
  intro hi;have c:i<ks.length:=by omega
  have hl:=h ks[i] (by simp);have e:dK (ks.drop i)++R=UInt8.ofNat ks[i].length::(ks[i]++(dK (ks.drop (i+1))++R)):=by
   rw[List.drop_eq_getElem_cons c];simp only[dK,List.flatMap_cons,List.cons_append,List.append_assoc]
  have t:(UInt8.ofNat ks[i].length).toNat=ks[i].length:=by simp;omega
  rw[xo,ih (by omega),e,GD _ _ _ (by rw[t];simp),t,iA c];simp
theorem OE{v:Int}(h:vB v=true):((jA (nY v):Nat):Int)=v:=by
 simp only[vB,Bool.and_eq_true,decide_eq_true_eq]at h;obtain⟨m,rfl⟩:∃m:Nat,v=m:=⟨v.toNat,by omega⟩;simp[jA,nY,cp];omega
theorem OG{vs:List Int}:∀{i:Nat} (h:i<vs.length),((dS vs).drop (5*i)).take 5=nY vs[i]:=by
 induction vs with
 |nil=>intro i h;simp at h
 |cons v vs ih=>
  intro i h;have e:dS (v::vs)=nY v++dS vs:=rfl;have l:(nY v).length=5:=rfl;cases i with
  |zero=>rw[e];simp[List.take_append,l]
  |succ i=>
   have:=ih (i:=i) (by simpa using h);rw[e,List.drop_append,l,List.drop_of_length_le (by rw[l];omega)];simpa[Nat.mul_add]using this
theorem El(vs:List Int):(dS vs).length=5*vs.length:=by
 induction vs with
 |nil=>rfl
 |cons v vs ih=>
  have e:dS (v::vs)=nY v++dS vs:=rfl;rw[e,dU,ih];simp[nY];omega
end Go.Av
