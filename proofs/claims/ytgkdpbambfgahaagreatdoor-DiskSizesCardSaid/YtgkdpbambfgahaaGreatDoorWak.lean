/- DiskSizes, part 11: an abstract interpreter over a program's form, with the proof that it is sound; it holds for any program that the model takes. -/
import Derived.Test.YtgkdpbambfgahaaGreatDoorWaj
set_option linter.all false
set_option maxRecDepth 100000
set_option maxHeartbeats 64000000
namespace Go.Av
theorem BE{A V:List AV}{z:AV}{n m i:Nat}(hA:A.length=n)(hV:V.length=m)(hi:i<=n):List.take (i+m) (bB (i+m) (List.take i (bB i (List.take i A++List.replicate (n+m-i) z))++(V++List.drop (i+m) (bB i (List.take i A++List.replicate (n+m-i) z)))))++(List.take (n-i) (List.drop i A)++List.drop (i+m+(n-i)) (bB (i+m) (List.take i (bB i (List.take i A++List.replicate (n+m-i) z))++(V++List.drop (i+m) (bB i (List.take i A++List.replicate (n+m-i) z))))))=List.take i A++(V++List.drop i A):=by
 have l1:(List.take i A).length=i:=by simp;omega
 rw[eN (k:=i) (by simp;omega)];have e1:List.take i (List.take i A++List.replicate (n+m-i) z)=List.take i A:=List.take_left' l1;have e2:List.drop (i+m) (List.take i A++List.replicate (n+m-i) z)=List.replicate (n-i) z:=by
  rw[<-List.drop_drop,List.drop_left' l1,List.drop_replicate];congr 1;omega
 rw[e1,e2];have l2:(List.take i A++V).length=i+m:=by simp;omega
 rw[eN (k:=i+m) (by simp;omega)];rw[<-List.append_assoc (List.take i A) V,List.take_left' l2,<-List.drop_drop,List.drop_left' l2];have e3:List.drop (n-i) (List.replicate (n-i) z)=[]:=List.drop_of_length_le (by simp);have e4:List.take (n-i) (List.drop i A)=List.drop i A:=List.take_of_length_le (by simp;omega);rw[e3,e4,List.append_nil,List.append_assoc]
theorem BF{A V:List AV}{n m i k:Nat}(hA:A.length=n)(hV:V.length=m)(hi:i<=n)(hk:k=n-i):List.take i (bB i (List.take (i+m) (bB (i+m) A)++(List.take k (List.drop i (bB (i+m) A))++List.drop (i+m+k) (bB (i+m) A))))++(V++List.drop (i+m) (bB i (List.take (i+m) (bB (i+m) A)++(List.take k (List.drop i (bB (i+m) A))++List.drop (i+m+k) (bB (i+m) A)))))=List.take i A++(V++List.drop i A):=by
 subst hk;have l1:(List.take (i+m) (bB (i+m) A)).length=i+m:=by rw[List.length_take,eH];omega
 have hp:bB (i+m) A=A++List.replicate (i+m-n) .any:=by unfold bB;rw[hA]
 rw[eN (k:=i) (by rw[List.length_append,l1];omega)];rw[List.drop_left' l1];have e1:List.take i (List.take (i+m) (bB (i+m) A)++(List.take (n-i) (List.drop i (bB (i+m) A))++List.drop (i+m+(n-i)) (bB (i+m) A)))=List.take i A:=by
  rw[List.take_append_of_le_length (by omega),List.take_take,Nat.min_eq_left (by omega),hp,List.take_append_of_le_length (by omega)]
 have e2:List.take (n-i) (List.drop i (bB (i+m) A))=List.drop i A:=by
  rw[hp,List.drop_append_of_le_length (by omega)];exact List.take_left' (by simp;omega)
 have e3:List.drop (i+m+(n-i)) (bB (i+m) A)=[]:=List.drop_of_length_le (by rw[eH];omega);rw[e1,e2,e3,List.append_nil]
theorem IC{Q V S R:List AV}{i m k:Nat}(hP:Q.length=i)(hV:V.length=m)(hS:S.length=k)(hR:R.length=m+k):List.take (i+m) (bB (i+m) (List.take i (bB i (Q++R))++(V++List.drop (i+m) (bB i (Q++R)))))++(S++List.drop (i+m+k) (bB (i+m) (List.take i (bB i (Q++R))++(V++List.drop (i+m) (bB i (Q++R))))))=Q++(V++S):=by
 rw[eN (k:=i) (by simp;omega)];rw[List.take_left' hP];have e2:List.drop (i+m) (Q++R)=List.drop m R:=by rw[<-List.drop_drop,List.drop_left' hP]
 rw[e2];have l2:(Q++V).length=i+m:=by simp;omega
 rw[eN (k:=i+m) (by simp;omega)];rw[<-List.append_assoc Q V,List.take_left' l2,<-List.drop_drop,List.drop_left' l2];have e3:List.drop k (List.drop m R)=[]:=List.drop_of_length_le (by simp;omega);rw[e3,List.append_nil,List.append_assoc]
theorem ID{A V:List AV}{n m i j k:Nat}(hA:A.length=n)(hV:V.length=m)(hi:i<=n)(hj:j<=n)(hij:j<i+m)(hk:k=n-j):List.take i (bB i (List.take (i+m) (bB (i+m) A)++(List.take k (List.drop j (bB (i+m) A))++List.drop (i+m+k) (bB (i+m) A))))++(V++List.drop (i+m) (bB i (List.take (i+m) (bB (i+m) A)++(List.take k (List.drop j (bB (i+m) A))++List.drop (i+m+k) (bB (i+m) A)))))=List.take i A++(V++List.drop j A):=by
 subst hk;have l1:(List.take (i+m) (bB (i+m) A)).length=i+m:=by rw[List.length_take,eH];omega
 have hp:bB (i+m) A=A++List.replicate (i+m-n) .any:=by unfold bB;rw[hA]
 rw[eN (k:=i) (by rw[List.length_append,l1];omega)];rw[List.drop_left' l1];have e1:∀R,List.take i (List.take (i+m) (bB (i+m) A)++R)=List.take i A:=fun R=>by
  rw[List.take_append_of_le_length (by omega),List.take_take,Nat.min_eq_left (by omega),hp,List.take_append_of_le_length (by omega)]
 have e2:List.take (n-j) (List.drop j (bB (i+m) A))=List.drop j A:=by
  rw[hp,List.drop_append_of_le_length (by omega)];exact List.take_left' (by simp;omega)
 have e3:List.drop (i+m+(n-j)) (bB (i+m) A)=[]:=List.drop_of_length_le (by rw[eH];omega);rw[e1,e2,e3,List.append_nil]
theorem ER{A V:List AV}{n m i j k:Nat}(hA:A.length=n)(hV:V.length=m)(hj:j<=n)(hij:i+m<=j)(hk:k=n-j)(R:List AV):List.take (i+m+k) (List.take (i+m) (List.take i A++(V++List.drop (i+m) A))++(List.take k (List.drop j (List.take i A++(V++List.drop (i+m) A)))++R))=List.take i A++(V++List.drop j A):=by
 subst hk;have l1:(List.take i A++V).length=i+m:=by simp;omega
 rw[<-List.append_assoc (List.take i A) V,List.take_left' l1];have e1:List.drop j (List.take i A++V++List.drop (i+m) A)=List.drop j A:=by
  have:j=(i+m)+(j-(i+m)):=by omega
  rw[this,<-List.drop_drop,List.drop_left' l1,List.drop_drop]
 rw[e1,List.take_of_length_le (l:=List.drop j A) (by simp;omega),<-List.append_assoc];rw[List.take_left' (by rw[List.length_append,l1,List.length_drop];omega),List.append_assoc]
theorem AI{A R:List AV}{n i j k:Nat}(hA:A.length=n)(hij:i<=j)(hj:j<=n)(hk:k=i+(n-j)):List.take k (List.take i A++(List.take (n-j) (List.drop j A)++R))=List.take i A++List.drop j A:=by
 subst hk;have l1:(List.take i A).length=i:=by simp;omega
 have e4:List.take (n-j) (List.drop j A)=List.drop j A:=List.take_of_length_le (by simp;omega);rw[e4,<-List.append_assoc];exact List.take_left' (by rw[List.length_append,l1,List.length_drop];omega)
end Go.Av
namespace Go.Av
open Go.Proofs
def fE{α:Type}(p:α->Bool):List α->Int
 |[]=>-1
 |a::l=>if p a=true then 0 else if fE p l<0 then-1 else fE p l+1
theorem pz{α:Type}(p:α->Bool)(l:List α):decide (0<=fE p l)=l.any p:=by
 induction l with
 |nil=>rfl
 |cons a l ih=>
  simp only[fE,List.any_cons,<-ih];by_cases hp:p a=true
  ·simp[hp]
  ·by_cases h:fE p l<0
   ·have h2:¬0<=fE p l:=by omega
    simp[hp,h,h2]
   ·have h2:0<=fE p l:=by omega
    have h3:0<=fE p l+1:=by omega
    simp[hp,h,h2,h3]
theorem mG{α:Type}(p:α->Bool)(l:List α)(i:Nat)(h:∀x∈l.take i,p x=false)(hi:i<=l.length):fE p l=if fE p (l.drop i)<0 then-1 else fE p (l.drop i)+i:=by
 induction l generalizing i with
 |nil=>simp[fE]
 |cons a l ih=>
  cases i with
  |zero=>
   have:-1<=fE p (a::l):=by
    clear ih h hi;generalize a::l=m
    induction m with
    |nil=>simp[fE]
    |cons a m ih=>simp only[fE];split<;>(try split)<;>omega
   simp only[List.drop_zero];split<;>omega
  |succ i=>
   have h0:p a=false:=h a (by simp);have:=ih i (fun x hx=>h x (by simp[hx])) (by simp at hi;omega);simp only[List.drop_succ_cons,fE,h0,Bool.false_eq_true,if_false];rw[this];split
   ·simp
   ·rw[if_neg (by omega)];omega
abbrev oc(x:UInt8):PC:= .sc (.int .u8 x.toNat)
abbrev cy(b:List UInt8):PC:= .sl (ah b)
abbrev eM(w:Int×List UInt8):PC:= .agg false [.int w.1,cy w.2]
abbrev Fd:=List UInt8×List UInt8
abbrev pQ(f:Fd):PC:= .agg false [.str f.1,.str f.2]
theorem Xd(g:FuncId)(caps:List PC)(p:List UInt8->Bool)(l:List (List UInt8))(hl:l.length<=1000000000000)(hg:∀x∈l,aB Tryz.prog g (cy x::caps) (.bool (p x))):aB Tryz.prog 197 [.sl (l.map cy),.fn (.func g) caps] (.int (fE p l)):=by
 refine QpQ (ys:=[_]) [] [] [] Tryz.func197 rfl (by simp[Tryz.ntmps197]) ?_;obtain⟨R,hR⟩:∃R,R=fE p l:=⟨_,rfl⟩;rw[<-hR];simp;refine bW (fun i:Nat=>i<=l.length/\∀x∈l.take i,p x=false) (fun i=>[(0,.p (.sl (l.map cy))),(1,.p (.fn (.func g) caps)),(7,.p (.int l.length)),(8,.p (.int i))]) (fun i=>l.length-i) 0 ⟨by simp,by simp⟩ (aA (by simp)) ?_;rintro i ⟨g1,g2⟩;have hf:=mG p l i g2 g1;rw[<-hR]at hf;by_cases ci:i<l.length
 ·have wi:IntKind.i64.wrap ((i:Int)+1)=((i+1:Nat):Int):=by rw[af (by omega) (by omega)];rfl
  rw[List.drop_eq_getElem_cons ci]at hf;simp only[fE]at hf;simp[ci];refine ai (hg l[i] (List.getElem_mem ci)) (by simp) ?_;cases hp:p l[i]with
  |true=>
   simp[hp]at hf;simp[hf,Tryz.results197]
  |false=>
   simp[wi];refine⟨i+1,⟨by omega,fun x hx=>?_⟩,by omega,aA (by simp)⟩;rw[List.take_succ_eq_append_getElem ci,List.mem_append]at hx;rcases hx with hx|hx
   ·exact g2 _ hx
   ·simp at hx;rw[hx];exact hp
 ·rw[List.drop_eq_nil_of_le (by omega)]at hf;simp[fE]at hf;simp[ci,hf,Tryz.results197]
theorem Xe(g:FuncId)(caps:List PC)(p:List UInt8->Bool)(l:List (List UInt8))(hl:l.length<=1000000000000)(hg:∀x∈l,aB Tryz.prog g (cy x::caps) (.bool (p x))):aB Tryz.prog 105 [.sl (l.map cy),.fn (.func g) caps] (.bool (l.any p)):=by
 refine QpQ (ys:=[_]) [] [] [] Tryz.func105 rfl (by simp[Tryz.ntmps105]) ?_;simp;refine ai (Xd g caps p l hl hg) (by simp) ?_;rw[<-pz];simp[Tryz.results105]
theorem Xf(g:FuncId)(caps:List PC)(p:Int×List UInt8->Bool)(l:List (Int×List UInt8))(hl:l.length<=1000000000000)(hg:∀x∈l,aB Tryz.prog g (eM x::caps) (.bool (p x))):aB Tryz.prog 332 [.sl (l.map eM),.fn (.func g) caps] (.int (fE p l)):=by
 refine QpQ (ys:=[_]) [] [] [] Tryz.func332 rfl (by simp[Tryz.ntmps332]) ?_;obtain⟨R,hR⟩:∃R,R=fE p l:=⟨_,rfl⟩;rw[<-hR];simp;refine bW (fun i:Nat=>i<=l.length/\∀x∈l.take i,p x=false) (fun i=>[(0,.p (.sl (l.map eM))),(1,.p (.fn (.func g) caps)),(7,.p (.int l.length)),(8,.p (.int i))]) (fun i=>l.length-i) 0 ⟨by simp,by simp⟩ (aA (by simp)) ?_;rintro i ⟨g1,g2⟩;have hf:=mG p l i g2 g1;rw[<-hR]at hf;by_cases ci:i<l.length
 ·have wi:IntKind.i64.wrap ((i:Int)+1)=((i+1:Nat):Int):=by rw[af (by omega) (by omega)];rfl
  rw[List.drop_eq_getElem_cons ci]at hf;simp only[fE]at hf;simp[ci];refine ai (hg l[i] (List.getElem_mem ci)) (by simp) ?_;cases hp:p l[i]with
  |true=>
   simp[hp]at hf;simp[hf,Tryz.results332]
  |false=>
   simp[wi];refine⟨i+1,⟨by omega,fun a b hx=>?_⟩,by omega,aA (by simp)⟩;rw[List.take_succ_eq_append_getElem ci,List.mem_append]at hx;rcases hx with hx|hx
   ·exact g2 _ hx
   ·simp at hx;rw[hx];exact hp
 ·rw[List.drop_eq_nil_of_le (by omega)]at hf;simp[fE]at hf;simp[ci,hf,Tryz.results332]
theorem K4(g:FuncId)(caps:List PC)(p:Int×List UInt8->Bool)(l:List (Int×List UInt8))(hl:l.length<=1000000000000)(hg:∀x∈l,aB Tryz.prog g (eM x::caps) (.bool (p x))):aB Tryz.prog 257 [.sl (l.map eM),.fn (.func g) caps] (.bool (l.any p)):=by
 refine QpQ (ys:=[_]) [] [] [] Tryz.func257 rfl (by simp[Tryz.ntmps257]) ?_;simp;refine ai (Xf g caps p l hl hg) (by simp) ?_;rw[<-pz];simp[Tryz.results257]
theorem Xg(g:FuncId)(caps:List PC)(p:UInt8->Bool)(l:List (UInt8))(hl:l.length<=1000000000000)(hg:∀x∈l,aB Tryz.prog g (oc x::caps) (.bool (p x))):aB Tryz.prog 440 [.sl (l.map oc),.fn (.func g) caps] (.int (fE p l)):=by
 refine QpQ (ys:=[_]) [] [] [] Tryz.func440 rfl (by simp[Tryz.ntmps440]) ?_;obtain⟨R,hR⟩:∃R,R=fE p l:=⟨_,rfl⟩;rw[<-hR];simp;refine bW (fun i:Nat=>i<=l.length/\∀x∈l.take i,p x=false) (fun i=>[(0,.p (.sl (l.map oc))),(1,.p (.fn (.func g) caps)),(7,.p (.int l.length)),(8,.p (.int i))]) (fun i=>l.length-i) 0 ⟨by simp,by simp⟩ (aA (by simp)) ?_;rintro i ⟨g1,g2⟩;have hf:=mG p l i g2 g1;rw[<-hR]at hf;by_cases ci:i<l.length
 ·have wi:IntKind.i64.wrap ((i:Int)+1)=((i+1:Nat):Int):=by rw[af (by omega) (by omega)];rfl
  rw[List.drop_eq_getElem_cons ci]at hf;simp only[fE]at hf;simp[ci];refine ai (hg l[i] (List.getElem_mem ci)) (by simp) ?_;cases hp:p l[i]with
  |true=>
   simp[hp]at hf;simp[hf,Tryz.results440]
  |false=>
   simp[wi];refine⟨i+1,⟨by omega,fun x hx=>?_⟩,by omega,aA (by simp)⟩;rw[List.take_succ_eq_append_getElem ci,List.mem_append]at hx;rcases hx with hx|hx
   ·exact g2 _ hx
   ·simp at hx;rw[hx];exact hp
 ·rw[List.drop_eq_nil_of_le (by omega)]at hf;simp[fE]at hf;simp[ci,hf,Tryz.results440]
theorem Xh(g:FuncId)(caps:List PC)(p:UInt8->Bool)(l:List (UInt8))(hl:l.length<=1000000000000)(hg:∀x∈l,aB Tryz.prog g (oc x::caps) (.bool (p x))):aB Tryz.prog 438 [.sl (l.map oc),.fn (.func g) caps] (.bool (l.any p)):=by
 refine QpQ (ys:=[_]) [] [] [] Tryz.func438 rfl (by simp[Tryz.ntmps438]) ?_;simp;refine ai (Xg g caps p l hl hg) (by simp) ?_;rw[<-pz];simp[Tryz.results438]
theorem Xi(g:FuncId)(caps:List PC)(p:Fd->Bool)(l:List (Fd))(hl:l.length<=1000000000000)(hg:∀x∈l,aB Tryz.prog g (pQ x::caps) (.bool (p x))):aB Tryz.prog 351 [.sl (l.map pQ),.fn (.func g) caps] (.int (fE p l)):=by
 refine QpQ (ys:=[_]) [] [] [] Tryz.func351 rfl (by simp[Tryz.ntmps351]) ?_;obtain⟨R,hR⟩:∃R,R=fE p l:=⟨_,rfl⟩;rw[<-hR];simp;refine bW (fun i:Nat=>i<=l.length/\∀x∈l.take i,p x=false) (fun i=>[(0,.p (.sl (l.map pQ))),(1,.p (.fn (.func g) caps)),(7,.p (.int l.length)),(8,.p (.int i))]) (fun i=>l.length-i) 0 ⟨by simp,by simp⟩ (aA (by simp)) ?_;rintro i ⟨g1,g2⟩;have hf:=mG p l i g2 g1;rw[<-hR]at hf;by_cases ci:i<l.length
 ·have wi:IntKind.i64.wrap ((i:Int)+1)=((i+1:Nat):Int):=by rw[af (by omega) (by omega)];rfl
  rw[List.drop_eq_getElem_cons ci]at hf;simp only[fE]at hf;simp[ci];refine ai (hg l[i] (List.getElem_mem ci)) (by simp) ?_;cases hp:p l[i]with
  |true=>
   simp[hp]at hf;simp[hf,Tryz.results351]
  |false=>
   simp[wi];refine⟨i+1,⟨by omega,fun a b hx=>?_⟩,by omega,aA (by simp)⟩;rw[List.take_succ_eq_append_getElem ci,List.mem_append]at hx;rcases hx with hx|hx
   ·exact g2 _ hx
   ·simp at hx;rw[hx];exact hp
 ·rw[List.drop_eq_nil_of_le (by omega)]at hf;simp[fE]at hf;simp[ci,hf,Tryz.results351]
theorem VY(g:FuncId)(caps:List PC)(p:Fd->Bool)(l:List (Fd))(hl:l.length<=1000000000000)(hg:∀x∈l,aB Tryz.prog g (pQ x::caps) (.bool (p x))):aB Tryz.prog 296 [.sl (l.map pQ),.fn (.func g) caps] (.bool (l.any p)):=by
 refine QpQ (ys:=[_]) [] [] [] Tryz.func296 rfl (by simp[Tryz.ntmps296]) ?_;simp;refine ai (Xi g caps p l hl hg) (by simp) ?_;rw[<-pz];simp[Tryz.results296]
theorem Xj(v:Int)(l:List (Int))(hl:l.length<=1000000000000):aB Tryz.prog 278 [.sl (l.map PC.int),PC.int v] (.int (fE (fun x=>v==x) l)):=by
 refine QpQ (ys:=[_]) [] [] [] Tryz.func278 rfl (by simp[Tryz.ntmps278]) ?_;obtain⟨R,hR⟩:∃R,R=fE (fun x=>v==x) l:=⟨_,rfl⟩;rw[<-hR];simp;refine bW (fun i:Nat=>i<=l.length/\∀x∈l.take i,¬v=x) (fun i=>[(0,.p (.sl (l.map PC.int))),(1,.p (PC.int v)),(7,.p (.int l.length)),(8,.p (.int i))]) (fun i=>l.length-i) 0 ⟨by simp,by simp⟩ (aA (by simp)) ?_;rintro i ⟨g1,g2⟩;have hf:=mG (fun x=>v==x) l i (fun x hx=>by simpa using g2 x hx) g1;rw[<-hR]at hf;by_cases ci:i<l.length
 ·have wi:IntKind.i64.wrap ((i:Int)+1)=((i+1:Nat):Int):=by rw[af (by omega) (by omega)];rfl
  rw[List.drop_eq_getElem_cons ci]at hf;simp only[fE]at hf;simp[ci];by_cases hp:v=l[i]
  ·have hp':(v==l[i])=true:=by simpa using hp
   simp[hp']at hf;simp[hp',hf,Tryz.results278]
  ·have hp':(v==l[i])=false:=by simpa using hp
   simp[hp',wi];refine⟨i+1,⟨by omega,fun x hx=>?_⟩,by omega,aA (by simp)⟩;rw[List.take_succ_eq_append_getElem ci,List.mem_append]at hx;rcases hx with hx|hx
   ·exact g2 _ hx
   ·simp only[List.mem_singleton]at hx;rw[hx];exact hp
 ·rw[List.drop_eq_nil_of_le (by omega)]at hf;simp[fE]at hf;simp[ci,hf,Tryz.results278]
theorem L4(v:Int)(l:List (Int))(hl:l.length<=1000000000000):aB Tryz.prog 196 [.sl (l.map PC.int),PC.int v] (.bool (l.any fun x=>v==x)):=by
 refine QpQ (ys:=[_]) [] [] [] Tryz.func196 rfl (by simp[Tryz.ntmps196]) ?_;simp;refine ai (Xj v l hl) (by simp) ?_;rw[<-pz];simp[Tryz.results196]
end Go.Av
namespace Go.aW
open Go.Av
abbrev cU:=List UInt8
structure aU where
 n:Int
 bad:List Int
 left:Int
 kept:List cU
 now:List cU
 q:List (Nat×cU)
def aU.next(D:aU):aU×Int:=if D.left=0 then(D,32)else({D with left:=if D.left<0 then-1 else D.left-1,n:=IntKind.i64.wrap (D.n+1)},if D.bad.contains D.n then 31 else 0)
def aU.there(D:aU)(a n:Int):Bool:=decide (0<=a)&&decide (a<=D.kept.length)&&decide (0<=n)&&decide (n<=D.kept.length-a)
def aU.lay(D:aU)(a:Nat):List cU->aU
 |[]=>D
 |b::l=>({D with q:=D.q++[(a,b)],now:=D.now.set a b}:aU).lay (a+1) l
def aU.write(D:aU)(a:Int)(l:List cU):aU×Int:=if D.there a l.length=true/\l.all (fun b=>b.length==64)=true then
 (if D.next.2=0 then(D.next.1.lay a.toNat l,0)else D.next)else(D,2)
def aU.read(D:aU)(a n:Int):aU×List cU×Int:=if D.there a n=true then
 (if D.next.2=0 then(D.next.1,(D.now.drop a.toNat).take n.toNat,0)else(D.next.1,[],D.next.2))else(D,[],2)
def dw(now:List cU):List (Nat×cU)->List cU->List cU
 |[],k=>k
 |w::q,k=>dw now q (k.set w.1 (now.getD w.1 []))
def aU.settle(D:aU):aU:={D with kept:=dw D.now D.q D.kept,q:=[]}
def aU.flush(D:aU):aU×Int:=if D.next.2=0 then(D.next.1.settle,0)else D.next
structure eu(b:Nat)(D:aU):Prop where
 len:D.now.length=D.kept.length
 pos:1<=D.kept.length
 top:D.kept.length<=65536
 kept:∀s∈D.kept,s.length=64
 now:∀s∈D.now,s.length=64
 q:D.q.length<=b
 qs:∀w∈D.q,w.1<D.kept.length/\w.2.length=64
 left:-1<=D.left/\D.left<=9223372036854775807
 n:-9223372036854775808<=D.n/\D.n<=9223372036854775807
 bad:D.bad.length<=1000000000
theorem sZ(n:Int):-9223372036854775808<=IntKind.i64.wrap n/\IntKind.i64.wrap n<=9223372036854775807:=by
 rw[IntWalk.i64_left];unfold RowKit.wrap64;omega
theorem eu.next{b:Nat}{D:aU}(h:eu b D):eu b D.next.1:=by
 obtain⟨h1,h2,h3,h4,h5,h6,h7,h8,h9,h10⟩:=h;unfold aU.next;split
 ·exact⟨h1,h2,h3,h4,h5,h6,h7,h8,h9,h10⟩
 ·have:=sZ (D.n+1);exact⟨h1,h2,h3,h4,h5,h6,h7,by simp only;split<;>omega,this,h10⟩
end Go.aW
namespace Go.Av
open Go.Proofs Go.aW
@[simp]theorem XP{P:Program}{md:Bool}{t:TypeId}{x:Operand}{e:Operand->AV}{tb:Tb}{kt:AV->Tb->Prop}:jx P md (.sliceToArrayPointer t x) e tb kt=gI P (.sliceToArrayPointer t x) e (qK kt tb):=(rfl)
@[simp]theorem ach:gL Tryz.prog 172=some (64,1,false):=by kernel_rfl
@[simp]theorem aci:bJ Tryz.prog 174=some (.sc (.int .i64 0)::List.replicate 64 (.sc (.int .u8 0))):=by kernel_rfl
def BH:List PC:=List.replicate 64 (.sc (.int .u8 0))
@[simp]theorem akN:BH.length=64:=by simp[BH]
@[simp]theorem ahz:List.drop 64 (List.map AV.p BH)=[]:=by simp
@[simp]theorem acj:bJ Tryz.prog 172=some BH:=by kernel_rfl
abbrev KZ(b:cU):PC:= .agg false (ah b)
abbrev HU(w:Nat×cU):PC:= .agg false (.int w.1::ah w.2)
def ax(L:List cU):Ob:=⟨172,64,(L.flatMap ah).map .p⟩
@[reducible]def AA(q:Nat)(D:aU):Ob:=⟨170,6,[.p (.int D.n),.p (.sl (D.bad.map PC.int)),.p (.int D.left),.view 1 0 D.kept.length 64 none,.view 2 0 D.now.length 64 none,.own q (D.q.map HU)]⟩
@[reducible]def cC(q:Nat)(D:aU):List (Nat×Ob):=[(0,AA q D),(1,ax D.kept),(2,ax D.now)]
@[reducible]def cp(q:Nat):List (Nat×TypeId×Nat):=[(q,174,65)]
theorem RH(l:List AV)(k:Nat)(h:AV.e_.eE k l=true):AV.cH.dA (sP []) l=l:=jN (nx:=k) (by simp) l h
theorem A6(el:TypeId)(sz:Nat)(D:aU)(b:Nat)(hD:eu b D)(rest:List AV)(hr:AV.e_.eE (4) rest=true):aI Tryz.prog 103 [.obj 0 0] ⟨[(0,⟨el,sz,.p (.int D.n):: .p (.sl (D.bad.map PC.int)):: .p (.int D.left)::rest⟩)],[],4⟩ (.p (.int D.next.2)) ⟨[(0,⟨el,sz,.p (.int D.next.1.n):: .p (.sl (D.bad.map PC.int)):: .p (.int D.next.1.left)::rest⟩)],[],4⟩:=by
 have hb:=hD.bad;have hl:=hD.left;have hc:=L4 D.n D.bad (by omega);have e:(D.bad.any fun x=>D.n==x)=D.bad.contains D.n:=by rw[<-List.any_beq]
 rw[e]at hc;have hri:=RH rest _ hr;refine QgQ (rs:=[_]) [] [] [] Tryz.func103 rfl (by simp[Tryz.ntmps103]) ?_;unfold aU.next;by_cases c:D.left=0
 ·simp[c,Tryz.results103];exact⟨[],by simp[hr,hri]⟩
 ·have w1:IntKind.i64.wrap (D.left-1)=D.left-1:=af (by omega) (by omega);have c':(D.left==0)=false:=by simpa using c
  have w2:(if D.left<0 then-1 else D.left-1)=if D.left-1< -1 then-1 else D.left-1:=by split<;>split<;>omega
  simp[c,c',w1,w2];refine ai hc (by simp) ?_;by_cases cb:D.n∈D.bad
  ·simp[cb,Tryz.results103];exact⟨[],by simp[hr,hri]⟩
  ·simp[cb,Tryz.results103];exact⟨[],by simp[hr,hri]⟩
theorem Cd(D:aU)(hl:D.kept.length<=65536)(a n:Int)(ha:-9223372036854775808<=a/\a<=9223372036854775807):aI Tryz.prog 102 [.obj 0 0,.p (.int a),.p (.int n)] ⟨[(0,AA 3 D)],[],4⟩ (.p (.bool (D.there a n))) ⟨[(0,AA 3 D)],[],4⟩:=by
 refine QgQ (rs:=[_]) [] [] [] Tryz.func102 rfl (by simp[Tryz.ntmps102]) ?_;unfold aU.there;by_cases c1:0<=a
 ·by_cases c2:a<=D.kept.length
  ·have w1:IntKind.i64.wrap ((D.kept.length:Int)-a)=D.kept.length-a:=af (by omega) (by omega);by_cases c3:0<=n
   ·simp[c1,c2,c3,w1,Tryz.results102];exact⟨[],by simp⟩
   ·simp[c1,c2,c3,Tryz.results102];exact⟨[],by simp⟩
  ·simp[c1,c2,Tryz.results102];exact⟨[],by simp⟩
 ·simp[c1,Tryz.results102];exact⟨[],by simp⟩
theorem Eb(D:aU):aI Tryz.prog 74 [.obj 0 0] ⟨[(0,AA 3 D)],[],4⟩ (.p (.int D.kept.length)) ⟨[(0,AA 3 D)],[],4⟩:=by
 refine QgQ (rs:=[_]) [] [] [] Tryz.func74 rfl (by simp[Tryz.ntmps74]) ?_;simp[Tryz.results74];exact⟨[],by simp⟩
theorem WY(b:List UInt8):aB Tryz.prog 106 [cy b] (.bool (!(b.length==64))):=by
 refine QpQ (ys:=[_]) [] [] [] Tryz.func106 rfl (by simp[Tryz.ntmps106]) ?_;have e:(!(b.length==64))=((b.length:Int) !=64):=by
  by_cases c:b.length=64
  ·simp[c]
  ·have c1:(b.length==64)=false:=by simpa using c
   have c2:((b.length:Int)==64)=false:=by simp;omega
   simp[c1,bne,c2]
 rw[e];simp[Tryz.results106]
theorem amU(D:aU)(a:Nat)(l:List cU)(s:cU):D.lay a (l++[s])={(D.lay a l)with q:=(D.lay a l).q++[(a+l.length,s)],now:=(D.lay a l).now.set (a+l.length) s}:=by
 induction l generalizing D a with
 |nil=>rfl
 |cons x l ih=>
  rw[List.cons_append];unfold aU.lay;rw[ih];simp only[List.length_cons];rw[show a+1+l.length=a+(l.length+1) by omega]
theorem Ce(D:aU)(a:Nat)(l:List cU):(D.lay a l).kept=D.kept/\(D.lay a l).n=D.n/\(D.lay a l).bad=D.bad/\(D.lay a l).left=D.left/\(D.lay a l).now.length=D.now.length/\(D.lay a l).q.length=D.q.length+l.length:=by
 induction l generalizing D a with
 |nil=>exact⟨rfl,rfl,rfl,rfl,rfl,rfl⟩
 |cons x l ih=>
  obtain⟨h1,h2,h3,h4,h5,h6⟩:=ih ({D with q:=D.q++[(a,x)],now:=D.now.set a x}:aU) (a+1);unfold aU.lay;refine⟨h1,h2,h3,h4,by rw[h5];simp,by rw[h6];simp;omega⟩
theorem _root_.Go.aW.eu.lay{b:Nat}{D:aU}(h:eu b D)(a:Nat)(l:List cU)(hl:∀s∈l,s.length=64)(ha:a+l.length<=D.kept.length):eu (b+l.length) (D.lay a l):=by
 induction l generalizing D a b with
 |nil=>exact h
 |cons x l ih=>
  have h':eu (b+1) ({D with q:=D.q++[(a,x)],now:=D.now.set a x}:aU):=by
   obtain⟨h1,h2,h3,h4,h5,h6,h7,h8,h9,h10⟩:=h;refine⟨by simpa using h1,h2,h3,h4,fun s hs=>?_,by simp;omega,fun w hw=>?_,h8,h9,h10⟩
   ·rcases List.mem_or_eq_of_mem_set hs with hs|rfl
    ·exact h5 s hs
    ·exact hl _ (by simp)
   ·simp only[List.mem_append,List.mem_singleton]at hw;rcases hw with hw|rfl
    ·exact h7 w hw
    ·exact⟨by simp at ha;simp only;omega,hl _ (by simp)⟩
  have:=ih h' (a+1) (fun s hs=>hl s (by simp[hs])) (by simp at ha⊢;omega);unfold aU.lay;rw[List.length_cons,show b+(l.length+1)=b+1+l.length by omega];exact this
theorem Cf(b:List UInt8):∀y∈ah b,y.plain=true:=fun y hy=>by
 obtain⟨x,_,rfl⟩:=List.mem_map.1 hy;rfl
theorem jC(L:List cU)(h:∀s∈L,s.length=64):(L.flatMap ah).length=L.length*64:=by
 induction L with
 |nil=>rfl
 |cons s L ih=>
  rw[List.flatMap_cons,List.length_append,ih (fun s hs=>h s (by simp[hs])),List.length_cons];simp[ah,h s (by simp)];omega
theorem Cg(L:List cU)(h:∀s∈L,s.length=64)(k:Nat):(L.flatMap ah).drop (k*64)=(L.drop k).flatMap ah:=by
 induction L generalizing k with
 |nil=>simp
 |cons s L ih=>
  cases k with
  |zero=>simp
  |succ k=>
   have hs:(ah s).length=64:=by simp[ah,h s (by simp)]
   rw[List.flatMap_cons,List.drop_append,List.drop_of_length_le (by omega),List.nil_append,hs,show(k+1)*64-64=k*64 by omega,ih (fun s hs=>h s (by simp[hs]))];rfl
theorem LQ(L:List cU)(h:∀s∈L,s.length=64)(k:Nat):(L.flatMap ah).take (k*64)=(L.take k).flatMap ah:=by
 induction L generalizing k with
 |nil=>simp
 |cons s L ih=>
  cases k with
  |zero=>simp
  |succ k=>
   have hs:(ah s).length=64:=by simp[ah,h s (by simp)]
   rw[List.flatMap_cons,List.take_append,List.take_of_length_le (by omega),hs,show(k+1)*64-64=k*64 by omega,ih (fun s hs=>h s (by simp[hs]))];rfl
theorem Em(L:List cU)(h:∀s∈L,s.length=64)(k:Nat)(hk:k<L.length):((L.flatMap ah).drop (k*64)).take 64=ah L[k]:=by
 have hs:(ah L[k]).length=64:=by simp[ah,h _ (List.getElem_mem hk)]
 rw[Cg L h,List.drop_eq_getElem_cons hk,List.flatMap_cons,List.take_append,hs,List.take_of_length_le (by omega)];simp
theorem AL(L:List cU)(h:∀s∈L,s.length=64)(k:Nat)(hk:k<L.length)(s:cU):(L.flatMap ah).take (k*64)++(ah s++(L.flatMap ah).drop (k*64+64))=(L.set k s).flatMap ah:=by
 rw[show k*64+64=(k+1)*64 by omega,LQ L h,Cg L h,List.set_eq_take_append_cons_drop,if_pos hk];simp
theorem uf(D:aU):D.next.1.kept=D.kept/\D.next.1.now=D.now/\D.next.1.q=D.q/\D.next.1.bad=D.bad:=by
 unfold aU.next;split<;>exact⟨rfl,rfl,rfl,rfl⟩
theorem pe(D:aU)(b:Nat)(hD:eu b D)(a:Int)(ha:-9223372036854775808<=a/\a<=9223372036854775807)(l:List cU)(hl:l.length<=1000000000)(hb:b+l.length<=1000000000000):aI Tryz.prog 33 [.obj 0 0,.p (.int a),.p (.sl (l.map cy))] ⟨cC 3 D,cp 3,4⟩ (.p (.int (D.write a l).2)) ⟨cC 4 (D.write a l).1,cp 4,5⟩:=by
 have hT:=Cd D hD.top a l.length ha;have hA:=Xe 106 [] (fun b=>!(b.length==64)) l (by omega) (fun x _=>WY x);have hN:=A6 170 6 D b hD [.view 1 0 D.kept.length 64 none,.view 2 0 D.now.length 64 none,.own 3 (D.q.map HU)] (by simp);have hall:(l.any fun b=>!(b.length==64))=!(l.all fun b=>b.length==64):=by rw[List.not_all_eq_any_not]
 rw[hall]at hA;have xy:=hD.next;obtain⟨n1,n2,n3,n4⟩:=uf D;refine QgQ (rs:=[_]) [] [(10,[(4,.r 1),(5,.r 2),(7,.f [1,2]),(10,.s 1 [2])]),(11,[(3,.r 1),(5,.r 2),(7,.r 2),(9,.s 3 [])])] [(1,0),(2,5),(3,2)] Tryz.func33 rfl (by simp[Tryz.ntmps33]) ?_;by_cases c1:D.there a l.length=true
 ·by_cases c2:(l.all fun b=>b.length==64)=true
  ·have hs:∀s∈l,s.length=64:=by simpa using c2
   by_cases c3:D.next.2=0
   ·have ht:=c1;unfold aU.there at ht;simp only[Bool.and_eq_true,decide_eq_true_eq]at ht;obtain⟨⟨⟨t1,t2⟩,t3⟩,t4⟩:=ht;obtain⟨A,rfl⟩:∃A:Nat,a=A:=⟨a.toNat,by omega⟩;have hw:D.write A l=(D.next.1.lay A l,0):=by unfold aU.write;rw[if_pos ⟨c1,c2⟩,if_pos c3];rfl
    rw[hw];generalize D.next=N at*;obtain⟨E,e⟩:=N;simp only at*;subst c3;have DD:=xy.top;rw[<-n1]at t4;have hA2:A+l.length<=E.kept.length:=by omega
    simp;refine az hT (by simp) (by simp[ay]) trivial rfl ?_;simp[c1];refine ai hA (by simp) ?_;simp[c2];refine az hN (by simp) (by simp[ay]) trivial rfl ?_;simp;refine aN (fun k:Nat=>k<=l.length) (fun k=>[(0,.obj 0 0),(1,.p (.int A)),(28,.p (.sl (l.map cy))),(29,.p (.int l.length)),(30,.p (.int k))]) (fun k=>⟨cC 4 (E.lay A (l.take k)),cp 4,5⟩) (fun k=>l.length-k) 0 (by simp) _ (AS.le_refl _ _) ?_ ?_
    ·refine aE [(4,3)] ?_;simp[aU.lay,n1,n2,n3,n4,ax]
    ·intro k hk;obtain⟨k1,k2,k3,k4,k5,k6⟩:=Ce E A (l.take k);have Xl:=xy.lay A (l.take k) (fun s h=>hs s (List.mem_of_mem_take h)) (by simp;omega);by_cases ck:k<l.length
     ·have vt:l[k].length=64:=hs _ (List.getElem_mem ck);have w1:IntKind.i64.wrap ((A:Int)+k)=((A+k:Nat):Int):=by rw[af (by omega) (by omega)];rfl
      have w2:IntKind.i64.wrap ((k:Int)+1)=((k+1:Nat):Int):=by rw[af (by omega) (by omega)];rfl
      have bl:(ah l[k]).length=64:=by rw[<-vt];simp[ah]
      have tk:List.take 64 (ah l[k])=ah l[k]:=List.take_of_length_le (by omega);have pl:=Cf l[k];have tk2:List.take 64 (List.map AV.p (ah l[k]))=List.map AV.p (ah l[k]):=List.take_of_length_le (by simp;omega);simp[ck,w1,w2,bl,tk,tk2];have hq:=Xl.q;have hnl:(E.lay A (l.take k)).now.length=E.now.length:=k5;have hlen:=xy.len;have e1:((A:Int)+k).toNat=A+k:=by omega
      have sl:=jC _ Xl.now;have vb:E.lay A (l.take (k+1))={(E.lay A (l.take k))with q:=(E.lay A (l.take k)).q++[(A+k,l[k])],now:=(E.lay A (l.take k)).now.set (A+k) l[k]}:=by
       rw[List.take_succ_eq_append_getElem ck,amU,List.length_take,Nat.min_eq_left (by omega)]
      have gy:=AL _ Xl.now (A+k) (by omega) l[k];have hqs:=Xl.qs;refine⟨pl,?_,by simp at hq;omega,by simp at hq;omega,by omega,by omega,by simp[ax,sl];omega,k+1,by omega,by omega,aE [(4,6)] ?_⟩
      ·rintro x a b hm rfl;have:=(hqs _ hm).2;simp[PC.width,ah,this]
      ·rw[vb];generalize E.lay A (l.take k)=G at*;have CF:List.take ((A+k)*64) ((G.now.flatMap ah).map AV.p)++((ah l[k]).map AV.p++List.drop ((A+k)*64+64) ((G.now.flatMap ah).map AV.p))=(((G.now.set (A+k) l[k]).flatMap ah).map AV.p):=by
        rw[<-gy];simp
       simp[ax,e1,CF]
     ·obtain rfl:k=l.length:=by omega
      have aiI:l.take l.length=l:=List.take_length;simp[Tryz.results33,aiI];exact⟨[],by simp[ax]⟩
   ·have hw:D.write a l=D.next:=by unfold aU.write;rw[if_pos ⟨c1,c2⟩,if_neg c3]
    rw[hw];generalize D.next=N at*;obtain⟨E,e⟩:=N;simp only at*;have lq:(e !=0)=true:=by simpa using c3
    simp;refine az hT (by simp) (by simp[ay]) trivial rfl ?_;simp[c1];refine ai hA (by simp) ?_;simp[c2];refine az hN (by simp) (by simp[ay]) trivial rfl ?_;simp[lq,Tryz.results33];exact⟨[(4,3)],by simp[ax,n1,n2,n3,n4]⟩
  ·have dX:(l.all fun b=>b.length==64)=false:=by simpa using c2
   have hw:D.write a l=(D,2):=by unfold aU.write;rw[if_neg (fun h=>c2 h.2)]
   rw[hw];simp;refine az hT (by simp) (by simp[ay]) trivial rfl ?_;simp[c1];refine ai hA (by simp) ?_;simp[dX,Tryz.results33];exact⟨[(4,3)],by simp[ax]⟩
 ·have jH:D.there a l.length=false:=by simpa using c1
  have hw:D.write a l=(D,2):=by unfold aU.write;rw[if_neg (fun h=>c1 h.1)]
  rw[hw];simp;refine az hT (by simp) (by simp[ay]) trivial rfl ?_;simp[jH,Tryz.results33];exact⟨[(4,3)],by simp[ax]⟩
end Go.Av
namespace Go.Av
open Go.RowKit
section
variable{P:Program}{f:FuncId}{xs:List AV}{tb aO pO:Tb}{r:AV}
theorem My{id j:Nat}(el sz:Nat){ob:Ob}(ys:List PC)(hl:lk id tb.bx=some ob)(h:ob.xs[j]?=some (.full ys)\/ys=[]/\ob.xs[j]?=some (.p .nil)):RLe r tb r ((tb.bX el sz).aQ id {ob with xs:=ob.xs.set j (.own tb.nx ys)}):=by
 intro w0 M0 F g w v h1 hv;obtain⟨b,c,f1,fr,f0⟩:=h1.boxes id ob hl;have xA:ob.xs≠[]:=fun hz=>by rw[hz]at h;rcases h with h|⟨_,h⟩<;>simp at h
 have gH:0<c:=Nat.pos_of_ne_zero fun hz=>xA (f0 hz);obtain⟨cur,f2,f3,⟨tt,fz,f4,fo⟩,f5,f6,f7,f8,f9⟩:=fr gH;have ht:∃u ad n,(cur.toList.take ob.xs.length)[j]?=some u/\u= .slice ad n n/\gB g.M (.slice ad n n) (.sl ys):=by
  rcases h with h|⟨rfl,h⟩
  ·obtain⟨u,hu,hr⟩:=f8.get h;cases hr with|full hr=>exact⟨_,_,_,hu,rfl,hr⟩
  ·obtain⟨u,hu,hr⟩:=f8.get h;have:=bf hr;cases this;exact⟨_,none,0,hu,rfl,.dg⟩
 obtain⟨u,ad,n,hu,rfl,hr⟩:=ht;have hle:=h1.vP (.slice ad n n);have gD:=h1.qb el sz ad n;have hl':lk id (tb.bX el sz).bx=some ob:=hl;have sw:∀{vs:List Value} {zs:List AV} (j:Nat) (v:Value),vs[j]?=some v->aL (g.cX tb.nx (.slice ad n n)) vs zs->aZ (g.cX tb.nx (.slice ad n n)) v (.own tb.nx ys)->aL (g.cX tb.nx (.slice ad n n)) vs (zs.set j (.own tb.nx ys)):=by
  intro vs zs
  induction zs generalizing vs with
  |nil=>intro j v _ hs _;simpa using hs
  |cons y zs ih=>
   intro j v hv hs hn;cases hs with
   |cons h hs=>
    cases j with
    |zero=>simp at hv;subst hv;exact .cons hn hs
    |succ j=>simp at hv;exact .cons h (ih j v hv hs hn)
 have key:=gD.aQ (o':={ob with xs:=ob.xs.set j (.own tb.nx ys)}) (cur':=cur) hl' (show(g.cX tb.nx (.slice ad n n)).ob id=some (b,c)from f1) gH f4 rfl rfl rfl (by simpa using f7) (by
  simp only[List.length_set];exact sw j _ hu (f8.mono hle) (.own (by simp[G.cX]) (hr.mono hle.M))) (by simpa using f9)
 have hw:w.setRow b cur=w:=setRow_self f4;rw[hw]at key;exact⟨_,hle,key,hv.mono hle⟩
theorem qY{id j:Nat}(el sz:Nat){ob:Ob}(ys:List PC)(h:aI P f xs tb r aO)(hl:lk id aO.bx=some ob)(hj:ob.xs[j]?=some (.full ys)\/ys=[]/\ob.xs[j]?=some (.p .nil)):aI P f xs tb r ((aO.bX el sz).aQ id {ob with xs:=ob.xs.set j (.own aO.nx ys)}):=oo h (My el sz ys hl hj)
theorem v7{P:Program}{f:FuncId}{xs:List AV}{tb aO:Tb}{r:AV}(h:aI P f xs tb r aO)(pO:Tb)(hb:ay aO.bx pO.bx)(hr:ay aO.rw pO.rw)(hd:(pO.bx.map Prod.fst).Nodup/\(pO.rw.map Prod.fst).Nodup)(hn:aO.nx<=pO.nx):aI P f xs tb r pO:=by
 have key:∀{α:Type} (l m:List (Nat×α)),ay m l->(l.map Prod.fst).Nodup->∀i o,lk i l=some o->lk i m=some o:=by
  intro α l m
  induction l with
  |nil=>intro _ _ i o h;simp[lk]at h
  |cons p l ih=>
   obtain⟨k,v⟩:=p;intro hs hd i o h;simp only[ay]at hs;simp only[lk]at h;split at h
   ·rename_i e;subst e;injection h with h;subst h;exact hs.1
   ·exact ih hs.2 (List.nodup_cons.1 hd).2 i o h
 exact oo h fun w0 M0 F g w v hw hv=>⟨g,G.le_refl g,hw.sub (key _ _ hb hd.1) (key _ _ hr hd.2) hn,hv⟩
end
end Go.Av
namespace Go.Av
open Go.Proofs Go.aW
theorem Td:dV Tryz.prog 104:=⟨Tryz.f104,Tryz.func104,by kernel_rfl,by kernel_rfl⟩
theorem za(nx:Nat)(xs:List PC)(hw:∀x∈xs,x.width=1)(ht:∀x∈xs,cF x=true)(hb:xs.length<=1000000000000):aI Tryz.prog 104 [.p (.sl xs)] ⟨[],[],nx⟩ (.view nx 0 xs.length 1 none) ⟨[(nx,⟨5,1,(xs.flatMap gu).map .p⟩)],[],nx+1⟩:=by
 refine qZ (pre:=[]) (post:=[]) Td ?_ ?_
 ·rintro rfl;refine fU (r:= .p .nil) (aO:=⟨[],[],nx⟩) (el:=5) (s:=1) ?_ trivial;refine QgQ (rs:=[.p .nil]) [7] [] [] Tryz.func104 rfl (by simp[Tryz.ntmps104]) ?_;simp[Tryz.results104];exact⟨[],by simp⟩
 ·refine QgQ (rs:=[_]) [7] [] [] Tryz.func104 rfl (by simp[Tryz.ntmps104]) ?_;simp[Tryz.results104];refine⟨hw,ht,by omega,by omega,[],?_⟩;simp
theorem cg(l:List UInt8):∀x∈ah l,x.width=1:=fun x h=>by obtain⟨c,_,rfl⟩:=List.mem_map.1 h;rfl
theorem fR(l:List UInt8):∀x∈ah l,cF x=true:=fun x h=>by obtain⟨c,_,rfl⟩:=List.mem_map.1 h;rfl
theorem mU(l:List UInt8):(ah l).flatMap aV=((ah l).flatMap gu).map AV.p:=by
 induction l with
 |nil=>rfl
 |cons c l ih=>
  have e:ah (c::l)=oc c::ah l:=rfl;rw[e,List.flatMap_cons,List.flatMap_cons,ih,List.map_append];rfl
theorem fQ(l:List UInt8):(ah l).flatMap gu=ah l:=by
 induction l with
 |nil=>rfl
 |cons c l ih=>
  have e:ah (c::l)=oc c::ah l:=rfl;rw[e,List.flatMap_cons,ih];rfl
theorem jb(l:List UInt8)(hl:l.length<=1000000000000):aB Tryz.prog 104 [.sl (ah l)] (.sl (ah l)):=by
 have hb:(ah l).length=l.length:=by simp[ah]
 have h:=za 0 (ah l) (cg l) (fR l) (by omega);have hp:=qQ h (ob:=⟨5,1,((ah l).flatMap gu).map .p⟩) (ys:=ah l) (by simp) rfl (by omega) (by simp[fQ]) (by rw[mU];exact List.take_of_length_le (by simp[fQ])) rfl (cg l) (fR l);exact bN (xs:=[.sl (ah l)]) hp ⟨_,rfl,.inl rfl⟩
theorem _root_.Go.aW.eu.up{b c:Nat}{D:aU}(h:eu b D)(hb:b<=c):eu c D:=⟨h.len,h.pos,h.top,h.kept,h.now,Nat.le_trans h.q hb,h.qs,h.left,h.n,h.bad⟩
theorem xL(D:aU)(b:Nat)(hD:eu b D)(a n:Int)(ha:-9223372036854775808<=a/\a<=9223372036854775807):aI Tryz.prog 32 [.obj 0 0,.p (.int a),.p (.int n)] ⟨cC 3 D,cp 3,4⟩ (.agg true [.p (.sl ((D.read a n).2.1.map cy)),.p (.int (D.read a n).2.2)]) ⟨cC 4 (D.read a n).1,cp 4,5⟩:=by
 have hT:=Cd D hD.top a n ha;have hN:=A6 170 6 D b hD [.view 1 0 D.kept.length 64 none,.view 2 0 D.now.length 64 none,.own 3 (D.q.map HU)] (by simp);have xy:=hD.next;obtain⟨n1,n2,n3,n4⟩:=uf D;refine QgQ (rs:=[_,_]) [] [] [] Tryz.func32 rfl (by simp[Tryz.ntmps32]) ?_;by_cases c1:D.there a n=true
 ·have ht:=c1;unfold aU.there at ht;simp only[Bool.and_eq_true,decide_eq_true_eq]at ht;obtain⟨⟨⟨t1,t2⟩,t3⟩,t4⟩:=ht;obtain⟨A,rfl⟩:∃A:Nat,a=A:=⟨a.toNat,by omega⟩;obtain⟨K,rfl⟩:∃K:Nat,n=K:=⟨n.toNat,by omega⟩;by_cases c3:D.next.2=0
  ·have hw:D.read A K=(D.next.1,(D.now.drop A).take K,0):=by unfold aU.read;rw[if_pos c1,if_pos c3];rfl
   rw[hw];generalize D.next=N at*;obtain⟨E,e⟩:=N;simp only at*;subst c3;have DD:=xy.top;have hlen:=hD.len;rw[n1]at DD;have w1:IntKind.i64.wrap ((A:Int)+K)=((A+K:Nat):Int):=by rw[af (by omega) (by omega)];rfl
   simp;refine az hT (by simp) (by simp[ay]) trivial rfl ?_;simp[c1];refine az hN (by simp) (by simp[ay]) trivial rfl ?_;have e1:((A:Int)+K).toNat-A=K:=by omega
   simp[w1,e1];refine⟨by omega,by omega,by omega,?_⟩;have jJ:=jC _ hD.now;refine aN (fun k:Nat=>k<=K) (fun k=>[(0,.obj 0 0),(9,.own 4 (((D.now.drop A).take k).map cy)),(32,.view 2 A K 64 none),(33,.p (.int K)),(34,.p (.int k))]) (fun _=>⟨cC 3 E,[(4,22,1),(3,174,65)],5⟩) (fun k=>K-k) 0 (by simp) _ (wY 9 22 1 [] (.inr ⟨rfl,by simp⟩)) (aA (by simp[ax,n1,n2,n3,n4])) ?_;intro k hk;by_cases ck:k<K
   ·have hAk:A+k<D.now.length:=by omega
    have vt:D.now[A+k].length=64:=hD.now _ (List.getElem_mem hAk);have w2:IntKind.i64.wrap ((k:Int)+1)=((k+1:Nat):Int):=by rw[af (by omega) (by omega)];rfl
    have Uh:=Em _ hD.now (A+k) hAk;have bl:(ah D.now[A+k]).length=64:=by simp[ah,vt]
    have Mv:List.take 64 (List.drop ((A+k)*64) (List.map AV.p (D.now.flatMap ah)))=(ah D.now[A+k]).map AV.p:=by
     rw[<-Uh];simp
    have gR:=jb D.now[A+k] (by omega);have uy:(A+k)*64+64<=D.now.length*64:=by omega
    have hts:(D.now.drop A).take (k+1)=(D.now.drop A).take k++[D.now[A+k]]:=by
     rw[List.take_succ_eq_append_getElem (by simp;omega)];simp
    simp[ck,ax,n2,jJ,uy,Mv,bl];refine⟨by unfold maxLen;omega,ai gR (by simp) ?_⟩;have aod:List.take (k+1) (List.drop A (List.map cy D.now))=List.take k (List.drop A (List.map cy D.now))++[cy D.now[A+k]]:=by
     have:=congrArg (List.map cy) hts;simpa using this
    simp[w2];refine⟨fun x hx=>?_,by omega,by omega,k+1,by omega,by omega,aE [(4,7)] (by simp[aod,n2,ax])⟩;obtain⟨y,_,rfl⟩:=List.mem_map.1 (List.mem_of_mem_drop (List.mem_of_mem_take hx));rfl
   ·obtain rfl:k=K:=by omega
    simp[Tryz.results32];exact⟨[(4,3)],by simp[ax,n1,n2,n3,n4]⟩
  ·have hw:D.read A K=(D.next.1,[],D.next.2):=by unfold aU.read;rw[if_pos c1,if_neg c3]
   rw[hw];generalize D.next=N at*;obtain⟨E,e⟩:=N;simp only at*;have lq:(e !=0)=true:=by simpa using c3
   simp;refine az hT (by simp) (by simp[ay]) trivial rfl ?_;simp[c1];refine az hN (by simp) (by simp[ay]) trivial rfl ?_;simp[lq,Tryz.results32];exact⟨[(4,3)],by simp[ax,n1,n2,n3,n4]⟩
 ·have jH:D.there a n=false:=by simpa using c1
  have hw:D.read a n=(D,[],2):=by unfold aU.read;rw[if_neg c1]
  rw[hw];simp;refine az hT (by simp) (by simp[ay]) trivial rfl ?_;simp[jH,Tryz.results32];exact⟨[(4,3)],by simp[ax]⟩
theorem oL(now:List cU)(q:List (Nat×cU))(k:List cU):(dw now q k).length=k.length:=by
 induction q generalizing k with
 |nil=>rfl
 |cons w q ih=>unfold dw;rw[ih];simp
theorem su(now:List cU)(q:List (Nat×cU))(w:Nat×cU)(k:List cU):dw now (q++[w]) k=(dw now q k).set w.1 (now.getD w.1 []):=by
 induction q generalizing k with
 |nil=>rfl
 |cons v q ih=>rw[List.cons_append];unfold dw;exact ih _
theorem xJ(now:List cU)(q:List (Nat×cU))(k:List cU)(hn:∀s∈now,s.length=64)(hk:∀s∈k,s.length=64)(hq:∀w∈q,w.1<now.length):∀s∈dw now q k,s.length=64:=by
 induction q generalizing k with
 |nil=>exact hk
 |cons w q ih=>
  unfold dw;refine ih _ (fun s hs=>?_) (fun v hv=>hq v (by simp[hv]));rcases List.mem_or_eq_of_mem_set hs with h|rfl
  ·exact hk s h
  ·have:=hq w (by simp);rw[List.getD_eq_getElem?_getD,List.getElem?_eq_getElem this];exact hn _ (List.getElem_mem this)
theorem _root_.Go.aW.eu.settle{b:Nat}{D:aU}(h:eu b D):eu 0 D.settle:=⟨by unfold aU.settle;simp only;rw[oL];exact h.len,by unfold aU.settle;simp only;rw[oL];exact h.pos,by unfold aU.settle;simp only;rw[oL];exact h.top,xJ _ _ _ h.now h.kept (fun w hw=>by rw[h.len];exact(h.qs w hw).1),h.now,Nat.le_refl _,by unfold aU.settle;simp,h.left,h.n,h.bad⟩
theorem I4(D:aU)(b:Nat)(hD:eu b D)(hb:b<=1000000000000):aI Tryz.prog 260 [.obj 0 0] ⟨cC 3 D,cp 3,4⟩ (.agg true []) ⟨cC 4 D.settle,cp 4,5⟩:=by
 have key:aI Tryz.prog 260 [.obj 0 0] ⟨cC 3 D,cp 3,4⟩ (.agg true []) ⟨[(0,⟨170,6,[.p (.int D.n),.p (.sl (D.bad.map PC.int)),.p (.int D.left),.view 1 0 D.settle.kept.length 64 none,.view 2 0 D.now.length 64 none,.p .nil]⟩),(1,ax D.settle.kept),(2,ax D.now)],[],4⟩:=by
  have hq:=hD.q;have hlen:=hD.len;refine QgQ (rs:=[]) [] [(3,[(3,.r 1),(5,.r 2),(9,.r 1),(11,.r 2),(13,.r 3),(15,.s 4 [])])] [(1,0),(2,4),(3,2),(4,1)] Tryz.func260 rfl (by simp[Tryz.ntmps260]) ?_;simp;refine aN (fun k:Nat=>k<=D.q.length) (fun k=>[(0,.obj 0 0),(7,.p (.sl (D.q.map HU))),(8,.p (.int D.q.length)),(9,.p (.int k))]) (fun k=>⟨cC 3 {D with kept:=dw D.now (D.q.take k) D.kept},cp 3,4⟩) (fun k=>D.q.length-k) 0 (by simp) _ (AS.le_refl _ _) (aA (by simp[ax,dw])) ?_;intro k hk;by_cases ck:k<D.q.length
  ·obtain⟨q1,q2⟩:=hD.qs _ (List.getElem_mem ck);have w2:IntKind.i64.wrap ((k:Int)+1)=((k+1:Nat):Int):=by rw[af (by omega) (by omega)];rfl
   have Du:(HU D.q[k]).width=65:=by simp[PC.width,ah,q2]
   have hgk:(HU D.q[k])= .agg false (.int D.q[k].1::ah D.q[k].2):=rfl;have bl2:(ah D.q[k].2).length=64:=by simp[ah,q2]
   have sQ:=oL D.now (D.q.take k) D.kept;have vt:=xJ D.now (D.q.take k) D.kept hD.now hD.kept (fun w hw=>by rw[hlen];exact(hD.qs w (List.mem_of_mem_take hw)).1);have jJ:=jC _ hD.now;have V':=jC _ vt;have Ur:D.q[k].1<D.now.length:=by omega
   have Uh:=Em _ hD.now D.q[k].1 Ur;have bl:(ah D.now[D.q[k].1]).length=64:=by simp[ah,hD.now _ (List.getElem_mem Ur)]
   have Mv:List.take 64 (List.drop (D.q[k].1*64) (List.map AV.p (D.now.flatMap ah)))=(ah D.now[D.q[k].1]).map AV.p:=by
    rw[<-Uh];simp
   have gy:=AL _ vt D.q[k].1 (by omega) D.now[D.q[k].1];have hts:dw D.now (D.q.take (k+1)) D.kept=(dw D.now (D.q.take k) D.kept).set D.q[k].1 D.now[D.q[k].1]:=by
    rw[List.take_succ_eq_append_getElem ck,su,List.getD_eq_getElem?_getD,List.getElem?_eq_getElem Ur];rfl
   generalize dw D.now (D.q.take k) D.kept=K at*;have CF:List.take (D.q[k].1*64) ((K.flatMap ah).map AV.p)++((ah D.now[D.q[k].1]).map AV.p++List.drop (D.q[k].1*64+64) ((K.flatMap ah).map AV.p))=(((K.set D.q[k].1 D.now[D.q[k].1]).flatMap ah).map AV.p):=by
    rw[<-gy];simp
   have b1:D.q[k].1*64+64<=D.now.length*64:=by omega
   have b2:D.q[k].1*64+64<=K.length*64:=by omega
   simp[ck,w2,ax,Du,bl2,q1,Ur,jJ,V',Mv,CF,bl,b1,sQ];refine⟨by omega,k+1,by omega,by omega,aA (by simp[hts,ax])⟩
  ·obtain rfl:k=D.q.length:=by omega
   simp[Tryz.results260];exact⟨[],by simp[ax,aU.settle]⟩
 have h2:=qY (id:=0) (j:=5) 174 65 [] key rfl (.inr ⟨rfl,rfl⟩);exact v7 h2 _ (by simp[ay,Tb.aQ,Tb.bX,del,lk,aU.settle]) (by simp[ay,Tb.aQ,Tb.bX]) (by simp) (by simp[Tb.aQ,Tb.bX])
theorem eL(D:aU)(b:Nat)(hD:eu b D)(hb:b<=1000000000000):aI Tryz.prog 166 [.obj 0 0] ⟨cC 3 D,cp 3,4⟩ (.p (.int D.flush.2)) ⟨cC 4 D.flush.1,cp 4,5⟩:=by
 have hN:=A6 170 6 D b hD [.view 1 0 D.kept.length 64 none,.view 2 0 D.now.length 64 none,.own 3 (D.q.map HU)] (by simp);have xy:=hD.next;obtain⟨n1,n2,n3,n4⟩:=uf D;have hS:=I4 D.next.1 b xy hb;refine QgQ (rs:=[_]) [] [] [] Tryz.func166 rfl (by simp[Tryz.ntmps166]) ?_;by_cases c3:D.next.2=0
 ·have hw:D.flush=(D.next.1.settle,0):=by unfold aU.flush;rw[if_pos c3]
  rw[hw];generalize D.next=N at*;obtain⟨E,e⟩:=N;simp only at*;subst c3;simp;refine az hN (by simp) (by simp[ay]) trivial rfl ?_;simp;refine az hS (by simp) (by simp[ay,n1,n2,n3,n4]) (by simp[ay]) rfl ?_;simp[Tryz.results166];exact⟨[],by simp[ax]⟩
 ·have hw:D.flush=D.next:=by unfold aU.flush;rw[if_neg c3]
  rw[hw];generalize D.next=N at*;obtain⟨E,e⟩:=N;simp only at*;have lq:(e !=0)=true:=by simpa using c3
  simp;refine az hN (by simp) (by simp[ay]) trivial rfl ?_;simp[lq,Tryz.results166];exact⟨[(4,3)],by simp[ax,n1,n2,n3,n4]⟩
def qg:cU:=List.replicate 64 0
def _root_.Go.aW.aU.made(n:Nat):aU:=⟨0,[],-1,List.replicate n qg,List.replicate n qg,[]⟩
theorem J9(n:Nat)(h1:1<=n)(h2:n<=65536):eu 0 (aU.made n):=⟨rfl,by simpa[aU.made]using h1,by simpa[aU.made]using h2,fun s hs=>by rw[(List.mem_replicate.1 hs).2];rfl,fun s hs=>by rw[(List.mem_replicate.1 hs).2];rfl,Nat.le_refl _,by simp[aU.made],by simp[aU.made],by simp[aU.made],by simp[aU.made]⟩
theorem BG(n:Nat):fC n BH=(List.replicate n qg).flatMap ah:=by
 have e:ah qg=BH:=rfl
 induction n with
 |zero=>rfl
 |succ n ih=>
  show List.flatten (List.replicate (n+1) BH)=_;have ih':List.flatten (List.replicate n BH)=(List.replicate n qg).flatMap ah:=ih;rw[List.replicate_succ,List.flatten_cons,ih',List.replicate_succ,List.flatMap_cons,e]
theorem afm(n:Nat)(h1:1<=n)(h2:n<=65536):aI Tryz.prog 20 [.p (.int n)] ⟨[],[],0⟩ (.agg true [.obj 0 0,.p (.int 0)]) ⟨cC 3 (aU.made n),cp 3,4⟩:=by
 have key:aI Tryz.prog 20 [.p (.int n)] ⟨[],[],0⟩ (.agg true [.obj 0 0,.p (.int 0)]) ⟨[(0,⟨170,6,[.p (.int 0),.p .nil,.p (.int (-1)),.view 1 0 n 64 (some n),.view 2 0 n 64 (some n),.p .nil]⟩),(1,ax (List.replicate n qg)),(2,ax (List.replicate n qg))],[],3⟩:=by
  refine DP (rs:=[_,_]) [16] [] [] [(3,(.one 0 (.one 1 (.one 3 (.br 2 (.br 4 (.one 5 (.br 6 (.one 7 (.one 8 .lf)) .lf)) .lf) (.br 4 (.br 2 (.one 5 (.br 6 (.one 7 (.one 8 .lf)) .lf)) .lf) .lf))))))] mixed Tryz.func20 rfl (by kernel_rfl) (by kernel_rfl) (by simp[Tryz.ntmps20]) rfl ?_;have c1:¬(n:Int)<1:=by omega
  have c2:¬(65536:Int)<n:=by omega
  have c3:n≠0:=by omega
  have b1:64*n<=281474976710656:=by omega
  have b2:n<=maxLen:=by unfold maxLen;omega
  simp[c1,c2,Tryz.results20,b1,b2]
  repeat' apply And.intro
  all_goals first
   |(refine⟨[(0,2),(1,0),(2,1)],?_⟩;simp[ax,BG];done)
   |(refine⟨[(0,2),(1,1),(2,0)],?_⟩;simp[ax,BG];done)
 have k1:=kI (id:=0) (j:=3) (.view 1 0 n 64 none) key rfl rfl (by simp);have k2:=kI (id:=0) (j:=4) (.view 2 0 n 64 none) k1 rfl rfl (by simp);have k3:=kI (id:=0) (j:=1) (.p (.sl [])) k2 rfl rfl (by simp);have k4:=qY (id:=0) (j:=5) 174 65 [] k3 rfl (.inr ⟨rfl,rfl⟩);exact v7 k4 _ (by simp[ay,Tb.aQ,Tb.bX,del,lk,aU.made]) (by simp[ay,Tb.aQ,Tb.bX]) (by simp) (by simp[Tb.aQ,Tb.bX])
def _root_.Go.aW.aU.iH(D:aU):aU:=⟨0,[],-1,D.kept,dw D.kept D.q D.now,[]⟩
theorem _root_.Go.aW.eu.iH{b:Nat}{D:aU}(h:eu b D):eu 0 D.iH:=⟨by unfold aU.iH;simp only;rw[oL];exact h.len,h.pos,h.top,h.kept,xJ _ _ _ h.kept h.now (fun w hw=>(h.qs w hw).1),Nat.le_refl _,by simp[aU.iH],by simp[aU.iH],by simp[aU.iH],by simp[aU.iH]⟩
theorem FF(D:aU)(b:Nat)(hD:eu b D)(hb:b<=1000000000000):aI Tryz.prog 18 [.obj 0 0,.p (.agg false [.nil,.int (-1),.int 0])] ⟨cC 3 D,cp 3,4⟩ (.agg true []) ⟨cC 4 D.iH,cp 4,5⟩:=by
 have hq:=hD.q;have hlen:=hD.len;have key:aI Tryz.prog 18 [.obj 0 0,.p (.agg false [.nil,.int (-1),.int 0])] ⟨cC 3 D,cp 3,4⟩ (.agg true []) ⟨[(0,⟨170,6,[.p (.int 0),.p .nil,.p (.int (-1)),.view 1 0 D.kept.length 64 none,.view 2 0 D.iH.now.length 64 none,.p .nil]⟩),(1,ax D.kept),(2,ax D.iH.now)],[],4⟩:=by
  refine QgQ (rs:=[]) [] [(13,[(3,.r 1),(5,.r 2),(9,.r 1),(11,.r 2),(13,.r 3),(15,.s 4 [])]),(15,[(4,.s 1 []),(7,.w [])])] [(1,0),(2,4),(3,1),(4,2)] Tryz.func18 rfl (by simp[Tryz.ntmps18]) ?_;simp;refine aN (fun k:Nat=>k<=D.q.length) (fun k=>[(0,.obj 0 0),(3,.p (.ref (.agg false [.nil,.int (-1),.int 0]))),(16,.p (.sl (D.q.map HU))),(17,.p (.int D.q.length)),(18,.p (.int k))]) (fun k=>⟨cC 3 D,cp 3,4⟩) (fun k=>D.q.length-k) 0 (by simp) _ (AS.le_refl _ _) (aA (by simp[ax])) ?_;intro k hk;by_cases ck:k<D.q.length
  ·obtain⟨q1,q2⟩:=hD.qs _ (List.getElem_mem ck);have w2:IntKind.i64.wrap ((k:Int)+1)=((k+1:Nat):Int):=by rw[af (by omega) (by omega)];rfl
   have Du:(HU D.q[k]).width=65:=by simp[PC.width,ah,q2]
   have c2:((k:Int)==-1)=false:=by simp
   have bl2:(ah D.q[k].2).length=64:=by simp[ah,q2]
   have c3:¬(k:Int)<0:=by omega
   simp[ck,w2,Du,c2,c3,bl2];exact⟨k+1,by omega,by omega,aA (by simp[ax])⟩
  ·obtain rfl:k=D.q.length:=by omega
   simp;refine aN (fun k:Nat=>k<=D.q.length) (fun k=>[(0,.obj 0 0),(67,.p (.sl (D.q.map HU))),(68,.p (.int D.q.length)),(69,.p (.int k))]) (fun k=>⟨cC 3 {D with now:=dw D.kept (D.q.take k) D.now},cp 3,4⟩) (fun k=>D.q.length-k) 0 (by simp) _ (AS.le_refl _ _) (aA (by simp[ax,dw])) ?_;intro k hk;by_cases ck:k<D.q.length
   ·obtain⟨q1,q2⟩:=hD.qs _ (List.getElem_mem ck);have w2:IntKind.i64.wrap ((k:Int)+1)=((k+1:Nat):Int):=by rw[af (by omega) (by omega)];rfl
    have Du:(HU D.q[k]).width=65:=by simp[PC.width,ah,q2]
    have bl2:(ah D.q[k].2).length=64:=by simp[ah,q2]
    have sQ:=oL D.kept (D.q.take k) D.now;have vt:=xJ D.kept (D.q.take k) D.now hD.kept hD.now (fun w hw=>(hD.qs w (List.mem_of_mem_take hw)).1);have jJ:=jC _ hD.kept;have V':=jC _ vt;have Ur:D.q[k].1<D.kept.length:=by omega
    have am7:D.q[k].1<D.now.length:=by omega
    have Uh:=Em _ hD.kept D.q[k].1 Ur;have bl:(ah D.kept[D.q[k].1]).length=64:=by simp[ah,hD.kept _ (List.getElem_mem Ur)]
    have Mv:List.take 64 (List.drop (D.q[k].1*64) (List.map AV.p (D.kept.flatMap ah)))=(ah D.kept[D.q[k].1]).map AV.p:=by
     rw[<-Uh];simp
    have gy:=AL _ vt D.q[k].1 (by omega) D.kept[D.q[k].1];have hts:dw D.kept (D.q.take (k+1)) D.now=(dw D.kept (D.q.take k) D.now).set D.q[k].1 D.kept[D.q[k].1]:=by
     rw[List.take_succ_eq_append_getElem ck,su,List.getD_eq_getElem?_getD,List.getElem?_eq_getElem Ur];rfl
    generalize dw D.kept (D.q.take k) D.now=K at*;have CF:List.take (D.q[k].1*64) ((K.flatMap ah).map AV.p)++((ah D.kept[D.q[k].1]).map AV.p++List.drop (D.q[k].1*64+64) ((K.flatMap ah).map AV.p))=(((K.set D.q[k].1 D.kept[D.q[k].1]).flatMap ah).map AV.p):=by
     rw[<-gy];simp
    have b1:D.q[k].1*64+64<=D.kept.length*64:=by omega
    have b2:D.q[k].1*64+64<=K.length*64:=by omega
    have b3:D.q[k].1*64+64<=D.now.length*64:=by omega
    simp[ck,w2,ax,Du,bl2,q1,am7,jJ,V',Mv,CF,bl,b1,b3,sQ];refine⟨k+1,by omega,by omega,aA (by simp[hts,ax,sQ])⟩
   ·obtain rfl:k=D.q.length:=by omega
    simp[Tryz.results18];exact⟨[],by simp[ax,aU.iH]⟩
 have k3:=kI (id:=0) (j:=1) (.p (.sl [])) key rfl rfl (by simp);have h2:=qY (id:=0) (j:=5) 174 65 [] k3 rfl (.inr ⟨rfl,rfl⟩);exact v7 h2 _ (by simp[ay,Tb.aQ,Tb.bX,del,lk,aU.iH]) (by simp[ay,Tb.aQ,Tb.bX]) (by simp) (by simp[Tb.aQ,Tb.bX])
end Go.Av
namespace Go.Av
open Go.Proofs
abbrev dh(l:Bool)(ks:List (List UInt8))(vs:List Int):PC:= .agg false [.bool l,.sl (ks.map PC.str),.sl (vs.map PC.int)]
def below(p:List UInt8->Bool)(ks:List (List UInt8)):Nat:=(ks.takeWhile p).length
theorem vS(p:List UInt8->Bool)(ks:List (List UInt8)):below p ks<=ks.length:=by
 induction ks with
 |nil=>simp[below]
 |cons a ks ih=>unfold below at*;simp only[List.takeWhile_cons,List.length_cons];split<;>simp<;>omega
theorem BW{p:List UInt8->Bool}{ks:List (List UInt8)}{k:Nat}(h:∀x∈ks.take k,p x=true)(hk:k<=ks.length)(he:(hk:k<ks.length)->p ks[k]=false):below p ks=k:=by
 induction ks generalizing k with
 |nil=>simp at hk;simp[below,hk]
 |cons a ks ih=>
  cases k with
  |zero=>have:=he (by simp);simp at this;simp[below,this]
  |succ k=>
   have ha:=h a (by simp);have:=ih (k:=k) (fun x hx=>h x (by simp[hx])) (by simpa using hk) (fun hk'=>by have:=he (by simp;omega);simpa using this);unfold below at*;simp[ha,this]
theorem OU:HX Tryz.prog 364:=⟨Tryz.f364,40,4,9,Tryz.func364,by kernel_rfl,by kernel_rfl,by kernel_rfl,by kernel_rfl,by kernel_rfl,by kernel_rfl⟩
theorem FK:HX Tryz.prog 366:=⟨Tryz.f366,87,4,3,Tryz.func366,by kernel_rfl,by kernel_rfl,by kernel_rfl,by kernel_rfl,by kernel_rfl,by kernel_rfl⟩
theorem WX:dV Tryz.prog 55:=⟨Tryz.f55,Tryz.func55,by kernel_rfl,by kernel_rfl⟩
theorem Ga(nx:Nat)(xs:List PC)(hw:∀x∈xs,x.width=1)(ht:∀x∈xs,cF x=true)(hb:xs.length<=1000000000000):aI Tryz.prog 55 [.p (.sl xs)] ⟨[],[],nx⟩ (.view nx 0 xs.length 1 none) ⟨[(nx,⟨9,1,(xs.flatMap gu).map .p⟩)],[],nx+1⟩:=by
 refine qZ (pre:=[]) (post:=[]) WX ?_ ?_
 ·rintro rfl;refine fU (r:= .p .nil) (aO:=⟨[],[],nx⟩) (el:=9) (s:=1) ?_ trivial;refine QgQ (rs:=[.p .nil]) [7] [] [] Tryz.func55 rfl (by simp[Tryz.ntmps55]) ?_;simp[Tryz.results55];exact⟨[],by simp⟩
 ·refine QgQ (rs:=[_]) [7] [] [] Tryz.func55 rfl (by simp[Tryz.ntmps55]) ?_;simp[Tryz.results55];refine⟨hw,ht,by omega,by omega,[],?_⟩;simp
theorem QT:dV Tryz.prog 132:=⟨Tryz.f132,Tryz.func132,by kernel_rfl,by kernel_rfl⟩
theorem Cc(nx:Nat)(xs:List PC)(hw:∀x∈xs,x.width=1)(ht:∀x∈xs,cF x=true)(hb:xs.length<=1000000000000):aI Tryz.prog 132 [.p (.sl xs)] ⟨[],[],nx⟩ (.view nx 0 xs.length 1 none) ⟨[(nx,⟨3,1,(xs.flatMap gu).map .p⟩)],[],nx+1⟩:=by
 refine qZ (pre:=[]) (post:=[]) QT ?_ ?_
 ·rintro rfl;refine fU (r:= .p .nil) (aO:=⟨[],[],nx⟩) (el:=3) (s:=1) ?_ trivial;refine QgQ (rs:=[.p .nil]) [7] [] [] Tryz.func132 rfl (by simp[Tryz.ntmps132]) ?_;simp[Tryz.results132];exact⟨[],by simp⟩
 ·refine QgQ (rs:=[_]) [7] [] [] Tryz.func132 rfl (by simp[Tryz.ntmps132]) ?_;simp[Tryz.results132];refine⟨hw,ht,by omega,by omega,[],?_⟩;simp
theorem QU:dV Tryz.prog 321:=⟨Tryz.f321,Tryz.func321,by kernel_rfl,by kernel_rfl⟩
theorem H7(nx id:Nat)(hid:id<nx)(cs:List PC)(n i j:Nat)(hn:cs.length=n*1)(hij:i<=j)(hj:j<=n)(hb:n<=1000000000000):aI Tryz.prog 321 [.view id 0 n 1 none,.p (.int i),.p (.int j)] ⟨[(id,⟨9,1,cs.map .p⟩)],[],nx⟩ (.view nx 0 (n-(j-i)) 1 none) ⟨[(nx,⟨9,1,(cs.take (i*1)++cs.drop (j*1)).map .p⟩)],[],nx+1⟩:=by
 have hne:¬id=nx:=by omega
 have mc:¬nx=id:=by omega
 have gR:(cs.map AV.p).length=n:=by simp;omega
 refine jm (pre:=[]) (post:=[_,_]) QU (fun c h1 h2 h3=>?_) ?_
 ·refine QgQ (rs:=[_]) [] [(5,[(6,.w [])])] [] Tryz.func321 rfl (by simp[Tryz.ntmps321]) ?_;generalize hA:cs.map AV.p=A at*;by_cases c0:i=j
  ·subst c0;have hd:List.take i A++List.drop i A=A:=List.take_append_drop _ _;simp[Tryz.results321];exact⟨hj,[(nx,id)],by simp[hA]⟩
  ·have e0:((i:Int)==(j:Int))=false:=by rw[beq_eq_false_iff_ne];omega
   have t1:((i:Int)+((n-j:Nat):Int)).toNat=i+(n-j):=by omega
   have key:=fun R=>AI (R:=R) gR hij hj rfl;simp[e0,t1,Tryz.results321,mc]
   repeat' refine And.intro ?_ ?_
   all_goals first|omega|skip
   refine .inl ?_
   repeat' refine And.intro ?_ ?_
   all_goals first|omega|(simp;omega)|skip
   refine⟨[(nx,id)],?_⟩;simp[hA,key];omega
 ·intro hn0;have Ji:i=0:=by omega
  have hj0:j=0:=by omega
  have hc0:cs=[]:=List.eq_nil_of_length_eq_zero (by omega);subst Ji;subst hj0;subst hc0;subst hn0;refine fU (r:= .full []) (aO:=⟨[],[],nx⟩) (el:=9) (s:=1) ?_ trivial;refine QgQ (rs:=[_]) [] [(5,[(6,.w [])])] [] Tryz.func321 rfl (by simp[Tryz.ntmps321]) ?_;simp
  repeat' refine And.intro ?_ ?_
  all_goals first|omega|exact⟨[],by simp⟩|simp
theorem QV:dV Tryz.prog 322:=⟨Tryz.f322,Tryz.func322,by kernel_rfl,by kernel_rfl⟩
theorem H8(nx id:Nat)(hid:id<nx)(cs:List PC)(n i j:Nat)(hn:cs.length=n*1)(hij:i<=j)(hj:j<=n)(hb:n<=1000000000000):aI Tryz.prog 322 [.view id 0 n 1 none,.p (.int i),.p (.int j)] ⟨[(id,⟨3,1,cs.map .p⟩)],[],nx⟩ (.view nx 0 (n-(j-i)) 1 none) ⟨[(nx,⟨3,1,(cs.take (i*1)++cs.drop (j*1)).map .p⟩)],[],nx+1⟩:=by
 have hne:¬id=nx:=by omega
 have mc:¬nx=id:=by omega
 have gR:(cs.map AV.p).length=n:=by simp;omega
 refine jm (pre:=[]) (post:=[_,_]) QV (fun c h1 h2 h3=>?_) ?_
 ·refine QgQ (rs:=[_]) [] [(5,[(6,.w [])])] [] Tryz.func322 rfl (by simp[Tryz.ntmps322]) ?_;generalize hA:cs.map AV.p=A at*;by_cases c0:i=j
  ·subst c0;have hd:List.take i A++List.drop i A=A:=List.take_append_drop _ _;simp[Tryz.results322];exact⟨hj,[(nx,id)],by simp[hA]⟩
  ·have e0:((i:Int)==(j:Int))=false:=by rw[beq_eq_false_iff_ne];omega
   have t1:((i:Int)+((n-j:Nat):Int)).toNat=i+(n-j):=by omega
   have key:=fun R=>AI (R:=R) gR hij hj rfl;simp[e0,t1,Tryz.results322,mc]
   repeat' refine And.intro ?_ ?_
   all_goals first|omega|skip
   refine .inl ?_
   repeat' refine And.intro ?_ ?_
   all_goals first|omega|(simp;omega)|skip
   refine⟨[(nx,id)],?_⟩;simp[hA,key];omega
 ·intro hn0;have Ji:i=0:=by omega
  have hj0:j=0:=by omega
  have hc0:cs=[]:=List.eq_nil_of_length_eq_zero (by omega);subst Ji;subst hj0;subst hc0;subst hn0;refine fU (r:= .full []) (aO:=⟨[],[],nx⟩) (el:=3) (s:=1) ?_ trivial;refine QgQ (rs:=[_]) [] [(5,[(6,.w [])])] [] Tryz.func322 rfl (by simp[Tryz.ntmps322]) ?_;simp
  repeat' refine And.intro ?_ ?_
  all_goals first|omega|exact⟨[],by simp⟩|simp
theorem kM{α:Type}{l:List α}{k:Nat}(h:k<l.length):l.take (k+1)=l.take k++[l[k]]:=List.take_succ_eq_append_getElem h
theorem lO(l:List Nat)(k:Nat):(l.take k).sum<=l.sum:=by
 have:=List.sum_append (l₁:=l.take k) (l₂:=l.drop k);rw[List.take_append_drop]at this;omega
theorem OS:dV Tryz.prog 324:=⟨Tryz.f324,Tryz.func324,by kernel_rfl,by kernel_rfl⟩
theorem yW(nx id:Nat)(hid:id<nx)(cs:List PC)(n i:Nat)(vs:List PC)(hn:cs.length=n*1)(hi:i<=n)(hw:∀x∈vs,x.width=1)(ht:∀x∈vs,cF x=true)(hb:n<=1000000000000)(uy:vs.length<=1000000000000):aI Tryz.prog 324 [.view id 0 n 1 none,.p (.int i),.p (.sl vs)] ⟨[(id,⟨9,1,cs.map .p⟩)],[],nx⟩ (.view nx 0 (n+vs.length) 1 none) ⟨[(nx,⟨9,1,(cs.take (i*1)++vs.flatMap gu++cs.drop (i*1)).map .p⟩)],[],nx+1⟩:=by
 have hne:¬id=nx:=by omega
 refine jm (pre:=[]) (post:=[_,_]) OS (fun c h1 h2 h3=>?_) ?_
 ·have lg:∀k:Int,0<=k->k<=4000000000000->IntKind.i64.wrap k=k:=fun k h1 h2=>af (by omega) (by omega);refine QgQ (rs:=[_]) [] [(11,[(8,.w [])]),(15,[(8,.w [])])] [] Tryz.func324 rfl (by simp[Tryz.ntmps324]) ?_;have w1:IntKind.i64.wrap ((n:Int)+(vs.length:Int))=(n:Int)+(vs.length:Int):=lg _ (by omega) (by omega);have w2:IntKind.i64.wrap ((n:Int)+(vs.length:Int)-(i:Int))=(n:Int)+(vs.length:Int)-(i:Int):=lg _ (by omega) (by omega);have w3:IntKind.i64.wrap ((i:Int)+(vs.length:Int))=(i:Int)+(vs.length:Int):=lg _ (by omega) (by omega);have t1:((n:Int)+(vs.length:Int)).toNat=n+vs.length:=by omega
  have t2:((n:Int)+(vs.length:Int)-(i:Int)).toNat=n+vs.length-i:=by omega
  have t3:((i:Int)+(vs.length:Int)).toNat=i+vs.length:=by omega
  have mc:¬nx=id:=by omega
  by_cases c0:vs.length=0
  ·have:vs=[]:=List.eq_nil_of_length_eq_zero c0;subst this;simp[Tryz.results324,hi,h1];exact⟨[(nx,id)],by simp⟩
  ·have e0:(((vs.length:Nat):Int)==0)=false:=by simpa using c0
   by_cases c1:i=n
   ·subst c1;have hcs:List.drop i (cs.map AV.p)=[]:=List.drop_of_length_le (by simp;omega);simp[e0,Tryz.results324,h1,hcs];refine⟨by omega,hw,ht,?_⟩;rcases Nat.lt_or_ge c (i+vs.length)with h|h
    ·exact .inr ⟨h,by omega,by omega,[],by simp⟩
    ·exact .inl ⟨h,[(nx,id)],by simp⟩
   ·have e1:((i:Int)==(n:Int))=false:=by rw[beq_eq_false_iff_ne];omega
    have gR:(cs.map AV.p).length=n:=by simp;omega
    have hvl:(vs.flatMap gu).length=vs.length:=by have:=mm hw;omega
    have m1:vs.length.min (n+vs.length-i)=vs.length:=Nat.min_eq_left (by omega);have m2:(n-i).min (i+(n+vs.length-i)-(i+vs.length))=n-i:=Nat.min_eq_left (by omega);have m3:List.take vs.length vs=vs:=List.take_length;have Ab:((vs.flatMap gu).map AV.p).length=vs.length:=by simpa using hvl
    by_cases c2:c<n+vs.length
    ·have e2:(decide ((c:Int)<(n:Int)+(vs.length:Int)))=true:=by simp;omega
     have key:=BE (z:= .p (.str [])) gR Ab hi;generalize hA:cs.map AV.p=A at*;simp[e0,e1,w1,e2,w2,w3,t2,t3,Tryz.results324,hi,h1,hne,mc,m1,m2,m3,key]
     repeat' refine And.intro ?_ ?_
     all_goals first|omega|assumption|skip
     exact⟨[],by simp[hA];omega⟩
    ·have e2:(decide ((c:Int)<(n:Int)+(vs.length:Int)))=false:=by simp;omega
     have m4:(n+vs.length-i).min (n+vs.length-(i+vs.length))=n-i:=by
      rw[show n+vs.length-(i+vs.length)=n-i by omega];exact Nat.min_eq_right (by omega)
     have key:=BF gR Ab hi rfl;generalize hA:cs.map AV.p=A at*;simp[e0,e1,w1,e2,w3,t1,t3,hi,h1];refine⟨by omega,by omega,by omega,by omega,qW OU (.inr rfl) (ob:=⟨9,1,A⟩) (by simp) rfl (by omega) (by simp) (by simp[qX]) ?_⟩;simp[w3,t3,Tryz.results324,hi,m1,m3,m4,key]
     repeat' refine And.intro ?_ ?_
     all_goals first|omega|assumption|(rw[eH];omega)|skip
     exact⟨[(nx,id)],by simp[hA]⟩
 ·intro hn0;have Ji:i=0:=by omega
  have hc0:cs=[]:=List.eq_nil_of_length_eq_zero (by omega);subst Ji;subst hc0;subst hn0;by_cases c0:vs.length=0
  ·have:vs=[]:=List.eq_nil_of_length_eq_zero c0;subst this;refine fU (r:= .full []) (aO:=⟨[],[],nx⟩) (el:=9) (s:=1) ?_ trivial;refine QgQ (rs:=[_]) [] [(11,[(8,.w [])]),(15,[(8,.w [])])] [] Tryz.func324 rfl (by simp[Tryz.ntmps324]) ?_;simp[Tryz.results324];exact⟨[],by simp⟩
  ·have e0:(((vs.length:Nat):Int)==0)=false:=by simpa using c0
   refine QgQ (rs:=[_]) [25] [(11,[(8,.w [])]),(15,[(8,.w [])])] [] Tryz.func324 rfl (by simp[Tryz.ntmps324]) ?_;simp[e0,Tryz.results324];exact⟨hw,ht,by omega,by omega,[],by simp⟩
theorem Pk:dV Tryz.prog 325:=⟨Tryz.f325,Tryz.func325,by kernel_rfl,by kernel_rfl⟩
theorem Hs(nx id:Nat)(hid:id<nx)(cs:List PC)(n i:Nat)(vs:List PC)(hn:cs.length=n*1)(hi:i<=n)(hw:∀x∈vs,x.width=1)(ht:∀x∈vs,cF x=true)(hb:n<=1000000000000)(uy:vs.length<=1000000000000):aI Tryz.prog 325 [.view id 0 n 1 none,.p (.int i),.p (.sl vs)] ⟨[(id,⟨3,1,cs.map .p⟩)],[],nx⟩ (.view nx 0 (n+vs.length) 1 none) ⟨[(nx,⟨3,1,(cs.take (i*1)++vs.flatMap gu++cs.drop (i*1)).map .p⟩)],[],nx+1⟩:=by
 have hne:¬id=nx:=by omega
 refine jm (pre:=[]) (post:=[_,_]) Pk (fun c h1 h2 h3=>?_) ?_
 ·have lg:∀k:Int,0<=k->k<=4000000000000->IntKind.i64.wrap k=k:=fun k h1 h2=>af (by omega) (by omega);refine QgQ (rs:=[_]) [] [(11,[(8,.w [])]),(15,[(8,.w [])])] [] Tryz.func325 rfl (by simp[Tryz.ntmps325]) ?_;have w1:IntKind.i64.wrap ((n:Int)+(vs.length:Int))=(n:Int)+(vs.length:Int):=lg _ (by omega) (by omega);have w2:IntKind.i64.wrap ((n:Int)+(vs.length:Int)-(i:Int))=(n:Int)+(vs.length:Int)-(i:Int):=lg _ (by omega) (by omega);have w3:IntKind.i64.wrap ((i:Int)+(vs.length:Int))=(i:Int)+(vs.length:Int):=lg _ (by omega) (by omega);have t1:((n:Int)+(vs.length:Int)).toNat=n+vs.length:=by omega
  have t2:((n:Int)+(vs.length:Int)-(i:Int)).toNat=n+vs.length-i:=by omega
  have t3:((i:Int)+(vs.length:Int)).toNat=i+vs.length:=by omega
  have mc:¬nx=id:=by omega
  by_cases c0:vs.length=0
  ·have:vs=[]:=List.eq_nil_of_length_eq_zero c0;subst this;simp[Tryz.results325,hi,h1];exact⟨[(nx,id)],by simp⟩
  ·have e0:(((vs.length:Nat):Int)==0)=false:=by simpa using c0
   by_cases c1:i=n
   ·subst c1;have hcs:List.drop i (cs.map AV.p)=[]:=List.drop_of_length_le (by simp;omega);simp[e0,Tryz.results325,h1,hcs];refine⟨by omega,hw,ht,?_⟩;rcases Nat.lt_or_ge c (i+vs.length)with h|h
    ·exact .inr ⟨h,by omega,by omega,[],by simp⟩
    ·exact .inl ⟨h,[(nx,id)],by simp⟩
   ·have e1:((i:Int)==(n:Int))=false:=by rw[beq_eq_false_iff_ne];omega
    have gR:(cs.map AV.p).length=n:=by simp;omega
    have hvl:(vs.flatMap gu).length=vs.length:=by have:=mm hw;omega
    have m1:vs.length.min (n+vs.length-i)=vs.length:=Nat.min_eq_left (by omega);have m2:(n-i).min (i+(n+vs.length-i)-(i+vs.length))=n-i:=Nat.min_eq_left (by omega);have m3:List.take vs.length vs=vs:=List.take_length;have Ab:((vs.flatMap gu).map AV.p).length=vs.length:=by simpa using hvl
    by_cases c2:c<n+vs.length
    ·have e2:(decide ((c:Int)<(n:Int)+(vs.length:Int)))=true:=by simp;omega
     have key:=BE (z:= .p (.sc (.int .i64 0))) gR Ab hi;generalize hA:cs.map AV.p=A at*;simp[e0,e1,w1,e2,w2,w3,t2,t3,Tryz.results325,hi,h1,hne,mc,m1,m2,m3,key]
     repeat' refine And.intro ?_ ?_
     all_goals first|omega|assumption|skip
     exact⟨[],by simp[hA];omega⟩
    ·have e2:(decide ((c:Int)<(n:Int)+(vs.length:Int)))=false:=by simp;omega
     have m4:(n+vs.length-i).min (n+vs.length-(i+vs.length))=n-i:=by
      rw[show n+vs.length-(i+vs.length)=n-i by omega];exact Nat.min_eq_right (by omega)
     have key:=BF gR Ab hi rfl;generalize hA:cs.map AV.p=A at*;simp[e0,e1,w1,e2,w3,t1,t3,hi,h1];refine⟨by omega,by omega,by omega,by omega,qW FK (.inr rfl) (ob:=⟨3,1,A⟩) (by simp) rfl (by omega) (by simp) (by simp[qX]) ?_⟩;simp[w3,t3,Tryz.results325,hi,m1,m3,m4,key]
     repeat' refine And.intro ?_ ?_
     all_goals first|omega|assumption|(rw[eH];omega)|skip
     exact⟨[(nx,id)],by simp[hA]⟩
 ·intro hn0;have Ji:i=0:=by omega
  have hc0:cs=[]:=List.eq_nil_of_length_eq_zero (by omega);subst Ji;subst hc0;subst hn0;by_cases c0:vs.length=0
  ·have:vs=[]:=List.eq_nil_of_length_eq_zero c0;subst this;refine fU (r:= .full []) (aO:=⟨[],[],nx⟩) (el:=3) (s:=1) ?_ trivial;refine QgQ (rs:=[_]) [] [(11,[(8,.w [])]),(15,[(8,.w [])])] [] Tryz.func325 rfl (by simp[Tryz.ntmps325]) ?_;simp[Tryz.results325];exact⟨[],by simp⟩
  ·have e0:(((vs.length:Nat):Int)==0)=false:=by simpa using c0
   refine QgQ (rs:=[_]) [25] [(11,[(8,.w [])]),(15,[(8,.w [])])] [] Tryz.func325 rfl (by simp[Tryz.ntmps325]) ?_;simp[e0,Tryz.results325];exact⟨hw,ht,by omega,by omega,[],by simp⟩
end Go.Av
